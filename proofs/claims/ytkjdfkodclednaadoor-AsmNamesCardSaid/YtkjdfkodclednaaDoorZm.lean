/- asm.register, asm.number, asm.named as contracts. No condition. -/
import Derived.Test.YtkjdfkodclednaaDoorZk
import Derived.Test.YtkjdfkodclednaaDoorKa
namespace Go.Proofs.YtkjdfkodclednaaDoor
section
open Go.Agm
variable {w0 : World}
/-- A byte of a text. -/
def bt (s : ByteArray) (i : Nat) : Int := ((s.data.toList.getD i 0).toNat : Int)
def eqS (a b : ByteArray) : Bool := a.toList == b.toList
def strO (v : Value) : Option ByteArray := match v with
  | .string s => some s
  | _ => none
/-- asm.register. -/
def regO (s : ByteArray) : Bool := bif (s.size : Int) != 2 then false else bif bt s 0 != 114 then false else bif decide (bt s 1 < 48) then false else !decide (bt s 1 > 55)
def regN (s : ByteArray) : Int := bif regO s then w (IntKind.u8.wrap (bt s 1 - 48)) else 0
theorem eval105 (s : ByteArray) (r : List Value) : pureSeg [] Tryd.f39 [.string s] r
    = (bif (s.size : Int) != 2 then True ∧ [I 0, B false] = r
else
  bif decide (0 < (s.size : Int)) then
    bif bt s 0 != 114 then True ∧ [I 0, B false] = r
    else
      bif decide (1 < (s.size : Int)) then
        bif decide (bt s 1 < 48) then True ∧ [I 0, B false] = r
        else
          bif decide (1 < (s.size : Int)) then
            bif decide (bt s 1 > 55) then True ∧ [I 0, B false] = r
            else bif decide (1 < (s.size : Int)) then True ∧ [I (w (IntKind.u8.wrap (bt s 1 - 48))), B true] = r else False
          else False
      else False
  else False) := by kernel_rfl
noncomputable def con105 : Con := { f := 39, gh := [], paths := [], spec := fun args bs => match args, bs with
  | [.string s], [] => some (True, [I (regN s), B (regO s)], [])
  | _, _ => none }
theorem con105_ok : con105.ok Tryd.prog w0 := by
  intro args bs p rs out e hp
  simp only [con105] at e
  split at e <;> first | (simp at e; done) | skip
  rename_i s
  simp only [Option.some.injEq, Prod.mk.injEq] at e
  obtain ⟨rfl, rfl, rfl⟩ := e
  refine pureS (cs := []) Tryd.func39 (by kernel_rfl) (fun c hc => by simp at hc) ?_
  rw [eval105]
  unfold regN regO
  cases h1 : (s.size : Int) != 2 with
  | true => exact ⟨trivial, rfl⟩
  | false =>
    simp only [bne_eq_false_iff_eq] at h1
    rw [h1]
    simp only [show decide ((0 : Int) < 2) = true from rfl, show decide ((1 : Int) < 2) = true from rfl, cond_true, cond_false]
    cases h2 : bt s 0 != 114 with
    | true => exact ⟨trivial, rfl⟩
    | false => cases h3 : decide (bt s 1 < 48) with
      | true => exact ⟨trivial, rfl⟩
      | false => cases h4 : decide (bt s 1 > 55) with
        | true => exact ⟨trivial, rfl⟩
        | false => exact ⟨trivial, rfl⟩
/-- asm.number. -/
def okN (v : Int) (s : ByteArray) : Bool := bif eqS (itS v) s then bif decide (v ≥ -9007199254740992) then decide (v ≤ 9007199254740992) else false else false
def numO (s : ByteArray) : Bool := match Lib.atoiAll s.data.toList with
  | .ok v => okN v s
  | _ => false
def numN (s : ByteArray) : Int := match Lib.atoiAll s.data.toList with
  | .ok v => v
  | .range => Lib.atoiSat s.data.toList
  | _ => 0
theorem eval106 (s : ByteArray) (v : Int) (r : List Value) : pureSeg [con138 v, con56] Tryd.f40 [.string s] r
    = ((True ∧ True ∧ s.size ≤ 1000000 ∧ Lib.atoiAll s.data.toList = .ok v) ∧ (True ∧ True ∧ -9223372036854775808 ≤ v ∧ v ≤ 9223372036854775807) ∧
      bif eqS (itS v) s then bif decide (v ≥ -9007199254740992) then True ∧ [I v, B (decide (v ≤ 9007199254740992))] = r else True ∧ [I v, B false] = r else True ∧ [I v, B false] = r) := by kernel_rfl
theorem eval106e (s : ByteArray) (r : List Value) : pureSeg [con138e, con56] Tryd.f40 [.string s] r
    = ((True ∧ True ∧ s.size ≤ 1000000 ∧ ∀ (v : Int), Lib.atoiAll s.data.toList ≠ .ok v) ∧ True ∧ [I (noN s.data.toList), B false] = r) := by kernel_rfl
noncomputable def con106 : Con := { f := 40, gh := [], paths := [], spec := fun args bs => match args, bs with
  | [.string s], [] => some (s.size ≤ 1000000, [I (numN s), B (numO s)], [])
  | _, _ => none }
theorem con106_ok (hz : Lz w0) (hg : 9 ≤ w0.heap.size) : con106.ok Tryd.prog w0 := by
  intro args bs p rs out e hp
  simp only [con106] at e
  split at e <;> first | (simp at e; done) | skip
  rename_i s
  simp only [Option.some.injEq, Prod.mk.injEq] at e
  obtain ⟨rfl, rfl, rfl⟩ := e
  have bad : (∀ v, Lib.atoiAll s.data.toList ≠ .ok v) → numN s = noN s.data.toList ∧ numO s = false := by
    intro h
    unfold numN numO noN
    rcases h' : Lib.atoiAll s.data.toList with v | _ | _
    · exact absurd h' (h v)
    · exact ⟨rfl, rfl⟩
    · exact ⟨rfl, rfl⟩
  by_cases h : ∃ v, Lib.atoiAll s.data.toList = .ok v
  · obtain ⟨v, h⟩ := h
    refine pureS (cs := [con138 v, con56]) Tryd.func40 (by kernel_rfl) (fun c hc => by
      simp only [List.mem_cons, List.not_mem_nil, or_false] at hc
      rcases hc with rfl | rfl
      · exact con138_ok hz hg v
      · exact con56_ok hz hg) ?_
    rw [eval106]
    obtain ⟨b0, b1⟩ := Lib.atoiAll_bounds h
    refine ⟨⟨trivial, trivial, hp, h⟩, ⟨trivial, trivial, b0, b1⟩, ?_⟩
    simp only [numN, numO, h, okN]
    cases eqS (itS v) s with
    | true => cases decide (v ≥ -9007199254740992) with
      | true => exact ⟨trivial, rfl⟩
      | false => exact ⟨trivial, rfl⟩
    | false => exact ⟨trivial, rfl⟩
  · have h' : ∀ v, Lib.atoiAll s.data.toList ≠ .ok v := fun v hv => h ⟨v, hv⟩
    refine pureS (cs := [con138e, con56]) Tryd.func40 (by kernel_rfl) (fun c hc => by
      simp only [List.mem_cons, List.not_mem_nil, or_false] at hc
      rcases hc with rfl | rfl
      · exact con138e_ok hz hg
      · exact con56_ok hz hg) ?_
    rw [eval106e, (bad h').1, (bad h').2]
    exact ⟨⟨trivial, trivial, hp, h'⟩, trivial, rfl⟩
/-- asm.named. -/
def namedB (s : ByteArray) : Bool := bif eqS s ⟨#[]⟩ then false else bif decide ((s.size : Int) > 8) then false else bif decide (bt s 0 < 97) then false else bif decide (bt s 0 > 122) then false else !hasBad s
theorem eval64 (s : ByteArray) (r : List Value) : pureSeg [con99] Tryd.f26 [.string s] r
    = (bif eqS s ⟨#[]⟩ then True ∧ [B false] = r
    else bif decide ((s.size : Int) > 8) then True ∧ [B false] = r
    else bif decide (0 < (s.size : Int)) then
      bif decide (bt s 0 < 97) then True ∧ [B false] = r
      else bif decide (0 < (s.size : Int)) then
        bif decide (bt s 0 > 122) then True ∧ [B false] = r
        else (True ∧ True ∧ (34 : Nat) = 34 ∧ ([] : List Value) = [] ∧ ([] : List Value) = []) ∧ True ∧ [B !hasBad s] = r
      else False
    else False) := by kernel_rfl
noncomputable def con64 : Con := { f := 26, gh := [], paths := [], spec := fun args bs => match args, bs with
  | [.string s], [] => some (True, [B (namedB s)], [])
  | _, _ => none }
theorem eqS_iff {a b : ByteArray} : eqS a b = true ↔ a = b := by
  unfold eqS
  rw [Lib.toList_data, Lib.toList_data, beq_iff_eq]
  exact ⟨fun h => ByteArray.ext (Array.toList_inj.1 h), fun h => by rw [h]⟩
theorem con64_ok (hz : Lz w0) (hg : 9 ≤ w0.heap.size) : con64.ok Tryd.prog w0 := by
  intro args bs p rs out e hp
  simp only [con64] at e
  split at e <;> first | (simp at e; done) | skip
  rename_i s
  simp only [Option.some.injEq, Prod.mk.injEq] at e
  obtain ⟨rfl, rfl, rfl⟩ := e
  refine pureS (cs := [con99]) Tryd.func26 (by kernel_rfl) (fun c hc => by
    simp only [List.mem_cons, List.not_mem_nil, or_false] at hc
    subst hc
    exact con99_ok hz hg) ?_
  rw [eval64]
  unfold namedB
  cases h1 : eqS s ⟨#[]⟩ with
  | true => exact ⟨trivial, rfl⟩
  | false =>
    have h0 : decide (0 < (s.size : Int)) = true := by
      rw [decide_eq_true_eq]
      have : s.size ≠ 0 := fun h => by
        have : s = ⟨#[]⟩ := by
          obtain ⟨⟨l⟩⟩ := s
          cases l with
          | nil => rfl
          | cons a l => simp [ByteArray.size] at h
        rw [this] at h1
        exact absurd (eqS_iff.2 rfl) (by rw [h1]; simp)
      omega
    simp only [h0, cond_true, cond_false]
    cases decide ((s.size : Int) > 8) with
    | true => exact ⟨trivial, rfl⟩
    | false => cases decide (bt s 0 < 97) with
      | true => exact ⟨trivial, rfl⟩
      | false => cases decide (bt s 0 > 122) with
        | true => exact ⟨trivial, rfl⟩
        | false => exact ⟨by simp, trivial, rfl⟩
end
section
open Go.Agm
variable {w0 : World}
/-- The operations: their words, and which of D, S, Imm they have. -/
def forms : List (List UInt8 × Bool × Bool × Bool) := [
  ([115, 101, 116], true, false, true),
  ([109, 111, 118, 101], true, true, false),
  ([97, 100, 100], true, true, false),
  ([115, 117, 98], true, true, false),
  ([97, 100, 100, 105], true, false, true),
  ([109, 117, 108, 105], true, false, true),
  ([99, 108, 97, 109, 112], true, false, true),
  ([108, 111, 97, 100], true, true, true),
  ([108, 111, 97, 100, 50], true, true, true),
  ([108, 111, 97, 100, 107], true, true, true),
  ([108, 111, 97, 100, 115], true, true, true),
  ([115, 116, 111, 114, 101, 115], true, true, true),
  ([106, 117, 109, 112], false, false, true),
  ([106, 101, 113], true, true, true),
  ([106, 110, 101], true, true, true),
  ([106, 108, 116], true, true, true),
  ([106, 108, 101], true, true, true),
  ([108, 111, 111, 112], false, false, true),
  ([101, 110, 100], false, false, false),
  ([99, 97, 108, 108], false, false, true),
  ([101, 120, 105, 116], false, false, false)]
abbrev ST (s : ByteArray) : Value := .string s
abbrev SB (l : List UInt8) : Value := .string ⟨⟨l⟩⟩
def formC (f : List UInt8 × Bool × Bool × Bool) : List Value := [SB f.1, B f.2.1, B f.2.2.1, B f.2.2.2]
def formsC : List Value := forms.flatMap formC
abbrev tabF : Tabs := [(0, formsC)]
def wsC (ws : List ByteArray) : List Value := ws.map Value.string
noncomputable def ft65 : FT := { loc := fun _ => false, mask := fun id => bif Nat.beq id 3 then live 95 [2, 5, 6] else bif Nat.beq id 6 then live 95 [2, 5, 6, 7, 8, 9] else [] }
abbrev nt65A : Nt := { gh := [], flags := [], paths := [⟨2, [], true⟩, ⟨5, [], false⟩, ⟨5, [0], true⟩], tr := [] }
abbrev nt65B : Nt := { gh := [], flags := [], paths := [⟨2, [], true⟩, ⟨5, [], false⟩, ⟨5, [0], true⟩, ⟨7, [], true⟩, ⟨8, [], true⟩], tr := [] }
abbrev nt65 : Nt := { gh := [], flags := [], paths := [], tr := [] }
noncomputable def todo65a : List Item := todoOf Tryd.f27 3
noncomputable def todo65b : List Item := todoOf Tryd.f27 6
abbrev seg65 (cs : List Con) (K : List Value → AHeap → Prop) (L : List Item → List AV → AHeap → Prop) (t : List Item) (fr : List AV) (h : AHeap) : Prop :=
  segK3 Tryd.prog ft65 (semI Tryd.prog (fun _ => ft0) (callsOf G cs) 2000 20 (retT G nt65 K)) Tryd.f27 [3, 6] 100 t fr (fun t fr h => match t with
  | .code (.region 3 _ _) :: _ => canonT G nt65A (L t) fr h
  | .code (.region 6 _ _) :: _ => canonT G nt65B (L t) fr h
  | _ => False) h
noncomputable def fr65a (op : Int) : List AV := frm 95 [(2, .v (PT G)), (5, .v (PT (G + 1))), (6, .v (I op))]
noncomputable def hp65a (x : List Value) (n : Nat) (ws : List Value) : AHeap := heapB G [some (.cells x true), some (.cells [SL (G + 2) n 1] true), some (.cells ws true)]
noncomputable def fr65b (op : Int) : List AV := frm 95 [(2, .v (PT G)), (5, .v (PT (G + 1))), (6, .v (I op)), (7, .v (PT (G + 3))), (8, .v (PT (G + 4))), (9, .v (SB []))]
noncomputable def hp65b (x : List Value) (n : Nat) (ws f y : List Value) : AHeap := heapB G [some (.cells x true), some (.cells [SL (G + 2) n 1] true), some (.cells ws true), some (.cells f true), some (.cells y true)]
end
section
open Go.Agm
variable {w0 : World}
/-- code.Jumps, where its answer is known. -/
noncomputable def con44k (b : Bool) : Con := { f := 6, gh := [], paths := [], spec := fun args bs => match args, bs with
  | [v], [] => match intV v with
    | some a => some (r44 a = b, [B b], [])
    | none => none
  | _, _ => none }
theorem con44k_ok (b : Bool) : (con44k b).ok Tryd.prog w0 := by
  intro args bs p rs out e hp
  simp only [con44k] at e
  split at e <;> first | (simp at e; done) | skip
  split at e <;> first | (simp at e; done) | skip
  rename_i v _ a ha
  simp only [Option.some.injEq, Prod.mk.injEq] at e
  obtain ⟨rfl, rfl, rfl⟩ := e
  rw [intV_eq ha]
  refine pureS (cs := []) Tryd.func6 (by kernel_rfl) (fun c hc => by simp at hc) ?_
  rw [eval44, ← hp]
  unfold r44
  cases decide (a ≥ 12) with
  | true => exact ⟨trivial, rfl⟩
  | false => exact ⟨trivial, rfl⟩

def sameV (n : Nat) (v : Value) : Bool := ((n : Int) == (n : Int)) && (veq 4 v v && true)

theorem t65A1 (a : ByteArray) (op : Int) (wd : ByteArray) (K : List Value → AHeap → Prop) (L : List Item → List AV → AHeap → Prop) :
    seg65 [con105, con106, con64, con44k false] K L todo65b (fr65b op) (hp65b [I 0, I 0, I 0, I 0] 1 ([.string a]) [.string wd, B true, B false, B true] [I op, I 0, I 0, I 0])
    = ((True ∧ True ∧ True) ∧ (True ∧ True ∧ r44 op = false) ∧ (True ∧ True ∧ 0 ≤ 1000000) ∧ True ∧ K [AG [I op, I 0, I 0, I 0], SB [], B false] (heapB G [])) := by kernel_rfl
theorem t65A2 (a b : ByteArray) (op : Int) (wd : ByteArray) (K : List Value → AHeap → Prop) (L : List Item → List AV → AHeap → Prop) :
    seg65 [con105, con106, con64, con44k false] K L todo65b (fr65b op) (hp65b [I 0, I 0, I 0, I 0] 2 ([.string a, .string b]) [.string wd, B true, B false, B true] [I op, I 0, I 0, I 0])
    = ((True ∧ True ∧ True) ∧ (True ∧ True ∧ r44 op = false) ∧ (True ∧ True ∧ 0 ≤ 1000000) ∧
      bif regO b then
      True ∧ K [AG [I op, I (regN b), I 0, I 0], SB [], B false] (heapB G [])
    else True ∧ K [AG [I op, I (regN b), I 0, I 0], SB [], B false] (heapB G [])) := by kernel_rfl
theorem t65A3 (a b c : ByteArray) (op : Int) (wd : ByteArray) (K : List Value → AHeap → Prop) (L : List Item → List AV → AHeap → Prop) :
    seg65 [con105, con106, con64, con44k false] K L todo65b (fr65b op) (hp65b [I 0, I 0, I 0, I 0] 3 ([.string a, .string b, .string c]) [.string wd, B true, B false, B true] [I op, I 0, I 0, I 0])
    = ((True ∧ True ∧ True) ∧ (True ∧ True ∧ r44 op = false) ∧ (True ∧ True ∧ c.size ≤ 1000000) ∧
      bif regO b then
      bif numO c then
      True ∧ K [AG [I op, I (regN b), I 0, I (numN c)], SB [], B true] (heapB G [])
    else True ∧ K [AG [I op, I (regN b), I 0, I (numN c)], SB [], B false] (heapB G [])
    else True ∧ K [AG [I op, I (regN b), I 0, I (numN c)], SB [], B false] (heapB G [])) := by kernel_rfl
theorem t65A4 (x : ByteArray) (rr : List ByteArray) (a b c : ByteArray) (op : Int) (wd : ByteArray) (K : List Value → AHeap → Prop) (L : List Item → List AV → AHeap → Prop) :
    seg65 [con105, con106, con64, con44k false] K L todo65b (fr65b op) (hp65b [I 0, I 0, I 0, I 0] (rr.length + 4) (.string a :: .string b :: .string c :: .string x :: wsC rr) [.string wd, B true, B false, B true] [I op, I 0, I 0, I 0])
    = (bif decide (1 ≤ (↑(rr.length + 4) : Int)) then
      bif decide (0 < (↑(rr.length + 4 - 1) : Int)) then
      bif decide (1 ≤ (↑(rr.length + 4 - 1) : Int)) then
      (True ∧ True ∧ True) ∧ (True ∧ True ∧ r44 op = false) ∧
      bif decide (0 < (↑(rr.length + 4 - 1 - 1) : Int)) then
      bif decide (1 ≤ (↑(rr.length + 4 - 1 - 1) : Int)) then
      (True ∧ True ∧ c.size ≤ 1000000) ∧
      bif regO b then
      bif numO c then
      bif sameV (rr.length + 4 - 1 - 1 - 1) (Value.slice (some ⟨G + 2, 0 + 1 * 1 + 1 * 1 + 1 * 1, none⟩) (rr.length + 4 - 1 - 1 - 1) 1) then
      True ∧ K [AG [I op, I (regN b), I 0, I (numN c)], SB [], B ((↑(rr.length + 4 - 1 - 1 - 1) : Int) == 0)] (heapB G [])
    else False
    else True ∧ K [AG [I op, I (regN b), I 0, I (numN c)], SB [], B false] (heapB G [])
    else True ∧ K [AG [I op, I (regN b), I 0, I (numN c)], SB [], B false] (heapB G [])
    else False
    else False
    else False
    else False
    else False) := by kernel_rfl
theorem t65B1 (a : ByteArray) (op : Int) (wd : ByteArray) (K : List Value → AHeap → Prop) (L : List Item → List AV → AHeap → Prop) :
    seg65 [con105, con106, con64, con44k false] K L todo65b (fr65b op) (hp65b [I 0, I 0, I 0, I 0] 1 ([.string a]) [.string wd, B true, B true, B false] [I op, I 0, I 0, I 0])
    = ((True ∧ True ∧ True) ∧ (True ∧ True ∧ True) ∧ (True ∧ True ∧ r44 op = false) ∧ True ∧ K [AG [I op, I 0, I 0, I 0], SB [], B false] (heapB G [])) := by kernel_rfl
theorem t65B2 (a b : ByteArray) (op : Int) (wd : ByteArray) (K : List Value → AHeap → Prop) (L : List Item → List AV → AHeap → Prop) :
    seg65 [con105, con106, con64, con44k false] K L todo65b (fr65b op) (hp65b [I 0, I 0, I 0, I 0] 2 ([.string a, .string b]) [.string wd, B true, B true, B false] [I op, I 0, I 0, I 0])
    = ((True ∧ True ∧ True) ∧ (True ∧ True ∧ True) ∧
      bif regO b then
      (True ∧ True ∧ r44 op = false) ∧ True ∧ K [AG [I op, I (regN b), I 0, I 0], SB [], B false] (heapB G [])
    else (True ∧ True ∧ r44 op = false) ∧ True ∧ K [AG [I op, I (regN b), I 0, I 0], SB [], B false] (heapB G [])) := by kernel_rfl
theorem t65B3 (a b c : ByteArray) (op : Int) (wd : ByteArray) (K : List Value → AHeap → Prop) (L : List Item → List AV → AHeap → Prop) :
    seg65 [con105, con106, con64, con44k false] K L todo65b (fr65b op) (hp65b [I 0, I 0, I 0, I 0] 3 ([.string a, .string b, .string c]) [.string wd, B true, B true, B false] [I op, I 0, I 0, I 0])
    = ((True ∧ True ∧ True) ∧ (True ∧ True ∧ True) ∧
      bif regO b then
      (True ∧ True ∧ r44 op = false) ∧
      bif regO c then
      True ∧ K [AG [I op, I (regN b), I (regN c), I 0], SB [], B true] (heapB G [])
    else True ∧ K [AG [I op, I (regN b), I (regN c), I 0], SB [], B false] (heapB G [])
    else (True ∧ True ∧ r44 op = false) ∧ True ∧ K [AG [I op, I (regN b), I (regN c), I 0], SB [], B false] (heapB G [])) := by kernel_rfl
theorem t65B4 (x : ByteArray) (rr : List ByteArray) (a b c : ByteArray) (op : Int) (wd : ByteArray) (K : List Value → AHeap → Prop) (L : List Item → List AV → AHeap → Prop) :
    seg65 [con105, con106, con64, con44k false] K L todo65b (fr65b op) (hp65b [I 0, I 0, I 0, I 0] (rr.length + 4) (.string a :: .string b :: .string c :: .string x :: wsC rr) [.string wd, B true, B true, B false] [I op, I 0, I 0, I 0])
    = (bif decide (1 ≤ (↑(rr.length + 4) : Int)) then
      bif decide (0 < (↑(rr.length + 4 - 1) : Int)) then
      bif decide (1 ≤ (↑(rr.length + 4 - 1) : Int)) then
      (True ∧ True ∧ True) ∧
      bif decide (0 < (↑(rr.length + 4 - 1 - 1) : Int)) then
      bif decide (1 ≤ (↑(rr.length + 4 - 1 - 1) : Int)) then
      (True ∧ True ∧ True) ∧
      bif regO b then
      (True ∧ True ∧ r44 op = false) ∧
      bif regO c then
      bif sameV (rr.length + 4 - 1 - 1 - 1) (Value.slice (some ⟨G + 2, 0 + 1 * 1 + 1 * 1 + 1 * 1, none⟩) (rr.length + 4 - 1 - 1 - 1) 1) then
      True ∧ K [AG [I op, I (regN b), I (regN c), I 0], SB [], B ((↑(rr.length + 4 - 1 - 1 - 1) : Int) == 0)] (heapB G [])
    else False
    else True ∧ K [AG [I op, I (regN b), I (regN c), I 0], SB [], B false] (heapB G [])
    else (True ∧ True ∧ r44 op = false) ∧ True ∧ K [AG [I op, I (regN b), I (regN c), I 0], SB [], B false] (heapB G [])
    else False
    else False
    else False
    else False
    else False) := by kernel_rfl
theorem t65C1 (a : ByteArray) (op : Int) (wd : ByteArray) (K : List Value → AHeap → Prop) (L : List Item → List AV → AHeap → Prop) :
    seg65 [con105, con106, con64, con44k false] K L todo65b (fr65b op) (hp65b [I 0, I 0, I 0, I 0] 1 ([.string a]) [.string wd, B true, B true, B true] [I op, I 0, I 0, I 0])
    = ((True ∧ True ∧ True) ∧ (True ∧ True ∧ True) ∧ (True ∧ True ∧ r44 op = false) ∧ (True ∧ True ∧ 0 ≤ 1000000) ∧ True ∧ K [AG [I op, I 0, I 0, I 0], SB [], B false] (heapB G [])) := by kernel_rfl
theorem t65C2 (a b : ByteArray) (op : Int) (wd : ByteArray) (K : List Value → AHeap → Prop) (L : List Item → List AV → AHeap → Prop) :
    seg65 [con105, con106, con64, con44k false] K L todo65b (fr65b op) (hp65b [I 0, I 0, I 0, I 0] 2 ([.string a, .string b]) [.string wd, B true, B true, B true] [I op, I 0, I 0, I 0])
    = ((True ∧ True ∧ True) ∧ (True ∧ True ∧ True) ∧
      bif regO b then
      (True ∧ True ∧ r44 op = false) ∧ (True ∧ True ∧ 0 ≤ 1000000) ∧ True ∧ K [AG [I op, I (regN b), I 0, I 0], SB [], B false] (heapB G [])
    else (True ∧ True ∧ r44 op = false) ∧ (True ∧ True ∧ 0 ≤ 1000000) ∧ True ∧ K [AG [I op, I (regN b), I 0, I 0], SB [], B false] (heapB G [])) := by kernel_rfl
theorem t65C3 (a b c : ByteArray) (op : Int) (wd : ByteArray) (K : List Value → AHeap → Prop) (L : List Item → List AV → AHeap → Prop) :
    seg65 [con105, con106, con64, con44k false] K L todo65b (fr65b op) (hp65b [I 0, I 0, I 0, I 0] 3 ([.string a, .string b, .string c]) [.string wd, B true, B true, B true] [I op, I 0, I 0, I 0])
    = ((True ∧ True ∧ True) ∧ (True ∧ True ∧ True) ∧
      bif regO b then
      (True ∧ True ∧ r44 op = false) ∧ (True ∧ True ∧ 0 ≤ 1000000) ∧
      bif regO c then
      True ∧ K [AG [I op, I (regN b), I (regN c), I 0], SB [], B false] (heapB G [])
    else True ∧ K [AG [I op, I (regN b), I (regN c), I 0], SB [], B false] (heapB G [])
    else (True ∧ True ∧ r44 op = false) ∧ (True ∧ True ∧ 0 ≤ 1000000) ∧ True ∧ K [AG [I op, I (regN b), I (regN c), I 0], SB [], B false] (heapB G [])) := by kernel_rfl
theorem t65C4 (a b c d : ByteArray) (op : Int) (wd : ByteArray) (K : List Value → AHeap → Prop) (L : List Item → List AV → AHeap → Prop) :
    seg65 [con105, con106, con64, con44k false] K L todo65b (fr65b op) (hp65b [I 0, I 0, I 0, I 0] 4 ([.string a, .string b, .string c, .string d]) [.string wd, B true, B true, B true] [I op, I 0, I 0, I 0])
    = ((True ∧ True ∧ True) ∧ (True ∧ True ∧ True) ∧
      bif regO b then
      (True ∧ True ∧ r44 op = false) ∧ (True ∧ True ∧ d.size ≤ 1000000) ∧
      bif regO c then
      bif numO d then
      True ∧ K [AG [I op, I (regN b), I (regN c), I (numN d)], SB [], B true] (heapB G [])
    else True ∧ K [AG [I op, I (regN b), I (regN c), I (numN d)], SB [], B false] (heapB G [])
    else True ∧ K [AG [I op, I (regN b), I (regN c), I (numN d)], SB [], B false] (heapB G [])
    else (True ∧ True ∧ r44 op = false) ∧ (True ∧ True ∧ d.size ≤ 1000000) ∧ True ∧ K [AG [I op, I (regN b), I (regN c), I (numN d)], SB [], B false] (heapB G [])) := by kernel_rfl
theorem t65C5 (x : ByteArray) (rr : List ByteArray) (a b c d : ByteArray) (op : Int) (wd : ByteArray) (K : List Value → AHeap → Prop) (L : List Item → List AV → AHeap → Prop) :
    seg65 [con105, con106, con64, con44k false] K L todo65b (fr65b op) (hp65b [I 0, I 0, I 0, I 0] (rr.length + 5) (.string a :: .string b :: .string c :: .string d :: .string x :: wsC rr) [.string wd, B true, B true, B true] [I op, I 0, I 0, I 0])
    = (bif decide (1 ≤ (↑(rr.length + 5) : Int)) then
      bif decide (0 < (↑(rr.length + 5 - 1) : Int)) then
      bif decide (1 ≤ (↑(rr.length + 5 - 1) : Int)) then
      (True ∧ True ∧ True) ∧
      bif decide (0 < (↑(rr.length + 5 - 1 - 1) : Int)) then
      bif decide (1 ≤ (↑(rr.length + 5 - 1 - 1) : Int)) then
      (True ∧ True ∧ True) ∧
      bif regO b then
      (True ∧ True ∧ r44 op = false) ∧
      bif decide (0 < (↑(rr.length + 5 - 1 - 1 - 1) : Int)) then
      bif decide (1 ≤ (↑(rr.length + 5 - 1 - 1 - 1) : Int)) then
      (True ∧ True ∧ d.size ≤ 1000000) ∧
      bif regO c then
      bif numO d then
      bif sameV (rr.length + 5 - 1 - 1 - 1 - 1) (Value.slice (some ⟨G + 2, 0 + 1 * 1 + 1 * 1 + 1 * 1 + 1 * 1, none⟩) (rr.length + 5 - 1 - 1 - 1 - 1) 1) then
      True ∧ K [AG [I op, I (regN b), I (regN c), I (numN d)], SB [], B ((↑(rr.length + 5 - 1 - 1 - 1 - 1) : Int) == 0)] (heapB G [])
    else False
    else True ∧ K [AG [I op, I (regN b), I (regN c), I (numN d)], SB [], B false] (heapB G [])
    else True ∧ K [AG [I op, I (regN b), I (regN c), I (numN d)], SB [], B false] (heapB G [])
    else False
    else False
    else (True ∧ True ∧ r44 op = false) ∧
      bif decide (0 < (↑(rr.length + 5 - 1 - 1 - 1) : Int)) then
      bif decide (1 ≤ (↑(rr.length + 5 - 1 - 1 - 1) : Int)) then
      (True ∧ True ∧ d.size ≤ 1000000) ∧ True ∧ K [AG [I op, I (regN b), I (regN c), I (numN d)], SB [], B false] (heapB G [])
    else False
    else False
    else False
    else False
    else False
    else False
    else False) := by kernel_rfl
theorem t65D1 (a : ByteArray) (op : Int) (wd : ByteArray) (K : List Value → AHeap → Prop) (L : List Item → List AV → AHeap → Prop) :
    seg65 [con105, con106, con64, con44k true] K L todo65b (fr65b op) (hp65b [I 0, I 0, I 0, I 0] 1 ([.string a]) [.string wd, B false, B false, B true] [I op, I 0, I 0, I 0])
    = ((True ∧ True ∧ r44 op = true) ∧ (True ∧ True ∧ True) ∧ True ∧ K [AG [I op, I 0, I 0, I 0], SB [], B false] (heapB G [])) := by kernel_rfl
theorem t65D2 (a b : ByteArray) (op : Int) (wd : ByteArray) (K : List Value → AHeap → Prop) (L : List Item → List AV → AHeap → Prop) :
    seg65 [con105, con106, con64, con44k true] K L todo65b (fr65b op) (hp65b [I 0, I 0, I 0, I 0] 2 ([.string a, .string b]) [.string wd, B false, B false, B true] [I op, I 0, I 0, I 0])
    = ((True ∧ True ∧ r44 op = true) ∧ (True ∧ True ∧ True) ∧
      bif namedB b then
      True ∧ K [AG [I op, I 0, I 0, I 0], ST b, B true] (heapB G [])
    else True ∧ K [AG [I op, I 0, I 0, I 0], ST b, B false] (heapB G [])) := by kernel_rfl
theorem t65D3 (x : ByteArray) (rr : List ByteArray) (a b : ByteArray) (op : Int) (wd : ByteArray) (K : List Value → AHeap → Prop) (L : List Item → List AV → AHeap → Prop) :
    seg65 [con105, con106, con64, con44k true] K L todo65b (fr65b op) (hp65b [I 0, I 0, I 0, I 0] (rr.length + 3) (.string a :: .string b :: .string x :: wsC rr) [.string wd, B false, B false, B true] [I op, I 0, I 0, I 0])
    = (bif decide (1 ≤ (↑(rr.length + 3) : Int)) then
      (True ∧ True ∧ r44 op = true) ∧
      bif decide (0 < (↑(rr.length + 3 - 1) : Int)) then
      bif decide (1 ≤ (↑(rr.length + 3 - 1) : Int)) then
      (True ∧ True ∧ True) ∧
      bif namedB b then
      bif sameV (rr.length + 3 - 1 - 1) (Value.slice (some ⟨G + 2, 0 + 1 * 1 + 1 * 1, none⟩) (rr.length + 3 - 1 - 1) 1) then
      True ∧ K [AG [I op, I 0, I 0, I 0], ST b, B ((↑(rr.length + 3 - 1 - 1) : Int) == 0)] (heapB G [])
    else False
    else True ∧ K [AG [I op, I 0, I 0, I 0], ST b, B false] (heapB G [])
    else False
    else False
    else False) := by kernel_rfl
theorem t65E1 (a : ByteArray) (op : Int) (wd : ByteArray) (K : List Value → AHeap → Prop) (L : List Item → List AV → AHeap → Prop) :
    seg65 [con105, con106, con64, con44k true] K L todo65b (fr65b op) (hp65b [I 0, I 0, I 0, I 0] 1 ([.string a]) [.string wd, B true, B true, B true] [I op, I 0, I 0, I 0])
    = ((True ∧ True ∧ True) ∧ (True ∧ True ∧ True) ∧ (True ∧ True ∧ r44 op = true) ∧ True ∧ K [AG [I op, I 0, I 0, I 0], SB [], B false] (heapB G [])) := by kernel_rfl
theorem t65E2 (a b : ByteArray) (op : Int) (wd : ByteArray) (K : List Value → AHeap → Prop) (L : List Item → List AV → AHeap → Prop) :
    seg65 [con105, con106, con64, con44k true] K L todo65b (fr65b op) (hp65b [I 0, I 0, I 0, I 0] 2 ([.string a, .string b]) [.string wd, B true, B true, B true] [I op, I 0, I 0, I 0])
    = ((True ∧ True ∧ True) ∧ (True ∧ True ∧ True) ∧
      bif regO b then
      (True ∧ True ∧ r44 op = true) ∧ True ∧ K [AG [I op, I (regN b), I 0, I 0], SB [], B false] (heapB G [])
    else (True ∧ True ∧ r44 op = true) ∧ True ∧ K [AG [I op, I (regN b), I 0, I 0], SB [], B false] (heapB G [])) := by kernel_rfl
theorem t65E3 (a b c : ByteArray) (op : Int) (wd : ByteArray) (K : List Value → AHeap → Prop) (L : List Item → List AV → AHeap → Prop) :
    seg65 [con105, con106, con64, con44k true] K L todo65b (fr65b op) (hp65b [I 0, I 0, I 0, I 0] 3 ([.string a, .string b, .string c]) [.string wd, B true, B true, B true] [I op, I 0, I 0, I 0])
    = ((True ∧ True ∧ True) ∧ (True ∧ True ∧ True) ∧
      bif regO b then
      (True ∧ True ∧ r44 op = true) ∧
      bif regO c then
      (True ∧ True ∧ True) ∧ True ∧ K [AG [I op, I (regN b), I (regN c), I 0], SB [], B false] (heapB G [])
    else True ∧ K [AG [I op, I (regN b), I (regN c), I 0], SB [], B false] (heapB G [])
    else (True ∧ True ∧ r44 op = true) ∧ True ∧ K [AG [I op, I (regN b), I (regN c), I 0], SB [], B false] (heapB G [])) := by kernel_rfl
theorem t65E4 (a b c d : ByteArray) (op : Int) (wd : ByteArray) (K : List Value → AHeap → Prop) (L : List Item → List AV → AHeap → Prop) :
    seg65 [con105, con106, con64, con44k true] K L todo65b (fr65b op) (hp65b [I 0, I 0, I 0, I 0] 4 ([.string a, .string b, .string c, .string d]) [.string wd, B true, B true, B true] [I op, I 0, I 0, I 0])
    = ((True ∧ True ∧ True) ∧ (True ∧ True ∧ True) ∧
      bif regO b then
      (True ∧ True ∧ r44 op = true) ∧
      bif regO c then
      (True ∧ True ∧ True) ∧
      bif namedB d then
      True ∧ K [AG [I op, I (regN b), I (regN c), I 0], ST d, B true] (heapB G [])
    else True ∧ K [AG [I op, I (regN b), I (regN c), I 0], ST d, B false] (heapB G [])
    else True ∧ K [AG [I op, I (regN b), I (regN c), I 0], ST d, B false] (heapB G [])
    else (True ∧ True ∧ r44 op = true) ∧ True ∧ K [AG [I op, I (regN b), I (regN c), I 0], ST d, B false] (heapB G [])) := by kernel_rfl
theorem t65E5 (x : ByteArray) (rr : List ByteArray) (a b c d : ByteArray) (op : Int) (wd : ByteArray) (K : List Value → AHeap → Prop) (L : List Item → List AV → AHeap → Prop) :
    seg65 [con105, con106, con64, con44k true] K L todo65b (fr65b op) (hp65b [I 0, I 0, I 0, I 0] (rr.length + 5) (.string a :: .string b :: .string c :: .string d :: .string x :: wsC rr) [.string wd, B true, B true, B true] [I op, I 0, I 0, I 0])
    = (bif decide (1 ≤ (↑(rr.length + 5) : Int)) then
      bif decide (0 < (↑(rr.length + 5 - 1) : Int)) then
      bif decide (1 ≤ (↑(rr.length + 5 - 1) : Int)) then
      (True ∧ True ∧ True) ∧
      bif decide (0 < (↑(rr.length + 5 - 1 - 1) : Int)) then
      bif decide (1 ≤ (↑(rr.length + 5 - 1 - 1) : Int)) then
      (True ∧ True ∧ True) ∧
      bif regO b then
      (True ∧ True ∧ r44 op = true) ∧
      bif decide (0 < (↑(rr.length + 5 - 1 - 1 - 1) : Int)) then
      bif decide (1 ≤ (↑(rr.length + 5 - 1 - 1 - 1) : Int)) then
      bif regO c then
      (True ∧ True ∧ True) ∧
      bif namedB d then
      bif sameV (rr.length + 5 - 1 - 1 - 1 - 1) (Value.slice (some ⟨G + 2, 0 + 1 * 1 + 1 * 1 + 1 * 1 + 1 * 1, none⟩) (rr.length + 5 - 1 - 1 - 1 - 1) 1) then
      True ∧ K [AG [I op, I (regN b), I (regN c), I 0], ST d, B ((↑(rr.length + 5 - 1 - 1 - 1 - 1) : Int) == 0)] (heapB G [])
    else False
    else True ∧ K [AG [I op, I (regN b), I (regN c), I 0], ST d, B false] (heapB G [])
    else True ∧ K [AG [I op, I (regN b), I (regN c), I 0], ST d, B false] (heapB G [])
    else False
    else False
    else (True ∧ True ∧ r44 op = true) ∧
      bif decide (0 < (↑(rr.length + 5 - 1 - 1 - 1) : Int)) then
      bif decide (1 ≤ (↑(rr.length + 5 - 1 - 1 - 1) : Int)) then
      True ∧ K [AG [I op, I (regN b), I (regN c), I 0], ST d, B false] (heapB G [])
    else False
    else False
    else False
    else False
    else False
    else False
    else False) := by kernel_rfl
theorem t65F1 (a : ByteArray) (op : Int) (wd : ByteArray) (K : List Value → AHeap → Prop) (L : List Item → List AV → AHeap → Prop) :
    seg65 [con105, con106, con64, con44k false] K L todo65b (fr65b op) (hp65b [I 0, I 0, I 0, I 0] 1 ([.string a]) [.string wd, B false, B false, B true] [I op, I 0, I 0, I 0])
    = ((True ∧ True ∧ r44 op = false) ∧ (True ∧ True ∧ 0 ≤ 1000000) ∧ True ∧ K [AG [I op, I 0, I 0, I 0], SB [], B false] (heapB G [])) := by kernel_rfl
theorem t65F2 (a b : ByteArray) (op : Int) (wd : ByteArray) (K : List Value → AHeap → Prop) (L : List Item → List AV → AHeap → Prop) :
    seg65 [con105, con106, con64, con44k false] K L todo65b (fr65b op) (hp65b [I 0, I 0, I 0, I 0] 2 ([.string a, .string b]) [.string wd, B false, B false, B true] [I op, I 0, I 0, I 0])
    = ((True ∧ True ∧ r44 op = false) ∧ (True ∧ True ∧ b.size ≤ 1000000) ∧
      bif numO b then
      True ∧ K [AG [I op, I 0, I 0, I (numN b)], SB [], B true] (heapB G [])
    else True ∧ K [AG [I op, I 0, I 0, I (numN b)], SB [], B false] (heapB G [])) := by kernel_rfl
theorem t65F3 (x : ByteArray) (rr : List ByteArray) (a b : ByteArray) (op : Int) (wd : ByteArray) (K : List Value → AHeap → Prop) (L : List Item → List AV → AHeap → Prop) :
    seg65 [con105, con106, con64, con44k false] K L todo65b (fr65b op) (hp65b [I 0, I 0, I 0, I 0] (rr.length + 3) (.string a :: .string b :: .string x :: wsC rr) [.string wd, B false, B false, B true] [I op, I 0, I 0, I 0])
    = (bif decide (1 ≤ (↑(rr.length + 3) : Int)) then
      (True ∧ True ∧ r44 op = false) ∧
      bif decide (0 < (↑(rr.length + 3 - 1) : Int)) then
      bif decide (1 ≤ (↑(rr.length + 3 - 1) : Int)) then
      (True ∧ True ∧ b.size ≤ 1000000) ∧
      bif numO b then
      bif sameV (rr.length + 3 - 1 - 1) (Value.slice (some ⟨G + 2, 0 + 1 * 1 + 1 * 1, none⟩) (rr.length + 3 - 1 - 1) 1) then
      True ∧ K [AG [I op, I 0, I 0, I (numN b)], SB [], B ((↑(rr.length + 3 - 1 - 1) : Int) == 0)] (heapB G [])
    else False
    else True ∧ K [AG [I op, I 0, I 0, I (numN b)], SB [], B false] (heapB G [])
    else False
    else False
    else False) := by kernel_rfl
theorem t65Z1 (a : ByteArray) (op : Int) (wd : ByteArray) (K : List Value → AHeap → Prop) (L : List Item → List AV → AHeap → Prop) :
    seg65 [con105, con106, con64, con44k false] K L todo65b (fr65b op) (hp65b [I 0, I 0, I 0, I 0] 1 ([.string a]) [.string wd, B false, B false, B false] [I op, I 0, I 0, I 0])
    = ((True ∧ True ∧ r44 op = false) ∧ True ∧ K [AG [I op, I 0, I 0, I 0], SB [], B true] (heapB G [])) := by kernel_rfl
theorem t65Z2 (x : ByteArray) (rr : List ByteArray) (a : ByteArray) (op : Int) (wd : ByteArray) (K : List Value → AHeap → Prop) (L : List Item → List AV → AHeap → Prop) :
    seg65 [con105, con106, con64, con44k false] K L todo65b (fr65b op) (hp65b [I 0, I 0, I 0, I 0] (rr.length + 2) (.string a :: .string x :: wsC rr) [.string wd, B false, B false, B false] [I op, I 0, I 0, I 0])
    = (bif decide (1 ≤ (↑(rr.length + 2) : Int)) then
      (True ∧ True ∧ r44 op = false) ∧
      bif sameV (rr.length + 2 - 1) (Value.slice (some ⟨G + 2, 0 + 1 * 1, none⟩) (rr.length + 2 - 1) 1) then
      True ∧ K [AG [I op, I 0, I 0, I 0], SB [], B ((↑(rr.length + 2 - 1) : Int) == 0)] (heapB G [])
    else False
    else False) := by kernel_rfl
end
section
open Go.Agm
variable {w0 : World}
def hdW : List ByteArray → ByteArray
  | [] => ⟨⟨[]⟩⟩
  | a :: _ => a
structure InsR where
  x : Ins
  to : ByteArray
  ok : Bool
/-- What the words behind an operation's come to. -/
def insX (op : Int) (d s j u : Bool) (l : List ByteArray) : InsR :=
  let l1 := bif d then l.tail else l
  let l2 := bif s then l1.tail else l1
  let l3 := bif j then l2.tail else l2
  { x := ⟨op, bif d then regN (hdW l) else 0, bif s then regN (hdW l1) else 0, bif u then 0 else bif j then numN (hdW l2) else 0⟩
    to := bif u then hdW l2 else ⟨⟨[]⟩⟩
    ok := (bif d then regO (hdW l) else true) && (bif s then regO (hdW l1) else true) && (bif u then namedB (hdW l2) else bif j then numO (hdW l2) else true) && l3.isEmpty }
theorem sameV_true (n b o k s : Nat) : sameV n (.slice (some ⟨b, o, none⟩) k s) = true := by simp [sameV, veq]
abbrev resI (r : InsR) : List Value := [AG [I r.x.op, I r.x.d, I r.x.s, I r.x.imm], ST r.to, B r.ok]
theorem lenW (n k : Nat) : decide (1 ≤ ((n + (k + 1) : Nat) : Int)) = true ∧ decide (0 < ((n + (k + 1) : Nat) : Int)) = true := by
  constructor <;> (rw [decide_eq_true_eq]; omega)
theorem lenZ (n k : Nat) : (((n + (k + 1) : Nat) : Int) == 0) = false := by rw [beq_eq_false_iff_ne]; omega
theorem regs_nil : regO ⟨⟨[]⟩⟩ = false ∧ regN ⟨⟨[]⟩⟩ = 0 ∧ numO ⟨⟨[]⟩⟩ = false ∧ numN ⟨⟨[]⟩⟩ = 0 ∧ namedB ⟨⟨[]⟩⟩ = false := ⟨rfl, rfl, rfl, rfl, by simp [namedB, show eqS ⟨⟨[]⟩⟩ ⟨#[]⟩ = true from eqS_iff.2 rfl]⟩
noncomputable abbrev cs65 (u : Bool) : List Con := [con105, con106, con64, con44k u]

set_option maxRecDepth 100000 in
theorem tailA {K : List Value → AHeap → Prop} {L : List Item → List AV → AHeap → Prop} {op : Int} {wd : ByteArray} (hu : r44 op = false) : ∀ {ws : List ByteArray}, ws ≠ [] → (∀ x ∈ ws, x.size ≤ 1000000) → K (resI (insX op true false true false ws.tail)) (heapB G []) →
    seg65 (cs65 false) K L todo65b (fr65b op) (hp65b [I 0, I 0, I 0, I 0] ws.length (wsC ws) [.string wd, B true, B false, B true] [I op, I 0, I 0, I 0])
  | [], h, _, _ => absurd rfl h
  | [a], _, hs, hK => by
    refine (t65A1 a op wd K L).mpr ?_
    simpa [insX, hdW, regs_nil, hu] using hK
  | [a, b], _, hs, hK => by
    refine (t65A2 a b op wd K L).mpr ?_
    cases hb : regO b <;> simpa [insX, hdW, regs_nil, hu, hb] using hK
  | [a, b, c], _, hs, hK => by
    refine (t65A3 a b c op wd K L).mpr ?_
    have hcs : c.size ≤ 1000000 := hs c (by simp)
    cases hb : regO b <;> cases hc : numO c <;> simpa [insX, hdW, regs_nil, hu, hcs, hb, hc] using hK
  | a :: b :: c :: x :: rr, _, hs, hK => by
    refine (t65A4 x rr a b c op wd K L).mpr ?_
    have hcs : c.size ≤ 1000000 := hs c (by simp)
    simp only [show rr.length + 4 - 1 = rr.length + 3 from rfl, show rr.length + 3 - 1 = rr.length + 2 from rfl, show rr.length + 2 - 1 = rr.length + 1 from rfl, (lenW _ _).1, (lenW _ _).2, lenZ, sameV_true, cond_true]
    cases hb : regO b <;> cases hc : numO c <;> simpa [insX, hdW, regs_nil, hu, hcs, hb, hc] using hK

set_option maxRecDepth 100000 in
theorem tailB {K : List Value → AHeap → Prop} {L : List Item → List AV → AHeap → Prop} {op : Int} {wd : ByteArray} (hu : r44 op = false) : ∀ {ws : List ByteArray}, ws ≠ [] → (∀ x ∈ ws, x.size ≤ 1000000) → K (resI (insX op true true false false ws.tail)) (heapB G []) →
    seg65 (cs65 false) K L todo65b (fr65b op) (hp65b [I 0, I 0, I 0, I 0] ws.length (wsC ws) [.string wd, B true, B true, B false] [I op, I 0, I 0, I 0])
  | [], h, _, _ => absurd rfl h
  | [a], _, hs, hK => by
    refine (t65B1 a op wd K L).mpr ?_
    simpa [insX, hdW, regs_nil, hu] using hK
  | [a, b], _, hs, hK => by
    refine (t65B2 a b op wd K L).mpr ?_
    cases hb : regO b <;> simpa [insX, hdW, regs_nil, hu, hb] using hK
  | [a, b, c], _, hs, hK => by
    refine (t65B3 a b c op wd K L).mpr ?_
    cases hb : regO b <;> cases hc : regO c <;> simpa [insX, hdW, regs_nil, hu, hb, hc] using hK
  | a :: b :: c :: x :: rr, _, hs, hK => by
    refine (t65B4 x rr a b c op wd K L).mpr ?_
    simp only [show rr.length + 4 - 1 = rr.length + 3 from rfl, show rr.length + 3 - 1 = rr.length + 2 from rfl, show rr.length + 2 - 1 = rr.length + 1 from rfl, (lenW _ _).1, (lenW _ _).2, lenZ, sameV_true, cond_true]
    cases hb : regO b <;> cases hc : regO c <;> simpa [insX, hdW, regs_nil, hu, hb, hc] using hK

set_option maxRecDepth 100000 in
theorem tailC {K : List Value → AHeap → Prop} {L : List Item → List AV → AHeap → Prop} {op : Int} {wd : ByteArray} (hu : r44 op = false) : ∀ {ws : List ByteArray}, ws ≠ [] → (∀ x ∈ ws, x.size ≤ 1000000) → K (resI (insX op true true true false ws.tail)) (heapB G []) →
    seg65 (cs65 false) K L todo65b (fr65b op) (hp65b [I 0, I 0, I 0, I 0] ws.length (wsC ws) [.string wd, B true, B true, B true] [I op, I 0, I 0, I 0])
  | [], h, _, _ => absurd rfl h
  | [a], _, hs, hK => by
    refine (t65C1 a op wd K L).mpr ?_
    simpa [insX, hdW, regs_nil, hu] using hK
  | [a, b], _, hs, hK => by
    refine (t65C2 a b op wd K L).mpr ?_
    cases hb : regO b <;> simpa [insX, hdW, regs_nil, hu, hb] using hK
  | [a, b, c], _, hs, hK => by
    refine (t65C3 a b c op wd K L).mpr ?_
    cases hb : regO b <;> cases hc : regO c <;> simpa [insX, hdW, regs_nil, hu, hb, hc] using hK
  | [a, b, c, d], _, hs, hK => by
    refine (t65C4 a b c d op wd K L).mpr ?_
    have hds : d.size ≤ 1000000 := hs d (by simp)
    cases hb : regO b <;> cases hc : regO c <;> cases hd : numO d <;> simpa [insX, hdW, regs_nil, hu, hds, hb, hc, hd] using hK
  | a :: b :: c :: d :: x :: rr, _, hs, hK => by
    refine (t65C5 x rr a b c d op wd K L).mpr ?_
    have hds : d.size ≤ 1000000 := hs d (by simp)
    simp only [show rr.length + 5 - 1 = rr.length + 4 from rfl, show rr.length + 4 - 1 = rr.length + 3 from rfl, show rr.length + 3 - 1 = rr.length + 2 from rfl, show rr.length + 2 - 1 = rr.length + 1 from rfl, (lenW _ _).1, (lenW _ _).2, lenZ, sameV_true, cond_true]
    cases hb : regO b <;> cases hc : regO c <;> cases hd : numO d <;> simpa [insX, hdW, regs_nil, hu, hds, hb, hc, hd] using hK

set_option maxRecDepth 100000 in
theorem tailD {K : List Value → AHeap → Prop} {L : List Item → List AV → AHeap → Prop} {op : Int} {wd : ByteArray} (hu : r44 op = true) : ∀ {ws : List ByteArray}, ws ≠ [] → (∀ x ∈ ws, x.size ≤ 1000000) → K (resI (insX op false false true true ws.tail)) (heapB G []) →
    seg65 (cs65 true) K L todo65b (fr65b op) (hp65b [I 0, I 0, I 0, I 0] ws.length (wsC ws) [.string wd, B false, B false, B true] [I op, I 0, I 0, I 0])
  | [], h, _, _ => absurd rfl h
  | [a], _, hs, hK => by
    refine (t65D1 a op wd K L).mpr ?_
    simpa [insX, hdW, regs_nil, hu] using hK
  | [a, b], _, hs, hK => by
    refine (t65D2 a b op wd K L).mpr ?_
    cases hb : namedB b <;> simpa [insX, hdW, regs_nil, hu, hb] using hK
  | a :: b :: x :: rr, _, hs, hK => by
    refine (t65D3 x rr a b op wd K L).mpr ?_
    simp only [show rr.length + 3 - 1 = rr.length + 2 from rfl, show rr.length + 2 - 1 = rr.length + 1 from rfl, (lenW _ _).1, (lenW _ _).2, lenZ, sameV_true, cond_true]
    cases hb : namedB b <;> simpa [insX, hdW, regs_nil, hu, hb] using hK

set_option maxRecDepth 100000 in
theorem tailE {K : List Value → AHeap → Prop} {L : List Item → List AV → AHeap → Prop} {op : Int} {wd : ByteArray} (hu : r44 op = true) : ∀ {ws : List ByteArray}, ws ≠ [] → (∀ x ∈ ws, x.size ≤ 1000000) → K (resI (insX op true true true true ws.tail)) (heapB G []) →
    seg65 (cs65 true) K L todo65b (fr65b op) (hp65b [I 0, I 0, I 0, I 0] ws.length (wsC ws) [.string wd, B true, B true, B true] [I op, I 0, I 0, I 0])
  | [], h, _, _ => absurd rfl h
  | [a], _, hs, hK => by
    refine (t65E1 a op wd K L).mpr ?_
    simpa [insX, hdW, regs_nil, hu] using hK
  | [a, b], _, hs, hK => by
    refine (t65E2 a b op wd K L).mpr ?_
    cases hb : regO b <;> simpa [insX, hdW, regs_nil, hu, hb] using hK
  | [a, b, c], _, hs, hK => by
    refine (t65E3 a b c op wd K L).mpr ?_
    cases hb : regO b <;> cases hc : regO c <;> simpa [insX, hdW, regs_nil, hu, hb, hc] using hK
  | [a, b, c, d], _, hs, hK => by
    refine (t65E4 a b c d op wd K L).mpr ?_
    cases hb : regO b <;> cases hc : regO c <;> cases hd : namedB d <;> simpa [insX, hdW, regs_nil, hu, hb, hc, hd] using hK
  | a :: b :: c :: d :: x :: rr, _, hs, hK => by
    refine (t65E5 x rr a b c d op wd K L).mpr ?_
    simp only [show rr.length + 5 - 1 = rr.length + 4 from rfl, show rr.length + 4 - 1 = rr.length + 3 from rfl, show rr.length + 3 - 1 = rr.length + 2 from rfl, show rr.length + 2 - 1 = rr.length + 1 from rfl, (lenW _ _).1, (lenW _ _).2, lenZ, sameV_true, cond_true]
    cases hb : regO b <;> cases hc : regO c <;> cases hd : namedB d <;> simpa [insX, hdW, regs_nil, hu, hb, hc, hd] using hK

set_option maxRecDepth 100000 in
theorem tailF {K : List Value → AHeap → Prop} {L : List Item → List AV → AHeap → Prop} {op : Int} {wd : ByteArray} (hu : r44 op = false) : ∀ {ws : List ByteArray}, ws ≠ [] → (∀ x ∈ ws, x.size ≤ 1000000) → K (resI (insX op false false true false ws.tail)) (heapB G []) →
    seg65 (cs65 false) K L todo65b (fr65b op) (hp65b [I 0, I 0, I 0, I 0] ws.length (wsC ws) [.string wd, B false, B false, B true] [I op, I 0, I 0, I 0])
  | [], h, _, _ => absurd rfl h
  | [a], _, hs, hK => by
    refine (t65F1 a op wd K L).mpr ?_
    simpa [insX, hdW, regs_nil, hu] using hK
  | [a, b], _, hs, hK => by
    refine (t65F2 a b op wd K L).mpr ?_
    have hbs : b.size ≤ 1000000 := hs b (by simp)
    cases hb : numO b <;> simpa [insX, hdW, regs_nil, hu, hbs, hb] using hK
  | a :: b :: x :: rr, _, hs, hK => by
    refine (t65F3 x rr a b op wd K L).mpr ?_
    have hbs : b.size ≤ 1000000 := hs b (by simp)
    simp only [show rr.length + 3 - 1 = rr.length + 2 from rfl, show rr.length + 2 - 1 = rr.length + 1 from rfl, (lenW _ _).1, (lenW _ _).2, lenZ, sameV_true, cond_true]
    cases hb : numO b <;> simpa [insX, hdW, regs_nil, hu, hbs, hb] using hK

set_option maxRecDepth 100000 in
theorem tailZ {K : List Value → AHeap → Prop} {L : List Item → List AV → AHeap → Prop} {op : Int} {wd : ByteArray} (hu : r44 op = false) : ∀ {ws : List ByteArray}, ws ≠ [] → (∀ x ∈ ws, x.size ≤ 1000000) → K (resI (insX op false false false false ws.tail)) (heapB G []) →
    seg65 (cs65 false) K L todo65b (fr65b op) (hp65b [I 0, I 0, I 0, I 0] ws.length (wsC ws) [.string wd, B false, B false, B false] [I op, I 0, I 0, I 0])
  | [], h, _, _ => absurd rfl h
  | [a], _, hs, hK => by
    refine (t65Z1 a op wd K L).mpr ?_
    simpa [insX, hdW, regs_nil, hu] using hK
  | a :: x :: rr, _, hs, hK => by
    refine (t65Z2 x rr a op wd K L).mpr ?_
    simp only [show rr.length + 2 - 1 = rr.length + 1 from rfl, (lenW _ _).1, lenZ, sameV_true, cond_true]
    simpa [insX, hdW, regs_nil, hu] using hK
end
section
open Go.Agm
variable {w0 : World}
/-- The operation of a word: -1, where it is none. -/
def opAt (a : ByteArray) : List (List UInt8 × Bool × Bool × Bool) → Int → Int
  | [], _ => -1
  | f :: r, i => bif eqS ⟨⟨f.1⟩⟩ a then i else opAt a r (i + 1)
def chain65 (a : ByteArray) (n : Nat) (X : Int → Prop) : List (List UInt8 × Bool × Bool × Bool) → Int → Prop
  | [], _ => X (-1)
  | f :: r, i => bif decide (0 < (n : Int)) then bif eqS ⟨⟨f.1⟩⟩ a then X i else chain65 a n X r (i + 1) else False
theorem chain_at {a : ByteArray} {n : Nat} (hn : 0 < n) {X : Int → Prop} : ∀ (l : List (List UInt8 × Bool × Bool × Bool)) (i : Int), chain65 a n X l i = X (opAt a l i)
  | [], _ => rfl
  | f :: r, i => by
    have h0 : decide (0 < (n : Int)) = true := by rw [decide_eq_true_eq]; omega
    simp only [chain65, opAt, h0, cond_true]
    cases eqS ⟨⟨f.1⟩⟩ a with
    | true => rfl
    | false => exact chain_at hn r (i + 1)
theorem start65 (s a : ByteArray) (r : List ByteArray) (K : List Value → AHeap → Prop) (L : List Item → List AV → AHeap → Prop) : seg65 [con101 (a :: r)] K L [.code (Tryd.f27.body.getD .skip)] (startF Tryd.f27 [.string s]) (addG tabF (heapB G []))
    = ((True ∧ (PlainL (wsC (a :: r)) ∧ True) ∧ s.size ≤ 1000000 ∧ (1 : Nat) ≤ 1 ∧ wordsOf s ⟨#[32]⟩ = a :: r) ∧
      chain65 a (a :: r).length (fun op => (PlainL [I 0, I 0, I 0, I 0] ∧ PlainL (wsC (a :: r)) ∧ True) ∧ L todo65a (fr65a op) (hp65a [I 0, I 0, I 0, I 0] (a :: r).length (wsC (a :: r)))) forms 0) := by kernel_rfl
theorem none65 (n : Nat) (ws : List Value) (K : List Value → AHeap → Prop) (L : List Item → List AV → AHeap → Prop) : seg65 [] K L todo65a (fr65a (-1)) (addG tabF (hp65a [I 0, I 0, I 0, I 0] n ws))
    = (True ∧ K [AG [I 0, I 0, I 0, I 0], SB [], B false] (heapB G [])) := by kernel_rfl
abbrev PL5 (ws : List Value) (wd : List UInt8) (d s j : Bool) (op : Int) : Prop := PlainL [I 0, I 0, I 0, I 0] ∧ PlainL ws ∧ PlainL [SB wd, B d, B s, B j] ∧ PlainL [I op, I 0, I 0, I 0] ∧ True
theorem head65 (k : Nat) (n : Nat) (ws : List Value) (K : List Value → AHeap → Prop) (L : List Item → List AV → AHeap → Prop) (f : List UInt8 × Bool × Bool × Bool) (hf : forms[k]? = some f) : seg65 [] K L todo65a (fr65a k) (addG tabF (hp65a [I 0, I 0, I 0, I 0] n ws))
    = (PL5 ws f.1 f.2.1 f.2.2.1 f.2.2.2 k ∧ L todo65b (fr65b k) (hp65b [I 0, I 0, I 0, I 0] n ws [SB f.1, B f.2.1, B f.2.2.1, B f.2.2.2] [I k, I 0, I 0, I 0])) := by
  rcases k with _ | _ | _ | _ | _ | _ | _ | _ | _ | _ | _ | _ | _ | _ | _ | _ | _ | _ | _ | _ | _ | k
  case succ.succ.succ.succ.succ.succ.succ.succ.succ.succ.succ.succ.succ.succ.succ.succ.succ.succ.succ.succ.succ => exact absurd hf (by simp [forms])
  all_goals (obtain rfl := Option.some.inj hf; kernel_rfl)
end
section
open Go.Agm
variable {w0 : World}
/-- What the world is to hold. -/
structure Lw (W : World) : Prop where
  lz : Lz W
  sz : 9 ≤ W.heap.size
  tab : TabsOk Tryd.prog W tabF
abbrev PX (K : List Value → AHeap → Prop) : Post := retT Tryd.prog.globals.size nt65 K
abbrev Sem65 (w0 : World) (K : List Value → AHeap → Prop) (t : List Item) (fr : List AV) (h : AHeap) : Prop := Agm.Sem Tryd.prog w0 (Tryd.prog.globals.size + nt65.flags.length) Tryd.f27 (PX K) t fr h
theorem leaf65 {K : List Value → AHeap → Prop} : ∀ t fr h, (match t with
    | .code (.region 3 _ _) :: _ => canonT G nt65A (Sem65 w0 K t) fr h
    | .code (.region 6 _ _) :: _ => canonT G nt65B (Sem65 w0 K t) fr h
    | _ => False) → Sem65 w0 K t fr h := by
  intro t fr h e
  split at e
  · exact canonT_semN (nt := nt65A) rfl e
  · exact canonT_semN (nt := nt65B) rfl e
  · exact e.elim
theorem ok65 (hL : Lw w0) (u : Bool) : ∀ c ∈ cs65 u, c.ok Tryd.prog w0 := fun c hc => by
  simp only [List.mem_cons, List.not_mem_nil, or_false] at hc
  rcases hc with rfl | rfl | rfl | rfl
  · exact con105_ok
  · exact con106_ok hL.lz hL.sz
  · exact con64_ok hL.lz hL.sz
  · exact con44k_ok u
theorem plain_ws (l : List ByteArray) : PlainL (wsC l) := by
  intro x hx
  obtain ⟨y, _, rfl⟩ := List.mem_map.1 hx
  rfl
theorem plain_i4 (a b c d : Int) : PlainL [I a, I b, I c, I d] := by
  intro x hx
  simp only [List.mem_cons, List.not_mem_nil, or_false] at hx
  rcases hx with rfl | rfl | rfl | rfl <;> rfl
theorem plain_f4 (a : List UInt8) (b c d : Bool) : PlainL [SB a, B b, B c, B d] := by
  intro x hx
  simp only [List.mem_cons, List.not_mem_nil, or_false] at hx
  rcases hx with rfl | rfl | rfl | rfl <;> rfl
/-- What an operation's words come to. -/
theorem tail65 (hL : Lw w0) {K : List Value → AHeap → Prop} {k : Nat} {f : List UInt8 × Bool × Bool × Bool} (hf : forms[k]? = some f) {ws : List ByteArray} (hne : ws ≠ []) (hs : ∀ x ∈ ws, x.size ≤ 1000000)
    (hK : K (resI (insX k f.2.1 f.2.2.1 f.2.2.2 (r44 k) ws.tail)) (heapB G [])) : Sem65 w0 K todo65b (fr65b k) (hp65b [I 0, I 0, I 0, I 0] ws.length (wsC ws) [SB f.1, B f.2.1, B f.2.2.1, B f.2.2.2] [I k, I 0, I 0, I 0]) := by
  have go : ∀ u, seg65 (cs65 u) K (Sem65 w0 K) todo65b (fr65b k) (hp65b [I 0, I 0, I 0, I 0] ws.length (wsC ws) [SB f.1, B f.2.1, B f.2.2.1, B f.2.2.2] [I k, I 0, I 0, I 0]) → Sem65 w0 K todo65b (fr65b k) (hp65b [I 0, I 0, I 0, I 0] ws.length (wsC ws) [SB f.1, B f.2.1, B f.2.2.1, B f.2.2.2] [I k, I 0, I 0, I 0]) := fun u h =>
    seg_semI3 (F := ft65) mixed (callsOf_ok (ok65 hL u)) leaf65 [3, 6] 20 100 h
  rcases k with _ | _ | _ | _ | _ | _ | _ | _ | _ | _ | _ | _ | _ | _ | _ | _ | _ | _ | _ | _ | _ | k
  case succ.succ.succ.succ.succ.succ.succ.succ.succ.succ.succ.succ.succ.succ.succ.succ.succ.succ.succ.succ.succ => exact absurd hf (by simp [forms])
  · obtain rfl := Option.some.inj hf; exact go false (tailA rfl hne hs hK)
  · obtain rfl := Option.some.inj hf; exact go false (tailB rfl hne hs hK)
  · obtain rfl := Option.some.inj hf; exact go false (tailB rfl hne hs hK)
  · obtain rfl := Option.some.inj hf; exact go false (tailB rfl hne hs hK)
  · obtain rfl := Option.some.inj hf; exact go false (tailA rfl hne hs hK)
  · obtain rfl := Option.some.inj hf; exact go false (tailA rfl hne hs hK)
  · obtain rfl := Option.some.inj hf; exact go false (tailA rfl hne hs hK)
  · obtain rfl := Option.some.inj hf; exact go false (tailC rfl hne hs hK)
  · obtain rfl := Option.some.inj hf; exact go false (tailC rfl hne hs hK)
  · obtain rfl := Option.some.inj hf; exact go false (tailC rfl hne hs hK)
  · obtain rfl := Option.some.inj hf; exact go false (tailC rfl hne hs hK)
  · obtain rfl := Option.some.inj hf; exact go false (tailC rfl hne hs hK)
  · obtain rfl := Option.some.inj hf; exact go true (tailD rfl hne hs hK)
  · obtain rfl := Option.some.inj hf; exact go true (tailE rfl hne hs hK)
  · obtain rfl := Option.some.inj hf; exact go true (tailE rfl hne hs hK)
  · obtain rfl := Option.some.inj hf; exact go true (tailE rfl hne hs hK)
  · obtain rfl := Option.some.inj hf; exact go true (tailE rfl hne hs hK)
  · obtain rfl := Option.some.inj hf; exact go false (tailF rfl hne hs hK)
  · obtain rfl := Option.some.inj hf; exact go false (tailZ rfl hne hs hK)
  · obtain rfl := Option.some.inj hf; exact go false (tailF rfl hne hs hK)
  · obtain rfl := Option.some.inj hf; exact go false (tailZ rfl hne hs hK)
/-- An instruction of a line's words. -/
def insP (ws : List ByteArray) : InsR := match forms[(opAt (hdW ws) forms 0).toNat]? with
  | some f => bif decide (opAt (hdW ws) forms 0 < 0) then ⟨⟨0, 0, 0, 0⟩, ⟨⟨[]⟩⟩, false⟩ else insX (opAt (hdW ws) forms 0) f.2.1 f.2.2.1 f.2.2.2 (r44 (opAt (hdW ws) forms 0)) ws.tail
  | none => ⟨⟨0, 0, 0, 0⟩, ⟨⟨[]⟩⟩, false⟩
theorem opAt_range (a : ByteArray) : ∀ (l : List (List UInt8 × Bool × Bool × Bool)) (i : Nat), opAt a l i = -1 ∨ ∃ k : Nat, opAt a l i = ((i + k : Nat) : Int) ∧ k < l.length
  | [], _ => .inl rfl
  | f :: r, i => by
    simp only [opAt]
    cases eqS ⟨⟨f.1⟩⟩ a with
    | true => exact .inr ⟨0, rfl, by simp⟩
    | false =>
      rcases opAt_range a r (i + 1) with h | ⟨k, h1, h2⟩
      · exact .inl h
      · refine .inr ⟨k + 1, ?_, by simp; omega⟩
        have : ((i : Int) + 1) = ((i + 1 : Nat) : Int) := by omega
        simp only [cond_false]
        rw [this, h1]
        congr 1; omega
noncomputable def con65 : Con := { f := 27, gh := [], paths := [], spec := fun args bs => match args, bs with
  | [.string s], [] => some (s.size ≤ 1000000, resI (insP (wordsOf s ⟨#[32]⟩)), [])
  | _, _ => none }
theorem words_ne (s : ByteArray) : wordsOf s ⟨#[32]⟩ ≠ [] := by
  have := Lib.splitB_all ⟨#[32]⟩ (by decide) 0 _ s rfl
  intro h
  unfold wordsOf at h
  rw [h] at this
  simp at this
theorem split_size (sep : ByteArray) : ∀ (k : Nat) (s : ByteArray) (x : ByteArray), x ∈ Lib.splitB sep 0 k s → x.size ≤ s.size
  | 0, s, x, h => by
    simp only [Lib.splitB, List.mem_singleton] at h
    rw [h]; exact Nat.le_refl _
  | k + 1, s, x, h => by
    unfold Lib.splitB at h
    split at h
    · simp only [List.mem_singleton] at h
      rw [h]; exact Nat.le_refl _
    · rcases List.mem_cons.1 h with h | h
      · rw [h, ByteArray.size_extract]; omega
      · have := split_size sep k _ x h
        rw [ByteArray.size_extract] at this
        omega
set_option maxRecDepth 100000 in
theorem con65_ok (hL : Lw w0) : con65.ok Tryd.prog w0 := by
  intro args bs p rs out e hp
  simp only [con65] at e
  split at e <;> first | (simp at e; done) | skip
  rename_i s
  simp only [Option.some.injEq, Prod.mk.injEq] at e
  obtain ⟨rfl, rfl, rfl⟩ := e
  change CallS Tryd.prog w0 27 [.string s] (heapB Tryd.prog.globals.size []) fun rs' h' => rs' = resI (insP (wordsOf s ⟨#[32]⟩)) ∧ h' = heapB Tryd.prog.globals.size []
  have hn : (heapB Tryd.prog.globals.size []).next = Tryd.prog.globals.size + nt65.flags.length := by rw [heapB_next]; rfl
  refine retT_call (nt := nt65) hn (call_sem (cd := Tryd.f27.body.getD .skip) Tryd.func27 (by kernel_rfl) ?_)
  rw [hn]
  generalize hK : (fun rs' h' => rs' = resI (insP (wordsOf s ⟨#[32]⟩)) ∧ h' = heapB Tryd.prog.globals.size [] : List Value → AHeap → Prop) = K
  have hKK : K (resI (insP (wordsOf s ⟨#[32]⟩))) (heapB G []) := by rw [← hK]; exact ⟨rfl, rfl⟩
  clear hK
  have hne := words_ne s
  have hsz : ∀ x ∈ wordsOf s ⟨#[32]⟩, x.size ≤ 1000000 := fun x hx => Nat.le_trans (split_size _ _ _ _ hx) hp
  obtain ⟨a, r, hw⟩ : ∃ a r, wordsOf s ⟨#[32]⟩ = a :: r := by
    cases h : wordsOf s ⟨#[32]⟩ with
    | nil => exact absurd h hne
    | cons a r => exact ⟨a, r, rfl⟩
  rw [hw] at hKK hsz
  have hc1 : ∀ c ∈ [con101 (a :: r)], c.ok Tryd.prog w0 := fun c hc => by
    simp only [List.mem_cons, List.not_mem_nil, or_false] at hc
    subst hc
    exact con101_ok hL.lz hL.sz _
  refine sem_addG hL.tab (seg_semI3 (F := ft65) mixed (callsOf_ok hc1) leaf65 [3, 6] 20 100 ((start65 s a r K (Sem65 w0 K)).mpr ⟨⟨trivial, ⟨plain_ws _, trivial⟩, hp, Nat.le_refl _, hw⟩, ?_⟩))
  rw [chain_at (by simp)]
  refine ⟨⟨plain_i4 _ _ _ _, plain_ws _, trivial⟩, ?_⟩
  have hno : ∀ c ∈ ([] : List Con), c.ok Tryd.prog w0 := fun c hc => by simp at hc
  rcases opAt_range a forms 0 with h | ⟨k, h1, h2⟩
  · have h' : opAt a forms 0 = -1 := h
    rw [h']
    refine sem_addG hL.tab (seg_semI3 (F := ft65) mixed (callsOf_ok hno) leaf65 [3, 6] 20 100 ((none65 _ _ K (Sem65 w0 K)).mpr ⟨trivial, ?_⟩))
    have : insP (a :: r) = ⟨⟨0, 0, 0, 0⟩, ⟨⟨[]⟩⟩, false⟩ := by
      simp only [insP, hdW, h']; rfl
    rw [this] at hKK
    exact hKK
  · have h' : opAt a forms 0 = (k : Int) := by
      have := h1
      rw [Nat.zero_add] at this
      exact this
    rw [h']
    have hf : forms[k]? = some forms[k] := List.getElem?_eq_getElem h2
    refine sem_addG hL.tab (seg_semI3 (F := ft65) mixed (callsOf_ok hno) leaf65 [3, 6] 20 100 ((head65 k _ _ K (Sem65 w0 K) _ hf).mpr ⟨⟨plain_i4 _ _ _ _, plain_ws _, plain_f4 _ _ _ _, plain_i4 _ _ _ _, trivial⟩, tail65 hL hf (by simp) hsz ?_⟩))
    have : insP (a :: r) = insX k forms[k].2.1 forms[k].2.2.1 forms[k].2.2.2 (r44 k) r := by
      have hk : decide ((k : Int) < 0) = false := by simp
      simp only [insP, hdW, h', Int.toNat_natCast, hf, hk, cond_false, List.tail_cons]
    rw [this] at hKK
    exact hKK
end
section
open Go.Agm
variable {w0 : World}
noncomputable def ft12 : FT := { loc := fun _ => false, mask := fun id => bif Nat.beq id 2 then live 61 [0, 5] else bif Nat.beq id 11 then live 61 [5] else [] }
abbrev ghR (i : Nat) : List Gh := [⟨i, some ([], 0), 4⟩, ⟨i, some ([], 2), 3⟩]
abbrev ptR (i : Nat) : List Pth := [⟨i, [], false⟩, ⟨i, [0], true⟩, ⟨i, [1], true⟩, ⟨i, [2], true⟩]
abbrev nt12A : Nt := { gh := ghR 5, flags := [], paths := ptR 5, tr := [] }
abbrev nt12 : Nt := { gh := [⟨0, none, 4⟩], flags := [], paths := [⟨0, [], true⟩], tr := [] }
noncomputable def todo12a : List Item := todoOf Tryd.f9 2
noncomputable def todo12b : List Item := todoOf Tryd.f9 11
abbrev seg12 (nt : Nt) (cs : List Con) (K : List Value → AHeap → Prop) (L : List Item → List AV → AHeap → Prop) (t : List Item) (fr : List AV) (h : AHeap) : Prop :=
  segK3 Tryd.prog ft12 (semI Tryd.prog (fun _ => ft0) (callsOf G cs) 2000 20 (retT G nt K)) Tryd.f9 [2, 11] 200 t fr (fun t fr h => match t with
  | .code (.region 2 _ _) :: _ => canonT G nt12A (L t) fr h
  | .code (.region 11 _ _) :: _ => canonT G nt12A (L t) fr h
  | _ => False) h
noncomputable def fr12a (s : ByteArray) : List AV := frm 61 [(0, .v (ST s)), (5, .v (PT G))]
noncomputable def fr12b : List AV := frm 61 [(5, .v (PT G))]
noncomputable def rdB (n : Nat) (oc : List Value) (es : List (Value × Value)) (k : Nat) (jc : List Value) (ln : Int) : List (Option ABlk) :=
  [some (.cells [SL (G + 1) n 4, .map (some (G + 2)), SL (G + 3) k 3, I ln] true), some (.cells oc true), some (.map es), some (.cells jc true)]
end
section
open Go.Agm
variable {w0 : World}
def nlB : ByteArray := ⟨⟨[10]⟩⟩
def coB : ByteArray := ⟨⟨[58]⟩⟩
def noS : ByteArray := ⟨⟨[]⟩⟩
def spB : ByteArray := ⟨#[32]⟩
abbrev insO (l : ByteArray) : InsR := insP (wordsOf l spB)
def keysOk (es : List (Value × Value)) : Bool := es.all fun e => isKeyD .string e.1
abbrev PLR (oc : List Value) (es : List (Value × Value)) (jc : List Value) : Prop := PlainL oc ∧ (PlainL (es.map (·.1)) ∧ PlainL (es.map (·.2))) ∧ PlainL jc ∧ True
abbrev sameW (b n s : Nat) : Bool := veq 4 (SL b n s) (SL b n s) && true
abbrev errK (K : List Value → AHeap → Prop) (ln e : Int) : Prop := (PlainL [] ∧ True) ∧ K [SL G 0 4, I ln, .iface 40 (I e)] (heapB G [some (.cells [] true)])
abbrev insT (n : Nat) (oc : List Value) (es : List (Value × Value)) (k : Nat) (jc : List Value) (ln : Int) (K : List Value → AHeap → Prop) (L : List Item → List AV → AHeap → Prop) (l r : ByteArray) : Prop :=
  (True ∧ True ∧ l.size ≤ 1000000) ∧
  bif !(insO l).ok then errK K ln 4
  else (True ∧ True ∧ True) ∧
  bif !r29 (insO l).x.op (insO l).x.d (insO l).x.s (insO l).x.imm then errK K ln 11
  else bif decide ((n : Int) ≥ 128) then errK K ln 10
  else bif !eqS (insO l).to noS then
    bif sameW (G + 3) k 3 then bif room (k + 1) 32 then bif (0 + k * 3).ble jc.length then
    bif sameW (G + 1) n 4 then bif room (n + 1) 32 then bif (0 + n * 4).ble oc.length then
      PLR ((oc.drop 0).take (n * 4) ++ insC [(insO l).x]) es ((jc.drop 0).take (k * 3) ++ [I n, I ln, ST (insO l).to]) ∧
      L todo12a (fr12a r) (heapB G (rdB (n + 1) ((oc.drop 0).take (n * 4) ++ insC [(insO l).x]) es (k + 1) ((jc.drop 0).take (k * 3) ++ [I n, I ln, ST (insO l).to]) ln))
    else False else False else False else False else False else False
  else bif sameW (G + 1) n 4 then bif room (n + 1) 32 then bif (0 + n * 4).ble oc.length then
      PLR ((oc.drop 0).take (n * 4) ++ insC [(insO l).x]) es jc ∧
      L todo12a (fr12a r) (heapB G (rdB (n + 1) ((oc.drop 0).take (n * 4) ++ insC [(insO l).x]) es k jc ln))
    else False else False else False
theorem start12 (s : ByteArray) (K : List Value → AHeap → Prop) (L : List Item → List AV → AHeap → Prop) : seg12 nt12 [] K L [.code (Tryd.f9.body.getD .skip)] (startF Tryd.f9 [.string s]) (heapB G [])
    = (PLR [] [] [] ∧ L todo12a (fr12a s) (heapB G (rdB 0 [] [] 0 [] 0))) := by kernel_rfl
theorem head12 (s : ByteArray) (n : Nat) (oc : List Value) (es : List (Value × Value)) (k : Nat) (jc : List Value) (ln : Int) (K : List Value → AHeap → Prop) (L : List Item → List AV → AHeap → Prop) :
    seg12 nt12 [con32, con63, con64, con65, con29] K L todo12a (fr12a s) (heapB G (rdB n oc es k jc ln))
    = (bif !eqS s noS then
      (True ∧ True ∧ s.size ≤ 1000000) ∧
      bif !cutO s nlB then errK K (w (ln + 1)) 4
      else (True ∧ True ∧ (cutA s nlB).size ≤ 1000000) ∧
        bif sufO (cutA s nlB) coB then
          (True ∧ True ∧ True) ∧
          bif namedB (sufA (cutA s nlB) coB) then
            bif keysOk es then
              bif hasK (ST (sufA (cutA s nlB) coB)) es then
                bif okI .i64 (getK (ST (sufA (cutA s nlB) coB)) es) then errK K (w (ln + 1)) 9 else False
              else bif keysOk es then
                PLR oc (upsert (ST (sufA (cutA s nlB) coB)) (I n) es) jc ∧ L todo12a (fr12a (cutB s nlB)) (heapB G (rdB n oc (upsert (ST (sufA (cutA s nlB) coB)) (I n) es) k jc (w (ln + 1))))
              else False
            else False
          else insT n oc es k jc (w (ln + 1)) K L (cutA s nlB) (cutB s nlB)
        else insT n oc es k jc (w (ln + 1)) K L (cutA s nlB) (cutB s nlB)
    else PLR oc es jc ∧ L todo12b fr12b (heapB G (rdB n oc es k jc ln))) := by kernel_rfl
end
section
open Go.Agm
variable {w0 : World}
noncomputable def ft34 : FT := { loc := fun _ => false, mask := fun id => bif Nat.beq id 2 then live 73 [0, 13, 14, 15] else bif Nat.beq id 9 then live 73 [0, 38, 39, 40] else [] }
abbrev nt34 : Nt := { gh := [], flags := [false, true, true, true], paths := [], tr := [] }
noncomputable def todo34a : List Item := todoOf Tryd.f19 2
noncomputable def todo34b : List Item := todoOf Tryd.f19 9
abbrev seg34 (cs : List Con) (K : List Value → AHeap → Prop) (L : List Item → List AV → AHeap → Prop) (t : List Item) (fr : List AV) (h : AHeap) : Prop :=
  segK3 Tryd.prog ft34 (semI Tryd.prog (fun _ => ft0) (callsOf G cs) 2000 20 (retT G nt34 K)) Tryd.f19 [2, 9] 200 t fr (fun t fr h => match t with
  | .code (.region 2 _ _) :: _ => canonT G nt34 (L t) fr h
  | .code (.region 9 _ _) :: _ => canonT G nt34 (L t) fr h
  | _ => False) h
noncomputable def fr34a (k : Nat) (i : Int) : List AV := frm 73 [(0, .v (PT G)), (13, .v (SL (G + 3) k 3)), (14, .v (I k)), (15, .v (I i))]
noncomputable def fr34b (k : Nat) (i : Int) : List AV := frm 73 [(0, .v (PT G)), (38, .v (SL (G + 3) k 3)), (39, .v (I k)), (40, .v (I i))]
end
section
open Go.Agm
variable {w0 : World}
abbrev jA (jc : List Value) (i : Int) : Int := intO (nth jc (0 + i.toNat * 3 + 0))
abbrev jL (jc : List Value) (i : Int) : Int := intO (nth jc (0 + i.toNat * 3 + 1))
abbrev jT (jc : List Value) (i : Int) : ByteArray := Agm.strO (nth jc (0 + i.toNat * 3 + 2))
abbrev okJ (jc : List Value) (i : Int) : Bool := (0 + i.toNat * 3 + 3).ble jc.length && (okI .i64 (nth jc (0 + i.toNat * 3 + 0)) && (okI .i64 (nth jc (0 + i.toNat * 3 + 1)) && (okS (nth jc (0 + i.toNat * 3 + 2)) && true)))
abbrev at4 (a : Int) (j : Nat) : Nat := 0 + a.toNat * 4 + j
abbrev ok4 (oc : List Value) (a : Int) : Bool := (at4 a 4).ble oc.length && (okI .i64 (nth oc (at4 a 0)) && (okI .i64 (nth oc (at4 a 1)) && (okI .i64 (nth oc (at4 a 2)) && (okI .i64 (nth oc (at4 a 3)) && true))))
abbrev r4 (oc : List Value) (a : Int) : Bool := r29 (intO (nth oc (at4 a 0))) (intO (nth oc (at4 a 1))) (intO (nth oc (at4 a 2))) (intO (nth oc (at4 a 3)))
theorem start34 (n : Nat) (oc : List Value) (es : List (Value × Value)) (k : Nat) (jc : List Value) (ln : Int) (K : List Value → AHeap → Prop) (L : List Item → List AV → AHeap → Prop) : seg34 [] K L [.code (Tryd.f19.body.getD .skip)] (startF Tryd.f19 [PT G]) (heapB G (rdB n oc es k jc ln))
    = (PLR oc es jc ∧ L todo34a (fr34a k 0) (heapB G (rdB n oc es k jc ln))) := by kernel_rfl
theorem headA34 (i : Int) (n : Nat) (oc : List Value) (es : List (Value × Value)) (k : Nat) (jc : List Value) (ln : Int) (K : List Value → AHeap → Prop) (L : List Item → List AV → AHeap → Prop) : seg34 [] K L todo34a (fr34a k i) (heapB G (rdB n oc es k jc ln))
    = (bif decide (i < (k : Int)) then
      bif decide (0 ≤ i) && decide (i < (k : Int)) then
      bif okJ jc i then
      bif keysOk es then
      bif hasK (ST (jT jc i)) es then
      bif okI .i64 (getK (ST (jT jc i)) es) then PLR oc es jc ∧ L todo34a (fr34a k (w (i + 1))) (heapB G (rdB n oc es k jc ln)) else False
      else PLR oc es jc ∧ K [I (jL jc i), .iface 40 (I 8)] (heapB G (rdB n oc es k jc ln))
      else False
      else False
      else False
    else PLR oc es jc ∧ L todo34b (fr34b k 0) (heapB G (rdB n oc es k jc ln))) := by kernel_rfl
abbrev setB (n : Nat) (oc : List Value) (es : List (Value × Value)) (k : Nat) (jc : List Value) (ln : Int) (K : List Value → AHeap → Prop) (L : List Item → List AV → AHeap → Prop) (i a v : Int) : Prop :=
  bif a == a && sameW (G + 1) n 4 then
  bif decide (0 ≤ a) && decide (a < (n : Int)) then
  bif (at4 a 3 + 1).ble oc.length then
  bif decide (0 ≤ a) && decide (a < (n : Int)) then
  bif ok4 (splice oc (at4 a 3) [I v]) a then
    (True ∧ True ∧ True) ∧
    bif !r4 (splice oc (at4 a 3) [I v]) a then PLR (splice oc (at4 a 3) [I v]) es jc ∧ K [I (jL jc i), .iface 40 (I 11)] (heapB G (rdB n (splice oc (at4 a 3) [I v]) es k jc ln))
    else PLR (splice oc (at4 a 3) [I v]) es jc ∧ L todo34b (fr34b k (w (i + 1))) (heapB G (rdB n (splice oc (at4 a 3) [I v]) es k jc ln))
  else False else False else False else False else False
theorem headB34 (i : Int) (n : Nat) (oc : List Value) (es : List (Value × Value)) (k : Nat) (jc : List Value) (ln : Int) (K : List Value → AHeap → Prop) (L : List Item → List AV → AHeap → Prop) : seg34 [con29] K L todo34b (fr34b k i) (heapB G (rdB n oc es k jc ln))
    = (bif decide (i < (k : Int)) then
      bif decide (0 ≤ i) && decide (i < (k : Int)) then
      bif okJ jc i then
      bif keysOk es then
      bif hasK (ST (jT jc i)) es then
      bif okI .i64 (getK (ST (jT jc i)) es) then setB n oc es k jc ln K L i (jA jc i) (intO (getK (ST (jT jc i)) es)) else False
      else setB n oc es k jc ln K L i (jA jc i) 0
      else False
      else False
      else False
    else PLR oc es jc ∧ K [I 0, .nilIface] (heapB G (rdB n oc es k jc ln))) := by kernel_rfl
end
section
open Go.Agm
variable {w0 : World}
/-- A jump to a name. -/
structure Jm where
  at' : Nat
  line : Int
  to : ByteArray
def jmC : List Jm → List Value
  | [] => []
  | j :: r => I j.at' :: I j.line :: ST j.to :: jmC r
def plC (l : List (ByteArray × Int)) : List (Value × Value) := l.map fun p => (ST p.1, I p.2)
def findP : List (ByteArray × Int) → ByteArray → Option Int
  | [], _ => none
  | p :: r, t => if t = p.1 then some p.2 else findP r t
theorem keyEq_st (a b : ByteArray) : keyEq (ST a) (ST b) = decide (a = b) := by
  simp only [keyEq]
  by_cases h : a = b
  · rw [decide_eq_true h]; exact (Go.MapKept.bytes_beq _ _).2 h
  · rw [decide_eq_false h]
    cases hh : (a == b) with
    | false => rfl
    | true => exact absurd ((Go.MapKept.bytes_beq _ _).1 hh) h
theorem getK_pl (t : ByteArray) : ∀ l : List (ByteArray × Int), getK (ST t) (plC l) = (findP l t).map I
  | [] => rfl
  | p :: r => by
    have ih := getK_pl t r
    simp only [plC, List.map_cons, getK, keyEq_st, findP]
    by_cases h : t = p.1
    · simp [h]
    · simp only [h, decide_false, cond_false, if_false]; exact ih
theorem hasK_pl (t : ByteArray) : ∀ l : List (ByteArray × Int), hasK (ST t) (plC l) = (findP l t).isSome
  | [] => rfl
  | p :: r => by
    have ih := hasK_pl t r
    simp only [plC, List.map_cons, hasK, keyEq_st, findP]
    by_cases h : t = p.1
    · simp [h]
    · simp only [h, decide_false, Bool.false_or, if_false]; exact ih
theorem keysOk_pl (l : List (ByteArray × Int)) : keysOk (plC l) = true := by
  unfold keysOk plC
  rw [List.all_eq_true]
  intro e he
  obtain ⟨p, _, rfl⟩ := List.mem_map.1 he
  rfl
theorem upsert_pl {t : ByteArray} {v : Int} : ∀ {l : List (ByteArray × Int)}, findP l t = none → upsert (ST t) (I v) (plC l) = plC (l ++ [(t, v)])
  | [], _ => rfl
  | p :: r, h => by
    simp only [findP] at h
    by_cases hh : t = p.1
    · rw [if_pos hh] at h; simp at h
    · rw [if_neg hh] at h
      simp only [plC, List.map_cons, upsert, keyEq_st, hh, decide_false, cond_false, List.cons_append]
      congr 1
      exact upsert_pl h
theorem jmC_len : ∀ l : List Jm, (jmC l).length = l.length * 3
  | [] => rfl
  | j :: r => by simp [jmC, jmC_len r]; omega
theorem jmC_app : ∀ (l : List Jm) (j : Jm), jmC (l ++ [j]) = jmC l ++ [I j.at', I j.line, ST j.to]
  | [], _ => rfl
  | x :: r, j => by simp [jmC, jmC_app r j]
theorem insC_app : ∀ (l : List Ins) (x : Ins), insC (l ++ [x]) = insC l ++ insC [x]
  | [], _ => rfl
  | y :: r, x => by simp [insC, insC_app r x]
theorem plain_jmC : ∀ l : List Jm, PlainL (jmC l)
  | [], x, hx => by simp [jmC] at hx
  | y :: r, x, hx => by
    simp only [jmC, List.mem_cons] at hx
    rcases hx with rfl | rfl | rfl | hx
    · rfl
    · rfl
    · rfl
    · exact plain_jmC r x hx
theorem plain_pl (l : List (ByteArray × Int)) : PlainL ((plC l).map (·.1)) ∧ PlainL ((plC l).map (·.2)) := by
  constructor
  · intro x hx
    simp only [plC, List.map_map, List.mem_map, Function.comp_apply] at hx
    obtain ⟨p, _, rfl⟩ := hx
    rfl
  · intro x hx
    simp only [plC, List.map_map, List.mem_map, Function.comp_apply] at hx
    obtain ⟨p, _, rfl⟩ := hx
    rfl
theorem plr (out : List Ins) (pl : List (ByteArray × Int)) (js : List Jm) : PLR (insC out) (plC pl) (jmC js) := ⟨plain_insC out, plain_pl pl, plain_jmC js, trivial⟩
theorem nth_jmC : ∀ {l : List Jm} {i : Nat} (h : i < l.length), nth (jmC l) (i * 3) = some (I l[i].at') ∧ nth (jmC l) (i * 3 + 1) = some (I l[i].line) ∧ nth (jmC l) (i * 3 + 2) = some (ST l[i].to)
  | p :: r, 0, _ => ⟨rfl, rfl, rfl⟩
  | p :: r, i + 1, h => by
    have := nth_jmC (l := r) (i := i) (by simpa using h)
    have e : (i + 1) * 3 = i * 3 + 1 + 1 + 1 := by omega
    rw [e]
    exact this
theorem jm_read {l : List Jm} {i : Nat} (h : i < l.length) : jA (jmC l) (i : Int) = l[i].at' ∧ jL (jmC l) (i : Int) = l[i].line ∧ jT (jmC l) (i : Int) = l[i].to ∧ okJ (jmC l) (i : Int) = true := by
  obtain ⟨h1, h2, h3⟩ := nth_jmC h
  simp only [jA, jL, jT, okJ, Int.toNat_natCast, Nat.zero_add, Nat.add_zero, h1, h2, h3]
  refine ⟨rfl, rfl, rfl, ?_⟩
  rw [Nat.ble_eq_true_of_le (by rw [jmC_len]; omega)]
  rfl
/-- A program with another number at a place. -/
def setI : List Ins → Nat → Int → List Ins
  | [], _, _ => []
  | x :: r, 0, v => { x with imm := v } :: r
  | x :: r, n + 1, v => x :: setI r n v
theorem setI_len : ∀ (l : List Ins) (n : Nat) (v : Int), (setI l n v).length = l.length
  | [], _, _ => rfl
  | x :: r, 0, v => rfl
  | x :: r, n + 1, v => by simp [setI, setI_len r n v]
theorem splice_insC : ∀ {l : List Ins} {n : Nat} {v : Int}, n < l.length → splice (insC l) (n * 4 + 3) [I v] = insC (setI l n v)
  | x :: r, 0, v, _ => by simp [splice, insC, setI]
  | x :: r, n + 1, v, h => by
    have ih := splice_insC (l := r) (n := n) (v := v) (by simpa using h)
    have e : (n + 1) * 4 + 3 = n * 4 + 3 + 1 + 1 + 1 + 1 := by omega
    rw [e]
    simp only [splice, insC, setI, List.take_succ_cons, List.cons_append, List.length_singleton] at ih ⊢
    rw [← ih, show n * 4 + 3 + 1 + 1 + 1 + 1 + 1 = n * 4 + 3 + 1 + 1 + 1 + 1 + 1 from rfl]
    simp [List.drop_succ_cons]
theorem ok_insC {l : List Ins} {n : Nat} (h : n < l.length) : ok4 (insC l) (n : Int) = true ∧ r4 (insC l) (n : Int) = right l[n] := by
  obtain ⟨h1, h2, h3, h4⟩ := nth_insC h
  simp only [ok4, r4, at4, Int.toNat_natCast, Nat.zero_add, Nat.add_zero, h1, h2, h3, h4]
  rw [Nat.ble_eq_true_of_le (by rw [insC_len]; omega)]
  exact ⟨rfl, rfl⟩
/-- The first jump to a name that isn't there. -/
def missP (pl : List (ByteArray × Int)) : List Jm → Option Int
  | [] => none
  | j :: r => if (findP pl j.to).isSome then missP pl r else some j.line
/-- The jumps, set; the line of the first that may not be. -/
def fixP (pl : List (ByteArray × Int)) : List Jm → List Ins → List Ins × Option Int
  | [], out => (out, none)
  | j :: r, out => if right ((setI out j.at' ((findP pl j.to).getD 0)).getD j.at' ⟨0, 0, 0, 0⟩) then fixP pl r (setI out j.at' ((findP pl j.to).getD 0)) else (setI out j.at' ((findP pl j.to).getD 0), some j.line)
/-- resolve: the program; the line that is wrong, and why. -/
def resP (pl : List (ByteArray × Int)) (js : List Jm) (out : List Ins) : List Ins × Option (Int × Int) := match missP pl js with
  | some n => (out, some (n, 8))
  | none => match fixP pl js out with
    | (o, some n) => (o, some (n, 11))
    | (o, none) => (o, none)
abbrev PX34 (K : List Value → AHeap → Prop) : Post := retT Tryd.prog.globals.size nt34 K
abbrev Sem34 (w0 : World) (K : List Value → AHeap → Prop) (t : List Item) (fr : List AV) (h : AHeap) : Prop := Agm.Sem Tryd.prog w0 (Tryd.prog.globals.size + nt34.flags.length) Tryd.f19 (PX34 K) t fr h
theorem leaf34 {K : List Value → AHeap → Prop} : ∀ t fr h, (match t with
    | .code (.region 2 _ _) :: _ => canonT G nt34 (Sem34 w0 K t) fr h
    | .code (.region 9 _ _) :: _ => canonT G nt34 (Sem34 w0 K t) fr h
    | _ => False) → Sem34 w0 K t fr h := by
  intro t fr h e
  split at e
  · exact canonT_semN (nt := nt34) rfl e
  · exact canonT_semN (nt := nt34) rfl e
  · exact e.elim
theorem okNo : ∀ c ∈ ([] : List Con), c.ok Tryd.prog w0 := fun c hc => by simp at hc
theorem ok34 : ∀ c ∈ [con29], c.ok Tryd.prog w0 := fun c hc => by
  simp only [List.mem_cons, List.not_mem_nil, or_false] at hc
  subst hc
  exact con29_ok
theorem sameW_true (b n s : Nat) : sameW b n s = true := by simp [veq]
section
variable {K : List Value → AHeap → Prop} {pl : List (ByteArray × Int)} {js : List Jm} {ln : Int}
noncomputable abbrev rdS (out : List Ins) (pl : List (ByteArray × Int)) (js : List Jm) (ln : Int) : List (Option ABlk) := rdB out.length (insC out) (plC pl) js.length (jmC js) ln
theorem loopB (hk : js.length ≤ 1000000) : ∀ (m : Nat) (i : Nat) (out : List Ins), i + m = js.length → (∀ j ∈ js, j.at' < out.length ∧ (findP pl j.to).isSome = true) →
    (match fixP pl (js.drop i) out with
      | (o, some n) => K [I n, .iface 40 (I 11)] (heapB G (rdS o pl js ln))
      | (o, none) => K [I 0, .nilIface] (heapB G (rdS o pl js ln))) → Sem34 w0 K todo34b (fr34b js.length i) (heapB G (rdS out pl js ln)) := by
  intro m
  induction m with
  | zero =>
    intro i out hi hj hK
    refine seg_semI3 (F := ft34) mixed (callsOf_ok ok34) leaf34 [2, 9] 20 200 ((headB34 i _ _ _ _ _ ln K (Sem34 w0 K)).mpr ?_)
    rw [decide_eq_false (show ¬ (i : Int) < (js.length : Int) by omega), cond_false]
    rw [List.drop_of_length_le (by omega)] at hK
    exact ⟨plr _ _ _, hK⟩
  | succ m ih =>
    intro i out hi hj hK
    refine seg_semI3 (F := ft34) mixed (callsOf_ok ok34) leaf34 [2, 9] 20 200 ((headB34 i _ _ _ _ _ ln K (Sem34 w0 K)).mpr ?_)
    have hlt : i < js.length := by omega
    obtain ⟨e1, e2, e3, e4⟩ := jm_read hlt
    obtain ⟨h1, h2⟩ := hj js[i] (List.getElem_mem hlt)
    rw [decide_eq_true (show (i : Int) < (js.length : Int) by omega), decide_eq_true (show (0 : Int) ≤ (i : Int) by omega), e1, e3, e4, keysOk_pl, hasK_pl, h2, getK_pl]
    obtain ⟨v, hv⟩ := Option.isSome_iff_exists.1 h2
    have hw : w ((i : Int) + 1) = ((i + 1 : Nat) : Int) := by rw [w_id (by omega) (by omega)]; omega
    have hd : js.drop i = js[i] :: js.drop (i + 1) := List.drop_eq_getElem_cons hlt
    rw [hd] at hK
    simp only [fixP, hv, Option.getD_some] at hK
    have hs : splice (insC out) (at4 (js[i].at' : Int) 3) [I v] = insC (setI out js[i].at' v) := by
      rw [at4, Int.toNat_natCast, Nat.zero_add]; exact splice_insC h1
    have hset : js[i].at' < (setI out js[i].at' v).length := by rw [setI_len]; exact h1
    obtain ⟨g1, g2⟩ := ok_insC hset
    simp only [hv, Option.map_some, setB, e2, beq_self_eq_true, Bool.true_and, sameW_true, cond_true, intO, hs, g1, g2,
      decide_eq_true (show (0 : Int) ≤ (js[i].at' : Int) by omega), decide_eq_true (show (js[i].at' : Int) < (out.length : Int) by omega), hw]
    rw [show okI .i64 (some (I v)) = true from rfl, cond_true, Nat.ble_eq_true_of_le (show at4 (js[i].at' : Int) 3 + 1 ≤ (insC out).length by rw [at4, Int.toNat_natCast, insC_len]; omega), cond_true]
    rw [show (setI out js[i].at' v).getD js[i].at' ⟨0, 0, 0, 0⟩ = (setI out js[i].at' v)[js[i].at'] by rw [List.getD_eq_getElem?_getD, List.getElem?_eq_getElem hset]; rfl] at hK
    refine ⟨⟨trivial, trivial, trivial⟩, ?_⟩
    cases hr : right (setI out js[i].at' v)[js[i].at'] with
    | false =>
      rw [hr] at hK
      simp only [Bool.not_false, cond_true]
      refine ⟨plr _ _ _, ?_⟩
      have hK' : K [I js[i].line, .iface 40 (I 11)] (heapB G (rdS (setI out js[i].at' v) pl js ln)) := hK
      rw [rdS, setI_len] at hK'
      exact hK'
    | true =>
      rw [hr] at hK
      simp only [Bool.not_true, cond_false]
      refine ⟨plr _ _ _, ?_⟩
      have := ih (i + 1) (setI out js[i].at' v) (by omega) (fun j hjm => by rw [setI_len]; exact hj j hjm) hK
      rw [rdS, setI_len] at this
      exact this
end
end
section
open Go.Agm
variable {w0 : World}
def errV : Option (Int × Int) → List Value
  | some (n, e) => [I n, .iface 40 (I e)]
  | none => [I 0, .nilIface]
section
variable {K : List Value → AHeap → Prop} {pl : List (ByteArray × Int)} {js : List Jm} {ln : Int}
theorem miss_none : ∀ {l : List Jm}, missP pl l = none → ∀ j ∈ l, (findP pl j.to).isSome = true
  | [], _, j, h => by simp at h
  | x :: r, h, j, hj => by
    unfold missP at h
    split at h
    · rename_i hx
      rcases List.mem_cons.1 hj with rfl | hj
      · exact hx
      · exact miss_none h j hj
    · simp at h
theorem loopA {out : List Ins} (hk : js.length ≤ 1000000) (hat : ∀ j ∈ js, j.at' < out.length) : ∀ (m : Nat) (i : Nat), i + m = js.length → (∀ j ∈ js.take i, (findP pl j.to).isSome = true) →
    (match missP pl (js.drop i) with
      | some n => K (errV (some (n, 8))) (heapB G (rdS out pl js ln))
      | none => K (errV (resP pl js out).2) (heapB G (rdS (resP pl js out).1 pl js ln))) → missP pl js = missP pl (js.drop i) → Sem34 w0 K todo34a (fr34a js.length i) (heapB G (rdS out pl js ln)) := by
  intro m
  induction m with
  | zero =>
    intro i hi hf hK hm
    refine seg_semI3 (F := ft34) mixed (callsOf_ok okNo) leaf34 [2, 9] 20 200 ((headA34 i _ _ _ _ _ ln K (Sem34 w0 K)).mpr ?_)
    rw [decide_eq_false (show ¬ (i : Int) < (js.length : Int) by omega), cond_false]
    rw [List.drop_of_length_le (by omega)] at hK hm
    rw [List.take_of_length_le (by omega)] at hf
    refine ⟨plr _ _ _, loopB hk js.length 0 out (by omega) (fun j hj => ⟨hat j hj, hf j hj⟩) ?_⟩
    have hK' : K (errV (resP pl js out).2) (heapB G (rdS (resP pl js out).1 pl js ln)) := hK
    have hm' : missP pl js = none := hm
    rw [List.drop_zero]
    unfold resP at hK'
    rw [hm'] at hK'
    cases h : fixP pl js out with
    | mk o r =>
      rw [h] at hK'
      cases r with
      | none => exact hK'
      | some n => exact hK'
  | succ m ih =>
    intro i hi hf hK hm
    refine seg_semI3 (F := ft34) mixed (callsOf_ok okNo) leaf34 [2, 9] 20 200 ((headA34 i _ _ _ _ _ ln K (Sem34 w0 K)).mpr ?_)
    have hlt : i < js.length := by omega
    obtain ⟨e1, e2, e3, e4⟩ := jm_read hlt
    have hd : js.drop i = js[i] :: js.drop (i + 1) := List.drop_eq_getElem_cons hlt
    rw [hd] at hK hm
    rw [decide_eq_true (show (i : Int) < (js.length : Int) by omega), decide_eq_true (show (0 : Int) ≤ (i : Int) by omega), e2, e3, e4, keysOk_pl, hasK_pl, getK_pl]
    have hw : w ((i : Int) + 1) = ((i + 1 : Nat) : Int) := by rw [w_id (by omega) (by omega)]; omega
    cases hs : findP pl js[i].to with
    | none =>
      have hmiss : missP pl (js[i] :: js.drop (i + 1)) = some js[i].line := by simp [missP, hs]
      rw [hmiss] at hK
      exact ⟨plr _ _ _, hK⟩
    | some v =>
      have hmiss : missP pl (js[i] :: js.drop (i + 1)) = missP pl (js.drop (i + 1)) := by simp [missP, hs]
      rw [hmiss] at hK hm
      simp only [Option.isSome_some, Option.map_some, cond_true, Bool.true_and, hw]
      refine ⟨plr _ _ _, ih (i + 1) (by omega) (fun j hj => ?_) hK hm⟩
      rw [List.take_succ_eq_append_getElem hlt] at hj
      rcases List.mem_append.1 hj with hj | hj
      · exact hf j hj
      · rw [List.mem_singleton.1 hj, hs]; rfl
set_option maxRecDepth 100000 in
theorem res34 {out : List Ins} (hk : js.length ≤ 1000000) (hat : ∀ j ∈ js, j.at' < out.length) (hK : K (errV (resP pl js out).2) (heapB G (rdS (resP pl js out).1 pl js ln))) :
    Sem34 w0 K [.code (Tryd.f19.body.getD .skip)] (startF Tryd.f19 [PT G]) (heapB G (rdS out pl js ln)) := by
  refine seg_semI3 (F := ft34) mixed (callsOf_ok okNo) leaf34 [2, 9] 20 200 ((start34 _ _ _ _ _ ln K (Sem34 w0 K)).mpr ⟨plr _ _ _, ?_⟩)
  have hm0 : missP pl js = missP pl (js.drop 0) := by rw [List.drop_zero]
  have hf0 : ∀ j ∈ js.take 0, (findP pl j.to).isSome = true := fun j hj => by simp at hj
  have h0 : 0 + js.length = js.length := Nat.zero_add _
  have ev := loopA (w0 := w0) (K := K) (ln := ln) hk hat js.length 0 h0 hf0
  refine ev ?_ hm0
  rw [List.drop_zero]
  cases hm : missP pl js with
  | none => exact hK
  | some n =>
    unfold resP at hK
    rw [hm] at hK
    exact hK
end
noncomputable def con34 (out : List Ins) (pl : List (ByteArray × Int)) (js : List Jm) (ln : Int) (o : List Ins) (rs : List Value) : Con := { f := 19, gh := ghR 0, paths := ptR 0, spec := fun args bs => some (args = [PT G] ∧ bs = rdS out pl js ln ∧ js.length ≤ 1000000 ∧ (∀ j ∈ js, j.at' < out.length) ∧ (resP pl js out).1 = o ∧ errV (resP pl js out).2 = rs, rs, [false, true, true, true].zip (rdS o pl js ln)) }
set_option maxRecDepth 100000 in
theorem con34_ok (out : List Ins) (pl : List (ByteArray × Int)) (js : List Jm) (ln : Int) (o : List Ins) (rs : List Value) : (con34 out pl js ln o rs).ok Tryd.prog w0 := by
  intro args bs p rs' out' e hp
  simp only [con34, Option.some.injEq, Prod.mk.injEq] at e
  obtain ⟨rfl, rfl, rfl⟩ := e
  obtain ⟨rfl, rfl, h1, h2, rfl, rfl⟩ := hp
  change CallS Tryd.prog w0 19 [PT G] (heapB Tryd.prog.globals.size (rdS out pl js ln)) fun rs' h' => rs' = errV (resP pl js out).2 ∧ h' = heapB Tryd.prog.globals.size (rdS (resP pl js out).1 pl js ln)
  have hn : (heapB Tryd.prog.globals.size (rdS out pl js ln)).next = Tryd.prog.globals.size + nt34.flags.length := by rw [heapB_next]; rfl
  refine retT_call (nt := nt34) hn (call_sem (cd := Tryd.f19.body.getD .skip) Tryd.func19 (by kernel_rfl) ?_)
  rw [hn]
  exact res34 h1 h2 ⟨rfl, rfl⟩
end
section
open Go.Agm
variable {w0 : World}
abbrev obl34 (out o : List Ins) (pl : List (ByteArray × Int)) (js : List Jm) (ln : Int) (rs : List Value) : Prop :=
  PLR (insC out) (plC pl) (jmC js) ∧ PLR (insC o) (plC pl) (jmC js) ∧ [PT G] = [PT G] ∧ rdS out pl js ln = rdS out pl js ln ∧ js.length ≤ 1000000 ∧ (∀ (j : Jm), j ∈ js → j.at' < out.length) ∧ (resP pl js out).1 = o ∧ errV (resP pl js out).2 = rs
theorem rtailO (out o : List Ins) (pl : List (ByteArray × Int)) (js : List Jm) (ln : Int) (K : List Value → AHeap → Prop) (L : List Item → List AV → AHeap → Prop) :
    seg12 nt12 [con34 out pl js ln o [I 0, .nilIface]] K L todo12b fr12b (heapB G (rdS out pl js ln))
    = (obl34 out o pl js ln [I 0, .nilIface] ∧ (PlainL (insC o) ∧ True) ∧ K [SL G o.length 4, I 0, .nilIface] (heapB G [some (.cells (insC o) true)])) := by kernel_rfl
theorem rtailE (out o : List Ins) (pl : List (ByteArray × Int)) (js : List Jm) (ln n e : Int) (K : List Value → AHeap → Prop) (L : List Item → List AV → AHeap → Prop) :
    seg12 nt12 [con34 out pl js ln o [I n, .iface 40 (I e)]] K L todo12b fr12b (heapB G (rdS out pl js ln))
    = (obl34 out o pl js ln [I n, .iface 40 (I e)] ∧ (PlainL [] ∧ True) ∧ K [SL G 0 4, I n, .iface 40 (I e)] (heapB G [some (.cells [] true)])) := by kernel_rfl
/-- What is read so far. -/
structure Ps where
  out : List Ins
  pl : List (ByteArray × Int)
  js : List Jm
  ln : Int
def insLine (p : Ps) (ln : Int) (l : ByteArray) : Except Int Ps :=
  bif !(insO l).ok then .error 4 else bif !right (insO l).x then .error 11 else bif decide ((p.out.length : Int) ≥ 128) then .error 10
  else .ok { out := p.out ++ [(insO l).x], pl := p.pl, js := bif !eqS (insO l).to noS then p.js ++ [⟨p.out.length, ln, (insO l).to⟩] else p.js, ln := ln }
def lineP (p : Ps) (ln : Int) (l : ByteArray) : Except Int Ps :=
  bif sufO l coB && namedB (sufA l coB) then
    (match findP p.pl (sufA l coB) with
    | some _ => .error 9
    | none => .ok { p with pl := p.pl ++ [(sufA l coB, (p.out.length : Int))], ln := ln })
  else insLine p ln l
/-- The text of a program: what is wrong, or the program. -/
def parP : Nat → Ps → ByteArray → Option (Int × Int) × List Ins
  | 0, _, _ => (none, [])
  | m + 1, p, s => bif !eqS s noS then
      bif !cutO s nlB then (some (p.ln + 1, 4), [])
      else match lineP p (p.ln + 1) (cutA s nlB) with
        | .error e => (some (p.ln + 1, e), [])
        | .ok p' => parP m p' (cutB s nlB)
    else match resP p.pl p.js p.out with
      | (_, some e) => (some e, [])
      | (o, none) => (none, o)
def parseP (s : ByteArray) : Option (Int × Int) × List Ins := parP (s.size + 1) ⟨[], [], [], 0⟩ s
abbrev PX12 (K : List Value → AHeap → Prop) : Post := retT Tryd.prog.globals.size nt12 K
abbrev Sem12 (w0 : World) (K : List Value → AHeap → Prop) (t : List Item) (fr : List AV) (h : AHeap) : Prop := Agm.Sem Tryd.prog w0 (Tryd.prog.globals.size + nt12.flags.length) Tryd.f9 (PX12 K) t fr h
theorem leaf12 {K : List Value → AHeap → Prop} : ∀ t fr h, (match t with
    | .code (.region 2 _ _) :: _ => canonT G nt12A (Sem12 w0 K t) fr h
    | .code (.region 11 _ _) :: _ => canonT G nt12A (Sem12 w0 K t) fr h
    | _ => False) → Sem12 w0 K t fr h := by
  intro t fr h e
  split at e
  · exact canonT_semN (nt := nt12A) rfl e
  · exact canonT_semN (nt := nt12A) rfl e
  · exact e.elim
theorem ok12 (hL : Lw w0) : ∀ c ∈ [con32, con63, con64, con65, con29], c.ok Tryd.prog w0 := fun c hc => by
  simp only [List.mem_cons, List.not_mem_nil, or_false] at hc
  rcases hc with rfl | rfl | rfl | rfl | rfl
  · exact con32_ok hL.lz hL.sz
  · exact con63_ok hL.lz hL.sz
  · exact con64_ok hL.lz hL.sz
  · exact con65_ok hL
  · exact con29_ok
structure PsOk (p : Ps) : Prop where
  len : p.out.length ≤ 128
  jl : p.js.length ≤ p.out.length
  at' : ∀ j ∈ p.js, j.at' < p.out.length
  ln : 0 ≤ p.ln
section
variable {K : List Value → AHeap → Prop}
abbrev KP (K : List Value → AHeap → Prop) (r : Option (Int × Int) × List Ins) : Prop := K (SL G r.2.length 4 :: errV r.1) (heapB G [some (.cells (insC r.2) true)])
set_option maxRecDepth 100000 in
theorem end12 {p : Ps} (hp : PsOk p) (hK : KP K (match resP p.pl p.js p.out with
      | (_, some e) => (some e, [])
      | (o, none) => (none, o))) : Sem12 w0 K todo12b fr12b (heapB G (rdS p.out p.pl p.js p.ln)) := by
  cases h : resP p.pl p.js p.out with
  | mk o e =>
    rw [h] at hK
    have hc : ∀ rs, ∀ c ∈ [con34 p.out p.pl p.js p.ln o rs], c.ok Tryd.prog w0 := fun rs c hc => by
      simp only [List.mem_cons, List.not_mem_nil, or_false] at hc
      subst hc
      exact con34_ok _ _ _ _ _ _
    have hj : p.js.length ≤ 1000000 := by have := hp.jl; have := hp.len; omega
    cases e with
    | none =>
      refine seg_semI3 (F := ft12) mixed (callsOf_ok (hc _)) leaf12 [2, 11] 20 200 ((rtailO p.out o p.pl p.js p.ln K (Sem12 w0 K)).mpr ⟨⟨plr _ _ _, plr _ _ _, rfl, rfl, hj, hp.at', by rw [h], by rw [h]; rfl⟩, ⟨plain_insC o, trivial⟩, hK⟩)
    | some ne =>
      obtain ⟨n, e⟩ := ne
      refine seg_semI3 (F := ft12) mixed (callsOf_ok (hc _)) leaf12 [2, 11] 20 200 ((rtailE p.out o p.pl p.js p.ln n e K (Sem12 w0 K)).mpr ⟨⟨plr _ _ _, plr _ _ _, rfl, rfl, hj, hp.at', by rw [h], by rw [h]; rfl⟩, ⟨plain_insC [], trivial⟩, hK⟩)
theorem take_insC (l : List Ins) : ((insC l).drop 0).take (l.length * 4) = insC l := by rw [List.drop_zero, List.take_of_length_le (by rw [insC_len]; exact Nat.le_refl _)]
theorem take_jmC (l : List Jm) : ((jmC l).drop 0).take (l.length * 3) = jmC l := by rw [List.drop_zero, List.take_of_length_le (by rw [jmC_len]; exact Nat.le_refl _)]
theorem room_ok {n : Nat} (h : n ≤ 1000) : room n 32 = true := Nat.ble_eq_true_of_le (by omega)
theorem insT_ok {p : Ps} {ln : Int} {l r : ByteArray} (hp : PsOk p) (hl : l.size ≤ 1000000) (herr : ∀ e, insLine p ln l = .error e → KP K (some (ln, e), []))
    (hok : ∀ p', insLine p ln l = .ok p' → Sem12 w0 K todo12a (fr12a r) (heapB G (rdS p'.out p'.pl p'.js p'.ln))) : insT p.out.length (insC p.out) (plC p.pl) p.js.length (jmC p.js) ln K (Sem12 w0 K) l r := by
  unfold insLine at herr hok
  refine ⟨⟨trivial, trivial, hl⟩, ?_⟩
  cases h1 : (insO l).ok with
  | false =>
    simp only [h1, Bool.not_false, cond_true] at herr ⊢
    exact ⟨⟨plain_insC [], trivial⟩, herr 4 rfl⟩
  | true =>
    simp only [h1, Bool.not_true, cond_false] at herr hok ⊢
    refine ⟨⟨trivial, trivial, trivial⟩, ?_⟩
    rw [show r29 (insO l).x.op (insO l).x.d (insO l).x.s (insO l).x.imm = right (insO l).x from rfl]
    cases h2 : right (insO l).x with
    | false =>
      simp only [h2, Bool.not_false, cond_true] at herr ⊢
      exact ⟨⟨plain_insC [], trivial⟩, herr 11 rfl⟩
    | true =>
      simp only [h2, Bool.not_true, cond_false] at herr hok ⊢
      have hlen := hp.len
      have hjl := hp.jl
      cases h3 : decide ((p.out.length : Int) ≥ 128) with
      | true =>
        simp only [h3, cond_true] at herr ⊢
        exact ⟨⟨plain_insC [], trivial⟩, herr 10 rfl⟩
      | false =>
        simp only [h3, cond_false] at hok ⊢
        have hn := hok _ rfl
        rw [take_insC, take_jmC, ← insC_app]
        simp only [sameW_true, room_ok (show p.out.length + 1 ≤ 1000 by omega), room_ok (show p.js.length + 1 ≤ 1000 by omega), cond_true,
          Nat.ble_eq_true_of_le (show 0 + p.out.length * 4 ≤ (insC p.out).length by rw [insC_len]; omega), Nat.ble_eq_true_of_le (show 0 + p.js.length * 3 ≤ (jmC p.js).length by rw [jmC_len]; omega)]
        cases h4 : eqS (insO l).to noS with
        | true =>
          simp only [h4, Bool.not_true, cond_false] at hn ⊢
          rw [rdS, List.length_append, List.length_singleton] at hn
          exact ⟨plr _ _ _, hn⟩
        | false =>
          simp only [h4, Bool.not_false, cond_true] at hn ⊢
          rw [rdS, List.length_append, List.length_append, List.length_singleton, List.length_singleton, jmC_app] at hn
          refine ⟨?_, hn⟩
          have := plr (p.out ++ [(insO l).x]) p.pl (p.js ++ [⟨p.out.length, ln, (insO l).to⟩])
          rw [jmC_app] at this
          exact this
theorem line_ok {p p' : Ps} {ln : Int} {l : ByteArray} (hp : PsOk p) (h0 : 0 ≤ ln) (h : lineP p ln l = .ok p') : PsOk p' ∧ p'.ln = ln := by
  unfold lineP at h
  cases hc : sufO l coB && namedB (sufA l coB) with
  | true =>
    rw [hc, cond_true] at h
    cases hf : findP p.pl (sufA l coB) with
    | some _ => rw [hf] at h; simp at h
    | none =>
      rw [hf] at h
      injection h with h
      subst h
      exact ⟨⟨hp.len, hp.jl, hp.at', h0⟩, rfl⟩
  | false =>
    rw [hc, cond_false] at h
    unfold insLine at h
    cases h1 : (insO l).ok with
    | false => rw [h1] at h; simp at h
    | true => cases h2 : right (insO l).x with
      | false => rw [h1, h2] at h; simp at h
      | true => cases h3 : decide ((p.out.length : Int) ≥ 128) with
        | true => rw [h1, h2, h3] at h; simp at h
        | false =>
          rw [h1, h2, h3] at h
          simp only [Bool.not_true, cond_false] at h
          injection h with h
          subst h
          have h3' : ¬ ((p.out.length : Int) ≥ 128) := by simpa using h3
          have hjl := hp.jl
          refine ⟨⟨?_, ?_, ?_, h0⟩, rfl⟩
          · simp only [List.length_append, List.length_singleton]; omega
          · simp only [List.length_append, List.length_singleton]
            cases eqS (insO l).to noS with
            | true => simp only [Bool.not_true, cond_false]; omega
            | false => simp only [Bool.not_false, cond_true, List.length_append, List.length_singleton]; omega
          · intro j hj
            simp only [List.length_append, List.length_singleton]
            cases h4 : eqS (insO l).to noS with
            | true =>
              rw [h4] at hj
              have := hp.at' j hj
              omega
            | false =>
              rw [h4] at hj
              rcases List.mem_append.1 hj with hj | hj
              · have := hp.at' j hj; omega
              · rw [List.mem_singleton.1 hj]; simp
theorem size_of (l : List UInt8) : (ByteArray.mk l.toArray).size = l.length := by simp [ByteArray.size]
theorem cutA_size (s : ByteArray) : (cutA s nlB).size ≤ s.size := by
  unfold cutA Lib.cut
  rw [Lib.size_eq s]
  split
  · rw [size_of, List.length_take]; omega
  · rw [size_of]; exact Nat.le_refl _
theorem cutB_size {s : ByteArray} (h : cutO s nlB = true) (hs : s.size ≠ 0) : (cutB s nlB).size < s.size := by
  unfold cutO Lib.cut at h
  unfold cutB Lib.cut
  rw [Lib.size_eq s] at hs ⊢
  split at h
  · rename_i hi
    rw [if_pos hi, size_of, List.length_drop, show nlB.data.toList.length = 1 from rfl]
    omega
  · simp at h
theorem loop12 (hL : Lw w0) : ∀ (m : Nat) (s : ByteArray) (p : Ps), s.size < m → PsOk p → p.ln + s.size ≤ 1000000 → KP K (parP m p s) → Sem12 w0 K todo12a (fr12a s) (heapB G (rdS p.out p.pl p.js p.ln)) := by
  intro m
  induction m with
  | zero => intro s p h; omega
  | succ m ih =>
    intro s p hm hp hln hK
    refine seg_semI3 (F := ft12) mixed (callsOf_ok (ok12 hL)) leaf12 [2, 11] 20 200 ((head12 s _ _ _ _ _ p.ln K (Sem12 w0 K)).mpr ?_)
    have hl0 := hp.ln
    have hw : w (p.ln + 1) = p.ln + 1 := w_id (by omega) (by omega)
    unfold parP at hK
    cases h0 : eqS s noS with
    | true =>
      rw [h0] at hK
      simp only [Bool.not_true, cond_false] at hK ⊢
      exact ⟨plr _ _ _, end12 hp hK⟩
    | false =>
      rw [h0] at hK
      simp only [Bool.not_false, cond_true] at hK ⊢
      have hsz : s.size ≤ 1000000 := by omega
      have hA := cutA_size s
      refine ⟨⟨trivial, trivial, hsz⟩, ?_⟩
      cases h1 : cutO s nlB with
      | false =>
        rw [h1] at hK
        simp only [Bool.not_false, cond_true, hw] at hK ⊢
        exact ⟨⟨plain_insC [], trivial⟩, hK⟩
      | true =>
        rw [h1] at hK
        simp only [Bool.not_true, cond_false, hw] at hK ⊢
        have hne : s.size ≠ 0 := fun h => by
          have : s = noS := by
            obtain ⟨⟨l⟩⟩ := s
            cases l with
            | nil => rfl
            | cons a l => simp [ByteArray.size] at h
          rw [this] at h0
          exact absurd (eqS_iff.2 rfl) (by rw [h0]; simp)
        have hB := cutB_size h1 hne
        refine ⟨⟨trivial, trivial, by omega⟩, ?_⟩
        have next : ∀ p', lineP p (p.ln + 1) (cutA s nlB) = .ok p' → Sem12 w0 K todo12a (fr12a (cutB s nlB)) (heapB G (rdS p'.out p'.pl p'.js p'.ln)) := fun p' hp' => by
          obtain ⟨g1, g2⟩ := line_ok hp (by omega) hp'
          rw [hp'] at hK
          exact ih (cutB s nlB) p' (by omega) g1 (by rw [g2]; omega) hK
        have stop : ∀ e, lineP p (p.ln + 1) (cutA s nlB) = .error e → KP K (some (p.ln + 1, e), []) := fun e he => by
          rw [he] at hK
          exact hK
        have viaI : (bif sufO (cutA s nlB) coB && namedB (sufA (cutA s nlB) coB) then true else false) = false → insT p.out.length (insC p.out) (plC p.pl) p.js.length (jmC p.js) (p.ln + 1) K (Sem12 w0 K) (cutA s nlB) (cutB s nlB) := fun hc => by
          have hc' : (sufO (cutA s nlB) coB && namedB (sufA (cutA s nlB) coB)) = false := by
            cases hh : sufO (cutA s nlB) coB && namedB (sufA (cutA s nlB) coB) with
            | false => rfl
            | true => rw [hh] at hc; simp at hc
          refine insT_ok hp (by omega) (fun e he => stop e ?_) (fun p' he => next p' ?_)
          · unfold lineP; rw [hc', cond_false]; exact he
          · unfold lineP; rw [hc', cond_false]; exact he
        cases h2 : sufO (cutA s nlB) coB with
        | false => exact viaI (by rw [h2]; rfl)
        | true =>
          refine ⟨⟨trivial, trivial, trivial⟩, ?_⟩
          cases h3 : namedB (sufA (cutA s nlB) coB) with
          | false => exact viaI (by rw [h2, h3]; rfl)
          | true =>
            simp only [cond_true, keysOk_pl, hasK_pl, getK_pl]
            cases h4 : findP p.pl (sufA (cutA s nlB) coB) with
            | some v =>
              have := stop 9 (by unfold lineP; rw [h2, h3, h4]; rfl)
              exact ⟨⟨plain_insC [], trivial⟩, this⟩
            | none =>
              have := next _ (by unfold lineP; rw [h2, h3, h4]; rfl)
              simp only [Option.isSome_none, cond_false, upsert_pl h4]
              exact ⟨plr _ _ _, this⟩
end
end
section
open Go.Agm
variable {w0 : World}
theorem via12 {cs : List Con} (hc : ∀ c ∈ cs, c.ok Tryd.prog w0) {K : List Value → AHeap → Prop} {t : List Item} {fr : List AV} {h : AHeap} {R : Prop} (ev : seg12 nt12 cs K (Sem12 w0 K) t fr h = R) (r : R) : Sem12 w0 K t fr h :=
  seg_semI3 (F := ft12) mixed (callsOf_ok hc) leaf12 [2, 11] 20 200 (ev.mpr r)
theorem all12 (s : ByteArray) {K : List Value → AHeap → Prop} (fin : Sem12 w0 K todo12a (fr12a s) (heapB G (rdB 0 [] [] 0 [] 0))) : Sem12 w0 K [.code (Tryd.f9.body.getD .skip)] (startF Tryd.f9 [.string s]) (heapB G []) :=
  via12 okNo (start12 s K (Sem12 w0 K)) ⟨plr [] [] [], fin⟩
noncomputable def con12p (o : List Ins) (ev : List Value) : Con := { f := 9, gh := [], paths := [], spec := fun args bs => match args, bs with
  | [.string s], [] => some (s.size ≤ 100000 ∧ (parseP s).2 = o ∧ errV (parseP s).1 = ev, SL G o.length 4 :: ev, [(true, some (.cells (insC o) true))])
  | _, _ => none }
set_option maxRecDepth 100000 in
theorem con12p_ok (hL : Lw w0) (o : List Ins) (ev : List Value) : (con12p o ev).ok Tryd.prog w0 := by
  intro args bs p rs out e hp
  simp only [con12p] at e
  split at e <;> first | (simp at e; done) | skip
  rename_i s
  simp only [Option.some.injEq, Prod.mk.injEq] at e
  obtain ⟨rfl, rfl, rfl⟩ := e
  obtain ⟨hs, rfl, rfl⟩ := hp
  change CallS Tryd.prog w0 9 [.string s] (heapB Tryd.prog.globals.size []) fun rs' h' => rs' = SL G (parseP s).2.length 4 :: errV (parseP s).1 ∧ h' = heapB Tryd.prog.globals.size [some (.cells (insC (parseP s).2) true)]
  have hn : (heapB Tryd.prog.globals.size []).next = Tryd.prog.globals.size + nt12.flags.length := by rw [heapB_next]; rfl
  refine retT_call (nt := nt12) hn (call_sem (cd := Tryd.f9.body.getD .skip) Tryd.func9 (by kernel_rfl) ?_)
  rw [hn]
  generalize hK : (fun rs' h' => rs' = SL G (parseP s).2.length 4 :: errV (parseP s).1 ∧ h' = heapB Tryd.prog.globals.size [some (.cells (insC (parseP s).2) true)] : List Value → AHeap → Prop) = K
  have hKK : KP K (parseP s) := by rw [← hK]; exact ⟨rfl, rfl⟩
  clear hK
  have h0 : PsOk ⟨[], [], [], 0⟩ := ⟨Nat.zero_le _, Nat.le_refl _, fun j hj => by simp at hj, Int.le_refl _⟩
  have h1 : (0 : Int) + s.size ≤ 1000000 := by omega
  have fin := loop12 hL (s.size + 1) s ⟨[], [], [], 0⟩ (Nat.lt_succ_self _) h0 h1 hKK
  exact all12 s fin
end
end Go.Proofs.YtkjdfkodclednaaDoor
