/- Words for the contracts of the checker's and the machine's functions. No condition. -/
import Derived.Test.YtkjdfkodclednaaDoorRows
import Derived.Test.YtkjdfkodclednaaDoorB13
import Derived.KernelRfl
namespace Go.Proofs.YtkjdfkodclednaaDoor
section
open Go.Agm

abbrev I (n : Int) : Value := .int .i64 n
abbrev B (b : Bool) : Value := .bool b
noncomputable abbrev G : Nat := Tryd.prog.globals.size
abbrev SL (b n sz : Nat) : Value := .slice (some ⟨b, 0, none⟩) n sz
abbrev PT (b : Nat) : Value := .pointer (some ⟨b, 0, none⟩)
abbrev w (n : Int) : Int := IntKind.i64.wrap n
abbrev AG (l : List Value) : Value := .agg l.toArray

def intV : Value → Option Int
  | .int .i64 n => some n
  | _ => none
theorem intV_eq {v : Value} {n : Int} (e : intV v = some n) : v = I n := by
  unfold intV at e; split at e <;> simp_all
noncomputable def isPtr (v : Value) (i : Nat) : Bool := match v with
  | .pointer (some ⟨b, off, none⟩) => Nat.beq b (G + i) && Nat.beq off 0
  | _ => false
theorem isPtr_eq {v : Value} {i : Nat} (e : isPtr v i = true) : v = PT (G + i) := by
  unfold isPtr at e
  split at e
  · rename_i b off
    simp only [Bool.and_eq_true] at e
    rw [Nat.eq_of_beq_eq_true e.1, Nat.eq_of_beq_eq_true e.2]
  · simp at e
noncomputable def slN (v : Value) (i sz : Nat) : Option Nat := match v with
  | .slice (some ⟨b, off, none⟩) n s => bif Nat.beq b (G + i) && Nat.beq off 0 && Nat.beq s sz then some n else none
  | _ => none
theorem slN_eq {v : Value} {i sz n : Nat} (e : slN v i sz = some n) : v = SL (G + i) n sz := by
  unfold slN at e
  split at e
  · rename_i b off n' s
    cases hb : (Nat.beq b (G + i) && Nat.beq off 0 && Nat.beq s sz) with
    | false => rw [hb] at e; simp at e
    | true =>
      rw [hb] at e
      simp only [cond_true, Option.some.injEq] at e
      simp only [Bool.and_eq_true] at hb
      rw [Nat.eq_of_beq_eq_true hb.1.1, Nat.eq_of_beq_eq_true hb.1.2, Nat.eq_of_beq_eq_true hb.2, e]
  · simp at e
/-- The numbers of a row of cells. -/
def intsV : List Value → Option (List Int)
  | [] => some []
  | v :: r => match intV v with
    | some n => match intsV r with
      | some l => some (n :: l)
      | none => none
    | none => none
theorem intsV_eq : ∀ {vs : List Value} {l : List Int}, intsV vs = some l → vs = l.map I
  | [], l, e => by simp [intsV] at e; subst e; rfl
  | v :: r, l, e => by
    simp only [intsV] at e
    split at e
    · rename_i n hn
      split at e
      · rename_i l' hl
        simp only [Option.some.injEq] at e
        subst e
        rw [List.map_cons, ← intsV_eq hl, intV_eq hn]
      · simp at e
    · simp at e
def aggV : Value → Option (List Int)
  | .agg cs => intsV cs.toList
  | _ => none
theorem aggV_eq {v : Value} {l : List Int} (e : aggV v = some l) : v = AG (l.map I) := by
  unfold aggV at e
  split at e
  · rename_i cs
    rw [← intsV_eq e]
  · simp at e

def ints (l : List Int) : List Value := l.map I
def int1 (v : Value) : Int := match v with
  | .int _ n => n
  | _ => 0
def unI (cs : List Value) : List Int := cs.map int1
theorem unI_ints (l : List Int) : unI (ints l) = l := by
  simp [unI, ints, int1, Function.comp_def]
theorem ints_len (l : List Int) : (ints l).length = l.length := List.length_map _
theorem plain_ints (l : List Int) : PlainL (ints l) := by
  intro x hx
  obtain ⟨n, _, rfl⟩ := List.mem_map.1 hx
  rfl
theorem nth_ints (l : List Int) (i : Nat) : nth (ints l) i = (l[i]?).map I := by rw [nth_eq, ints, List.getElem?_map]
theorem okI_ints {l : List Int} {i : Nat} (h : i < l.length) : okI .i64 (nth (ints l) i) = true := by
  rw [nth_ints, List.getElem?_eq_getElem h]; rfl
theorem intO_ints {l : List Int} {i : Nat} (h : i < l.length) : intO (nth (ints l) i) = l[i] := by
  rw [nth_ints, List.getElem?_eq_getElem h]; rfl
theorem w_id {n : Int} (h1 : -9223372036854775808 ≤ n) (h2 : n < 9223372036854775808) : w n = n := by
  have e : IntKind.i64.wrap n = if n % 18446744073709551616 ≥ 9223372036854775808 then n % 18446744073709551616 - 18446744073709551616 else n % 18446744073709551616 := by
    simp [IntKind.wrap, IntKind.bits, IntKind.signed]
  show IntKind.i64.wrap n = n
  rw [e]
  split <;> omega

def look (i : Nat) : List (Nat × AV) → AV
  | [] => .dead
  | (j, x) :: r => bif Nat.beq j i then x else look i r
/-- A frame of which some slots live. -/
def frm (n : Nat) (l : List (Nat × AV)) : List AV := (List.range n).map fun i => look i l
/-- Which slots live at the heads of loops. -/
def live (n : Nat) (l : List Nat) : List Bool := (List.range n).map fun i => l.any (Nat.beq i)
abbrev nmOf (flags : List Bool) (paths : List Pth) : Nt := { gh := [], flags := flags, paths := paths, tr := [] }
abbrev ft0 : FT := { loc := fun _ => false, mask := fun _ => [] }
abbrev noLeaf : List Item → List AV → AHeap → Prop := fun _ _ _ => False
theorem mixed : Tryd.prog.follows .mixedOrders = true := Checked.mixed Tryd.checked
theorem bifP {c : Bool} {p q : Prop} (h1 : c = true → p) (h2 : c = false → q) : bif c then p else q := by
  cases c
  · exact h2 rfl
  · exact h1 rfl

/-- A function of values alone. -/
def pureCon (f : Nat) (F : List Value → Option (List Value)) : Con := { f := f, gh := [], paths := [], spec := fun args bs => match bs with
  | [] => match F args with
    | some rs => some (True, rs, [])
    | none => none
  | _ => none }
abbrev ntP : Nt := { gh := [], flags := [], paths := [], tr := [] }
abbrev pureSeg (cs : List Con) (fn : Func) (args : List Value) (rs : List Value) : Prop :=
  segK2 Tryd.prog ft0 (semI Tryd.prog (fun _ => ft0) (callsOf G cs) 400 20 (retT G ntP fun rs' _ => rs' = rs)) fn [] 400 [.code (fn.body.getD .skip)] (startF fn args) noLeaf (heapB G [])
theorem pureS {w0 : World} {f : Nat} {fn : Func} {cs : List Con} {args rs : List Value} (hfn : Tryd.prog.funcs[f]? = some fn) (hcd : fn.body = some (fn.body.getD .skip)) (hcs : ∀ c ∈ cs, c.ok Tryd.prog w0)
    (hs : pureSeg cs fn args rs) : CallS Tryd.prog w0 f args (heapB Tryd.prog.globals.size []) fun rs' h' => rs' = rs ∧ h' = heapB Tryd.prog.globals.size [] := by
  refine con_body (nt := ntP) (out := []) (bs := []) hfn hcd rfl ?_
  refine (seg_semI (F := ft0) (leaf := noLeaf) mixed (callsOf_ok hcs) (fun _ _ _ hh => hh.elim) [] 20 400 hs).mono ?_
  intro rs2 h2 hh
  simp only [retT, canonT, canonQ, nmL, pathsG, Option.map_some, ghosts, trims] at hh ⊢
  generalize tysOk h2 (List.map (fun x => x.fst) (headN G [] ++ [])) [] = b at hh
  cases b with
  | false => exact hh.elim
  | true =>
    refine ⟨hh.1, ?_⟩
    have h3 := hh.2
    generalize valsF (List.map (invA G (List.map (fun x => x.fst) (headN G [] ++ []))) (List.map AV.v rs2)) = o at h3
    cases o with
    | none => exact h3.elim
    | some rs3 => exact ⟨h3, rfl⟩
theorem pure_ok {w0 : World} {f : Nat} {F : List Value → Option (List Value)} {fn : Func} {cs : List Con} (hfn : Tryd.prog.funcs[f]? = some fn) (hcd : fn.body = some (fn.body.getD .skip)) (hcs : ∀ c ∈ cs, c.ok Tryd.prog w0)
    (h : ∀ args rs, F args = some rs → pureSeg cs fn args rs) : (pureCon f F).ok Tryd.prog w0 := by
  intro args bs p rs out e _
  simp only [pureCon] at e
  split at e
  · split at e
    · rename_i rs' h1
      simp only [Option.some.injEq, Prod.mk.injEq] at e
      obtain ⟨_, h3, h4⟩ := e
      subst h3 h4
      exact pureS hfn hcd hcs (h args rs' h1)
    · simp at e
  · simp at e
end
section
open Go.Agm
variable {w0 : World}
def r50 (a : Int) : Bool :=
  bif decide (a ≥ 0) then decide (a < 8) else false
theorem eval50 (a : Int) (r : List Value) :
    pureSeg [] Tryd.f10 [I a] r
    = (bif decide (a ≥ 0) then True ∧ [Value.bool (decide (a < 8))] = r else True ∧ [Value.bool false] = r) := by kernel_rfl
def F50 : List Value → Option (List Value)
  | [v0] => match intV v0 with
    | some a => some [B (r50 a)]
    | _ => none
  | _ => none
theorem F50_eq {args rs : List Value} (e : F50 args = some rs) : ∃ a : Int, args = [I a] ∧ rs = [B (r50 a)] := by
  unfold F50 at e
  split at e
  · rename_i v0
    split at e
    · rename_i a h0
      simp only [Option.some.injEq] at e
      exact ⟨a, by rw [intV_eq h0], e.symm⟩
    · simp at e
  · simp at e
def con50 : Con := pureCon 10 F50
set_option maxRecDepth 100000 in
theorem con50_ok : con50.ok Tryd.prog w0 :=
  pure_ok (cs := []) Tryd.func10 (by kernel_rfl) (fun c hc => by simp at hc) fun args rs e => by
    obtain ⟨a, h1, h2⟩ := F50_eq e
    rw [h1, h2, eval50]
    repeat' (first | exact trivial | refine And.intro ?_ ?_ | refine bifP (fun h => ?_) (fun h => ?_))
    all_goals first | (simp only [r50, *, cond_true, cond_false]; done) | simp_all
def r51 (a _b _c d : Int) : Bool :=
  bif a == 6 then decide (d ≥ 0)
else
  bif a == 12 then bif decide (d ≥ 0) then decide (d < 128) else false
  else
    bif a == 13 then bif decide (d ≥ 0) then decide (d < 128) else false
    else
      bif a == 14 then bif decide (d ≥ 0) then decide (d < 128) else false
      else
        bif a == 15 then bif decide (d ≥ 0) then decide (d < 128) else false
        else
          bif a == 16 then bif decide (d ≥ 0) then decide (d < 128) else false
          else
            bif a == 17 then bif decide (d ≥ 1) then decide (d ≤ 64) else false
            else bif a == 19 then bif decide (d ≥ 1) then decide (d ≤ 3) else false else bif a == 1 then d == 0 else bif a == 2 then d == 0 else bif a == 3 then d == 0 else bif a == 18 then d == 0 else bif a == 20 then d == 0 else true
theorem eval51 (a b c d : Int) (r : List Value) :
    pureSeg [] Tryd.f11 [AG [I a, I b, I c, I d]] r
    = (bif a == 6 then True ∧ [Value.bool (decide (d ≥ 0))] = r
else
  bif a == 12 then bif decide (d ≥ 0) then True ∧ [Value.bool (decide (d < 128))] = r else True ∧ [Value.bool false] = r
  else
    bif a == 13 then bif decide (d ≥ 0) then True ∧ [Value.bool (decide (d < 128))] = r else True ∧ [Value.bool false] = r
    else
      bif a == 14 then bif decide (d ≥ 0) then True ∧ [Value.bool (decide (d < 128))] = r else True ∧ [Value.bool false] = r
      else
        bif a == 15 then bif decide (d ≥ 0) then True ∧ [Value.bool (decide (d < 128))] = r else True ∧ [Value.bool false] = r
        else
          bif a == 16 then bif decide (d ≥ 0) then True ∧ [Value.bool (decide (d < 128))] = r else True ∧ [Value.bool false] = r
          else
            bif a == 17 then bif decide (d ≥ 1) then True ∧ [Value.bool (decide (d ≤ 64))] = r else True ∧ [Value.bool false] = r
            else
              bif a == 19 then bif decide (d ≥ 1) then True ∧ [Value.bool (decide (d ≤ 3))] = r else True ∧ [Value.bool false] = r
              else
                bif a == 1 then True ∧ [Value.bool (d == 0)] = r
                else bif a == 2 then True ∧ [Value.bool (d == 0)] = r else bif a == 3 then True ∧ [Value.bool (d == 0)] = r else bif a == 18 then True ∧ [Value.bool (d == 0)] = r else bif a == 20 then True ∧ [Value.bool (d == 0)] = r else True ∧ [Value.bool true] = r) := by kernel_rfl
def F51 : List Value → Option (List Value)
  | [v0] => match aggV v0 with
    | some [a, b, c, d] => some [B (r51 a b c d)]
    | _ => none
  | _ => none
theorem F51_eq {args rs : List Value} (e : F51 args = some rs) : ∃ a b c d : Int, args = [AG [I a, I b, I c, I d]] ∧ rs = [B (r51 a b c d)] := by
  unfold F51 at e
  split at e
  · rename_i v0
    split at e
    · rename_i a b c d h0
      simp only [Option.some.injEq] at e
      exact ⟨a, b, c, d, by rw [aggV_eq h0]; rfl, e.symm⟩
    · simp at e
  · simp at e
def con51 : Con := pureCon 11 F51
set_option maxRecDepth 100000 in
theorem con51_ok : con51.ok Tryd.prog w0 :=
  pure_ok (cs := []) Tryd.func11 (by kernel_rfl) (fun c hc => by simp at hc) fun args rs e => by
    obtain ⟨a, b, c, d, h1, h2⟩ := F51_eq e
    rw [h1, h2, eval51]
    repeat' (first | exact trivial | refine And.intro ?_ ?_ | refine bifP (fun h => ?_) (fun h => ?_))
    all_goals first | (simp only [r51, *, cond_true, cond_false]; done) | simp_all
def r29 (a b c d : Int) : Bool :=
  bif !r50 b then false
else
  bif !r50 c then false
  else
    bif decide (d < -2147483648) then false
    else
      bif decide (d ≥ 2147483648) then false
      else
        bif !r51 a b c d then false
        else
          bif a == 1 then true
          else
            bif a == 2 then true
            else
              bif a == 3 then true
              else
                bif a == 7 then true
                else
                  bif a == 8 then true
                  else
                    bif a == 9 then true
                    else
                      bif a == 10 then true
                      else
                        bif a == 11 then true
                        else
                          bif a == 13 then true
                          else
                            bif a == 14 then true
                            else
                              bif a == 15 then true
                              else
                                bif a == 16 then true
                                else
                                  bif a == 12 then bif b != 0 then false else c == 0
                                  else
                                    bif a == 17 then bif b != 0 then false else c == 0
                                    else
                                      bif a == 18 then bif b != 0 then false else c == 0
                                      else bif a == 19 then bif b != 0 then false else c == 0 else bif a == 20 then bif b != 0 then false else c == 0 else bif a == 0 then c == 0 else bif a == 4 then c == 0 else bif a == 5 then c == 0 else bif a == 6 then c == 0 else false
theorem eval29 (a b c d : Int) (r : List Value) :
    pureSeg [con50, con51] Tryd.f7 [AG [I a, I b, I c, I d]] r
    = ((True ∧ True ∧ True) ∧
  bif !r50 b then True ∧ [Value.bool false] = r
  else
    (True ∧ True ∧ True) ∧
      bif !r50 c then True ∧ [Value.bool false] = r
      else
        bif decide (d < -2147483648) then True ∧ [Value.bool false] = r
        else
          bif decide (d ≥ 2147483648) then True ∧ [Value.bool false] = r
          else
            (True ∧ True ∧ True) ∧
              bif !r51 a b c d then True ∧ [Value.bool false] = r
              else
                bif a == 1 then True ∧ [Value.bool true] = r
                else
                  bif a == 2 then True ∧ [Value.bool true] = r
                  else
                    bif a == 3 then True ∧ [Value.bool true] = r
                    else
                      bif a == 7 then True ∧ [Value.bool true] = r
                      else
                        bif a == 8 then True ∧ [Value.bool true] = r
                        else
                          bif a == 9 then True ∧ [Value.bool true] = r
                          else
                            bif a == 10 then True ∧ [Value.bool true] = r
                            else
                              bif a == 11 then True ∧ [Value.bool true] = r
                              else
                                bif a == 13 then True ∧ [Value.bool true] = r
                                else
                                  bif a == 14 then True ∧ [Value.bool true] = r
                                  else
                                    bif a == 15 then True ∧ [Value.bool true] = r
                                    else
                                      bif a == 16 then True ∧ [Value.bool true] = r
                                      else
                                        bif a == 12 then bif b != 0 then True ∧ [Value.bool false] = r else True ∧ [Value.bool (c == 0)] = r
                                        else
                                          bif a == 17 then bif b != 0 then True ∧ [Value.bool false] = r else True ∧ [Value.bool (c == 0)] = r
                                          else
                                            bif a == 18 then bif b != 0 then True ∧ [Value.bool false] = r else True ∧ [Value.bool (c == 0)] = r
                                            else
                                              bif a == 19 then bif b != 0 then True ∧ [Value.bool false] = r else True ∧ [Value.bool (c == 0)] = r
                                              else
                                                bif a == 20 then bif b != 0 then True ∧ [Value.bool false] = r else True ∧ [Value.bool (c == 0)] = r
                                                else bif a == 0 then True ∧ [Value.bool (c == 0)] = r else bif a == 4 then True ∧ [Value.bool (c == 0)] = r else bif a == 5 then True ∧ [Value.bool (c == 0)] = r else bif a == 6 then True ∧ [Value.bool (c == 0)] = r else True ∧ [Value.bool false] = r) := by kernel_rfl
def F29 : List Value → Option (List Value)
  | [v0] => match aggV v0 with
    | some [a, b, c, d] => some [B (r29 a b c d)]
    | _ => none
  | _ => none
theorem F29_eq {args rs : List Value} (e : F29 args = some rs) : ∃ a b c d : Int, args = [AG [I a, I b, I c, I d]] ∧ rs = [B (r29 a b c d)] := by
  unfold F29 at e
  split at e
  · rename_i v0
    split at e
    · rename_i a b c d h0
      simp only [Option.some.injEq] at e
      exact ⟨a, b, c, d, by rw [aggV_eq h0]; rfl, e.symm⟩
    · simp at e
  · simp at e
def con29 : Con := pureCon 7 F29
set_option maxRecDepth 100000 in
theorem con29_ok : con29.ok Tryd.prog w0 :=
  pure_ok (cs := [con50, con51]) Tryd.func7 (by kernel_rfl) (fun c hc => by
    simp only [List.mem_cons, List.not_mem_nil, or_false] at hc
    rcases hc with rfl | rfl
    · exact con50_ok
    · exact con51_ok) fun args rs e => by
    obtain ⟨a, b, c, d, h1, h2⟩ := F29_eq e
    rw [h1, h2, eval29]
    repeat' (first | exact trivial | refine And.intro ?_ ?_ | refine bifP (fun h => ?_) (fun h => ?_))
    all_goals first | (simp only [r29, *, cond_true, cond_false]; done) | simp_all
def r44 (a : Int) : Bool :=
  bif decide (a ≥ 12) then decide (a ≤ 16) else false
theorem eval44 (a : Int) (r : List Value) :
    pureSeg [] Tryd.f6 [I a] r
    = (bif decide (a ≥ 12) then True ∧ [Value.bool (decide (a ≤ 16))] = r else True ∧ [Value.bool false] = r) := by kernel_rfl
def F44 : List Value → Option (List Value)
  | [v0] => match intV v0 with
    | some a => some [B (r44 a)]
    | _ => none
  | _ => none
theorem F44_eq {args rs : List Value} (e : F44 args = some rs) : ∃ a : Int, args = [I a] ∧ rs = [B (r44 a)] := by
  unfold F44 at e
  split at e
  · rename_i v0
    split at e
    · rename_i a h0
      simp only [Option.some.injEq] at e
      exact ⟨a, by rw [intV_eq h0], e.symm⟩
    · simp at e
  · simp at e
def con44 : Con := pureCon 6 F44
set_option maxRecDepth 100000 in
theorem con44_ok : con44.ok Tryd.prog w0 :=
  pure_ok (cs := []) Tryd.func6 (by kernel_rfl) (fun c hc => by simp at hc) fun args rs e => by
    obtain ⟨a, h1, h2⟩ := F44_eq e
    rw [h1, h2, eval44]
    repeat' (first | exact trivial | refine And.intro ?_ ?_ | refine bifP (fun h => ?_) (fun h => ?_))
    all_goals first | (simp only [r44, *, cond_true, cond_false]; done) | simp_all
end
section
open Go.Agm
variable {w0 : World}

/-- An instruction. -/
structure Ins where
  op : Int
  d : Int
  s : Int
  imm : Int
def insC : List Ins → List Value
  | [] => []
  | x :: r => I x.op :: I x.d :: I x.s :: I x.imm :: insC r
def unIns : List Value → List Ins
  | a :: b :: c :: d :: r => ⟨int1 a, int1 b, int1 c, int1 d⟩ :: unIns r
  | _ => []
theorem unIns_insC : ∀ l : List Ins, unIns (insC l) = l
  | [] => rfl
  | x :: r => by simp [insC, unIns, unIns_insC r, int1]
theorem insC_len : ∀ l : List Ins, (insC l).length = l.length * 4
  | [] => rfl
  | x :: r => by simp [insC, insC_len r]; omega
theorem plain_insC : ∀ l : List Ins, PlainL (insC l)
  | [], x, hx => by simp [insC] at hx
  | y :: r, x, hx => by
    simp only [insC, List.mem_cons] at hx
    rcases hx with rfl | rfl | rfl | rfl | hx
    · rfl
    · rfl
    · rfl
    · rfl
    · exact plain_insC r x hx
theorem nth_insC : ∀ {l : List Ins} {i : Nat} (h : i < l.length), nth (insC l) (i * 4) = some (I l[i].op) ∧ nth (insC l) (i * 4 + 1) = some (I l[i].d) ∧ nth (insC l) (i * 4 + 2) = some (I l[i].s) ∧ nth (insC l) (i * 4 + 3) = some (I l[i].imm)
  | p :: r, 0, _ => ⟨rfl, rfl, rfl, rfl⟩
  | p :: r, i + 1, h => by
    have := nth_insC (l := r) (i := i) (by simpa using h)
    have e : (i + 1) * 4 = i * 4 + 1 + 1 + 1 + 1 := by omega
    rw [e]
    exact this
abbrev right (x : Ins) : Bool := r29 x.op x.d x.s x.imm

/-- Four bytes of a number. -/
abbrev by4 (a : Int) : List UInt8 := [UInt8.ofNat (IntKind.u8.wrap (a.fdiv 1)).toNat, UInt8.ofNat (IntKind.u8.wrap (a.fdiv 256)).toNat, UInt8.ofNat (IntKind.u8.wrap (a.fdiv 65536)).toNat, UInt8.ofNat (IntKind.u8.wrap (a.fdiv 16777216)).toNat]
theorem eval42 (a : Int) (r : List Value) :
    pureSeg [] Tryd.f20 [I a, I 4] r
    = (bif decide (a < 0) then True ∧ [Value.string { data := { toList := [] } }] = r
else
  bif a.fdiv 4294967296 != 0 then True ∧ [Value.string { data := { toList := [] } }] = r
  else True ∧ [Value.string { data := { toList := by4 a } }] = r) := by kernel_rfl
def con42 : Con := { f := 20, gh := [], paths := [], spec := fun args bs => match args, bs with
  | [v, u], [] => match intV v, intV u with
    | some a, some 4 => some (0 ≤ a ∧ a < 4294967296, [.string { data := { toList := by4 a } }], [])
    | _, _ => none
  | _, _ => none }
theorem con42_ok : con42.ok Tryd.prog w0 := by
  intro args bs p rs out e hp
  simp only [con42] at e
  split at e <;> first | (simp at e; done) | skip
  split at e <;> first | (simp at e; done) | skip
  rename_i v u _ _ a ha hu
  simp only [Option.some.injEq, Prod.mk.injEq] at e
  obtain ⟨rfl, rfl, rfl⟩ := e
  obtain ⟨h1, h2⟩ := hp
  rw [intV_eq ha, intV_eq hu]
  refine pureS (cs := []) (f := 20) Tryd.func20 (by kernel_rfl) (fun c hc => by simp at hc) ?_
  rw [eval42]
  have e1 : decide (a < 0) = false := by simp; omega
  have e2 : (a.fdiv 4294967296 != 0) = false := by
    have : a.fdiv 4294967296 = 0 := by rw [Int.fdiv_eq_ediv_of_nonneg _ (by omega)]; omega
    simp [this]
  rw [e1, e2]
  exact ⟨trivial, rfl⟩

noncomputable def ft22 : FT := { loc := fun _ => false, mask := fun id => bif Nat.beq id 5 then live 40 [4, 11, 12, 13] else [] }
abbrev nt22A : Nt := { gh := [], flags := [true], paths := [⟨4, [], false⟩], tr := [], ty := [(1, 43)] }
abbrev nt22B : Nt := { gh := [], flags := [true], paths := [⟨4, [], false⟩, ⟨4, [1], true⟩], tr := [], ty := [(1, 43), (2, 5)] }
abbrev nt22 : Nt := { gh := [], flags := [true], paths := [], tr := [] }
noncomputable def todo22 : List Item := todoOf Tryd.f12 5
abbrev cs22 : List Con := [con29, con42]
noncomputable def fr22 (n : Nat) (i : Int) : List AV := frm 40 [(4, .v (PT (G + 1))), (11, .v (SL G n 4)), (12, .v (I n)), (13, .v (I i))]
noncomputable def hp22A (cs : List Value) (rw : Bool) : AHeap := heapT G [some (.cells cs rw), some (.cells [.pointer none, .slice none 0 0] true)] (tyG G [(1, 43)])
noncomputable def hp22B (cs : List Value) (rw : Bool) (m : Nat) (b : List Value) : AHeap := heapT G [some (.cells cs rw), some (.cells [PT (G + 1), SL (G + 2) m 1] true), some (.cells b true)] (tyG G [(1, 43), (2, 5)])
abbrev seg22 (nt : Nt) (K : List Value → AHeap → Prop) (L : List Item → List AV → AHeap → Prop) (t : List Item) (fr : List AV) (h : AHeap) : Prop :=
  segK3 Tryd.prog ft22 (semI Tryd.prog (fun _ => ft0) (callsOf G cs22) 400 20 (retT G nt22 K)) Tryd.f12 [5] 60 t fr (fun t fr h => match t with
  | .code (.region 5 _ _) :: _ => canonT G nt (L t) fr h
  | _ => False) h
abbrev ix (cs : List Value) (i : Int) (k : Nat) : Int := intO (nth cs (0 + i.toNat * 4 + k))
abbrev ox (cs : List Value) (i : Int) (k : Nat) : Bool := okI .i64 (nth cs (0 + i.toNat * 4 + k))
abbrev by8 (cs : List Value) (i : Int) : List UInt8 := [UInt8.ofNat (IntKind.u8.wrap (ix cs i 0)).toNat, UInt8.ofNat (IntKind.u8.wrap (ix cs i 1)).toNat, UInt8.ofNat (IntKind.u8.wrap (ix cs i 2)).toNat, UInt8.ofNat 0] ++ by4 (w (ix cs i 3 + 2147483648))
theorem start22 (n : Nat) (cs : List Value) (rw : Bool) (K : List Value → AHeap → Prop) (L : List Item → List AV → AHeap → Prop) :
    seg22 nt22A K L [.code (Tryd.f12.body.getD .skip)] (startF Tryd.f12 [SL G n 4]) (heapB G [some (.cells cs rw)])
    = (bif decide ((↑n : Int) > 128) then
      (PlainL cs ∧ True) ∧ K [Value.string { data := { toList := [] } }, Value.iface 40 (I 10)] (heapB G [some (ABlk.cells cs rw)])
    else (PlainL cs ∧ True) ∧ L todo22 (frm 40 [(4, AV.v (PT (G + 1))), (11, AV.v (SL G n 4)), (12, AV.v (I (↑n : Int))), (13, AV.v (I 0))]) (heapT G [some (ABlk.cells cs rw), some (ABlk.cells [Value.pointer none, Value.slice none 0 0] true)] (tyG G [(1, 43)]))) := by kernel_rfl

theorem headA22 (n : Nat) (i : Int) (cs : List Value) (rw : Bool) (K : List Value → AHeap → Prop) (L : List Item → List AV → AHeap → Prop) :
    seg22 nt22B K L todo22 (fr22 n i) (hp22A cs rw)
    = (bif decide (i < (↑n : Int)) then
      bif decide (0 ≤ i) && decide (i < (↑n : Int)) then
      bif (0 + i.toNat * 4 + 4).ble cs.length && (ox cs i 0 && (ox cs i 1 && (ox cs i 2 && (ox cs i 3 && true)))) then
      (True ∧ True ∧ True) ∧
      bif !r29 (ix cs i 0) (ix cs i 1) (ix cs i 2) (ix cs i 3) then
      (PlainL cs ∧ True) ∧ K [Value.string { data := { toList := [] } }, Value.iface 40 (I 1)] (heapB G [some (ABlk.cells cs rw)])
    else (bif ix cs i 3 == ix cs i 3 && true then
      bif ix cs i 3 == ix cs i 3 && true then
      (True ∧ True ∧ 0 ≤ w (ix cs i 3 + 2147483648) ∧ w (ix cs i 3 + 2147483648) < 4294967296) ∧ (PlainL cs ∧ PlainL (List.map (fun b => Value.int IntKind.u8 (↑b.toNat : Int)) (by8 cs i)) ∧ True) ∧ L todo22 (frm 40 [(4, AV.v (PT (G + 1))), (11, AV.v (SL G n 4)), (12, AV.v (I (↑n : Int))), (13, AV.v (I (w (i + 1))))]) (heapT G [some (ABlk.cells cs rw), some (ABlk.cells [PT (G + 1), SL (G + 2) 8 1] true), some (ABlk.cells (List.map (fun b => Value.int IntKind.u8 (↑b.toNat : Int)) (by8 cs i)) true)] (tyG G [(1, 43), (2, 5)]))
    else False
    else False) ∧ (bif ix cs i 3 == ix cs i 3 && true then
      (True ∧ True ∧ 0 ≤ w (ix cs i 3 + 2147483648) ∧ w (ix cs i 3 + 2147483648) < 4294967296) ∧ (PlainL cs ∧ PlainL (List.map (fun b => Value.int IntKind.u8 (↑b.toNat : Int)) (by8 cs i)) ∧ True) ∧ L todo22 (frm 40 [(4, AV.v (PT (G + 1))), (11, AV.v (SL G n 4)), (12, AV.v (I (↑n : Int))), (13, AV.v (I (w (i + 1))))]) (heapT G [some (ABlk.cells cs rw), some (ABlk.cells [PT (G + 1), SL (G + 2) 8 1] true), some (ABlk.cells (List.map (fun b => Value.int IntKind.u8 (↑b.toNat : Int)) (by8 cs i)) true)] (tyG G [(1, 43), (2, 5)]))
    else False) ∧ (True ∧ True ∧ 0 ≤ w (ix cs i 3 + 2147483648) ∧ w (ix cs i 3 + 2147483648) < 4294967296) ∧
      bif ix cs i 2 == ix cs i 2 && (ix cs i 1 == ix cs i 1 && (ix cs i 0 == ix cs i 0 && true)) then
      (PlainL cs ∧ PlainL (List.map (fun b => Value.int IntKind.u8 (↑b.toNat : Int)) (by8 cs i)) ∧ True) ∧ L todo22 (frm 40 [(4, AV.v (PT (G + 1))), (11, AV.v (SL G n 4)), (12, AV.v (I (↑n : Int))), (13, AV.v (I (w (i + 1))))]) (heapT G [some (ABlk.cells cs rw), some (ABlk.cells [PT (G + 1), SL (G + 2) 8 1] true), some (ABlk.cells (List.map (fun b => Value.int IntKind.u8 (↑b.toNat : Int)) (by8 cs i)) true)] (tyG G [(1, 43), (2, 5)]))
    else False
    else False
    else False
    else (PlainL cs ∧ True) ∧ K [Value.string { data := { toList := [] } }, Value.nilIface] (heapB G [some (ABlk.cells cs rw)])) := by kernel_rfl

theorem headB22 (n : Nat) (i : Int) (cs : List Value) (rw : Bool) (m : Nat) (b : List Value) (K : List Value → AHeap → Prop) (L : List Item → List AV → AHeap → Prop) :
    seg22 nt22B K L todo22 (fr22 n i) (hp22B cs rw m b)
    = (bif decide (i < (↑n : Int)) then
      bif decide (0 ≤ i) && decide (i < (↑n : Int)) then
      bif (0 + i.toNat * 4 + 4).ble cs.length && (ox cs i 0 && (ox cs i 1 && (ox cs i 2 && (ox cs i 3 && true)))) then
      (True ∧ True ∧ True) ∧
      bif !r29 (ix cs i 0) (ix cs i 1) (ix cs i 2) (ix cs i 3) then
      (PlainL cs ∧ True) ∧ K [Value.string { data := { toList := [] } }, Value.iface 40 (I 1)] (heapB G [some (ABlk.cells cs rw)])
    else (bif ix cs i 3 == ix cs i 3 && true then
      bif ix cs i 3 == ix cs i 3 && true then
      (True ∧ True ∧ 0 ≤ w (ix cs i 3 + 2147483648) ∧ w (ix cs i 3 + 2147483648) < 4294967296) ∧
      bif room (m + 8) 1 then
      bif (0 + m * 1).ble b.length then
      (PlainL cs ∧ PlainL (List.take (m * 1) (List.drop 0 b) ++ List.map (fun b => Value.int IntKind.u8 (↑b.toNat : Int)) (by8 cs i)) ∧ True) ∧ L todo22 (frm 40 [(4, AV.v (PT (G + 1))), (11, AV.v (SL G n 4)), (12, AV.v (I (↑n : Int))), (13, AV.v (I (w (i + 1))))]) (heapT G [some (ABlk.cells cs rw), some (ABlk.cells [PT (G + 1), SL (G + 2) (m + 8) 1] true), some (ABlk.cells (List.take (m * 1) (List.drop 0 b) ++ List.map (fun b => Value.int IntKind.u8 (↑b.toNat : Int)) (by8 cs i)) true)] (tyG G [(1, 43), (2, 5)]))
    else False
    else False
    else False
    else False) ∧ (bif ix cs i 3 == ix cs i 3 && true then
      (True ∧ True ∧ 0 ≤ w (ix cs i 3 + 2147483648) ∧ w (ix cs i 3 + 2147483648) < 4294967296) ∧
      bif room (m + 8) 1 then
      bif (0 + m * 1).ble b.length then
      (PlainL cs ∧ PlainL (List.take (m * 1) (List.drop 0 b) ++ List.map (fun b => Value.int IntKind.u8 (↑b.toNat : Int)) (by8 cs i)) ∧ True) ∧ L todo22 (frm 40 [(4, AV.v (PT (G + 1))), (11, AV.v (SL G n 4)), (12, AV.v (I (↑n : Int))), (13, AV.v (I (w (i + 1))))]) (heapT G [some (ABlk.cells cs rw), some (ABlk.cells [PT (G + 1), SL (G + 2) (m + 8) 1] true), some (ABlk.cells (List.take (m * 1) (List.drop 0 b) ++ List.map (fun b => Value.int IntKind.u8 (↑b.toNat : Int)) (by8 cs i)) true)] (tyG G [(1, 43), (2, 5)]))
    else False
    else False
    else False) ∧ (True ∧ True ∧ 0 ≤ w (ix cs i 3 + 2147483648) ∧ w (ix cs i 3 + 2147483648) < 4294967296) ∧
      bif ix cs i 2 == ix cs i 2 && (ix cs i 1 == ix cs i 1 && (ix cs i 0 == ix cs i 0 && true)) then
      bif room (m + 8) 1 then
      bif (0 + m * 1).ble b.length then
      (PlainL cs ∧ PlainL (List.take (m * 1) (List.drop 0 b) ++ List.map (fun b => Value.int IntKind.u8 (↑b.toNat : Int)) (by8 cs i)) ∧ True) ∧ L todo22 (frm 40 [(4, AV.v (PT (G + 1))), (11, AV.v (SL G n 4)), (12, AV.v (I (↑n : Int))), (13, AV.v (I (w (i + 1))))]) (heapT G [some (ABlk.cells cs rw), some (ABlk.cells [PT (G + 1), SL (G + 2) (m + 8) 1] true), some (ABlk.cells (List.take (m * 1) (List.drop 0 b) ++ List.map (fun b => Value.int IntKind.u8 (↑b.toNat : Int)) (by8 cs i)) true)] (tyG G [(1, 43), (2, 5)]))
    else False
    else False
    else False
    else False
    else False
    else bif Nat.blt 0 m then
      bif (↑m : Int) == (↑m : Int) && (veq 4 (SL (G + 2) m 1) (SL (G + 2) m 1) && true) then
      bif decide (0 < (↑m : Int)) && decide ((↑m : Int) ≤ 1099511627776) && (↑m : Int).toNat.ble b.length && (List.take (↑m : Int).toNat b).all isU8 then
      (PlainL cs ∧ True) ∧ K [Value.string { data := { toList := List.map u8O (List.take (↑m : Int).toNat b) } }, Value.nilIface] (heapB G [some (ABlk.cells cs rw)])
    else False
    else False
    else False) := by kernel_rfl


theorem at_insC {l : List Ins} {i : Nat} (h : i < l.length) : (0 + (i : Int).toNat * 4 + 4).ble (insC l).length = true ∧ (ox (insC l) (i : Int) 0 = true ∧ ox (insC l) (i : Int) 1 = true ∧ ox (insC l) (i : Int) 2 = true ∧ ox (insC l) (i : Int) 3 = true) ∧
    ix (insC l) (i : Int) 0 = l[i].op ∧ ix (insC l) (i : Int) 1 = l[i].d ∧ ix (insC l) (i : Int) 2 = l[i].s ∧ ix (insC l) (i : Int) 3 = l[i].imm := by
  obtain ⟨h1, h2, h3, h4⟩ := nth_insC h
  have e0 : 0 + (i : Int).toNat * 4 + 0 = i * 4 := by simp
  have e1 : 0 + (i : Int).toNat * 4 + 1 = i * 4 + 1 := by simp
  have e2 : 0 + (i : Int).toNat * 4 + 2 = i * 4 + 2 := by simp
  have e3 : 0 + (i : Int).toNat * 4 + 3 = i * 4 + 3 := by simp
  refine ⟨Nat.ble_eq_true_of_le (by rw [insC_len]; simp; omega), ?_⟩
  simp only [ox, ix, e0, e1, e2, e3, h1, h2, h3, h4]
  exact ⟨⟨rfl, rfl, rfl, rfl⟩, rfl, rfl, rfl, rfl⟩
theorem right_imm {x : Ins} (h : right x = true) : -2147483648 ≤ x.imm ∧ x.imm < 2147483648 := by
  unfold right r29 at h
  cases h1 : r50 x.d <;> simp only [h1, Bool.not_true, Bool.not_false, cond_true, cond_false] at h
  · simp at h
  cases h2 : r50 x.s <;> simp only [h2, Bool.not_true, Bool.not_false, cond_true, cond_false] at h
  · simp at h
  cases h3 : decide (x.imm < -2147483648) <;> simp only [h3, cond_true, cond_false] at h
  · cases h4 : decide (x.imm ≥ 2147483648) <;> simp only [h4, cond_true, cond_false] at h
    · simp only [decide_eq_false_iff_not] at h3 h4
      omega
    · simp at h
  · simp at h
theorem right_w {x : Ins} (h : right x = true) : 0 ≤ w (x.imm + 2147483648) ∧ w (x.imm + 2147483648) < 4294967296 := by
  obtain ⟨h1, h2⟩ := right_imm h
  rw [w_id (by omega) (by omega)]
  omega
theorem plain_u8 : ∀ {b : List Value}, b.all isU8 = true → PlainL b
  | [], _, x, hx => by simp at hx
  | v :: r, e, x, hx => by
    simp only [List.all_cons, Bool.and_eq_true] at e
    rcases List.mem_cons.1 hx with rfl | hx
    · unfold isU8 at e
      split at e
      · rfl
      · simp at e
    · exact plain_u8 e.2 x hx
theorem map_u8 (b : List UInt8) : (b.map fun c => Value.int IntKind.u8 (c.toNat : Int)).all isU8 = true := by
  rw [List.all_map]
  simp [isU8, Function.comp_def]
theorem room_small {n : Nat} (h : n < 1000000000) : room n 1 = true := by
  unfold room
  simp
  omega
theorem veq_sl (b n : Nat) : veq 4 (SL b n 1) (SL b n 1) = true := by simp [veq]

theorem ok22 : ∀ c ∈ cs22, c.ok Tryd.prog w0 := fun c hc => by
  simp only [List.mem_cons, List.not_mem_nil, or_false] at hc
  rcases hc with rfl | rfl
  · exact con29_ok
  · exact con42_ok

abbrev Sem22 (w0 : World) (K : List Value → AHeap → Prop) (t : List Item) (fr : List AV) (h : AHeap) : Prop :=
  Agm.Sem Tryd.prog w0 (Tryd.prog.globals.size + nt22.flags.length) Tryd.f12 (retT Tryd.prog.globals.size nt22 K) t fr h
theorem canonT_semN {nt : Nt} {fl : List Bool} (hnt : nt.flags = fl) {fn : Func} {Q : Post} {t : List Item} {fr : List AV} {h : AHeap} (e : canonT G nt (Agm.Sem Tryd.prog w0 (Tryd.prog.globals.size + fl.length) fn Q t) fr h) : Agm.Sem Tryd.prog w0 (Tryd.prog.globals.size + fl.length) fn Q t fr h := by
  subst hnt
  exact canonT_sem e
theorem leaf22 {K : List Value → AHeap → Prop} (nt : Nt) (hnt : nt.flags = [true]) : ∀ t fr h, (match t with
    | .code (.region 5 _ _) :: _ => canonT G nt (Sem22 w0 K t) fr h
    | _ => False) → Sem22 w0 K t fr h := by
  intro t fr h e
  split at e
  · exact canonT_semN hnt e
  · exact e.elim

theorem loop22 (l : List Ins) (rw : Bool) (hn : l.length ≤ 128) {K : List Value → AHeap → Prop} (hg : (∀ x ∈ l, right x = true) → ∀ s, K [.string s, .nilIface] (heapB G [some (.cells (insC l) rw)]))
    (hb : (∃ x ∈ l, right x = false) → K [.string ⟨#[]⟩, .iface 40 (I 1)] (heapB G [some (.cells (insC l) rw)])) : ∀ (k i : Nat) (b : List Value), i + k = l.length → 0 < i → b.length = 8 * i → b.all isU8 = true → (∀ j (h : j < l.length), j < i → right l[j] = true) →
    Sem22 w0 K todo22 (fr22 l.length i) (hp22B (insC l) rw b.length b) := by
  intro k
  induction k with
  | zero =>
    intro i b hi h0 hbl hbu hr
    refine seg_semI3 (F := ft22) mixed (callsOf_ok ok22) (leaf22 nt22B rfl) [5] 20 60 ((headB22 l.length i (insC l) rw b.length b K _).mpr ?_)
    have h1 : ¬ ((i : Int) < (l.length : Int)) := by omega
    have h2 : Nat.blt 0 b.length = true := Nat.ble_eq_true_of_le (by omega)
    have h3 : (0 : Int) < (b.length : Int) := by omega
    have h4 : (b.length : Int) ≤ 1099511627776 := by omega
    have h5 : (b.length : Int).toNat.ble b.length = true := Nat.ble_eq_true_of_le (by simp)
    have h6 : (b.take (b.length : Int).toNat) = b := by simp
    simp only [h1, h2, h3, h4, h5, h6, hbu, decide_false, decide_true, cond_true, cond_false, Bool.and_self, beq_self_eq_true, veq_sl]
    refine ⟨⟨plain_insC l, trivial⟩, hg (fun x hx => ?_) _⟩
    obtain ⟨j, hj, rfl⟩ := List.mem_iff_getElem.1 hx
    exact hr j hj (by omega)
  | succ k ih =>
    intro i b hi h0 hbl hbu hr
    refine seg_semI3 (F := ft22) mixed (callsOf_ok ok22) (leaf22 nt22B rfl) [5] 20 60 ((headB22 l.length i (insC l) rw b.length b K _).mpr ?_)
    have hlt : i < l.length := by omega
    have h1 : (i : Int) < (l.length : Int) := by omega
    have h2 : (0 : Int) ≤ (i : Int) := by omega
    obtain ⟨e1, ⟨e2, e3, e4, e5⟩, e6, e7, e8, e9⟩ := at_insC hlt
    have hw1 : w ((i : Int) + 1) = ((i + 1 : Nat) : Int) := by rw [w_id (by omega) (by omega)]; omega
    simp only [h1, h2, e1, e2, e3, e4, e5, e6, e7, e8, e9, decide_true, cond_true, Bool.and_self, beq_self_eq_true, hw1]
    refine ⟨⟨trivial, trivial, trivial⟩, ?_⟩
    cases hc : r29 l[i].op l[i].d l[i].s l[i].imm with
    | false =>
      simp only [Bool.not_false, cond_true]
      exact ⟨⟨plain_insC l, trivial⟩, hb ⟨l[i], List.getElem_mem hlt, hc⟩⟩
    | true =>
      have hrm : room (b.length + 8) 1 = true := room_small (by omega)
      have hbb : (0 + b.length * 1).ble b.length = true := Nat.ble_eq_true_of_le (by omega)
      have htk : List.take (b.length * 1) (List.drop 0 b) = b := by simp
      obtain ⟨q1, q2⟩ := right_w hc
      simp only [Bool.not_true, cond_false, cond_true, hrm, hbb, htk]
      have fin := ih (i + 1) (b ++ List.map (fun c => Value.int IntKind.u8 (c.toNat : Int)) (by8 (insC l) i)) (by omega) (by omega) (by simp [by8]; omega) (by rw [List.all_append, hbu, map_u8]; rfl) (fun j hj hji => by
        rcases Nat.lt_or_ge j i with h | h
        · exact hr j hj h
        · have : j = i := by omega
          subst this; exact hc)
      have hpl : PlainL (insC l) := plain_insC l
      have hpb : PlainL (b ++ List.map (fun c => Value.int IntKind.u8 (c.toNat : Int)) (by8 (insC l) i)) := plain_u8 (by rw [List.all_append, hbu, map_u8]; rfl)
      have hlen : (b ++ List.map (fun c => Value.int IntKind.u8 (c.toNat : Int)) (by8 (insC l) i)).length = b.length + 8 := by simp [by8]
      rw [hlen] at fin
      exact ⟨⟨⟨trivial, trivial, q1, q2⟩, ⟨hpl, hpb, trivial⟩, fin⟩, ⟨⟨trivial, trivial, q1, q2⟩, ⟨hpl, hpb, trivial⟩, fin⟩, ⟨trivial, trivial, q1, q2⟩, ⟨hpl, hpb, trivial⟩, fin⟩

set_option maxRecDepth 100000 in
theorem start22_all (l : List Ins) (rw : Bool) {K : List Value → AHeap → Prop} (hg : l.length ≤ 128 → (∀ x ∈ l, right x = true) → ∀ s, K [.string s, .nilIface] (heapB G [some (.cells (insC l) rw)]))
    (hb : l.length ≤ 128 → (∃ x ∈ l, right x = false) → K [.string ⟨#[]⟩, .iface 40 (I 1)] (heapB G [some (.cells (insC l) rw)]))
    (hl : 128 < l.length → K [.string ⟨#[]⟩, .iface 40 (I 10)] (heapB G [some (.cells (insC l) rw)])) :
    Sem22 w0 K [.code (Tryd.f12.body.getD .skip)] (startF Tryd.f12 [SL G l.length 4]) (heapB G [some (.cells (insC l) rw)]) := by
  refine seg_semI3 (F := ft22) mixed (callsOf_ok ok22) (leaf22 nt22A rfl) [5] 20 60 ((start22 l.length (insC l) rw K _).mpr ?_)
  by_cases h128 : 128 < l.length
  · have h1 : ((l.length : Int) > 128) := by omega
    simp only [h1, decide_true, cond_true]
    exact ⟨⟨plain_insC l, trivial⟩, hl h128⟩
  have h1 : ¬ ((l.length : Int) > 128) := by omega
  simp only [h1, decide_false, cond_false]
  refine ⟨⟨plain_insC l, trivial⟩, ?_⟩
  refine seg_semI3 (F := ft22) mixed (callsOf_ok ok22) (leaf22 nt22B rfl) [5] 20 60 ((headA22 l.length 0 (insC l) rw K _).mpr ?_)
  by_cases h0 : l.length = 0
  · have h2 : ¬ ((0 : Int) < (l.length : Int)) := by omega
    simp only [h2, decide_false, cond_false]
    refine ⟨⟨plain_insC l, trivial⟩, hg (by omega) (fun x hx => ?_) _⟩
    rw [List.eq_nil_of_length_eq_zero h0] at hx
    simp at hx
  · have hlt : 0 < l.length := by omega
    have h2 : (0 : Int) < (l.length : Int) := by omega
    have h3 : (0 : Int) ≤ 0 := by omega
    obtain ⟨e1, ⟨e2, e3, e4, e5⟩, e6, e7, e8, e9⟩ := at_insC hlt
    rw [show ((0 : Nat) : Int) = (0 : Int) from rfl] at e1 e2 e3 e4 e5 e6 e7 e8 e9
    have hw1 : w ((0 : Int) + 1) = ((1 : Nat) : Int) := by rw [w_id (by omega) (by omega)]; omega
    simp only [h2, h3, e1, e2, e3, e4, e5, e6, e7, e8, e9, decide_true, cond_true, Bool.and_self, beq_self_eq_true, hw1]
    refine ⟨⟨trivial, trivial, trivial⟩, ?_⟩
    cases hc : r29 l[0].op l[0].d l[0].s l[0].imm with
    | false =>
      simp only [Bool.not_false, cond_true]
      exact ⟨⟨plain_insC l, trivial⟩, hb (by omega) ⟨l[0], List.getElem_mem hlt, hc⟩⟩
    | true =>
      obtain ⟨q1, q2⟩ := right_w hc
      simp only [Bool.not_true, cond_false]
      have hpl : PlainL (insC l) := plain_insC l
      have hpb : PlainL (List.map (fun c => Value.int IntKind.u8 (c.toNat : Int)) (by8 (insC l) 0)) := plain_u8 (map_u8 _)
      have fin := loop22 (w0 := w0) l rw (by omega) (K := K) (hg (by omega)) (hb (by omega)) (l.length - 1) 1 (List.map (fun c => Value.int IntKind.u8 (c.toNat : Int)) (by8 (insC l) 0)) (by omega) (by omega) (by simp [by8]) (map_u8 _) (fun j hj hji => by
        have : j = 0 := by omega
        subst this; exact hc)
      have hlen : (List.map (fun c => Value.int IntKind.u8 (c.toNat : Int)) (by8 (insC l) 0)).length = 8 := by simp [by8]
      rw [hlen] at fin
      exact ⟨⟨⟨trivial, trivial, q1, q2⟩, ⟨hpl, hpb, trivial⟩, fin⟩, ⟨⟨trivial, trivial, q1, q2⟩, ⟨hpl, hpb, trivial⟩, fin⟩, ⟨trivial, trivial, q1, q2⟩, ⟨hpl, hpb, trivial⟩, fin⟩

theorem ResV_junk {m : MapN} {S : Nat → Nat} {x y v : Value} (hx : one x = true) (h : ResV m S [x, y] v) : ResV m S [.chan none, y] v := by
  obtain ⟨vs, h1, h2⟩ := h
  refine ⟨vs, h1, ?_⟩
  revert h2
  generalize vs.toList = us
  intro h2
  cases h2 with
  | cons hv ht => exact .cons (.junk (by rw [hv.one_eq]; exact hx)) ht
theorem CallS_junk {P : Program} {f : Nat} {args : List Value} {h H : AHeap} {y : Value} (s : CallS P w0 f args h fun rs h' => (∃ s, rs = [.string s, y]) ∧ h' = H) : CallS P w0 f args h fun rs h' => rs = [.chan none, y] ∧ h' = H := by
  intro m E w args' hr hv he
  refine (s m E w args' hr hv he).mono ?_
  rintro en w' ⟨rs, h', v, m', ⟨⟨s, rfl⟩, rfl⟩, rfl, h1, h2, h3, h4⟩
  exact ⟨_, _, v, m', ⟨rfl, rfl⟩, rfl, h1, h2, h3, ResV_junk rfl h4⟩

noncomputable def putS (args : List Value) (bs : List (Option ABlk)) (P : List Ins → Nat → Prop) (rs : Nat → List Value) : Option (Prop × List Value × List OutB) := match args, bs with
  | [s], [some (.cells cs rw)] => match slN s 0 4 with
    | some n => some (cs = insC (unIns cs) ∧ (unIns cs).length = n ∧ P (unIns cs) n, rs n, [(true, some (.cells cs rw))])
    | none => none
  | _, _ => none
/-- A program that may be put into bytes. -/
noncomputable def con22 : Con := { f := 12, gh := [⟨0, none, 4⟩], paths := [⟨0, [], true⟩], spec := fun args bs => putS args bs (fun l n => n ≤ 128 ∧ ∀ x ∈ l, right x = true) fun _ => [.chan none, .nilIface] }
def putE (n : Nat) : Int := if 128 < n then 10 else 1
/-- One that may not. -/
noncomputable def con22b : Con := { f := 12, gh := [⟨0, none, 4⟩], paths := [⟨0, [], true⟩], spec := fun args bs => putS args bs (fun l n => 128 < n ∨ ∃ x ∈ l, right x = false) fun n => [.string ⟨#[]⟩, .iface 40 (I (putE n))] }
theorem putS_some {args : List Value} {bs : List (Option ABlk)} {P : List Ins → Nat → Prop} {rs : Nat → List Value} {p : Prop} {rs' : List Value} {out : List OutB} (e : putS args bs P rs = some (p, rs', out)) (hp : p) :
    ∃ (l : List Ins) (rw : Bool), args = [SL G l.length 4] ∧ bs = [some (.cells (insC l) rw)] ∧ P l l.length ∧ rs' = rs l.length ∧ out = [(true, some (.cells (insC l) rw))] := by
  unfold putS at e
  split at e
  · rename_i s cs rw
    split at e
    · rename_i n hn
      simp only [Option.some.injEq, Prod.mk.injEq] at e
      obtain ⟨rfl, rfl, rfl⟩ := e
      obtain ⟨h1, h2, h3⟩ := hp
      refine ⟨unIns cs, rw, ?_, ?_, ?_, ?_, ?_⟩
      · rw [slN_eq hn, h2]; rfl
      · rw [← h1]
      · rw [h2]; exact h3
      · rw [h2]
      · rw [← h1]
    · simp at e
  · simp at e
theorem con22_ok : con22.ok Tryd.prog w0 := by
  intro args bs p rs out e hp
  have e' : putS args bs (fun l n => n ≤ 128 ∧ ∀ x ∈ l, right x = true) (fun _ => [.chan none, .nilIface]) = some (p, rs, out) := e
  obtain ⟨l, rw, rfl, rfl, ⟨h1, h2⟩, rfl, rfl⟩ := putS_some e' hp
  refine CallS_junk (h := heapB Tryd.prog.globals.size [some (.cells (insC l) rw)]) (H := heapB Tryd.prog.globals.size [some (.cells (insC l) rw)]) ?_
  have hn : (heapB Tryd.prog.globals.size [some (.cells (insC l) rw)]).next = Tryd.prog.globals.size + nt22.flags.length := by rw [heapB_next]; rfl
  refine retT_call (nt := nt22) hn (call_sem (cd := Tryd.f12.body.getD .skip) Tryd.func12 (by kernel_rfl) ?_)
  rw [hn]
  exact start22_all l rw (fun _ _ s => ⟨⟨s, rfl⟩, rfl⟩) (fun _ ⟨x, hx, hx2⟩ => by rw [h2 x hx] at hx2; simp at hx2) (fun h => by omega)
theorem con22b_ok : con22b.ok Tryd.prog w0 := by
  intro args bs p rs out e hp
  have e' : putS args bs (fun l n => 128 < n ∨ ∃ x ∈ l, right x = false) (fun n => [.string ⟨#[]⟩, .iface 40 (I (putE n))]) = some (p, rs, out) := e
  obtain ⟨l, rw, rfl, rfl, h2, rfl, rfl⟩ := putS_some e' hp
  change CallS Tryd.prog w0 12 [SL G l.length 4] (heapB Tryd.prog.globals.size [some (.cells (insC l) rw)]) fun rs' h' => rs' = [.string ⟨#[]⟩, .iface 40 (I (putE l.length))] ∧ h' = heapB Tryd.prog.globals.size [some (.cells (insC l) rw)]
  have hn : (heapB Tryd.prog.globals.size [some (.cells (insC l) rw)]).next = Tryd.prog.globals.size + nt22.flags.length := by rw [heapB_next]; rfl
  refine retT_call (nt := nt22) hn (call_sem (cd := Tryd.f12.body.getD .skip) Tryd.func12 (by kernel_rfl) ?_)
  rw [hn]
  refine start22_all l rw (fun h hx s => ?_) (fun h _ => ⟨?_, rfl⟩) (fun h => ⟨?_, rfl⟩)
  · rcases h2 with h2 | ⟨x, hx1, hx2⟩
    · omega
    · rw [hx x hx1] at hx2; simp at hx2
  · rw [putE, if_neg (by omega)]
  · rw [putE, if_pos h]
end
section
open Go.Agm
variable {w0 : World}

abbrev evSeg (fn : Func) (cs : List Con) (nt : Nt) (args : List Value) (bs : List (Option ABlk)) (K : List Value → AHeap → Prop) : Prop :=
  segK3 Tryd.prog ft0 (semI Tryd.prog (fun _ => ft0) (callsOf G cs) 4000 20 (retT G nt K)) fn [] 4000 [.code (fn.body.getD .skip)] (startF fn args) noLeaf (heapB G bs)
/-- A function, where the evaluation comes to what is told. -/
theorem ev_callS {f : Nat} {fn : Func} {cs : List Con} {nt : Nt} {args : List Value} {bs : List (Option ABlk)} {K : List Value → AHeap → Prop} (hfn : Tryd.prog.funcs[f]? = some fn) (hcd : fn.body = some (fn.body.getD .skip)) (hcs : ∀ c ∈ cs, c.ok Tryd.prog w0)
    (hl : bs.length = nt.flags.length) (h : evSeg fn cs nt args bs K) : CallS Tryd.prog w0 f args (heapB Tryd.prog.globals.size bs) K := by
  have hn : (heapB Tryd.prog.globals.size bs).next = Tryd.prog.globals.size + nt.flags.length := by rw [heapB_next, hl]
  refine retT_call (nt := nt) hn (call_sem hfn hcd ?_)
  rw [hn]
  exact seg_semI3 (F := ft0) (leaf := noLeaf) mixed (callsOf_ok hcs) (fun _ _ _ hh => hh.elim) [] 20 4000 h
abbrev nt1 : Nt := { gh := [], flags := [true], paths := [], tr := [] }
abbrev pt1 : List Pth := [⟨0, [], true⟩]

/-- A state's cells. -/
abbrev stL (c k0 k1 k2 k3 k4 k5 k6 k7 : Bool) (l0 h0 l1 h1 l2 h2 l3 h3 l4 h4 l5 h5 l6 h6 l7 h7 : Int) : List Value := [B c, B k0, B k1, B k2, B k3, B k4, B k5, B k6, B k7, I l0, I h0, I l1, I h1, I l2, I h2, I l3, I h3, I l4, I h4, I l5, I h5, I l6, I h6, I l7, I h7]
def okK (i : Nat) (o : Option Value) : Bool := bif Nat.blt i 9 then okB o else okI .i64 o
def tys25 : Nat → List Value → Bool
  | i, [] => Nat.beq i 25
  | i, v :: r => okK i (some v) && tys25 (i + 1) r
/-- Cells of a state. -/
abbrev IsSt (cs : List Value) : Prop := tys25 0 cs = true
theorem okB_some {v : Value} (h : okB (some v) = true) : ∃ b, v = B b := by
  unfold okB at h; split at h
  · rename_i b e; exact ⟨b, by simpa using e⟩
  · simp at h
theorem okI_some {v : Value} (h : okI .i64 (some v) = true) : ∃ n, v = I n := by
  unfold okI at h; split at h
  · rename_i k n e
    simp only [beq_iff_eq] at h
    subst h
    exact ⟨n, by simpa using e⟩
  · simp at h
theorem tys_cons {i : Nat} {cs : List Value} (hi : i < 25) (h : tys25 i cs = true) : ∃ v r, cs = v :: r ∧ okK i (some v) = true ∧ tys25 (i + 1) r = true := by
  cases cs with
  | nil =>
    simp only [tys25] at h
    have := Nat.eq_of_beq_eq_true h
    omega
  | cons v r =>
    simp only [tys25, Bool.and_eq_true] at h
    exact ⟨v, r, rfl, h.1, h.2⟩
theorem tysB {i : Nat} {cs : List Value} (hi : Nat.blt i 9 = true) (h : tys25 i cs = true) : ∃ b r, cs = B b :: r ∧ tys25 (i + 1) r = true := by
  have h9 : i < 9 := Nat.le_of_ble_eq_true hi
  obtain ⟨v, r, rfl, h1, h2⟩ := tys_cons (by omega) h
  unfold okK at h1
  rw [hi, cond_true] at h1
  obtain ⟨b, rfl⟩ := okB_some h1
  exact ⟨b, r, rfl, h2⟩
theorem tysI {i : Nat} {cs : List Value} (hi : Nat.blt i 9 = false) (hi2 : i < 25) (h : tys25 i cs = true) : ∃ n r, cs = I n :: r ∧ tys25 (i + 1) r = true := by
  obtain ⟨v, r, rfl, h1, h2⟩ := tys_cons hi2 h
  unfold okK at h1
  rw [hi, cond_false] at h1
  obtain ⟨b, rfl⟩ := okI_some h1
  exact ⟨b, r, rfl, h2⟩
theorem isSt_eq {cs : List Value} (h : IsSt cs) : ∃ (c k0 k1 k2 k3 k4 k5 k6 k7 : Bool) (l0 h0 l1 h1 l2 h2 l3 h3 l4 h4 l5 h5 l6 h6 l7 h7 : Int), cs = stL c k0 k1 k2 k3 k4 k5 k6 k7 l0 h0 l1 h1 l2 h2 l3 h3 l4 h4 l5 h5 l6 h6 l7 h7 := by
  have g0 : tys25 0 cs = true := h
  clear h
  obtain ⟨c, r0, e0, g1⟩ := tysB rfl g0
  obtain ⟨k0, r1, e1, g2⟩ := tysB rfl g1
  obtain ⟨k1, r2, e2, g3⟩ := tysB rfl g2
  obtain ⟨k2, r3, e3, g4⟩ := tysB rfl g3
  obtain ⟨k3, r4, e4, g5⟩ := tysB rfl g4
  obtain ⟨k4, r5, e5, g6⟩ := tysB rfl g5
  obtain ⟨k5, r6, e6, g7⟩ := tysB rfl g6
  obtain ⟨k6, r7, e7, g8⟩ := tysB rfl g7
  obtain ⟨k7, r8, e8, g9⟩ := tysB rfl g8
  obtain ⟨l0, r9, e9, g10⟩ := tysI rfl (by omega) g9
  obtain ⟨h0, r10, e10, g11⟩ := tysI rfl (by omega) g10
  obtain ⟨l1, r11, e11, g12⟩ := tysI rfl (by omega) g11
  obtain ⟨h1, r12, e12, g13⟩ := tysI rfl (by omega) g12
  obtain ⟨l2, r13, e13, g14⟩ := tysI rfl (by omega) g13
  obtain ⟨h2, r14, e14, g15⟩ := tysI rfl (by omega) g14
  obtain ⟨l3, r15, e15, g16⟩ := tysI rfl (by omega) g15
  obtain ⟨h3, r16, e16, g17⟩ := tysI rfl (by omega) g16
  obtain ⟨l4, r17, e17, g18⟩ := tysI rfl (by omega) g17
  obtain ⟨h4, r18, e18, g19⟩ := tysI rfl (by omega) g18
  obtain ⟨l5, r19, e19, g20⟩ := tysI rfl (by omega) g19
  obtain ⟨h5, r20, e20, g21⟩ := tysI rfl (by omega) g20
  obtain ⟨l6, r21, e21, g22⟩ := tysI rfl (by omega) g21
  obtain ⟨h6, r22, e22, g23⟩ := tysI rfl (by omega) g22
  obtain ⟨l7, r23, e23, g24⟩ := tysI rfl (by omega) g23
  obtain ⟨h7, r24, e24, g25⟩ := tysI rfl (by omega) g24
  subst e0 e1 e2 e3 e4 e5 e6 e7 e8 e9 e10 e11 e12 e13 e14 e15 e16 e17 e18 e19 e20 e21 e22 e23 e24
  have h := g25
  cases r24 with
  | nil => exact ⟨_, _, _, _, _, _, _, _, _, _, _, _, _, _, _, _, _, _, _, _, _, _, _, _, _, rfl⟩
  | cons v r => 
    exfalso
    have : ∀ (j : Nat) (cs : List Value), 25 < j → tys25 j cs = false := by
      intro j cs
      induction cs generalizing j with
      | nil =>
        intro hj
        simp only [tys25]
        cases hb : Nat.beq j 25 with
        | false => rfl
        | true => have := Nat.eq_of_beq_eq_true hb; omega
      | cons a b ih =>
        intro hj
        simp only [tys25, ih (j + 1) (by omega), Bool.and_false]
    simp only [tys25, Bool.and_eq_true] at h
    rw [this _ _ (by omega)] at h
    simp at h

abbrev kO (cs : List Value) (i : Nat) : Bool := boolO (nth cs (1 + i))
abbrev lO (cs : List Value) (i : Nat) : Int := intO (nth cs (9 + 2 * i))
abbrev hO (cs : List Value) (i : Nat) : Int := intO (nth cs (10 + 2 * i))
/-- What is known of a register, its span. -/
abbrev kI (cs : List Value) (r : Int) : Bool := boolO (nth cs (1 + r.toNat * 1))
abbrev lI (cs : List Value) (r : Int) : Int := intO (nth cs (9 + r.toNat * 2 + 0))
abbrev hI (cs : List Value) (r : Int) : Int := intO (nth cs (9 + r.toNat * 2 + 1))
def setM (cs : List Value) (r lo hi : Int) : List Value := splice (splice cs (1 + r.toNat * 1) [B true]) (9 + r.toNat * 2) [I lo, I hi]
theorem veq_ints (n : Nat) (a b : Int) : veq (n + 1) (AG [I a, I b]) (AG [I a, I b]) = true := by simp [veq, veq.go]
end
end Go.Proofs.YtkjdfkodclednaaDoor
