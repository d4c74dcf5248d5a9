/- Words for the contracts of the checker's and the machine's functions. No condition. -/
import Derived.Test.YtadaindmgmielaaRows
import Derived.Test.YtadaindmgmielaaB13
import Derived.KernelRfl
namespace Go.Proofs.Ytadaindmgmielaa
open Go.Agm

abbrev I (n : Int) : Value := .int .i64 n
abbrev B (b : Bool) : Value := .bool b
noncomputable abbrev G : Nat := Try.prog.globals.size
abbrev SL (b n sz : Nat) : Value := .slice (some ⟨b, 0, none⟩) n sz
abbrev PT (b : Nat) : Value := .pointer (some ⟨b, 0, none⟩)
abbrev w (n : Int) : Int := IntKind.i64.wrap n
abbrev AG (l : List Value) : Value := .agg l.toArray

def intV : Value → Option Int
  | .int .i64 n => some n
  | _ => none
theorem intV_eq {v : Value} {n : Int} (e : intV v = some n) : v = I n := by
  unfold intV at e; split at e <;> simp_all
noncomputable def isPtr (v : Value) (i : Nat) : Bool := match v with
  | .pointer (some ⟨b, off, none⟩) => Nat.beq b (G + i) && Nat.beq off 0
  | _ => false
theorem isPtr_eq {v : Value} {i : Nat} (e : isPtr v i = true) : v = PT (G + i) := by
  unfold isPtr at e
  split at e
  · rename_i b off
    simp only [Bool.and_eq_true] at e
    rw [Nat.eq_of_beq_eq_true e.1, Nat.eq_of_beq_eq_true e.2]
  · simp at e
noncomputable def slN (v : Value) (i sz : Nat) : Option Nat := match v with
  | .slice (some ⟨b, off, none⟩) n s => bif Nat.beq b (G + i) && Nat.beq off 0 && Nat.beq s sz then some n else none
  | _ => none
theorem slN_eq {v : Value} {i sz n : Nat} (e : slN v i sz = some n) : v = SL (G + i) n sz := by
  unfold slN at e
  split at e
  · rename_i b off n' s
    cases hb : (Nat.beq b (G + i) && Nat.beq off 0 && Nat.beq s sz) with
    | false => rw [hb] at e; simp at e
    | true =>
      rw [hb] at e
      simp only [cond_true, Option.some.injEq] at e
      simp only [Bool.and_eq_true] at hb
      rw [Nat.eq_of_beq_eq_true hb.1.1, Nat.eq_of_beq_eq_true hb.1.2, Nat.eq_of_beq_eq_true hb.2, e]
  · simp at e
/-- The numbers of a row of cells. -/
def intsV : List Value → Option (List Int)
  | [] => some []
  | v :: r => match intV v with
    | some n => match intsV r with
      | some l => some (n :: l)
      | none => none
    | none => none
theorem intsV_eq : ∀ {vs : List Value} {l : List Int}, intsV vs = some l → vs = l.map I
  | [], l, e => by simp [intsV] at e; subst e; rfl
  | v :: r, l, e => by
    simp only [intsV] at e
    split at e
    · rename_i n hn
      split at e
      · rename_i l' hl
        simp only [Option.some.injEq] at e
        subst e
        rw [List.map_cons, ← intsV_eq hl, intV_eq hn]
      · simp at e
    · simp at e
def aggV : Value → Option (List Int)
  | .agg cs => intsV cs.toList
  | _ => none
theorem aggV_eq {v : Value} {l : List Int} (e : aggV v = some l) : v = AG (l.map I) := by
  unfold aggV at e
  split at e
  · rename_i cs
    rw [← intsV_eq e]
  · simp at e

def ints (l : List Int) : List Value := l.map I
def int1 (v : Value) : Int := match v with
  | .int _ n => n
  | _ => 0
def unI (cs : List Value) : List Int := cs.map int1
theorem unI_ints (l : List Int) : unI (ints l) = l := by
  simp [unI, ints, int1, Function.comp_def]
theorem ints_len (l : List Int) : (ints l).length = l.length := List.length_map _
theorem plain_ints (l : List Int) : PlainL (ints l) := by
  intro x hx
  obtain ⟨n, _, rfl⟩ := List.mem_map.1 hx
  rfl
theorem nth_ints (l : List Int) (i : Nat) : nth (ints l) i = (l[i]?).map I := by rw [nth_eq, ints, List.getElem?_map]
theorem okI_ints {l : List Int} {i : Nat} (h : i < l.length) : okI .i64 (nth (ints l) i) = true := by
  rw [nth_ints, List.getElem?_eq_getElem h]; rfl
theorem intO_ints {l : List Int} {i : Nat} (h : i < l.length) : intO (nth (ints l) i) = l[i] := by
  rw [nth_ints, List.getElem?_eq_getElem h]; rfl
theorem w_id {n : Int} (h1 : -9223372036854775808 ≤ n) (h2 : n < 9223372036854775808) : w n = n := by
  have e : IntKind.i64.wrap n = if n % 18446744073709551616 ≥ 9223372036854775808 then n % 18446744073709551616 - 18446744073709551616 else n % 18446744073709551616 := by
    simp [IntKind.wrap, IntKind.bits, IntKind.signed]
  show IntKind.i64.wrap n = n
  rw [e]
  split <;> omega

def look (i : Nat) : List (Nat × AV) → AV
  | [] => .dead
  | (j, x) :: r => bif Nat.beq j i then x else look i r
/-- A frame of which some slots live. -/
def frm (n : Nat) (l : List (Nat × AV)) : List AV := (List.range n).map fun i => look i l
/-- Which slots live at the heads of loops. -/
def live (n : Nat) (l : List Nat) : List Bool := (List.range n).map fun i => l.any (Nat.beq i)
abbrev nmOf (flags : List Bool) (paths : List Pth) : Nt := { gh := [], flags := flags, paths := paths, tr := [] }
abbrev ft0 : FT := { loc := fun _ => false, mask := fun _ => [] }
abbrev noLeaf : List Item → List AV → AHeap → Prop := fun _ _ _ => False
theorem mixed : Try.prog.follows .mixedOrders = true := Checked.mixed Try.checked
theorem bifP {c : Bool} {p q : Prop} (h1 : c = true → p) (h2 : c = false → q) : bif c then p else q := by
  cases c
  · exact h2 rfl
  · exact h1 rfl

/-- A function of values alone. -/
def pureCon (f : Nat) (F : List Value → Option (List Value)) : Con := { f := f, gh := [], paths := [], spec := fun args bs => match bs with
  | [] => match F args with
    | some rs => some (True, rs, [])
    | none => none
  | _ => none }
abbrev ntP : Nt := { gh := [], flags := [], paths := [], tr := [] }
abbrev pureSeg (cs : List Con) (fn : Func) (args : List Value) (rs : List Value) : Prop :=
  segK2 Try.prog ft0 (semI Try.prog (fun _ => ft0) (callsOf G cs) 400 20 (retT G ntP fun rs' _ => rs' = rs)) fn [] 400 [.code (fn.body.getD .skip)] (startF fn args) noLeaf (heapB G [])
theorem pureS {w0 : World} {f : Nat} {fn : Func} {cs : List Con} {args rs : List Value} (hfn : Try.prog.funcs[f]? = some fn) (hcd : fn.body = some (fn.body.getD .skip)) (hcs : ∀ c ∈ cs, c.ok Try.prog w0)
    (hs : pureSeg cs fn args rs) : CallS Try.prog w0 f args (heapB Try.prog.globals.size []) fun rs' h' => rs' = rs ∧ h' = heapB Try.prog.globals.size [] := by
  refine con_body (nt := ntP) (out := []) (bs := []) hfn hcd rfl ?_
  refine (seg_semI (F := ft0) (leaf := noLeaf) mixed (callsOf_ok hcs) (fun _ _ _ hh => hh.elim) [] 20 400 hs).mono ?_
  intro rs2 h2 hh
  simp only [retT, canonT, canonQ, nmL, pathsG, Option.map_some, ghosts, trims] at hh ⊢
  generalize tysOk h2 (List.map (fun x => x.fst) (headN G [] ++ [])) [] = b at hh
  cases b with
  | false => exact hh.elim
  | true =>
    refine ⟨hh.1, ?_⟩
    have h3 := hh.2
    generalize valsF (List.map (invA G (List.map (fun x => x.fst) (headN G [] ++ []))) (List.map AV.v rs2)) = o at h3
    cases o with
    | none => exact h3.elim
    | some rs3 => exact ⟨h3, rfl⟩
theorem pure_ok {w0 : World} {f : Nat} {F : List Value → Option (List Value)} {fn : Func} {cs : List Con} (hfn : Try.prog.funcs[f]? = some fn) (hcd : fn.body = some (fn.body.getD .skip)) (hcs : ∀ c ∈ cs, c.ok Try.prog w0)
    (h : ∀ args rs, F args = some rs → pureSeg cs fn args rs) : (pureCon f F).ok Try.prog w0 := by
  intro args bs p rs out e _
  simp only [pureCon] at e
  split at e
  · split at e
    · rename_i rs' h1
      simp only [Option.some.injEq, Prod.mk.injEq] at e
      obtain ⟨_, h3, h4⟩ := e
      subst h3 h4
      exact pureS hfn hcd hcs (h args rs' h1)
    · simp at e
  · simp at e

variable {w0 : World}
def r50 (a : Int) : Bool :=
  bif decide (a ≥ 0) then decide (a < 8) else false
theorem eval50 (a : Int) (r : List Value) :
    pureSeg [] Try.f28 [I a] r
    = (bif decide (a ≥ 0) then True ∧ [Value.bool (decide (a < 8))] = r else True ∧ [Value.bool false] = r) := by kernel_rfl
def F50 : List Value → Option (List Value)
  | [v0] => match intV v0 with
    | some a => some [B (r50 a)]
    | _ => none
  | _ => none
theorem F50_eq {args rs : List Value} (e : F50 args = some rs) : ∃ a : Int, args = [I a] ∧ rs = [B (r50 a)] := by
  unfold F50 at e
  split at e
  · rename_i v0
    split at e
    · rename_i a h0
      simp only [Option.some.injEq] at e
      exact ⟨a, by rw [intV_eq h0], e.symm⟩
    · simp at e
  · simp at e
def con50 : Con := pureCon 28 F50
set_option maxRecDepth 100000 in
theorem con50_ok : con50.ok Try.prog w0 :=
  pure_ok (cs := []) Try.func28 (by kernel_rfl) (fun c hc => by simp at hc) fun args rs e => by
    obtain ⟨a, h1, h2⟩ := F50_eq e
    rw [h1, h2, eval50]
    repeat' (first | exact trivial | refine And.intro ?_ ?_ | refine bifP (fun h => ?_) (fun h => ?_))
    all_goals first | (simp only [r50, *, cond_true, cond_false]; done) | simp_all
def r51 (a _b _c d : Int) : Bool :=
  bif a == 6 then decide (d ≥ 0)
else
  bif a == 12 then bif decide (d ≥ 0) then decide (d < 128) else false
  else
    bif a == 13 then bif decide (d ≥ 0) then decide (d < 128) else false
    else
      bif a == 14 then bif decide (d ≥ 0) then decide (d < 128) else false
      else
        bif a == 15 then bif decide (d ≥ 0) then decide (d < 128) else false
        else
          bif a == 16 then bif decide (d ≥ 0) then decide (d < 128) else false
          else
            bif a == 17 then bif decide (d ≥ 1) then decide (d ≤ 64) else false
            else bif a == 19 then bif decide (d ≥ 1) then decide (d ≤ 3) else false else bif a == 1 then d == 0 else bif a == 2 then d == 0 else bif a == 3 then d == 0 else bif a == 18 then d == 0 else bif a == 20 then d == 0 else true
theorem eval51 (a b c d : Int) (r : List Value) :
    pureSeg [] Try.f29 [AG [I a, I b, I c, I d]] r
    = (bif a == 6 then True ∧ [Value.bool (decide (d ≥ 0))] = r
else
  bif a == 12 then bif decide (d ≥ 0) then True ∧ [Value.bool (decide (d < 128))] = r else True ∧ [Value.bool false] = r
  else
    bif a == 13 then bif decide (d ≥ 0) then True ∧ [Value.bool (decide (d < 128))] = r else True ∧ [Value.bool false] = r
    else
      bif a == 14 then bif decide (d ≥ 0) then True ∧ [Value.bool (decide (d < 128))] = r else True ∧ [Value.bool false] = r
      else
        bif a == 15 then bif decide (d ≥ 0) then True ∧ [Value.bool (decide (d < 128))] = r else True ∧ [Value.bool false] = r
        else
          bif a == 16 then bif decide (d ≥ 0) then True ∧ [Value.bool (decide (d < 128))] = r else True ∧ [Value.bool false] = r
          else
            bif a == 17 then bif decide (d ≥ 1) then True ∧ [Value.bool (decide (d ≤ 64))] = r else True ∧ [Value.bool false] = r
            else
              bif a == 19 then bif decide (d ≥ 1) then True ∧ [Value.bool (decide (d ≤ 3))] = r else True ∧ [Value.bool false] = r
              else
                bif a == 1 then True ∧ [Value.bool (d == 0)] = r
                else bif a == 2 then True ∧ [Value.bool (d == 0)] = r else bif a == 3 then True ∧ [Value.bool (d == 0)] = r else bif a == 18 then True ∧ [Value.bool (d == 0)] = r else bif a == 20 then True ∧ [Value.bool (d == 0)] = r else True ∧ [Value.bool true] = r) := by kernel_rfl
def F51 : List Value → Option (List Value)
  | [v0] => match aggV v0 with
    | some [a, b, c, d] => some [B (r51 a b c d)]
    | _ => none
  | _ => none
theorem F51_eq {args rs : List Value} (e : F51 args = some rs) : ∃ a b c d : Int, args = [AG [I a, I b, I c, I d]] ∧ rs = [B (r51 a b c d)] := by
  unfold F51 at e
  split at e
  · rename_i v0
    split at e
    · rename_i a b c d h0
      simp only [Option.some.injEq] at e
      exact ⟨a, b, c, d, by rw [aggV_eq h0]; rfl, e.symm⟩
    · simp at e
  · simp at e
def con51 : Con := pureCon 29 F51
set_option maxRecDepth 100000 in
theorem con51_ok : con51.ok Try.prog w0 :=
  pure_ok (cs := []) Try.func29 (by kernel_rfl) (fun c hc => by simp at hc) fun args rs e => by
    obtain ⟨a, b, c, d, h1, h2⟩ := F51_eq e
    rw [h1, h2, eval51]
    repeat' (first | exact trivial | refine And.intro ?_ ?_ | refine bifP (fun h => ?_) (fun h => ?_))
    all_goals first | (simp only [r51, *, cond_true, cond_false]; done) | simp_all
def r29 (a b c d : Int) : Bool :=
  bif !r50 b then false
else
  bif !r50 c then false
  else
    bif decide (d < -2147483648) then false
    else
      bif decide (d ≥ 2147483648) then false
      else
        bif !r51 a b c d then false
        else
          bif a == 1 then true
          else
            bif a == 2 then true
            else
              bif a == 3 then true
              else
                bif a == 7 then true
                else
                  bif a == 8 then true
                  else
                    bif a == 9 then true
                    else
                      bif a == 10 then true
                      else
                        bif a == 11 then true
                        else
                          bif a == 13 then true
                          else
                            bif a == 14 then true
                            else
                              bif a == 15 then true
                              else
                                bif a == 16 then true
                                else
                                  bif a == 12 then bif b != 0 then false else c == 0
                                  else
                                    bif a == 17 then bif b != 0 then false else c == 0
                                    else
                                      bif a == 18 then bif b != 0 then false else c == 0
                                      else bif a == 19 then bif b != 0 then false else c == 0 else bif a == 20 then bif b != 0 then false else c == 0 else bif a == 0 then c == 0 else bif a == 4 then c == 0 else bif a == 5 then c == 0 else bif a == 6 then c == 0 else false
theorem eval29 (a b c d : Int) (r : List Value) :
    pureSeg [con50, con51] Try.f14 [AG [I a, I b, I c, I d]] r
    = ((True ∧ True ∧ True) ∧
  bif !r50 b then True ∧ [Value.bool false] = r
  else
    (True ∧ True ∧ True) ∧
      bif !r50 c then True ∧ [Value.bool false] = r
      else
        bif decide (d < -2147483648) then True ∧ [Value.bool false] = r
        else
          bif decide (d ≥ 2147483648) then True ∧ [Value.bool false] = r
          else
            (True ∧ True ∧ True) ∧
              bif !r51 a b c d then True ∧ [Value.bool false] = r
              else
                bif a == 1 then True ∧ [Value.bool true] = r
                else
                  bif a == 2 then True ∧ [Value.bool true] = r
                  else
                    bif a == 3 then True ∧ [Value.bool true] = r
                    else
                      bif a == 7 then True ∧ [Value.bool true] = r
                      else
                        bif a == 8 then True ∧ [Value.bool true] = r
                        else
                          bif a == 9 then True ∧ [Value.bool true] = r
                          else
                            bif a == 10 then True ∧ [Value.bool true] = r
                            else
                              bif a == 11 then True ∧ [Value.bool true] = r
                              else
                                bif a == 13 then True ∧ [Value.bool true] = r
                                else
                                  bif a == 14 then True ∧ [Value.bool true] = r
                                  else
                                    bif a == 15 then True ∧ [Value.bool true] = r
                                    else
                                      bif a == 16 then True ∧ [Value.bool true] = r
                                      else
                                        bif a == 12 then bif b != 0 then True ∧ [Value.bool false] = r else True ∧ [Value.bool (c == 0)] = r
                                        else
                                          bif a == 17 then bif b != 0 then True ∧ [Value.bool false] = r else True ∧ [Value.bool (c == 0)] = r
                                          else
                                            bif a == 18 then bif b != 0 then True ∧ [Value.bool false] = r else True ∧ [Value.bool (c == 0)] = r
                                            else
                                              bif a == 19 then bif b != 0 then True ∧ [Value.bool false] = r else True ∧ [Value.bool (c == 0)] = r
                                              else
                                                bif a == 20 then bif b != 0 then True ∧ [Value.bool false] = r else True ∧ [Value.bool (c == 0)] = r
                                                else bif a == 0 then True ∧ [Value.bool (c == 0)] = r else bif a == 4 then True ∧ [Value.bool (c == 0)] = r else bif a == 5 then True ∧ [Value.bool (c == 0)] = r else bif a == 6 then True ∧ [Value.bool (c == 0)] = r else True ∧ [Value.bool false] = r) := by kernel_rfl
def F29 : List Value → Option (List Value)
  | [v0] => match aggV v0 with
    | some [a, b, c, d] => some [B (r29 a b c d)]
    | _ => none
  | _ => none
theorem F29_eq {args rs : List Value} (e : F29 args = some rs) : ∃ a b c d : Int, args = [AG [I a, I b, I c, I d]] ∧ rs = [B (r29 a b c d)] := by
  unfold F29 at e
  split at e
  · rename_i v0
    split at e
    · rename_i a b c d h0
      simp only [Option.some.injEq] at e
      exact ⟨a, b, c, d, by rw [aggV_eq h0]; rfl, e.symm⟩
    · simp at e
  · simp at e
def con29 : Con := pureCon 14 F29
set_option maxRecDepth 100000 in
theorem con29_ok : con29.ok Try.prog w0 :=
  pure_ok (cs := [con50, con51]) Try.func14 (by kernel_rfl) (fun c hc => by
    simp only [List.mem_cons, List.not_mem_nil, or_false] at hc
    rcases hc with rfl | rfl
    · exact con50_ok
    · exact con51_ok) fun args rs e => by
    obtain ⟨a, b, c, d, h1, h2⟩ := F29_eq e
    rw [h1, h2, eval29]
    repeat' (first | exact trivial | refine And.intro ?_ ?_ | refine bifP (fun h => ?_) (fun h => ?_))
    all_goals first | (simp only [r29, *, cond_true, cond_false]; done) | simp_all
def r44 (a : Int) : Bool :=
  bif decide (a ≥ 12) then decide (a ≤ 16) else false
theorem eval44 (a : Int) (r : List Value) :
    pureSeg [] Try.f41 [I a] r
    = (bif decide (a ≥ 12) then True ∧ [Value.bool (decide (a ≤ 16))] = r else True ∧ [Value.bool false] = r) := by kernel_rfl
def F44 : List Value → Option (List Value)
  | [v0] => match intV v0 with
    | some a => some [B (r44 a)]
    | _ => none
  | _ => none
theorem F44_eq {args rs : List Value} (e : F44 args = some rs) : ∃ a : Int, args = [I a] ∧ rs = [B (r44 a)] := by
  unfold F44 at e
  split at e
  · rename_i v0
    split at e
    · rename_i a h0
      simp only [Option.some.injEq] at e
      exact ⟨a, by rw [intV_eq h0], e.symm⟩
    · simp at e
  · simp at e
def con44 : Con := pureCon 41 F44
set_option maxRecDepth 100000 in
theorem con44_ok : con44.ok Try.prog w0 :=
  pure_ok (cs := []) Try.func41 (by kernel_rfl) (fun c hc => by simp at hc) fun args rs e => by
    obtain ⟨a, h1, h2⟩ := F44_eq e
    rw [h1, h2, eval44]
    repeat' (first | exact trivial | refine And.intro ?_ ?_ | refine bifP (fun h => ?_) (fun h => ?_))
    all_goals first | (simp only [r44, *, cond_true, cond_false]; done) | simp_all
def r28 (a : Int) : Int :=
  if 1099511627776 < if -1099511627776 > a then -1099511627776 else a then 1099511627776 else if -1099511627776 > a then -1099511627776 else a
theorem eval28 (a : Int) (r : List Value) :
    pureSeg [] Try.f30 [I a] r
    = (True ∧ [Value.int IntKind.i64 (if 1099511627776 < if -1099511627776 > a then -1099511627776 else a then 1099511627776 else if -1099511627776 > a then -1099511627776 else a)] = r) := by kernel_rfl
def F28 : List Value → Option (List Value)
  | [v0] => match intV v0 with
    | some a => some [I (r28 a)]
    | _ => none
  | _ => none
theorem F28_eq {args rs : List Value} (e : F28 args = some rs) : ∃ a : Int, args = [I a] ∧ rs = [I (r28 a)] := by
  unfold F28 at e
  split at e
  · rename_i v0
    split at e
    · rename_i a h0
      simp only [Option.some.injEq] at e
      exact ⟨a, by rw [intV_eq h0], e.symm⟩
    · simp at e
  · simp at e
def con28 : Con := pureCon 30 F28
set_option maxRecDepth 100000 in
theorem con28_ok : con28.ok Try.prog w0 :=
  pure_ok (cs := []) Try.func30 (by kernel_rfl) (fun c hc => by simp at hc) fun args rs e => by
    obtain ⟨a, h1, h2⟩ := F28_eq e
    rw [h1, h2, eval28]
    repeat' (first | exact trivial | refine And.intro ?_ ?_ | refine bifP (fun h => ?_) (fun h => ?_))
    all_goals rfl
def r14b (a : Int) : Int :=
  r28 a
def r14c (a : Int) : Int :=
  r28 a
theorem eval14 (a : Int) (r : List Value) :
    pureSeg [con28] Try.f32 [I a] r
    = ((True ∧ True ∧ True) ∧ (True ∧ True ∧ True) ∧ True ∧ [Value.agg { toList := [Value.int IntKind.i64 (r28 a), Value.int IntKind.i64 (r28 a)] }] = r) := by kernel_rfl
def F14 : List Value → Option (List Value)
  | [v0] => match intV v0 with
    | some a => some [AG [I (r14b a), I (r14c a)]]
    | _ => none
  | _ => none
theorem F14_eq {args rs : List Value} (e : F14 args = some rs) : ∃ a : Int, args = [I a] ∧ rs = [AG [I (r14b a), I (r14c a)]] := by
  unfold F14 at e
  split at e
  · rename_i v0
    split at e
    · rename_i a h0
      simp only [Option.some.injEq] at e
      exact ⟨a, by rw [intV_eq h0], e.symm⟩
    · simp at e
  · simp at e
def con14 : Con := pureCon 32 F14
set_option maxRecDepth 100000 in
theorem con14_ok : con14.ok Try.prog w0 :=
  pure_ok (cs := [con28]) Try.func32 (by kernel_rfl) (fun c hc => by
    simp only [List.mem_cons, List.not_mem_nil, or_false] at hc
    subst hc
    · exact con28_ok) fun args rs e => by
    obtain ⟨a, h1, h2⟩ := F14_eq e
    rw [h1, h2, eval14]
    repeat' (first | exact trivial | refine And.intro ?_ ?_ | refine bifP (fun h => ?_) (fun h => ?_))
    all_goals rfl
def r12b (a _b c _d : Int) : Int :=
  r28 (IntKind.i64.wrap (a + c))
def r12c (_a b _c d : Int) : Int :=
  r28 (IntKind.i64.wrap (b + d))
theorem eval12 (a b c d : Int) (r : List Value) :
    pureSeg [con28] Try.f57 [AG [I a, I b], AG [I c, I d]] r
    = ((True ∧ True ∧ True) ∧ bif d == d && (b == b && true) then (True ∧ True ∧ True) ∧ True ∧ [Value.agg { toList := [Value.int IntKind.i64 (r28 (IntKind.i64.wrap (a + c))), Value.int IntKind.i64 (r28 (IntKind.i64.wrap (b + d)))] }] = r else False) := by kernel_rfl
def F12 : List Value → Option (List Value)
  | [v0, v1] => match aggV v0 with
    | some [a, b] => (match aggV v1 with
    | some [c, d] => some [AG [I (r12b a b c d), I (r12c a b c d)]]
    | _ => none)
    | _ => none
  | _ => none
theorem F12_eq {args rs : List Value} (e : F12 args = some rs) : ∃ a b c d : Int, args = [AG [I a, I b], AG [I c, I d]] ∧ rs = [AG [I (r12b a b c d), I (r12c a b c d)]] := by
  unfold F12 at e
  split at e
  · rename_i v0 v1
    split at e
    · rename_i a b h0
      split at e
      · rename_i c d h1
        simp only [Option.some.injEq] at e
        exact ⟨a, b, c, d, by rw [aggV_eq h0, aggV_eq h1]; rfl, e.symm⟩
      · simp at e
    · simp at e
  · simp at e
def con12 : Con := pureCon 57 F12
set_option maxRecDepth 100000 in
theorem con12_ok : con12.ok Try.prog w0 :=
  pure_ok (cs := [con28]) Try.func57 (by kernel_rfl) (fun c hc => by
    simp only [List.mem_cons, List.not_mem_nil, or_false] at hc
    subst hc
    · exact con28_ok) fun args rs e => by
    obtain ⟨a, b, c, d, h1, h2⟩ := F12_eq e
    rw [h1, h2, eval12]
    repeat' (first | exact trivial | refine And.intro ?_ ?_ | refine bifP (fun h => ?_) (fun h => ?_))
    all_goals first | (simp only [r12b, r12c]; done) | simp_all
def r68b (a _b _c d : Int) : Int :=
  r28 (IntKind.i64.wrap (a - d))
def r68c (_a b c _d : Int) : Int :=
  r28 (IntKind.i64.wrap (b - c))
theorem eval68 (a b c d : Int) (r : List Value) :
    pureSeg [con28] Try.f58 [AG [I a, I b], AG [I c, I d]] r
    = ((True ∧ True ∧ True) ∧ bif c == c && (b == b && true) then (True ∧ True ∧ True) ∧ True ∧ [Value.agg { toList := [Value.int IntKind.i64 (r28 (IntKind.i64.wrap (a - d))), Value.int IntKind.i64 (r28 (IntKind.i64.wrap (b - c)))] }] = r else False) := by kernel_rfl
def F68 : List Value → Option (List Value)
  | [v0, v1] => match aggV v0 with
    | some [a, b] => (match aggV v1 with
    | some [c, d] => some [AG [I (r68b a b c d), I (r68c a b c d)]]
    | _ => none)
    | _ => none
  | _ => none
theorem F68_eq {args rs : List Value} (e : F68 args = some rs) : ∃ a b c d : Int, args = [AG [I a, I b], AG [I c, I d]] ∧ rs = [AG [I (r68b a b c d), I (r68c a b c d)]] := by
  unfold F68 at e
  split at e
  · rename_i v0 v1
    split at e
    · rename_i a b h0
      split at e
      · rename_i c d h1
        simp only [Option.some.injEq] at e
        exact ⟨a, b, c, d, by rw [aggV_eq h0, aggV_eq h1]; rfl, e.symm⟩
      · simp at e
    · simp at e
  · simp at e
def con68 : Con := pureCon 58 F68
set_option maxRecDepth 100000 in
theorem con68_ok : con68.ok Try.prog w0 :=
  pure_ok (cs := [con28]) Try.func58 (by kernel_rfl) (fun c hc => by
    simp only [List.mem_cons, List.not_mem_nil, or_false] at hc
    subst hc
    · exact con28_ok) fun args rs e => by
    obtain ⟨a, b, c, d, h1, h2⟩ := F68_eq e
    rw [h1, h2, eval68]
    repeat' (first | exact trivial | refine And.intro ?_ ?_ | refine bifP (fun h => ?_) (fun h => ?_))
    all_goals first | (simp only [r68b, r68c]; done) | simp_all
def r72b (a _b c _d : Int) : Int :=
  if c < a then c else a
def r72c (_a b _c d : Int) : Int :=
  if d > b then d else b
theorem eval72 (a b c d : Int) (r : List Value) :
    pureSeg [] Try.f63 [AG [I a, I b], AG [I c, I d]] r
    = (True ∧ [Value.agg { toList := [Value.int IntKind.i64 (if c < a then c else a), Value.int IntKind.i64 (if d > b then d else b)] }] = r) := by kernel_rfl
def F72 : List Value → Option (List Value)
  | [v0, v1] => match aggV v0 with
    | some [a, b] => (match aggV v1 with
    | some [c, d] => some [AG [I (r72b a b c d), I (r72c a b c d)]]
    | _ => none)
    | _ => none
  | _ => none
theorem F72_eq {args rs : List Value} (e : F72 args = some rs) : ∃ a b c d : Int, args = [AG [I a, I b], AG [I c, I d]] ∧ rs = [AG [I (r72b a b c d), I (r72c a b c d)]] := by
  unfold F72 at e
  split at e
  · rename_i v0 v1
    split at e
    · rename_i a b h0
      split at e
      · rename_i c d h1
        simp only [Option.some.injEq] at e
        exact ⟨a, b, c, d, by rw [aggV_eq h0, aggV_eq h1]; rfl, e.symm⟩
      · simp at e
    · simp at e
  · simp at e
def con72 : Con := pureCon 63 F72
set_option maxRecDepth 100000 in
theorem con72_ok : con72.ok Try.prog w0 :=
  pure_ok (cs := []) Try.func63 (by kernel_rfl) (fun c hc => by simp at hc) fun args rs e => by
    obtain ⟨a, b, c, d, h1, h2⟩ := F72_eq e
    rw [h1, h2, eval72]
    repeat' (first | exact trivial | refine And.intro ?_ ?_ | refine bifP (fun h => ?_) (fun h => ?_))
    all_goals rfl
def r69b (a _b c : Int) : Int :=
  if c < if 0 > a then 0 else a then c else if 0 > a then 0 else a
def r69c (_a b c : Int) : Int :=
  if c < if 0 > b then 0 else b then c else if 0 > b then 0 else b
theorem eval69 (a b c : Int) (r : List Value) :
    pureSeg [] Try.f59 [AG [I a, I b], I c] r
    = (True ∧ [Value.agg { toList := [Value.int IntKind.i64 (if c < if 0 > a then 0 else a then c else if 0 > a then 0 else a), Value.int IntKind.i64 (if c < if 0 > b then 0 else b then c else if 0 > b then 0 else b)] }] = r) := by kernel_rfl
def F69 : List Value → Option (List Value)
  | [v0, v1] => match aggV v0 with
    | some [a, b] => (match intV v1 with
    | some c => some [AG [I (r69b a b c), I (r69c a b c)]]
    | _ => none)
    | _ => none
  | _ => none
theorem F69_eq {args rs : List Value} (e : F69 args = some rs) : ∃ a b c : Int, args = [AG [I a, I b], I c] ∧ rs = [AG [I (r69b a b c), I (r69c a b c)]] := by
  unfold F69 at e
  split at e
  · rename_i v0 v1
    split at e
    · rename_i a b h0
      split at e
      · rename_i c h1
        simp only [Option.some.injEq] at e
        exact ⟨a, b, c, by rw [aggV_eq h0, intV_eq h1]; rfl, e.symm⟩
      · simp at e
    · simp at e
  · simp at e
def con69 : Con := pureCon 59 F69
set_option maxRecDepth 100000 in
theorem con69_ok : con69.ok Try.prog w0 :=
  pure_ok (cs := []) Try.func59 (by kernel_rfl) (fun c hc => by simp at hc) fun args rs e => by
    obtain ⟨a, b, c, h1, h2⟩ := F69_eq e
    rw [h1, h2, eval69]
    repeat' (first | exact trivial | refine And.intro ?_ ?_ | refine bifP (fun h => ?_) (fun h => ?_))
    all_goals rfl
def r77 (a b : Int) : Int :=
  bif b == 0 then 0
else
  bif a == 0 then 0
  else
    bif decide (a > 1073741824) then bif decide (b > 1048576) then bif decide (a > 0) == decide (b > 0) then 1099511627776 else -1099511627776 else bif decide (b < -1048576) then bif decide (a > 0) == decide (b > 0) then 1099511627776 else -1099511627776 else r28 (IntKind.i64.wrap (a * b))
    else
      bif decide (a < -1073741824) then bif decide (b > 1048576) then bif decide (a > 0) == decide (b > 0) then 1099511627776 else -1099511627776 else bif decide (b < -1048576) then bif decide (a > 0) == decide (b > 0) then 1099511627776 else -1099511627776 else r28 (IntKind.i64.wrap (a * b))
      else r28 (IntKind.i64.wrap (a * b))
theorem eval77 (a b : Int) (r : List Value) :
    pureSeg [con28] Try.f49 [I a, I b] r
    = (bif b == 0 then True ∧ [Value.int IntKind.i64 0] = r
else
  bif a == 0 then True ∧ [Value.int IntKind.i64 0] = r
  else
    bif decide (a > 1073741824) then
      bif decide (b > 1048576) then bif decide (a > 0) == decide (b > 0) then True ∧ [Value.int IntKind.i64 1099511627776] = r else True ∧ [Value.int IntKind.i64 (-1099511627776)] = r
      else bif decide (b < -1048576) then bif decide (a > 0) == decide (b > 0) then True ∧ [Value.int IntKind.i64 1099511627776] = r else True ∧ [Value.int IntKind.i64 (-1099511627776)] = r else (True ∧ True ∧ True) ∧ True ∧ [Value.int IntKind.i64 (r28 (IntKind.i64.wrap (a * b)))] = r
    else
      bif decide (a < -1073741824) then
        bif decide (b > 1048576) then bif decide (a > 0) == decide (b > 0) then True ∧ [Value.int IntKind.i64 1099511627776] = r else True ∧ [Value.int IntKind.i64 (-1099511627776)] = r
        else bif decide (b < -1048576) then bif decide (a > 0) == decide (b > 0) then True ∧ [Value.int IntKind.i64 1099511627776] = r else True ∧ [Value.int IntKind.i64 (-1099511627776)] = r else (True ∧ True ∧ True) ∧ True ∧ [Value.int IntKind.i64 (r28 (IntKind.i64.wrap (a * b)))] = r
      else (True ∧ True ∧ True) ∧ True ∧ [Value.int IntKind.i64 (r28 (IntKind.i64.wrap (a * b)))] = r) := by kernel_rfl
def F77 : List Value → Option (List Value)
  | [v0, v1] => match intV v0 with
    | some a => (match intV v1 with
    | some b => some [I (r77 a b)]
    | _ => none)
    | _ => none
  | _ => none
theorem F77_eq {args rs : List Value} (e : F77 args = some rs) : ∃ a b : Int, args = [I a, I b] ∧ rs = [I (r77 a b)] := by
  unfold F77 at e
  split at e
  · rename_i v0 v1
    split at e
    · rename_i a h0
      split at e
      · rename_i b h1
        simp only [Option.some.injEq] at e
        exact ⟨a, b, by rw [intV_eq h0, intV_eq h1], e.symm⟩
      · simp at e
    · simp at e
  · simp at e
def con77 : Con := pureCon 49 F77
set_option maxRecDepth 100000 in
theorem con77_ok : con77.ok Try.prog w0 :=
  pure_ok (cs := [con28]) Try.func49 (by kernel_rfl) (fun c hc => by
    simp only [List.mem_cons, List.not_mem_nil, or_false] at hc
    subst hc
    · exact con28_ok) fun args rs e => by
    obtain ⟨a, b, h1, h2⟩ := F77_eq e
    rw [h1, h2, eval77]
    repeat' (first | exact trivial | refine And.intro ?_ ?_ | refine bifP (fun h => ?_) (fun h => ?_))
    all_goals first | (simp only [r77, *, cond_true, cond_false]; done) | simp_all
def r52b (a b c : Int) : Int :=
  if r77 b c < r77 a c then r77 b c else r77 a c
def r52c (a b c : Int) : Int :=
  if r77 b c > r77 a c then r77 b c else r77 a c
theorem eval52 (a b c : Int) (r : List Value) :
    pureSeg [con77] Try.f31 [AG [I a, I b], I c] r
    = ((True ∧ True ∧ True) ∧ bif b == b && true then (True ∧ True ∧ True) ∧ True ∧ [Value.agg { toList := [Value.int IntKind.i64 (if r77 b c < r77 a c then r77 b c else r77 a c), Value.int IntKind.i64 (if r77 b c > r77 a c then r77 b c else r77 a c)] }] = r else False) := by kernel_rfl
def F52 : List Value → Option (List Value)
  | [v0, v1] => match aggV v0 with
    | some [a, b] => (match intV v1 with
    | some c => some [AG [I (r52b a b c), I (r52c a b c)]]
    | _ => none)
    | _ => none
  | _ => none
theorem F52_eq {args rs : List Value} (e : F52 args = some rs) : ∃ a b c : Int, args = [AG [I a, I b], I c] ∧ rs = [AG [I (r52b a b c), I (r52c a b c)]] := by
  unfold F52 at e
  split at e
  · rename_i v0 v1
    split at e
    · rename_i a b h0
      split at e
      · rename_i c h1
        simp only [Option.some.injEq] at e
        exact ⟨a, b, c, by rw [aggV_eq h0, intV_eq h1]; rfl, e.symm⟩
      · simp at e
    · simp at e
  · simp at e
def con52 : Con := pureCon 31 F52
set_option maxRecDepth 100000 in
theorem con52_ok : con52.ok Try.prog w0 :=
  pure_ok (cs := [con77]) Try.func31 (by kernel_rfl) (fun c hc => by
    simp only [List.mem_cons, List.not_mem_nil, or_false] at hc
    subst hc
    · exact con77_ok) fun args rs e => by
    obtain ⟨a, b, c, h1, h2⟩ := F52_eq e
    rw [h1, h2, eval52]
    repeat' (first | exact trivial | refine And.intro ?_ ?_ | refine bifP (fun h => ?_) (fun h => ?_))
    all_goals first | (simp only [r52b, r52c]; done) | simp_all
def r84 (a b c d f : Int) : Bool :=
  bif decide (IntKind.i64.wrap (a + c) ≥ 0) then decide (IntKind.i64.wrap (IntKind.i64.wrap (b + c) + d) ≤ f) else false
theorem eval84 (a b c d f : Int) (r : List Value) :
    pureSeg [] Try.f72 [AG [I a, I b], I c, I d, I f] r
    = (bif decide (IntKind.i64.wrap (a + c) ≥ 0) then True ∧ [Value.bool (decide (IntKind.i64.wrap (IntKind.i64.wrap (b + c) + d) ≤ f))] = r else True ∧ [Value.bool false] = r) := by kernel_rfl
def F84 : List Value → Option (List Value)
  | [v0, v1, v2, v3] => match aggV v0 with
    | some [a, b] => (match intV v1 with
    | some c => (match intV v2 with
    | some d => (match intV v3 with
    | some f => some [B (r84 a b c d f)]
    | _ => none)
    | _ => none)
    | _ => none)
    | _ => none
  | _ => none
theorem F84_eq {args rs : List Value} (e : F84 args = some rs) : ∃ a b c d f : Int, args = [AG [I a, I b], I c, I d, I f] ∧ rs = [B (r84 a b c d f)] := by
  unfold F84 at e
  split at e
  · rename_i v0 v1 v2 v3
    split at e
    · rename_i a b h0
      split at e
      · rename_i c h1
        split at e
        · rename_i d h2
          split at e
          · rename_i f h3
            simp only [Option.some.injEq] at e
            exact ⟨a, b, c, d, f, by rw [aggV_eq h0, intV_eq h1, intV_eq h2, intV_eq h3]; rfl, e.symm⟩
          · simp at e
        · simp at e
      · simp at e
    · simp at e
  · simp at e
def con84 : Con := pureCon 72 F84
set_option maxRecDepth 100000 in
theorem con84_ok : con84.ok Try.prog w0 :=
  pure_ok (cs := []) Try.func72 (by kernel_rfl) (fun c hc => by simp at hc) fun args rs e => by
    obtain ⟨a, b, c, d, f, h1, h2⟩ := F84_eq e
    rw [h1, h2, eval84]
    repeat' (first | exact trivial | refine And.intro ?_ ?_ | refine bifP (fun h => ?_) (fun h => ?_))
    all_goals first | (simp only [r84, *, cond_true, cond_false]; done) | simp_all
def r71 (a b _c d : Int) : Int :=
  bif a == 0 then b
else bif a == 1 then b else bif a == 2 then b else bif a == 3 then b else bif a == 4 then b else bif a == 5 then b else bif a == 6 then b else bif a == 7 then b else bif a == 8 then b else bif a == 9 then b else bif a == 10 then b else bif a == 19 then bif d == 1 then 0 else -1 else -1
theorem eval71 (a b c d : Int) (r : List Value) :
    pureSeg [] Try.f61 [AG [I a, I b, I c, I d]] r
    = (bif a == 0 then True ∧ [Value.int IntKind.i64 b] = r
else
  bif a == 1 then True ∧ [Value.int IntKind.i64 b] = r
  else
    bif a == 2 then True ∧ [Value.int IntKind.i64 b] = r
    else
      bif a == 3 then True ∧ [Value.int IntKind.i64 b] = r
      else
        bif a == 4 then True ∧ [Value.int IntKind.i64 b] = r
        else
          bif a == 5 then True ∧ [Value.int IntKind.i64 b] = r
          else
            bif a == 6 then True ∧ [Value.int IntKind.i64 b] = r
            else
              bif a == 7 then True ∧ [Value.int IntKind.i64 b] = r
              else
                bif a == 8 then True ∧ [Value.int IntKind.i64 b] = r
                else bif a == 9 then True ∧ [Value.int IntKind.i64 b] = r else bif a == 10 then True ∧ [Value.int IntKind.i64 b] = r else bif a == 19 then bif d == 1 then True ∧ [Value.int IntKind.i64 0] = r else True ∧ [Value.int IntKind.i64 (-1)] = r else True ∧ [Value.int IntKind.i64 (-1)] = r) := by kernel_rfl
def F71 : List Value → Option (List Value)
  | [v0] => match aggV v0 with
    | some [a, b, c, d] => some [I (r71 a b c d)]
    | _ => none
  | _ => none
theorem F71_eq {args rs : List Value} (e : F71 args = some rs) : ∃ a b c d : Int, args = [AG [I a, I b, I c, I d]] ∧ rs = [I (r71 a b c d)] := by
  unfold F71 at e
  split at e
  · rename_i v0
    split at e
    · rename_i a b c d h0
      simp only [Option.some.injEq] at e
      exact ⟨a, b, c, d, by rw [aggV_eq h0]; rfl, e.symm⟩
    · simp at e
  · simp at e
def con71 : Con := pureCon 61 F71
set_option maxRecDepth 100000 in
theorem con71_ok : con71.ok Try.prog w0 :=
  pure_ok (cs := []) Try.func61 (by kernel_rfl) (fun c hc => by simp at hc) fun args rs e => by
    obtain ⟨a, b, c, d, h1, h2⟩ := F71_eq e
    rw [h1, h2, eval71]
    repeat' (first | exact trivial | refine And.intro ?_ ?_ | refine bifP (fun h => ?_) (fun h => ?_))
    all_goals first | (simp only [r71, *, cond_true, cond_false]; done) | simp_all
def r54 (a b c : Int) : Bool :=
  bif a == 12 then true else bif a == 13 then b == c else bif a == 14 then b != c else bif a == 15 then decide (b < c) else decide (b ≤ c)
theorem eval54 (a b c : Int) (r : List Value) :
    pureSeg [] Try.f34 [I a, I b, I c] r
    = (bif a == 12 then True ∧ [Value.bool true] = r else bif a == 13 then True ∧ [Value.bool (b == c)] = r else bif a == 14 then True ∧ [Value.bool (b != c)] = r else bif a == 15 then True ∧ [Value.bool (decide (b < c))] = r else True ∧ [Value.bool (decide (b ≤ c))] = r) := by kernel_rfl
def F54 : List Value → Option (List Value)
  | [v0, v1, v2] => match intV v0 with
    | some a => (match intV v1 with
    | some b => (match intV v2 with
    | some c => some [B (r54 a b c)]
    | _ => none)
    | _ => none)
    | _ => none
  | _ => none
theorem F54_eq {args rs : List Value} (e : F54 args = some rs) : ∃ a b c : Int, args = [I a, I b, I c] ∧ rs = [B (r54 a b c)] := by
  unfold F54 at e
  split at e
  · rename_i v0 v1 v2
    split at e
    · rename_i a h0
      split at e
      · rename_i b h1
        split at e
        · rename_i c h2
          simp only [Option.some.injEq] at e
          exact ⟨a, b, c, by rw [intV_eq h0, intV_eq h1, intV_eq h2], e.symm⟩
        · simp at e
      · simp at e
    · simp at e
  · simp at e
def con54 : Con := pureCon 34 F54
set_option maxRecDepth 100000 in
theorem con54_ok : con54.ok Try.prog w0 :=
  pure_ok (cs := []) Try.func34 (by kernel_rfl) (fun c hc => by simp at hc) fun args rs e => by
    obtain ⟨a, b, c, h1, h2⟩ := F54_eq e
    rw [h1, h2, eval54]
    repeat' (first | exact trivial | refine And.intro ?_ ?_ | refine bifP (fun h => ?_) (fun h => ?_))
    all_goals first | (simp only [r54, *, cond_true, cond_false]; done) | simp_all

/-- An instruction. -/
structure Ins where
  op : Int
  d : Int
  s : Int
  imm : Int
def insC : List Ins → List Value
  | [] => []
  | x :: r => I x.op :: I x.d :: I x.s :: I x.imm :: insC r
def unIns : List Value → List Ins
  | a :: b :: c :: d :: r => ⟨int1 a, int1 b, int1 c, int1 d⟩ :: unIns r
  | _ => []
theorem unIns_insC : ∀ l : List Ins, unIns (insC l) = l
  | [] => rfl
  | x :: r => by simp [insC, unIns, unIns_insC r, int1]
theorem insC_len : ∀ l : List Ins, (insC l).length = l.length * 4
  | [] => rfl
  | x :: r => by simp [insC, insC_len r]; omega
theorem plain_insC : ∀ l : List Ins, PlainL (insC l)
  | [], x, hx => by simp [insC] at hx
  | y :: r, x, hx => by
    simp only [insC, List.mem_cons] at hx
    rcases hx with rfl | rfl | rfl | rfl | hx
    · rfl
    · rfl
    · rfl
    · rfl
    · exact plain_insC r x hx
theorem nth_insC : ∀ {l : List Ins} {i : Nat} (h : i < l.length), nth (insC l) (i * 4) = some (I l[i].op) ∧ nth (insC l) (i * 4 + 1) = some (I l[i].d) ∧ nth (insC l) (i * 4 + 2) = some (I l[i].s) ∧ nth (insC l) (i * 4 + 3) = some (I l[i].imm)
  | p :: r, 0, _ => ⟨rfl, rfl, rfl, rfl⟩
  | p :: r, i + 1, h => by
    have := nth_insC (l := r) (i := i) (by simpa using h)
    have e : (i + 1) * 4 = i * 4 + 1 + 1 + 1 + 1 := by omega
    rw [e]
    exact this
abbrev right (x : Ins) : Bool := r29 x.op x.d x.s x.imm

/-- Four bytes of a number. -/
abbrev by4 (a : Int) : List UInt8 := [UInt8.ofNat (IntKind.u8.wrap (a.fdiv 1)).toNat, UInt8.ofNat (IntKind.u8.wrap (a.fdiv 256)).toNat, UInt8.ofNat (IntKind.u8.wrap (a.fdiv 65536)).toNat, UInt8.ofNat (IntKind.u8.wrap (a.fdiv 16777216)).toNat]
theorem eval42 (a : Int) (r : List Value) :
    pureSeg [] Try.f39 [I a, I 4] r
    = (bif decide (a < 0) then True ∧ [Value.string { data := { toList := [] } }] = r
else
  bif a.fdiv 4294967296 != 0 then True ∧ [Value.string { data := { toList := [] } }] = r
  else True ∧ [Value.string { data := { toList := by4 a } }] = r) := by kernel_rfl
def con42 : Con := { f := 39, gh := [], paths := [], spec := fun args bs => match args, bs with
  | [v, u], [] => match intV v, intV u with
    | some a, some 4 => some (0 ≤ a ∧ a < 4294967296, [.string { data := { toList := by4 a } }], [])
    | _, _ => none
  | _, _ => none }
theorem con42_ok : con42.ok Try.prog w0 := by
  intro args bs p rs out e hp
  simp only [con42] at e
  split at e <;> first | (simp at e; done) | skip
  split at e <;> first | (simp at e; done) | skip
  rename_i v u _ _ a ha hu
  simp only [Option.some.injEq, Prod.mk.injEq] at e
  obtain ⟨rfl, rfl, rfl⟩ := e
  obtain ⟨h1, h2⟩ := hp
  rw [intV_eq ha, intV_eq hu]
  refine pureS (cs := []) (f := 39) Try.func39 (by kernel_rfl) (fun c hc => by simp at hc) ?_
  rw [eval42]
  have e1 : decide (a < 0) = false := by simp; omega
  have e2 : (a.fdiv 4294967296 != 0) = false := by
    have : a.fdiv 4294967296 = 0 := by rw [Int.fdiv_eq_ediv_of_nonneg _ (by omega)]; omega
    simp [this]
  rw [e1, e2]
  exact ⟨trivial, rfl⟩

noncomputable def ft22 : FT := { loc := fun _ => false, mask := fun id => bif Nat.beq id 5 then live 40 [4, 11, 12, 13] else [] }
abbrev nt22A : Nt := { gh := [], flags := [true], paths := [⟨4, [], false⟩], tr := [], ty := [(1, 96)] }
abbrev nt22B : Nt := { gh := [], flags := [true], paths := [⟨4, [], false⟩, ⟨4, [1], true⟩], tr := [], ty := [(1, 96), (2, 5)] }
abbrev nt22 : Nt := { gh := [], flags := [true], paths := [], tr := [] }
noncomputable def todo22 : List Item := todoOf Try.f17 5
abbrev cs22 : List Con := [con29, con42]
noncomputable def fr22 (n : Nat) (i : Int) : List AV := frm 40 [(4, .v (PT (G + 1))), (11, .v (SL G n 4)), (12, .v (I n)), (13, .v (I i))]
noncomputable def hp22A (cs : List Value) (rw : Bool) : AHeap := heapT G [some (.cells cs rw), some (.cells [.pointer none, .slice none 0 0] true)] (tyG G [(1, 96)])
noncomputable def hp22B (cs : List Value) (rw : Bool) (m : Nat) (b : List Value) : AHeap := heapT G [some (.cells cs rw), some (.cells [PT (G + 1), SL (G + 2) m 1] true), some (.cells b true)] (tyG G [(1, 96), (2, 5)])
abbrev seg22 (nt : Nt) (K : List Value → AHeap → Prop) (L : List Item → List AV → AHeap → Prop) (t : List Item) (fr : List AV) (h : AHeap) : Prop :=
  segK3 Try.prog ft22 (semI Try.prog (fun _ => ft0) (callsOf G cs22) 400 20 (retT G nt22 K)) Try.f17 [5] 60 t fr (fun t fr h => match t with
  | .code (.region 5 _ _) :: _ => canonT G nt (L t) fr h
  | _ => False) h
abbrev ix (cs : List Value) (i : Int) (k : Nat) : Int := intO (nth cs (0 + i.toNat * 4 + k))
abbrev ox (cs : List Value) (i : Int) (k : Nat) : Bool := okI .i64 (nth cs (0 + i.toNat * 4 + k))
abbrev by8 (cs : List Value) (i : Int) : List UInt8 := [UInt8.ofNat (IntKind.u8.wrap (ix cs i 0)).toNat, UInt8.ofNat (IntKind.u8.wrap (ix cs i 1)).toNat, UInt8.ofNat (IntKind.u8.wrap (ix cs i 2)).toNat, UInt8.ofNat 0] ++ by4 (w (ix cs i 3 + 2147483648))
theorem start22 (n : Nat) (cs : List Value) (rw : Bool) (K : List Value → AHeap → Prop) (L : List Item → List AV → AHeap → Prop) :
    seg22 nt22A K L [.code (Try.f17.body.getD .skip)] (startF Try.f17 [SL G n 4]) (heapB G [some (.cells cs rw)])
    = (bif decide ((↑n : Int) > 128) then
      (PlainL cs ∧ True) ∧ K [Value.string { data := { toList := [] } }, Value.iface 65 (I 10)] (heapB G [some (ABlk.cells cs rw)])
    else (PlainL cs ∧ True) ∧ L todo22 (frm 40 [(4, AV.v (PT (G + 1))), (11, AV.v (SL G n 4)), (12, AV.v (I (↑n : Int))), (13, AV.v (I 0))]) (heapT G [some (ABlk.cells cs rw), some (ABlk.cells [Value.pointer none, Value.slice none 0 0] true)] (tyG G [(1, 96)]))) := by kernel_rfl

theorem headA22 (n : Nat) (i : Int) (cs : List Value) (rw : Bool) (K : List Value → AHeap → Prop) (L : List Item → List AV → AHeap → Prop) :
    seg22 nt22B K L todo22 (fr22 n i) (hp22A cs rw)
    = (bif decide (i < (↑n : Int)) then
      bif decide (0 ≤ i) && decide (i < (↑n : Int)) then
      bif (0 + i.toNat * 4 + 4).ble cs.length && (ox cs i 0 && (ox cs i 1 && (ox cs i 2 && (ox cs i 3 && true)))) then
      (True ∧ True ∧ True) ∧
      bif !r29 (ix cs i 0) (ix cs i 1) (ix cs i 2) (ix cs i 3) then
      (PlainL cs ∧ True) ∧ K [Value.string { data := { toList := [] } }, Value.iface 65 (I 1)] (heapB G [some (ABlk.cells cs rw)])
    else (bif ix cs i 3 == ix cs i 3 && true then
      bif ix cs i 3 == ix cs i 3 && true then
      (True ∧ True ∧ 0 ≤ w (ix cs i 3 + 2147483648) ∧ w (ix cs i 3 + 2147483648) < 4294967296) ∧ (PlainL cs ∧ PlainL (List.map (fun b => Value.int IntKind.u8 (↑b.toNat : Int)) (by8 cs i)) ∧ True) ∧ L todo22 (frm 40 [(4, AV.v (PT (G + 1))), (11, AV.v (SL G n 4)), (12, AV.v (I (↑n : Int))), (13, AV.v (I (w (i + 1))))]) (heapT G [some (ABlk.cells cs rw), some (ABlk.cells [PT (G + 1), SL (G + 2) 8 1] true), some (ABlk.cells (List.map (fun b => Value.int IntKind.u8 (↑b.toNat : Int)) (by8 cs i)) true)] (tyG G [(1, 96), (2, 5)]))
    else False
    else False) ∧ (bif ix cs i 3 == ix cs i 3 && true then
      (True ∧ True ∧ 0 ≤ w (ix cs i 3 + 2147483648) ∧ w (ix cs i 3 + 2147483648) < 4294967296) ∧ (PlainL cs ∧ PlainL (List.map (fun b => Value.int IntKind.u8 (↑b.toNat : Int)) (by8 cs i)) ∧ True) ∧ L todo22 (frm 40 [(4, AV.v (PT (G + 1))), (11, AV.v (SL G n 4)), (12, AV.v (I (↑n : Int))), (13, AV.v (I (w (i + 1))))]) (heapT G [some (ABlk.cells cs rw), some (ABlk.cells [PT (G + 1), SL (G + 2) 8 1] true), some (ABlk.cells (List.map (fun b => Value.int IntKind.u8 (↑b.toNat : Int)) (by8 cs i)) true)] (tyG G [(1, 96), (2, 5)]))
    else False) ∧ (True ∧ True ∧ 0 ≤ w (ix cs i 3 + 2147483648) ∧ w (ix cs i 3 + 2147483648) < 4294967296) ∧
      bif ix cs i 2 == ix cs i 2 && (ix cs i 1 == ix cs i 1 && (ix cs i 0 == ix cs i 0 && true)) then
      (PlainL cs ∧ PlainL (List.map (fun b => Value.int IntKind.u8 (↑b.toNat : Int)) (by8 cs i)) ∧ True) ∧ L todo22 (frm 40 [(4, AV.v (PT (G + 1))), (11, AV.v (SL G n 4)), (12, AV.v (I (↑n : Int))), (13, AV.v (I (w (i + 1))))]) (heapT G [some (ABlk.cells cs rw), some (ABlk.cells [PT (G + 1), SL (G + 2) 8 1] true), some (ABlk.cells (List.map (fun b => Value.int IntKind.u8 (↑b.toNat : Int)) (by8 cs i)) true)] (tyG G [(1, 96), (2, 5)]))
    else False
    else False
    else False
    else (PlainL cs ∧ True) ∧ K [Value.string { data := { toList := [] } }, Value.nilIface] (heapB G [some (ABlk.cells cs rw)])) := by kernel_rfl

theorem headB22 (n : Nat) (i : Int) (cs : List Value) (rw : Bool) (m : Nat) (b : List Value) (K : List Value → AHeap → Prop) (L : List Item → List AV → AHeap → Prop) :
    seg22 nt22B K L todo22 (fr22 n i) (hp22B cs rw m b)
    = (bif decide (i < (↑n : Int)) then
      bif decide (0 ≤ i) && decide (i < (↑n : Int)) then
      bif (0 + i.toNat * 4 + 4).ble cs.length && (ox cs i 0 && (ox cs i 1 && (ox cs i 2 && (ox cs i 3 && true)))) then
      (True ∧ True ∧ True) ∧
      bif !r29 (ix cs i 0) (ix cs i 1) (ix cs i 2) (ix cs i 3) then
      (PlainL cs ∧ True) ∧ K [Value.string { data := { toList := [] } }, Value.iface 65 (I 1)] (heapB G [some (ABlk.cells cs rw)])
    else (bif ix cs i 3 == ix cs i 3 && true then
      bif ix cs i 3 == ix cs i 3 && true then
      (True ∧ True ∧ 0 ≤ w (ix cs i 3 + 2147483648) ∧ w (ix cs i 3 + 2147483648) < 4294967296) ∧
      bif room (m + 8) 1 then
      bif (0 + m * 1).ble b.length then
      (PlainL cs ∧ PlainL (List.take (m * 1) (List.drop 0 b) ++ List.map (fun b => Value.int IntKind.u8 (↑b.toNat : Int)) (by8 cs i)) ∧ True) ∧ L todo22 (frm 40 [(4, AV.v (PT (G + 1))), (11, AV.v (SL G n 4)), (12, AV.v (I (↑n : Int))), (13, AV.v (I (w (i + 1))))]) (heapT G [some (ABlk.cells cs rw), some (ABlk.cells [PT (G + 1), SL (G + 2) (m + 8) 1] true), some (ABlk.cells (List.take (m * 1) (List.drop 0 b) ++ List.map (fun b => Value.int IntKind.u8 (↑b.toNat : Int)) (by8 cs i)) true)] (tyG G [(1, 96), (2, 5)]))
    else False
    else False
    else False
    else False) ∧ (bif ix cs i 3 == ix cs i 3 && true then
      (True ∧ True ∧ 0 ≤ w (ix cs i 3 + 2147483648) ∧ w (ix cs i 3 + 2147483648) < 4294967296) ∧
      bif room (m + 8) 1 then
      bif (0 + m * 1).ble b.length then
      (PlainL cs ∧ PlainL (List.take (m * 1) (List.drop 0 b) ++ List.map (fun b => Value.int IntKind.u8 (↑b.toNat : Int)) (by8 cs i)) ∧ True) ∧ L todo22 (frm 40 [(4, AV.v (PT (G + 1))), (11, AV.v (SL G n 4)), (12, AV.v (I (↑n : Int))), (13, AV.v (I (w (i + 1))))]) (heapT G [some (ABlk.cells cs rw), some (ABlk.cells [PT (G + 1), SL (G + 2) (m + 8) 1] true), some (ABlk.cells (List.take (m * 1) (List.drop 0 b) ++ List.map (fun b => Value.int IntKind.u8 (↑b.toNat : Int)) (by8 cs i)) true)] (tyG G [(1, 96), (2, 5)]))
    else False
    else False
    else False) ∧ (True ∧ True ∧ 0 ≤ w (ix cs i 3 + 2147483648) ∧ w (ix cs i 3 + 2147483648) < 4294967296) ∧
      bif ix cs i 2 == ix cs i 2 && (ix cs i 1 == ix cs i 1 && (ix cs i 0 == ix cs i 0 && true)) then
      bif room (m + 8) 1 then
      bif (0 + m * 1).ble b.length then
      (PlainL cs ∧ PlainL (List.take (m * 1) (List.drop 0 b) ++ List.map (fun b => Value.int IntKind.u8 (↑b.toNat : Int)) (by8 cs i)) ∧ True) ∧ L todo22 (frm 40 [(4, AV.v (PT (G + 1))), (11, AV.v (SL G n 4)), (12, AV.v (I (↑n : Int))), (13, AV.v (I (w (i + 1))))]) (heapT G [some (ABlk.cells cs rw), some (ABlk.cells [PT (G + 1), SL (G + 2) (m + 8) 1] true), some (ABlk.cells (List.take (m * 1) (List.drop 0 b) ++ List.map (fun b => Value.int IntKind.u8 (↑b.toNat : Int)) (by8 cs i)) true)] (tyG G [(1, 96), (2, 5)]))
    else False
    else False
    else False
    else False
    else False
    else bif Nat.blt 0 m then
      bif (↑m : Int) == (↑m : Int) && (veq 4 (SL (G + 2) m 1) (SL (G + 2) m 1) && true) then
      bif decide (0 < (↑m : Int)) && decide ((↑m : Int) ≤ 1099511627776) && (↑m : Int).toNat.ble b.length && (List.take (↑m : Int).toNat b).all isU8 then
      (PlainL cs ∧ True) ∧ K [Value.string { data := { toList := List.map u8O (List.take (↑m : Int).toNat b) } }, Value.nilIface] (heapB G [some (ABlk.cells cs rw)])
    else False
    else False
    else False) := by kernel_rfl


theorem at_insC {l : List Ins} {i : Nat} (h : i < l.length) : (0 + (i : Int).toNat * 4 + 4).ble (insC l).length = true ∧ (ox (insC l) (i : Int) 0 = true ∧ ox (insC l) (i : Int) 1 = true ∧ ox (insC l) (i : Int) 2 = true ∧ ox (insC l) (i : Int) 3 = true) ∧
    ix (insC l) (i : Int) 0 = l[i].op ∧ ix (insC l) (i : Int) 1 = l[i].d ∧ ix (insC l) (i : Int) 2 = l[i].s ∧ ix (insC l) (i : Int) 3 = l[i].imm := by
  obtain ⟨h1, h2, h3, h4⟩ := nth_insC h
  have e0 : 0 + (i : Int).toNat * 4 + 0 = i * 4 := by simp
  have e1 : 0 + (i : Int).toNat * 4 + 1 = i * 4 + 1 := by simp
  have e2 : 0 + (i : Int).toNat * 4 + 2 = i * 4 + 2 := by simp
  have e3 : 0 + (i : Int).toNat * 4 + 3 = i * 4 + 3 := by simp
  refine ⟨Nat.ble_eq_true_of_le (by rw [insC_len]; simp; omega), ?_⟩
  simp only [ox, ix, e0, e1, e2, e3, h1, h2, h3, h4]
  exact ⟨⟨rfl, rfl, rfl, rfl⟩, rfl, rfl, rfl, rfl⟩
theorem right_imm {x : Ins} (h : right x = true) : -2147483648 ≤ x.imm ∧ x.imm < 2147483648 := by
  unfold right r29 at h
  cases h1 : r50 x.d <;> simp only [h1, Bool.not_true, Bool.not_false, cond_true, cond_false] at h
  · simp at h
  cases h2 : r50 x.s <;> simp only [h2, Bool.not_true, Bool.not_false, cond_true, cond_false] at h
  · simp at h
  cases h3 : decide (x.imm < -2147483648) <;> simp only [h3, cond_true, cond_false] at h
  · cases h4 : decide (x.imm ≥ 2147483648) <;> simp only [h4, cond_true, cond_false] at h
    · simp only [decide_eq_false_iff_not] at h3 h4
      omega
    · simp at h
  · simp at h
theorem right_w {x : Ins} (h : right x = true) : 0 ≤ w (x.imm + 2147483648) ∧ w (x.imm + 2147483648) < 4294967296 := by
  obtain ⟨h1, h2⟩ := right_imm h
  rw [w_id (by omega) (by omega)]
  omega
theorem plain_u8 : ∀ {b : List Value}, b.all isU8 = true → PlainL b
  | [], _, x, hx => by simp at hx
  | v :: r, e, x, hx => by
    simp only [List.all_cons, Bool.and_eq_true] at e
    rcases List.mem_cons.1 hx with rfl | hx
    · unfold isU8 at e
      split at e
      · rfl
      · simp at e
    · exact plain_u8 e.2 x hx
theorem map_u8 (b : List UInt8) : (b.map fun c => Value.int IntKind.u8 (c.toNat : Int)).all isU8 = true := by
  rw [List.all_map]
  simp [isU8, Function.comp_def]
theorem room_small {n : Nat} (h : n < 1000000000) : room n 1 = true := by
  unfold room
  simp
  omega
theorem veq_sl (b n : Nat) : veq 4 (SL b n 1) (SL b n 1) = true := by simp [veq]

theorem ok22 : ∀ c ∈ cs22, c.ok Try.prog w0 := fun c hc => by
  simp only [List.mem_cons, List.not_mem_nil, or_false] at hc
  rcases hc with rfl | rfl
  · exact con29_ok
  · exact con42_ok

abbrev Sem22 (w0 : World) (K : List Value → AHeap → Prop) (t : List Item) (fr : List AV) (h : AHeap) : Prop :=
  Agm.Sem Try.prog w0 (Try.prog.globals.size + nt22.flags.length) Try.f17 (retT Try.prog.globals.size nt22 K) t fr h
theorem canonT_semN {nt : Nt} {fl : List Bool} (hnt : nt.flags = fl) {fn : Func} {Q : Post} {t : List Item} {fr : List AV} {h : AHeap} (e : canonT G nt (Agm.Sem Try.prog w0 (Try.prog.globals.size + fl.length) fn Q t) fr h) : Agm.Sem Try.prog w0 (Try.prog.globals.size + fl.length) fn Q t fr h := by
  subst hnt
  exact canonT_sem e
theorem leaf22 {K : List Value → AHeap → Prop} (nt : Nt) (hnt : nt.flags = [true]) : ∀ t fr h, (match t with
    | .code (.region 5 _ _) :: _ => canonT G nt (Sem22 w0 K t) fr h
    | _ => False) → Sem22 w0 K t fr h := by
  intro t fr h e
  split at e
  · exact canonT_semN hnt e
  · exact e.elim

theorem loop22 (l : List Ins) (rw : Bool) (hn : l.length ≤ 128) {K : List Value → AHeap → Prop} (hg : (∀ x ∈ l, right x = true) → ∀ s, K [.string s, .nilIface] (heapB G [some (.cells (insC l) rw)]))
    (hb : (∃ x ∈ l, right x = false) → K [.string ⟨#[]⟩, .iface 65 (I 1)] (heapB G [some (.cells (insC l) rw)])) : ∀ (k i : Nat) (b : List Value), i + k = l.length → 0 < i → b.length = 8 * i → b.all isU8 = true → (∀ j (h : j < l.length), j < i → right l[j] = true) →
    Sem22 w0 K todo22 (fr22 l.length i) (hp22B (insC l) rw b.length b) := by
  intro k
  induction k with
  | zero =>
    intro i b hi h0 hbl hbu hr
    refine seg_semI3 (F := ft22) mixed (callsOf_ok ok22) (leaf22 nt22B rfl) [5] 20 60 ((headB22 l.length i (insC l) rw b.length b K _).mpr ?_)
    have h1 : ¬ ((i : Int) < (l.length : Int)) := by omega
    have h2 : Nat.blt 0 b.length = true := Nat.ble_eq_true_of_le (by omega)
    have h3 : (0 : Int) < (b.length : Int) := by omega
    have h4 : (b.length : Int) ≤ 1099511627776 := by omega
    have h5 : (b.length : Int).toNat.ble b.length = true := Nat.ble_eq_true_of_le (by simp)
    have h6 : (b.take (b.length : Int).toNat) = b := by simp
    simp only [h1, h2, h3, h4, h5, h6, hbu, decide_false, decide_true, cond_true, cond_false, Bool.and_self, beq_self_eq_true, veq_sl]
    refine ⟨⟨plain_insC l, trivial⟩, hg (fun x hx => ?_) _⟩
    obtain ⟨j, hj, rfl⟩ := List.mem_iff_getElem.1 hx
    exact hr j hj (by omega)
  | succ k ih =>
    intro i b hi h0 hbl hbu hr
    refine seg_semI3 (F := ft22) mixed (callsOf_ok ok22) (leaf22 nt22B rfl) [5] 20 60 ((headB22 l.length i (insC l) rw b.length b K _).mpr ?_)
    have hlt : i < l.length := by omega
    have h1 : (i : Int) < (l.length : Int) := by omega
    have h2 : (0 : Int) ≤ (i : Int) := by omega
    obtain ⟨e1, ⟨e2, e3, e4, e5⟩, e6, e7, e8, e9⟩ := at_insC hlt
    have hw1 : w ((i : Int) + 1) = ((i + 1 : Nat) : Int) := by rw [w_id (by omega) (by omega)]; omega
    simp only [h1, h2, e1, e2, e3, e4, e5, e6, e7, e8, e9, decide_true, cond_true, Bool.and_self, beq_self_eq_true, hw1]
    refine ⟨⟨trivial, trivial, trivial⟩, ?_⟩
    cases hc : r29 l[i].op l[i].d l[i].s l[i].imm with
    | false =>
      simp only [Bool.not_false, cond_true]
      exact ⟨⟨plain_insC l, trivial⟩, hb ⟨l[i], List.getElem_mem hlt, hc⟩⟩
    | true =>
      have hrm : room (b.length + 8) 1 = true := room_small (by omega)
      have hbb : (0 + b.length * 1).ble b.length = true := Nat.ble_eq_true_of_le (by omega)
      have htk : List.take (b.length * 1) (List.drop 0 b) = b := by simp
      obtain ⟨q1, q2⟩ := right_w hc
      simp only [Bool.not_true, cond_false, cond_true, hrm, hbb, htk]
      have fin := ih (i + 1) (b ++ List.map (fun c => Value.int IntKind.u8 (c.toNat : Int)) (by8 (insC l) i)) (by omega) (by omega) (by simp [by8]; omega) (by rw [List.all_append, hbu, map_u8]; rfl) (fun j hj hji => by
        rcases Nat.lt_or_ge j i with h | h
        · exact hr j hj h
        · have : j = i := by omega
          subst this; exact hc)
      have hpl : PlainL (insC l) := plain_insC l
      have hpb : PlainL (b ++ List.map (fun c => Value.int IntKind.u8 (c.toNat : Int)) (by8 (insC l) i)) := plain_u8 (by rw [List.all_append, hbu, map_u8]; rfl)
      have hlen : (b ++ List.map (fun c => Value.int IntKind.u8 (c.toNat : Int)) (by8 (insC l) i)).length = b.length + 8 := by simp [by8]
      rw [hlen] at fin
      exact ⟨⟨⟨trivial, trivial, q1, q2⟩, ⟨hpl, hpb, trivial⟩, fin⟩, ⟨⟨trivial, trivial, q1, q2⟩, ⟨hpl, hpb, trivial⟩, fin⟩, ⟨trivial, trivial, q1, q2⟩, ⟨hpl, hpb, trivial⟩, fin⟩

set_option maxRecDepth 100000 in
theorem start22_all (l : List Ins) (rw : Bool) {K : List Value → AHeap → Prop} (hg : l.length ≤ 128 → (∀ x ∈ l, right x = true) → ∀ s, K [.string s, .nilIface] (heapB G [some (.cells (insC l) rw)]))
    (hb : l.length ≤ 128 → (∃ x ∈ l, right x = false) → K [.string ⟨#[]⟩, .iface 65 (I 1)] (heapB G [some (.cells (insC l) rw)]))
    (hl : 128 < l.length → K [.string ⟨#[]⟩, .iface 65 (I 10)] (heapB G [some (.cells (insC l) rw)])) :
    Sem22 w0 K [.code (Try.f17.body.getD .skip)] (startF Try.f17 [SL G l.length 4]) (heapB G [some (.cells (insC l) rw)]) := by
  refine seg_semI3 (F := ft22) mixed (callsOf_ok ok22) (leaf22 nt22A rfl) [5] 20 60 ((start22 l.length (insC l) rw K _).mpr ?_)
  by_cases h128 : 128 < l.length
  · have h1 : ((l.length : Int) > 128) := by omega
    simp only [h1, decide_true, cond_true]
    exact ⟨⟨plain_insC l, trivial⟩, hl h128⟩
  have h1 : ¬ ((l.length : Int) > 128) := by omega
  simp only [h1, decide_false, cond_false]
  refine ⟨⟨plain_insC l, trivial⟩, ?_⟩
  refine seg_semI3 (F := ft22) mixed (callsOf_ok ok22) (leaf22 nt22B rfl) [5] 20 60 ((headA22 l.length 0 (insC l) rw K _).mpr ?_)
  by_cases h0 : l.length = 0
  · have h2 : ¬ ((0 : Int) < (l.length : Int)) := by omega
    simp only [h2, decide_false, cond_false]
    refine ⟨⟨plain_insC l, trivial⟩, hg (by omega) (fun x hx => ?_) _⟩
    rw [List.eq_nil_of_length_eq_zero h0] at hx
    simp at hx
  · have hlt : 0 < l.length := by omega
    have h2 : (0 : Int) < (l.length : Int) := by omega
    have h3 : (0 : Int) ≤ 0 := by omega
    obtain ⟨e1, ⟨e2, e3, e4, e5⟩, e6, e7, e8, e9⟩ := at_insC hlt
    rw [show ((0 : Nat) : Int) = (0 : Int) from rfl] at e1 e2 e3 e4 e5 e6 e7 e8 e9
    have hw1 : w ((0 : Int) + 1) = ((1 : Nat) : Int) := by rw [w_id (by omega) (by omega)]; omega
    simp only [h2, h3, e1, e2, e3, e4, e5, e6, e7, e8, e9, decide_true, cond_true, Bool.and_self, beq_self_eq_true, hw1]
    refine ⟨⟨trivial, trivial, trivial⟩, ?_⟩
    cases hc : r29 l[0].op l[0].d l[0].s l[0].imm with
    | false =>
      simp only [Bool.not_false, cond_true]
      exact ⟨⟨plain_insC l, trivial⟩, hb (by omega) ⟨l[0], List.getElem_mem hlt, hc⟩⟩
    | true =>
      obtain ⟨q1, q2⟩ := right_w hc
      simp only [Bool.not_true, cond_false]
      have hpl : PlainL (insC l) := plain_insC l
      have hpb : PlainL (List.map (fun c => Value.int IntKind.u8 (c.toNat : Int)) (by8 (insC l) 0)) := plain_u8 (map_u8 _)
      have fin := loop22 (w0 := w0) l rw (by omega) (K := K) (hg (by omega)) (hb (by omega)) (l.length - 1) 1 (List.map (fun c => Value.int IntKind.u8 (c.toNat : Int)) (by8 (insC l) 0)) (by omega) (by omega) (by simp [by8]) (map_u8 _) (fun j hj hji => by
        have : j = 0 := by omega
        subst this; exact hc)
      have hlen : (List.map (fun c => Value.int IntKind.u8 (c.toNat : Int)) (by8 (insC l) 0)).length = 8 := by simp [by8]
      rw [hlen] at fin
      exact ⟨⟨⟨trivial, trivial, q1, q2⟩, ⟨hpl, hpb, trivial⟩, fin⟩, ⟨⟨trivial, trivial, q1, q2⟩, ⟨hpl, hpb, trivial⟩, fin⟩, ⟨trivial, trivial, q1, q2⟩, ⟨hpl, hpb, trivial⟩, fin⟩

theorem ResV_junk {m : MapN} {S : Nat → Nat} {x y v : Value} (hx : one x = true) (h : ResV m S [x, y] v) : ResV m S [.chan none, y] v := by
  obtain ⟨vs, h1, h2⟩ := h
  refine ⟨vs, h1, ?_⟩
  revert h2
  generalize vs.toList = us
  intro h2
  cases h2 with
  | cons hv ht => exact .cons (.junk (by rw [hv.one_eq]; exact hx)) ht
theorem CallS_junk {P : Program} {f : Nat} {args : List Value} {h H : AHeap} {y : Value} (s : CallS P w0 f args h fun rs h' => (∃ s, rs = [.string s, y]) ∧ h' = H) : CallS P w0 f args h fun rs h' => rs = [.chan none, y] ∧ h' = H := by
  intro m E w args' hr hv he
  refine (s m E w args' hr hv he).mono ?_
  rintro en w' ⟨rs, h', v, m', ⟨⟨s, rfl⟩, rfl⟩, rfl, h1, h2, h3, h4⟩
  exact ⟨_, _, v, m', ⟨rfl, rfl⟩, rfl, h1, h2, h3, ResV_junk rfl h4⟩

noncomputable def putS (args : List Value) (bs : List (Option ABlk)) (P : List Ins → Nat → Prop) (rs : Nat → List Value) : Option (Prop × List Value × List OutB) := match args, bs with
  | [s], [some (.cells cs rw)] => match slN s 0 4 with
    | some n => some (cs = insC (unIns cs) ∧ (unIns cs).length = n ∧ P (unIns cs) n, rs n, [(true, some (.cells cs rw))])
    | none => none
  | _, _ => none
/-- A program that may be put into bytes. -/
noncomputable def con22 : Con := { f := 17, gh := [⟨0, none, 4⟩], paths := [⟨0, [], true⟩], spec := fun args bs => putS args bs (fun l n => n ≤ 128 ∧ ∀ x ∈ l, right x = true) fun _ => [.chan none, .nilIface] }
def putE (n : Nat) : Int := if 128 < n then 10 else 1
/-- One that may not. -/
noncomputable def con22b : Con := { f := 17, gh := [⟨0, none, 4⟩], paths := [⟨0, [], true⟩], spec := fun args bs => putS args bs (fun l n => 128 < n ∨ ∃ x ∈ l, right x = false) fun n => [.string ⟨#[]⟩, .iface 65 (I (putE n))] }
theorem putS_some {args : List Value} {bs : List (Option ABlk)} {P : List Ins → Nat → Prop} {rs : Nat → List Value} {p : Prop} {rs' : List Value} {out : List OutB} (e : putS args bs P rs = some (p, rs', out)) (hp : p) :
    ∃ (l : List Ins) (rw : Bool), args = [SL G l.length 4] ∧ bs = [some (.cells (insC l) rw)] ∧ P l l.length ∧ rs' = rs l.length ∧ out = [(true, some (.cells (insC l) rw))] := by
  unfold putS at e
  split at e
  · rename_i s cs rw
    split at e
    · rename_i n hn
      simp only [Option.some.injEq, Prod.mk.injEq] at e
      obtain ⟨rfl, rfl, rfl⟩ := e
      obtain ⟨h1, h2, h3⟩ := hp
      refine ⟨unIns cs, rw, ?_, ?_, ?_, ?_, ?_⟩
      · rw [slN_eq hn, h2]; rfl
      · rw [← h1]
      · rw [h2]; exact h3
      · rw [h2]
      · rw [← h1]
    · simp at e
  · simp at e
theorem con22_ok : con22.ok Try.prog w0 := by
  intro args bs p rs out e hp
  have e' : putS args bs (fun l n => n ≤ 128 ∧ ∀ x ∈ l, right x = true) (fun _ => [.chan none, .nilIface]) = some (p, rs, out) := e
  obtain ⟨l, rw, rfl, rfl, ⟨h1, h2⟩, rfl, rfl⟩ := putS_some e' hp
  refine CallS_junk (h := heapB Try.prog.globals.size [some (.cells (insC l) rw)]) (H := heapB Try.prog.globals.size [some (.cells (insC l) rw)]) ?_
  have hn : (heapB Try.prog.globals.size [some (.cells (insC l) rw)]).next = Try.prog.globals.size + nt22.flags.length := by rw [heapB_next]; rfl
  refine retT_call (nt := nt22) hn (call_sem (cd := Try.f17.body.getD .skip) Try.func17 (by kernel_rfl) ?_)
  rw [hn]
  exact start22_all l rw (fun _ _ s => ⟨⟨s, rfl⟩, rfl⟩) (fun _ ⟨x, hx, hx2⟩ => by rw [h2 x hx] at hx2; simp at hx2) (fun h => by omega)
theorem con22b_ok : con22b.ok Try.prog w0 := by
  intro args bs p rs out e hp
  have e' : putS args bs (fun l n => 128 < n ∨ ∃ x ∈ l, right x = false) (fun n => [.string ⟨#[]⟩, .iface 65 (I (putE n))]) = some (p, rs, out) := e
  obtain ⟨l, rw, rfl, rfl, h2, rfl, rfl⟩ := putS_some e' hp
  change CallS Try.prog w0 17 [SL G l.length 4] (heapB Try.prog.globals.size [some (.cells (insC l) rw)]) fun rs' h' => rs' = [.string ⟨#[]⟩, .iface 65 (I (putE l.length))] ∧ h' = heapB Try.prog.globals.size [some (.cells (insC l) rw)]
  have hn : (heapB Try.prog.globals.size [some (.cells (insC l) rw)]).next = Try.prog.globals.size + nt22.flags.length := by rw [heapB_next]; rfl
  refine retT_call (nt := nt22) hn (call_sem (cd := Try.f17.body.getD .skip) Try.func17 (by kernel_rfl) ?_)
  rw [hn]
  refine start22_all l rw (fun h hx s => ?_) (fun h _ => ⟨?_, rfl⟩) (fun h => ⟨?_, rfl⟩)
  · rcases h2 with h2 | ⟨x, hx1, hx2⟩
    · omega
    · rw [hx x hx1] at hx2; simp at hx2
  · rw [putE, if_neg (by omega)]
  · rw [putE, if_pos h]

abbrev evSeg (fn : Func) (cs : List Con) (nt : Nt) (args : List Value) (bs : List (Option ABlk)) (K : List Value → AHeap → Prop) : Prop :=
  segK3 Try.prog ft0 (semI Try.prog (fun _ => ft0) (callsOf G cs) 4000 20 (retT G nt K)) fn [] 4000 [.code (fn.body.getD .skip)] (startF fn args) noLeaf (heapB G bs)
/-- A function, where the evaluation comes to what is told. -/
theorem ev_callS {f : Nat} {fn : Func} {cs : List Con} {nt : Nt} {args : List Value} {bs : List (Option ABlk)} {K : List Value → AHeap → Prop} (hfn : Try.prog.funcs[f]? = some fn) (hcd : fn.body = some (fn.body.getD .skip)) (hcs : ∀ c ∈ cs, c.ok Try.prog w0)
    (hl : bs.length = nt.flags.length) (h : evSeg fn cs nt args bs K) : CallS Try.prog w0 f args (heapB Try.prog.globals.size bs) K := by
  have hn : (heapB Try.prog.globals.size bs).next = Try.prog.globals.size + nt.flags.length := by rw [heapB_next, hl]
  refine retT_call (nt := nt) hn (call_sem hfn hcd ?_)
  rw [hn]
  exact seg_semI3 (F := ft0) (leaf := noLeaf) mixed (callsOf_ok hcs) (fun _ _ _ hh => hh.elim) [] 20 4000 h
abbrev nt1 : Nt := { gh := [], flags := [true], paths := [], tr := [] }
abbrev pt1 : List Pth := [⟨0, [], true⟩]

/-- A state's cells. -/
abbrev stL (c k0 k1 k2 k3 k4 k5 k6 k7 : Bool) (l0 h0 l1 h1 l2 h2 l3 h3 l4 h4 l5 h5 l6 h6 l7 h7 : Int) : List Value := [B c, B k0, B k1, B k2, B k3, B k4, B k5, B k6, B k7, I l0, I h0, I l1, I h1, I l2, I h2, I l3, I h3, I l4, I h4, I l5, I h5, I l6, I h6, I l7, I h7]
def okK (i : Nat) (o : Option Value) : Bool := bif Nat.blt i 9 then okB o else okI .i64 o
def tys25 : Nat → List Value → Bool
  | i, [] => Nat.beq i 25
  | i, v :: r => okK i (some v) && tys25 (i + 1) r
/-- Cells of a state. -/
abbrev IsSt (cs : List Value) : Prop := tys25 0 cs = true
theorem okB_some {v : Value} (h : okB (some v) = true) : ∃ b, v = B b := by
  unfold okB at h; split at h
  · rename_i b e; exact ⟨b, by simpa using e⟩
  · simp at h
theorem okI_some {v : Value} (h : okI .i64 (some v) = true) : ∃ n, v = I n := by
  unfold okI at h; split at h
  · rename_i k n e
    simp only [beq_iff_eq] at h
    subst h
    exact ⟨n, by simpa using e⟩
  · simp at h
theorem tys_cons {i : Nat} {cs : List Value} (hi : i < 25) (h : tys25 i cs = true) : ∃ v r, cs = v :: r ∧ okK i (some v) = true ∧ tys25 (i + 1) r = true := by
  cases cs with
  | nil =>
    simp only [tys25] at h
    have := Nat.eq_of_beq_eq_true h
    omega
  | cons v r =>
    simp only [tys25, Bool.and_eq_true] at h
    exact ⟨v, r, rfl, h.1, h.2⟩
theorem tysB {i : Nat} {cs : List Value} (hi : Nat.blt i 9 = true) (h : tys25 i cs = true) : ∃ b r, cs = B b :: r ∧ tys25 (i + 1) r = true := by
  have h9 : i < 9 := Nat.le_of_ble_eq_true hi
  obtain ⟨v, r, rfl, h1, h2⟩ := tys_cons (by omega) h
  unfold okK at h1
  rw [hi, cond_true] at h1
  obtain ⟨b, rfl⟩ := okB_some h1
  exact ⟨b, r, rfl, h2⟩
theorem tysI {i : Nat} {cs : List Value} (hi : Nat.blt i 9 = false) (hi2 : i < 25) (h : tys25 i cs = true) : ∃ n r, cs = I n :: r ∧ tys25 (i + 1) r = true := by
  obtain ⟨v, r, rfl, h1, h2⟩ := tys_cons hi2 h
  unfold okK at h1
  rw [hi, cond_false] at h1
  obtain ⟨b, rfl⟩ := okI_some h1
  exact ⟨b, r, rfl, h2⟩
theorem isSt_eq {cs : List Value} (h : IsSt cs) : ∃ (c k0 k1 k2 k3 k4 k5 k6 k7 : Bool) (l0 h0 l1 h1 l2 h2 l3 h3 l4 h4 l5 h5 l6 h6 l7 h7 : Int), cs = stL c k0 k1 k2 k3 k4 k5 k6 k7 l0 h0 l1 h1 l2 h2 l3 h3 l4 h4 l5 h5 l6 h6 l7 h7 := by
  have g0 : tys25 0 cs = true := h
  clear h
  obtain ⟨c, r0, e0, g1⟩ := tysB rfl g0
  obtain ⟨k0, r1, e1, g2⟩ := tysB rfl g1
  obtain ⟨k1, r2, e2, g3⟩ := tysB rfl g2
  obtain ⟨k2, r3, e3, g4⟩ := tysB rfl g3
  obtain ⟨k3, r4, e4, g5⟩ := tysB rfl g4
  obtain ⟨k4, r5, e5, g6⟩ := tysB rfl g5
  obtain ⟨k5, r6, e6, g7⟩ := tysB rfl g6
  obtain ⟨k6, r7, e7, g8⟩ := tysB rfl g7
  obtain ⟨k7, r8, e8, g9⟩ := tysB rfl g8
  obtain ⟨l0, r9, e9, g10⟩ := tysI rfl (by omega) g9
  obtain ⟨h0, r10, e10, g11⟩ := tysI rfl (by omega) g10
  obtain ⟨l1, r11, e11, g12⟩ := tysI rfl (by omega) g11
  obtain ⟨h1, r12, e12, g13⟩ := tysI rfl (by omega) g12
  obtain ⟨l2, r13, e13, g14⟩ := tysI rfl (by omega) g13
  obtain ⟨h2, r14, e14, g15⟩ := tysI rfl (by omega) g14
  obtain ⟨l3, r15, e15, g16⟩ := tysI rfl (by omega) g15
  obtain ⟨h3, r16, e16, g17⟩ := tysI rfl (by omega) g16
  obtain ⟨l4, r17, e17, g18⟩ := tysI rfl (by omega) g17
  obtain ⟨h4, r18, e18, g19⟩ := tysI rfl (by omega) g18
  obtain ⟨l5, r19, e19, g20⟩ := tysI rfl (by omega) g19
  obtain ⟨h5, r20, e20, g21⟩ := tysI rfl (by omega) g20
  obtain ⟨l6, r21, e21, g22⟩ := tysI rfl (by omega) g21
  obtain ⟨h6, r22, e22, g23⟩ := tysI rfl (by omega) g22
  obtain ⟨l7, r23, e23, g24⟩ := tysI rfl (by omega) g23
  obtain ⟨h7, r24, e24, g25⟩ := tysI rfl (by omega) g24
  subst e0 e1 e2 e3 e4 e5 e6 e7 e8 e9 e10 e11 e12 e13 e14 e15 e16 e17 e18 e19 e20 e21 e22 e23 e24
  have h := g25
  cases r24 with
  | nil => exact ⟨_, _, _, _, _, _, _, _, _, _, _, _, _, _, _, _, _, _, _, _, _, _, _, _, _, rfl⟩
  | cons v r => 
    exfalso
    have : ∀ (j : Nat) (cs : List Value), 25 < j → tys25 j cs = false := by
      intro j cs
      induction cs generalizing j with
      | nil =>
        intro hj
        simp only [tys25]
        cases hb : Nat.beq j 25 with
        | false => rfl
        | true => have := Nat.eq_of_beq_eq_true hb; omega
      | cons a b ih =>
        intro hj
        simp only [tys25, ih (j + 1) (by omega), Bool.and_false]
    simp only [tys25, Bool.and_eq_true] at h
    rw [this _ _ (by omega)] at h
    simp at h

abbrev kO (cs : List Value) (i : Nat) : Bool := boolO (nth cs (1 + i))
abbrev lO (cs : List Value) (i : Nat) : Int := intO (nth cs (9 + 2 * i))
abbrev hO (cs : List Value) (i : Nat) : Int := intO (nth cs (10 + 2 * i))
/-- What is known of a register, its span. -/
abbrev kI (cs : List Value) (r : Int) : Bool := boolO (nth cs (1 + r.toNat * 1))
abbrev lI (cs : List Value) (r : Int) : Int := intO (nth cs (9 + r.toNat * 2 + 0))
abbrev hI (cs : List Value) (r : Int) : Int := intO (nth cs (9 + r.toNat * 2 + 1))
def setM (cs : List Value) (r lo hi : Int) : List Value := splice (splice cs (1 + r.toNat * 1) [B true]) (9 + r.toNat * 2) [I lo, I hi]
theorem veq_ints (n : Nat) (a b : Int) : veq (n + 1) (AG [I a, I b]) (AG [I a, I b]) = true := by simp [veq, veq.go]

theorem eval95 (c k0 k1 k2 k3 k4 k5 k6 k7 : Bool) (l0 h0 l1 h1 l2 h2 l3 h3 l4 h4 l5 h5 l6 h6 l7 h7 : Int) (a : Int) (K : List Value → AHeap → Prop) :
    evSeg Try.f79 [con84] ntP [AG (stL c k0 k1 k2 k3 k4 k5 k6 k7 l0 h0 l1 h1 l2 h2 l3 h3 l4 h4 l5 h5 l6 h6 l7 h7), I a] [] K
    = ((bif veq 4 (AG [I l3, I h3]) (AG [I l3, I h3]) && (veq 4 (AG [I l2, I h2]) (AG [I l2, I h2]) && true) then
      bif veq 4 (AG [I l3, I h3]) (AG [I l3, I h3]) && (veq 4 (AG [I l2, I h2]) (AG [I l2, I h2]) && true) then
      bif veq 4 (AG [I l3, I h3]) (AG [I l3, I h3]) && true then
      bif !k2 then
      True ∧ K [B false] (heapB G [])
    else bif !k3 then
      True ∧ K [B false] (heapB G [])
    else bif decide (l3 ≥ 0) then
      bif decide (h3 ≤ a) then
      (True ∧ True ∧ True) ∧ True ∧ K [B (r84 l2 h2 0 h3 512)] (heapB G [])
    else True ∧ K [B false] (heapB G [])
    else True ∧ K [B false] (heapB G [])
    else False
    else False
    else False) ∧
      bif veq 4 (AG [I l3, I h3]) (AG [I l3, I h3]) && (veq 4 (AG [I l2, I h2]) (AG [I l2, I h2]) && true) then
      bif veq 4 (AG [I l3, I h3]) (AG [I l3, I h3]) && (veq 4 (AG [I l2, I h2]) (AG [I l2, I h2]) && true) then
      bif veq 4 (AG [I l3, I h3]) (AG [I l3, I h3]) && true then
      bif !k2 then
      True ∧ K [B false] (heapB G [])
    else bif !k3 then
      True ∧ K [B false] (heapB G [])
    else bif decide (l3 ≥ 0) then
      bif decide (h3 ≤ a) then
      (True ∧ True ∧ True) ∧ True ∧ K [B (r84 l2 h2 0 h3 512)] (heapB G [])
    else True ∧ K [B false] (heapB G [])
    else True ∧ K [B false] (heapB G [])
    else False
    else False
    else False) := by kernel_rfl

theorem eval24 (r lo hi : Int) (cs : List Value) (off : Nat) (K : List Value → AHeap → Prop) :
    evSeg Try.f19 [] nt1 [.pointer (some ⟨G, off, none⟩), I r, AG [I lo, I hi]] [some (.cells cs true)] K
    = (bif decide (0 ≤ r) && decide (r < 8) then
      bif (off + 1 + r.toNat * 1 + 1).ble cs.length then
      bif veq 4 (AG [I lo, I hi]) (AG [I lo, I hi]) && true then
      bif decide (0 ≤ r) && decide (r < 8) then
      bif 2 == 2 && (off + 9 + r.toNat * 2 + 2).ble (splice cs (off + 1 + r.toNat * 1) [B true]).length then
      (PlainL (splice (splice cs (off + 1 + r.toNat * 1) [B true]) (off + 9 + r.toNat * 2) [I lo, I hi]) ∧ True) ∧ K [] (heapB G [some (ABlk.cells (splice (splice cs (off + 1 + r.toNat * 1) [B true]) (off + 9 + r.toNat * 2) [I lo, I hi]) true)])
    else False
    else False
    else False
    else False
    else False) := by kernel_rfl


/-- Bytes of the page that a helper is to look at. -/
def r95v (k2 k3 : Bool) (l2 h2 l3 h3 a : Int) : Bool := bif !k2 then false else bif !k3 then false else bif decide (l3 ≥ 0) then bif decide (h3 ≤ a) then r84 l2 h2 0 h3 512 else false else false
def r95 (cs : List Value) (a : Int) : Bool := r95v (kO cs 2) (kO cs 3) (lO cs 2) (hO cs 2) (lO cs 3) (hO cs 3) a
noncomputable def con95 : Con := { f := 79, gh := [], paths := [], spec := fun args bs => match args, bs with
  | [.agg cs, v], [] => match intV v with
    | some a => some (IsSt cs.toList, [B (r95 cs.toList a)], [])
    | none => none
  | _, _ => none }
set_option maxRecDepth 100000 in
theorem con95_ok : con95.ok Try.prog w0 := by
  intro args bs p rs out e hp
  simp only [con95] at e
  split at e <;> first | (simp at e; done) | skip
  split at e <;> first | (simp at e; done) | skip
  rename_i cs v _ a ha
  simp only [Option.some.injEq, Prod.mk.injEq] at e
  obtain ⟨e1, e2, e3⟩ := e
  subst e1 e2 e3
  obtain ⟨cs⟩ := cs
  obtain ⟨c, k0, k1, k2, k3, k4, k5, k6, k7, l0, h0, l1, h1, l2, h2, l3, h3, l4, h4, l5, h5, l6, h6, l7, h7, hcs⟩ := isSt_eq hp
  rw [intV_eq ha]
  change cs = _ at hcs
  subst hcs
  refine ev_callS (nt := ntP) (cs := [con84]) (f := 79) (bs := []) Try.func79 (by kernel_rfl) (fun c hc => by
    simp only [List.mem_singleton] at hc
    subst hc
    exact con84_ok) rfl ?_
  rw [eval95]
  have hr : r95 (stL c k0 k1 k2 k3 k4 k5 k6 k7 l0 h0 l1 h1 l2 h2 l3 h3 l4 h4 l5 h5 l6 h6 l7 h7) a = r95v k2 k3 l2 h2 l3 h3 a := rfl
  simp only [hr, veq_ints, Bool.and_self, cond_true, true_and]
  constructor <;>
  · repeat' (first | exact trivial | refine And.intro ?_ ?_ | refine bifP (fun h => ?_) (fun h => ?_))
    all_goals first | rfl | (simp only [r95v, *, cond_true, cond_false]; done)

theorem plain_splice {cs xs : List Value} {n : Nat} (h : PlainL cs) (hx : PlainL xs) : PlainL (splice cs n xs) := by
  intro x hm
  simp only [splice, List.mem_append] at hm
  rcases hm with (hm | hm) | hm
  · exact h x (List.mem_of_mem_take hm)
  · exact hx x hm
  · exact h x (List.mem_of_mem_drop hm)
theorem plain_B (b : Bool) : PlainL [B b] := by
  intro x hx
  rw [List.mem_singleton] at hx
  subst hx; rfl
theorem plain_II (a b : Int) : PlainL [I a, I b] := by
  intro x hx
  simp only [List.mem_cons, List.not_mem_nil, or_false] at hx
  rcases hx with rfl | rfl <;> rfl
theorem splice_len {cs xs : List Value} {n : Nat} (h : n + xs.length ≤ cs.length) : (splice cs n xs).length = cs.length := by
  simp only [splice, List.length_append, List.length_take, List.length_drop]
  omega
/-- A register's place in a state at a place. -/
def setA (cs : List Value) (off : Nat) (r lo hi : Int) : List Value := splice (splice cs (off + 1 + r.toNat * 1) [B true]) (off + 9 + r.toNat * 2) [I lo, I hi]
noncomputable def con24 : Con := { f := 19, gh := [], paths := [⟨0, [], true⟩], spec := fun args bs => match args, bs with
  | [.pointer (some ⟨b, off, none⟩), v, u], [some (.cells cs true)] => match intV v, aggV u with
    | some r, some [lo, hi] => bif Nat.beq b Try.prog.globals.size then some (0 ≤ r ∧ r < 8 ∧ off + 25 ≤ cs.length ∧ PlainL cs, [], [(true, some (.cells (setA cs off r lo hi) true))]) else none
    | _, _ => none
  | _, _ => none }
set_option maxRecDepth 100000 in
theorem con24_ok : con24.ok Try.prog w0 := by
  intro args bs p rs out e hp
  simp only [con24] at e
  split at e <;> first | (simp at e; done) | skip
  split at e <;> first | (simp at e; done) | skip
  rename_i b off v u cs _ _ r lo hi hr hu
  cases hq : Nat.beq b Try.prog.globals.size with
  | false => rw [hq] at e; simp at e
  | true =>
    rw [hq] at e
    simp only [cond_true, Option.some.injEq, Prod.mk.injEq] at e
    obtain ⟨e1, e2, e3⟩ := e
    subst e1 e2 e3
    obtain ⟨p1, p2, p3, p4⟩ := hp
    rw [intV_eq hr, aggV_eq hu, Nat.eq_of_beq_eq_true hq]
    refine ev_callS (nt := nt1) (cs := []) (f := 19) (bs := [some (.cells cs true)]) Try.func19 (by kernel_rfl) (fun c hc => by simp at hc) rfl ((eval24 r lo hi cs off _).mpr ?_)
    have q1 : (off + 1 + r.toNat * 1 + 1).ble cs.length = true := Nat.ble_eq_true_of_le (by omega)
    have q2 : (off + 9 + r.toNat * 2 + 2).ble (splice cs (off + 1 + r.toNat * 1) [B true]).length = true := Nat.ble_eq_true_of_le (by rw [splice_len (by simp; omega)]; omega)
    simp only [p1, p2, q1, q2, veq_ints, decide_true, Bool.and_self, cond_true, beq_self_eq_true]
    exact ⟨⟨plain_splice (plain_splice p4 (plain_B _)) (plain_II _ _), trivial⟩, by trivial, rfl⟩

theorem eval67a (c k0 k1 k2 k3 k4 k5 k6 k7 : Bool) (l0 h0 l1 h1 l2 h2 l3 h3 l4 h4 l5 h5 l6 h6 l7 h7 : Int) (a : Int) (rw : Bool) (K : List Value → AHeap → Prop) :
    evSeg Try.f56 [] nt1 [AG (stL c k0 k1 k2 k3 k4 k5 k6 k7 l0 h0 l1 h1 l2 h2 l3 h3 l4 h4 l5 h5 l6 h6 l7 h7), SL G 1 1] [some (.cells [I a] rw)] K
    = (bif decide (0 ≤ a) && decide (a < 8) then
      bif okB (nth (stL c k0 k1 k2 k3 k4 k5 k6 k7 l0 h0 l1 h1 l2 h2 l3 h3 l4 h4 l5 h5 l6 h6 l7 h7) (1 + a.toNat * 1)) then
      bif !boolO (nth (stL c k0 k1 k2 k3 k4 k5 k6 k7 l0 h0 l1 h1 l2 h2 l3 h3 l4 h4 l5 h5 l6 h6 l7 h7) (1 + a.toNat * 1)) then
      (PlainL [I a] ∧ True) ∧ K [B false] (heapB G [some (ABlk.cells [I a] rw)])
    else (PlainL [I a] ∧ True) ∧ K [B true] (heapB G [some (ABlk.cells [I a] rw)])
    else False
    else False) := by kernel_rfl

theorem eval67b (c k0 k1 k2 k3 k4 k5 k6 k7 : Bool) (l0 h0 l1 h1 l2 h2 l3 h3 l4 h4 l5 h5 l6 h6 l7 h7 : Int) (a b : Int) (rw : Bool) (K : List Value → AHeap → Prop) :
    evSeg Try.f56 [] nt1 [AG (stL c k0 k1 k2 k3 k4 k5 k6 k7 l0 h0 l1 h1 l2 h2 l3 h3 l4 h4 l5 h5 l6 h6 l7 h7), SL G 2 1] [some (.cells [I a, I b] rw)] K
    = (bif decide (0 ≤ a) && decide (a < 8) then
      bif okB (nth (stL c k0 k1 k2 k3 k4 k5 k6 k7 l0 h0 l1 h1 l2 h2 l3 h3 l4 h4 l5 h5 l6 h6 l7 h7) (1 + a.toNat * 1)) then
      bif !boolO (nth (stL c k0 k1 k2 k3 k4 k5 k6 k7 l0 h0 l1 h1 l2 h2 l3 h3 l4 h4 l5 h5 l6 h6 l7 h7) (1 + a.toNat * 1)) then
      (PlainL [I a, I b] ∧ True) ∧ K [B false] (heapB G [some (ABlk.cells [I a, I b] rw)])
    else bif decide (0 ≤ b) && decide (b < 8) then
      bif okB (nth (stL c k0 k1 k2 k3 k4 k5 k6 k7 l0 h0 l1 h1 l2 h2 l3 h3 l4 h4 l5 h5 l6 h6 l7 h7) (1 + b.toNat * 1)) then
      bif !boolO (nth (stL c k0 k1 k2 k3 k4 k5 k6 k7 l0 h0 l1 h1 l2 h2 l3 h3 l4 h4 l5 h5 l6 h6 l7 h7) (1 + b.toNat * 1)) then
      (PlainL [I a, I b] ∧ True) ∧ K [B false] (heapB G [some (ABlk.cells [I a, I b] rw)])
    else (PlainL [I a, I b] ∧ True) ∧ K [B true] (heapB G [some (ABlk.cells [I a, I b] rw)])
    else False
    else False
    else False
    else False) := by kernel_rfl


theorem stB {c k0 k1 k2 k3 k4 k5 k6 k7 : Bool} {l0 h0 l1 h1 l2 h2 l3 h3 l4 h4 l5 h5 l6 h6 l7 h7 : Int} {r : Int} (h1' : 0 ≤ r) (h2' : r < 8) : okB (nth (stL c k0 k1 k2 k3 k4 k5 k6 k7 l0 h0 l1 h1 l2 h2 l3 h3 l4 h4 l5 h5 l6 h6 l7 h7) (1 + r.toNat * 1)) = true := by
  obtain ⟨n, rfl⟩ := Int.eq_ofNat_of_zero_le h1'
  rw [Int.toNat_natCast]
  have hn : n < 8 := by omega
  rcases n with _ | _ | _ | _ | _ | _ | _ | _ | n <;> first | rfl | (exfalso; omega)
theorem stI {c k0 k1 k2 k3 k4 k5 k6 k7 : Bool} {l0 h0 l1 h1 l2 h2 l3 h3 l4 h4 l5 h5 l6 h6 l7 h7 : Int} {r : Int} (h1' : 0 ≤ r) (h2' : r < 8) : okI .i64 (nth (stL c k0 k1 k2 k3 k4 k5 k6 k7 l0 h0 l1 h1 l2 h2 l3 h3 l4 h4 l5 h5 l6 h6 l7 h7) (9 + r.toNat * 2 + 0)) = true ∧
    okI .i64 (nth (stL c k0 k1 k2 k3 k4 k5 k6 k7 l0 h0 l1 h1 l2 h2 l3 h3 l4 h4 l5 h5 l6 h6 l7 h7) (9 + r.toNat * 2 + 1)) = true ∧ (9 + r.toNat * 2 + 2).ble 25 = true := by
  obtain ⟨n, rfl⟩ := Int.eq_ofNat_of_zero_le h1'
  rw [Int.toNat_natCast]
  have hn : n < 8 := by omega
  rcases n with _ | _ | _ | _ | _ | _ | _ | _ | n <;> first | exact ⟨rfl, rfl, rfl⟩ | (exfalso; omega)
theorem plain_st {c k0 k1 k2 k3 k4 k5 k6 k7 : Bool} {l0 h0 l1 h1 l2 h2 l3 h3 l4 h4 l5 h5 l6 h6 l7 h7 : Int} : PlainL (stL c k0 k1 k2 k3 k4 k5 k6 k7 l0 h0 l1 h1 l2 h2 l3 h3 l4 h4 l5 h5 l6 h6 l7 h7) := by
  intro x hx
  simp only [List.mem_cons, List.not_mem_nil, or_false] at hx
  rcases hx with rfl | rfl | rfl | rfl | rfl | rfl | rfl | rfl | rfl | rfl | rfl | rfl | rfl | rfl | rfl | rfl | rfl | rfl | rfl | rfl | rfl | rfl | rfl | rfl | rfl <;> rfl
theorem plain_I (a : Int) : PlainL [I a] := by
  intro x hx
  rw [List.mem_singleton] at hx
  subst hx; rfl

/-- Which registers have numbers. -/
noncomputable def con67 : Con := { f := 56, gh := [], paths := [⟨1, [], true⟩], spec := fun args bs => match args, bs with
  | [.agg cs, v], [some (.cells [x] rw)] => match slN v 0 1, intV x with
    | some 1, some a => some (IsSt cs.toList ∧ 0 ≤ a ∧ a < 8, [B (kI cs.toList a)], [(true, some (.cells [I a] rw))])
    | _, _ => none
  | [.agg cs, v], [some (.cells [x, y] rw)] => match slN v 0 1, intV x, intV y with
    | some 2, some a, some b => some (IsSt cs.toList ∧ (0 ≤ a ∧ a < 8) ∧ 0 ≤ b ∧ b < 8, [B (kI cs.toList a && kI cs.toList b)], [(true, some (.cells [I a, I b] rw))])
    | _, _, _ => none
  | _, _ => none }
set_option maxRecDepth 100000 in
set_option maxHeartbeats 4000000 in
theorem con67_ok : con67.ok Try.prog w0 := by
  intro args bs p rs out e hp
  simp only [con67] at e
  split at e <;> first | (simp at e; done) | skip
  · split at e <;> first | (simp at e; done) | skip
    rename_i cs v x rw _ _ a hv hx
    simp only [Option.some.injEq, Prod.mk.injEq] at e
    obtain ⟨e1, e2, e3⟩ := e
    subst e1 e2 e3
    obtain ⟨p1, p2, p3⟩ := hp
    obtain ⟨cs⟩ := cs
    obtain ⟨c, k0, k1, k2, k3, k4, k5, k6, k7, l0, h0, l1, h1, l2, h2, l3, h3, l4, h4, l5, h5, l6, h6, l7, h7, hcs⟩ := isSt_eq p1
    change cs = _ at hcs
    subst hcs
    rw [slN_eq hv, intV_eq hx]
    refine ev_callS (nt := nt1) (cs := []) (f := 56) (bs := [some (.cells [I a] rw)]) Try.func56 (by kernel_rfl) (fun c hc => by simp at hc) rfl ?_
    refine (eval67a c k0 k1 k2 k3 k4 k5 k6 k7 l0 h0 l1 h1 l2 h2 l3 h3 l4 h4 l5 h5 l6 h6 l7 h7 a rw _).mpr ?_
    simp only [p2, p3, stB p2 p3, decide_true, Bool.and_self, cond_true]
    refine bifP (fun h => ?_) (fun h => ?_)
    · simp only [Bool.not_eq_true'] at h
      exact ⟨⟨plain_I a, trivial⟩, by rw [kI, h], rfl⟩
    · simp only [Bool.not_eq_false'] at h
      exact ⟨⟨plain_I a, trivial⟩, by rw [kI, h], rfl⟩
  · split at e <;> first | (simp at e; done) | skip
    rename_i cs v x y rw _ _ _ a b hv hx hy
    simp only [Option.some.injEq, Prod.mk.injEq] at e
    obtain ⟨e1, e2, e3⟩ := e
    subst e1 e2 e3
    obtain ⟨p1, ⟨p2, p3⟩, p4, p5⟩ := hp
    obtain ⟨cs⟩ := cs
    obtain ⟨c, k0, k1, k2, k3, k4, k5, k6, k7, l0, h0, l1, h1, l2, h2, l3, h3, l4, h4, l5, h5, l6, h6, l7, h7, hcs⟩ := isSt_eq p1
    change cs = _ at hcs
    subst hcs
    rw [slN_eq hv, intV_eq hx, intV_eq hy]
    refine ev_callS (nt := nt1) (cs := []) (f := 56) (bs := [some (.cells [I a, I b] rw)]) Try.func56 (by kernel_rfl) (fun c hc => by simp at hc) rfl ?_
    refine (eval67b c k0 k1 k2 k3 k4 k5 k6 k7 l0 h0 l1 h1 l2 h2 l3 h3 l4 h4 l5 h5 l6 h6 l7 h7 a b rw _).mpr ?_
    simp only [p2, p3, p4, p5, stB p2 p3, stB p4 p5, decide_true, Bool.and_self, cond_true]
    refine bifP (fun h => ?_) (fun h => ?_)
    · simp only [Bool.not_eq_true'] at h
      exact ⟨⟨plain_II a b, trivial⟩, by rw [kI, h]; rfl, rfl⟩
    · simp only [Bool.not_eq_false'] at h
      refine bifP (fun h' => ?_) (fun h' => ?_)
      · simp only [Bool.not_eq_true'] at h'
        exact ⟨⟨plain_II a b, trivial⟩, by rw [kI, kI, h, h']; rfl, rfl⟩
      · simp only [Bool.not_eq_false'] at h'
        exact ⟨⟨plain_II a b, trivial⟩, by rw [kI, kI, h, h']; rfl, rfl⟩

theorem eval85 (c k0 k1 k2 k3 k4 k5 k6 k7 : Bool) (l0 h0 l1 h1 l2 h2 l3 h3 l4 h4 l5 h5 l6 h6 l7 h7 : Int) (a : Int) (K : List Value → AHeap → Prop) :
    evSeg Try.f73 [con95, con24] nt1 [PT G, I a] [some (.cells (stL c k0 k1 k2 k3 k4 k5 k6 k7 l0 h0 l1 h1 l2 h2 l3 h3 l4 h4 l5 h5 l6 h6 l7 h7) true)] K
    = (bif a == 1 then
      (True ∧ True ∧ true = true) ∧
      bif !r95 (stL c k0 k1 k2 k3 k4 k5 k6 k7 l0 h0 l1 h1 l2 h2 l3 h3 l4 h4 l5 h5 l6 h6 l7 h7) 16 then
      (PlainL (stL c k0 k1 k2 k3 k4 k5 k6 k7 l0 h0 l1 h1 l2 h2 l3 h3 l4 h4 l5 h5 l6 h6 l7 h7) ∧ True) ∧ K [B false] (heapB G [some (ABlk.cells (stL c k0 k1 k2 k3 k4 k5 k6 k7 l0 h0 l1 h1 l2 h2 l3 h3 l4 h4 l5 h5 l6 h6 l7 h7) true)])
    else ((PlainL (stL c k0 k1 k2 k3 k4 k5 k6 k7 l0 h0 l1 h1 l2 h2 l3 h3 l4 h4 l5 h5 l6 h6 l7 h7) ∧ True) ∧ (PlainL (setA (stL c k0 k1 k2 k3 k4 k5 k6 k7 l0 h0 l1 h1 l2 h2 l3 h3 l4 h4 l5 h5 l6 h6 l7 h7) 0 0 (-1) 1) ∧ True) ∧ (0 : Int) ≤ 0 ∧ (0 : Int) < 8 ∧ 25 ≤ (stL c k0 k1 k2 k3 k4 k5 k6 k7 l0 h0 l1 h1 l2 h2 l3 h3 l4 h4 l5 h5 l6 h6 l7 h7).length ∧ PlainL (stL c k0 k1 k2 k3 k4 k5 k6 k7 l0 h0 l1 h1 l2 h2 l3 h3 l4 h4 l5 h5 l6 h6 l7 h7)) ∧ (PlainL (setA (stL c k0 k1 k2 k3 k4 k5 k6 k7 l0 h0 l1 h1 l2 h2 l3 h3 l4 h4 l5 h5 l6 h6 l7 h7) 0 0 (-1) 1) ∧ True) ∧ K [B true] (heapB G [some (ABlk.cells (setA (stL c k0 k1 k2 k3 k4 k5 k6 k7 l0 h0 l1 h1 l2 h2 l3 h3 l4 h4 l5 h5 l6 h6 l7 h7) 0 0 (-1) 1) true)])
    else bif a == 2 then
      (True ∧ True ∧ true = true) ∧ (PlainL (stL c k0 k1 k2 k3 k4 k5 k6 k7 l0 h0 l1 h1 l2 h2 l3 h3 l4 h4 l5 h5 l6 h6 l7 h7) ∧ True) ∧ K [B (r95 (stL c k0 k1 k2 k3 k4 k5 k6 k7 l0 h0 l1 h1 l2 h2 l3 h3 l4 h4 l5 h5 l6 h6 l7 h7) 24)] (heapB G [some (ABlk.cells (stL c k0 k1 k2 k3 k4 k5 k6 k7 l0 h0 l1 h1 l2 h2 l3 h3 l4 h4 l5 h5 l6 h6 l7 h7) true)])
    else bif !k2 then
      (PlainL (stL c k0 k1 k2 k3 k4 k5 k6 k7 l0 h0 l1 h1 l2 h2 l3 h3 l4 h4 l5 h5 l6 h6 l7 h7) ∧ True) ∧ K [B false] (heapB G [some (ABlk.cells (stL c k0 k1 k2 k3 k4 k5 k6 k7 l0 h0 l1 h1 l2 h2 l3 h3 l4 h4 l5 h5 l6 h6 l7 h7) true)])
    else (PlainL (stL c k0 k1 k2 k3 k4 k5 k6 k7 l0 h0 l1 h1 l2 h2 l3 h3 l4 h4 l5 h5 l6 h6 l7 h7) ∧ True) ∧ K [B true] (heapB G [some (ABlk.cells (stL c k0 k1 k2 k3 k4 k5 k6 k7 l0 h0 l1 h1 l2 h2 l3 h3 l4 h4 l5 h5 l6 h6 l7 h7) true)])) := by kernel_rfl

def r85 (cs : List Value) (a : Int) : Bool := bif a == 1 then r95 cs 16 else bif a == 2 then r95 cs 24 else kO cs 2
def c85 (cs : List Value) (a : Int) : List Value := bif a == 1 then (bif r95 cs 16 then setA cs 0 0 (-1) 1 else cs) else cs
/-- A helper's call. -/
noncomputable def con85 : Con := { f := 73, gh := [], paths := [⟨0, [], true⟩], spec := fun args bs => match args, bs with
  | [p, v], [some (.cells cs true)] => match intV v with
    | some a => bif isPtr p 0 then some (IsSt cs, [B (r85 cs a)], [(true, some (.cells (c85 cs a) true))]) else none
    | none => none
  | _, _ => none }
set_option maxRecDepth 100000 in
theorem con85_ok : con85.ok Try.prog w0 := by
  intro args bs p rs out e hp
  simp only [con85] at e
  split at e <;> first | (simp at e; done) | skip
  split at e <;> first | (simp at e; done) | skip
  rename_i p0 v cs _ a hv
  cases hq : isPtr p0 0 with
  | false => rw [hq] at e; simp at e
  | true =>
    rw [hq] at e
    simp only [cond_true, Option.some.injEq, Prod.mk.injEq] at e
    obtain ⟨e1, e2, e3⟩ := e
    subst e1 e2 e3
    obtain ⟨c, k0, k1, k2, k3, k4, k5, k6, k7, l0, h0, l1, h1, l2, h2, l3, h3, l4, h4, l5, h5, l6, h6, l7, h7, hcs⟩ := isSt_eq hp
    subst hcs
    rw [intV_eq hv, isPtr_eq hq]
    refine ev_callS (nt := nt1) (cs := [con95, con24]) (f := 73) (bs := [some (.cells (stL c k0 k1 k2 k3 k4 k5 k6 k7 l0 h0 l1 h1 l2 h2 l3 h3 l4 h4 l5 h5 l6 h6 l7 h7) true)]) Try.func73 (by kernel_rfl) (fun c hc => by
      simp only [List.mem_cons, List.not_mem_nil, or_false] at hc
      rcases hc with rfl | rfl
      · exact con95_ok
      · exact con24_ok) rfl ?_
    refine (eval85 c k0 k1 k2 k3 k4 k5 k6 k7 l0 h0 l1 h1 l2 h2 l3 h3 l4 h4 l5 h5 l6 h6 l7 h7 a _).mpr ?_
    have hp1 : PlainL (stL c k0 k1 k2 k3 k4 k5 k6 k7 l0 h0 l1 h1 l2 h2 l3 h3 l4 h4 l5 h5 l6 h6 l7 h7) := plain_st
    have hp2 : PlainL (setA (stL c k0 k1 k2 k3 k4 k5 k6 k7 l0 h0 l1 h1 l2 h2 l3 h3 l4 h4 l5 h5 l6 h6 l7 h7) 0 0 (-1) 1) := plain_splice (plain_splice plain_st (plain_B _)) (plain_II _ _)
    unfold r85 c85
    refine bifP (fun h => ?_) (fun h => ?_)
    · simp only [h, cond_true]
      refine ⟨⟨trivial, trivial, by trivial⟩, ?_⟩
      cases hr : r95 (stL c k0 k1 k2 k3 k4 k5 k6 k7 l0 h0 l1 h1 l2 h2 l3 h3 l4 h4 l5 h5 l6 h6 l7 h7) 16 with
      | false => exact ⟨⟨hp1, trivial⟩, by trivial, by trivial⟩
      | true => exact ⟨⟨⟨hp1, trivial⟩, ⟨hp2, trivial⟩, by omega, by omega, Nat.le_refl 25, hp1⟩, ⟨hp2, trivial⟩, by trivial, by trivial⟩
    · simp only [h, cond_false]
      refine bifP (fun h' => ?_) (fun h' => ?_)
      · simp only [h', cond_true]
        exact ⟨⟨trivial, trivial, by trivial⟩, ⟨hp1, trivial⟩, by trivial, by trivial⟩
      · simp only [h', cond_false]
        cases k2 with
        | false => exact ⟨⟨plain_st, trivial⟩, rfl, rfl⟩
        | true => exact ⟨⟨plain_st, trivial⟩, rfl, rfl⟩

def teval70 (cs : List Value) (op d s imm : Int) (K : List Value → AHeap → Prop) : Prop :=
  bif decide (0 ≤ d) && decide (d < 8) then
      bif (9 + d.toNat * 2 + 2).ble cs.length && (okI .i64 (nth cs (9 + d.toNat * 2 + 0)) && (okI .i64 (nth cs (9 + d.toNat * 2 + 1)) && true)) then
      bif decide (0 ≤ s) && decide (s < 8) then
      bif (9 + s.toNat * 2 + 2).ble cs.length && (okI .i64 (nth cs (9 + s.toNat * 2 + 0)) && (okI .i64 (nth cs (9 + s.toNat * 2 + 1)) && true)) then
      bif (9 + s.toNat * 2 + 2).ble cs.length && (okI .i64 (nth cs (9 + s.toNat * 2 + 0)) && (okI .i64 (nth cs (9 + s.toNat * 2 + 1)) && true)) && veq 4 (AG [I (lI cs s), I (hI cs s)]) (AG [I (lI cs s), I (hI cs s)]) && (s == s && ((9 + d.toNat * 2 + 2).ble cs.length && (okI .i64 (nth cs (9 + d.toNat * 2 + 0)) && (okI .i64 (nth cs (9 + d.toNat * 2 + 1)) && true)) && veq 4 (AG [I (lI cs d), I (hI cs d)]) (AG [I (lI cs d), I (hI cs d)]) && (d == d && true))) then
      bif (9 + s.toNat * 2 + 2).ble cs.length && (okI .i64 (nth cs (9 + s.toNat * 2 + 0)) && (okI .i64 (nth cs (9 + s.toNat * 2 + 1)) && true)) && veq 4 (AG [I (lI cs s), I (hI cs s)]) (AG [I (lI cs s), I (hI cs s)]) && (s == s && ((9 + d.toNat * 2 + 2).ble cs.length && (okI .i64 (nth cs (9 + d.toNat * 2 + 0)) && (okI .i64 (nth cs (9 + d.toNat * 2 + 1)) && true)) && veq 4 (AG [I (lI cs d), I (hI cs d)]) (AG [I (lI cs d), I (hI cs d)]) && (d == d && true))) then
      bif (9 + s.toNat * 2 + 2).ble cs.length && (okI .i64 (nth cs (9 + s.toNat * 2 + 0)) && (okI .i64 (nth cs (9 + s.toNat * 2 + 1)) && true)) && veq 4 (AG [I (lI cs s), I (hI cs s)]) (AG [I (lI cs s), I (hI cs s)]) && (s == s && true) then
      bif op == 7 then
      bif op == 8 then
      bif Nat.ble 25 cs.length && true && veq 4 (Value.agg { toList := cs }) (Value.agg { toList := cs }) && true then
      ((PlainL [I s] ∧ True) ∧ (PlainL [I s] ∧ True) ∧ true = true ∧ 0 ≤ s ∧ s < 8) ∧
      bif !boolO (nth cs (1 + s.toNat * 1)) then
      (PlainL cs ∧ True) ∧ K [B false] (heapB G [some (ABlk.cells cs true)])
    else (True ∧ True ∧ True) ∧
      bif !r84 (lI cs s) (hI cs s) imm 2 512 then
      (PlainL cs ∧ True) ∧ K [B false] (heapB G [some (ABlk.cells cs true)])
    else ((PlainL cs ∧ True) ∧ (PlainL (setA cs 0 d 0 65535) ∧ True) ∧ 0 ≤ d ∧ d < 8 ∧ 25 ≤ cs.length ∧ PlainL cs) ∧ (PlainL (setA cs 0 d 0 65535) ∧ True) ∧ K [B true] (heapB G [some (ABlk.cells (setA cs 0 d 0 65535) true)])
    else False
    else bif Nat.ble 25 cs.length && true && veq 4 (Value.agg { toList := cs }) (Value.agg { toList := cs }) && true then
      ((PlainL [I s] ∧ True) ∧ (PlainL [I s] ∧ True) ∧ true = true ∧ 0 ≤ s ∧ s < 8) ∧
      bif !boolO (nth cs (1 + s.toNat * 1)) then
      (PlainL cs ∧ True) ∧ K [B false] (heapB G [some (ABlk.cells cs true)])
    else (True ∧ True ∧ True) ∧
      bif !r84 (lI cs s) (hI cs s) imm 1 512 then
      (PlainL cs ∧ True) ∧ K [B false] (heapB G [some (ABlk.cells cs true)])
    else ((PlainL cs ∧ True) ∧ (PlainL (setA cs 0 d 0 255) ∧ True) ∧ 0 ≤ d ∧ d < 8 ∧ 25 ≤ cs.length ∧ PlainL cs) ∧ (PlainL (setA cs 0 d 0 255) ∧ True) ∧ K [B true] (heapB G [some (ABlk.cells (setA cs 0 d 0 255) true)])
    else False
    else bif op == 8 then
      bif op == 8 then
      bif Nat.ble 25 cs.length && true && veq 4 (Value.agg { toList := cs }) (Value.agg { toList := cs }) && true then
      ((PlainL [I s] ∧ True) ∧ (PlainL [I s] ∧ True) ∧ true = true ∧ 0 ≤ s ∧ s < 8) ∧
      bif !boolO (nth cs (1 + s.toNat * 1)) then
      (PlainL cs ∧ True) ∧ K [B false] (heapB G [some (ABlk.cells cs true)])
    else (True ∧ True ∧ True) ∧
      bif !r84 (lI cs s) (hI cs s) imm 2 512 then
      (PlainL cs ∧ True) ∧ K [B false] (heapB G [some (ABlk.cells cs true)])
    else ((PlainL cs ∧ True) ∧ (PlainL (setA cs 0 d 0 65535) ∧ True) ∧ 0 ≤ d ∧ d < 8 ∧ 25 ≤ cs.length ∧ PlainL cs) ∧ (PlainL (setA cs 0 d 0 65535) ∧ True) ∧ K [B true] (heapB G [some (ABlk.cells (setA cs 0 d 0 65535) true)])
    else False
    else bif Nat.ble 25 cs.length && true && veq 4 (Value.agg { toList := cs }) (Value.agg { toList := cs }) && true then
      ((PlainL [I s] ∧ True) ∧ (PlainL [I s] ∧ True) ∧ true = true ∧ 0 ≤ s ∧ s < 8) ∧
      bif !boolO (nth cs (1 + s.toNat * 1)) then
      (PlainL cs ∧ True) ∧ K [B false] (heapB G [some (ABlk.cells cs true)])
    else (True ∧ True ∧ True) ∧
      bif !r84 (lI cs s) (hI cs s) imm 1 512 then
      (PlainL cs ∧ True) ∧ K [B false] (heapB G [some (ABlk.cells cs true)])
    else ((PlainL cs ∧ True) ∧ (PlainL (setA cs 0 d 0 255) ∧ True) ∧ 0 ≤ d ∧ d < 8 ∧ 25 ≤ cs.length ∧ PlainL cs) ∧ (PlainL (setA cs 0 d 0 255) ∧ True) ∧ K [B true] (heapB G [some (ABlk.cells (setA cs 0 d 0 255) true)])
    else False
    else bif op == 9 then
      bif op == 10 then
      bif Nat.ble 25 cs.length && true && veq 4 (Value.agg { toList := cs }) (Value.agg { toList := cs }) && true then
      ((PlainL [I s] ∧ True) ∧ (PlainL [I s] ∧ True) ∧ true = true ∧ 0 ≤ s ∧ s < 8) ∧
      bif !boolO (nth cs (1 + s.toNat * 1)) then
      (PlainL cs ∧ True) ∧ K [B false] (heapB G [some (ABlk.cells cs true)])
    else (True ∧ True ∧ True) ∧
      bif !r84 (lI cs s) (hI cs s) imm 1 64 then
      (PlainL cs ∧ True) ∧ K [B false] (heapB G [some (ABlk.cells cs true)])
    else ((PlainL cs ∧ True) ∧ (PlainL (setA cs 0 d 0 255) ∧ True) ∧ 0 ≤ d ∧ d < 8 ∧ 25 ≤ cs.length ∧ PlainL cs) ∧ (PlainL (setA cs 0 d 0 255) ∧ True) ∧ K [B true] (heapB G [some (ABlk.cells (setA cs 0 d 0 255) true)])
    else False
    else bif Nat.ble 25 cs.length && true && veq 4 (Value.agg { toList := cs }) (Value.agg { toList := cs }) && true then
      ((PlainL [I s] ∧ True) ∧ (PlainL [I s] ∧ True) ∧ true = true ∧ 0 ≤ s ∧ s < 8) ∧
      bif !boolO (nth cs (1 + s.toNat * 1)) then
      (PlainL cs ∧ True) ∧ K [B false] (heapB G [some (ABlk.cells cs true)])
    else (True ∧ True ∧ True) ∧
      bif !r84 (lI cs s) (hI cs s) imm 1 16 then
      (PlainL cs ∧ True) ∧ K [B false] (heapB G [some (ABlk.cells cs true)])
    else ((PlainL cs ∧ True) ∧ (PlainL (setA cs 0 d 0 255) ∧ True) ∧ 0 ≤ d ∧ d < 8 ∧ 25 ≤ cs.length ∧ PlainL cs) ∧ (PlainL (setA cs 0 d 0 255) ∧ True) ∧ K [B true] (heapB G [some (ABlk.cells (setA cs 0 d 0 255) true)])
    else False
    else bif op == 10 then
      bif op == 10 then
      bif Nat.ble 25 cs.length && true && veq 4 (Value.agg { toList := cs }) (Value.agg { toList := cs }) && true then
      ((PlainL [I s] ∧ True) ∧ (PlainL [I s] ∧ True) ∧ true = true ∧ 0 ≤ s ∧ s < 8) ∧
      bif !boolO (nth cs (1 + s.toNat * 1)) then
      (PlainL cs ∧ True) ∧ K [B false] (heapB G [some (ABlk.cells cs true)])
    else (True ∧ True ∧ True) ∧
      bif !r84 (lI cs s) (hI cs s) imm 1 64 then
      (PlainL cs ∧ True) ∧ K [B false] (heapB G [some (ABlk.cells cs true)])
    else ((PlainL cs ∧ True) ∧ (PlainL (setA cs 0 d 0 255) ∧ True) ∧ 0 ≤ d ∧ d < 8 ∧ 25 ≤ cs.length ∧ PlainL cs) ∧ (PlainL (setA cs 0 d 0 255) ∧ True) ∧ K [B true] (heapB G [some (ABlk.cells (setA cs 0 d 0 255) true)])
    else False
    else bif Nat.ble 25 cs.length && true && veq 4 (Value.agg { toList := cs }) (Value.agg { toList := cs }) && true then
      ((PlainL [I s] ∧ True) ∧ (PlainL [I s] ∧ True) ∧ true = true ∧ 0 ≤ s ∧ s < 8) ∧
      bif !boolO (nth cs (1 + s.toNat * 1)) then
      (PlainL cs ∧ True) ∧ K [B false] (heapB G [some (ABlk.cells cs true)])
    else (True ∧ True ∧ True) ∧
      bif !r84 (lI cs s) (hI cs s) imm 1 16 then
      (PlainL cs ∧ True) ∧ K [B false] (heapB G [some (ABlk.cells cs true)])
    else ((PlainL cs ∧ True) ∧ (PlainL (setA cs 0 d 0 255) ∧ True) ∧ 0 ≤ d ∧ d < 8 ∧ 25 ≤ cs.length ∧ PlainL cs) ∧ (PlainL (setA cs 0 d 0 255) ∧ True) ∧ K [B true] (heapB G [some (ABlk.cells (setA cs 0 d 0 255) true)])
    else False
    else bif op == 11 then
      bif Nat.ble 25 cs.length && true && veq 4 (Value.agg { toList := cs }) (Value.agg { toList := cs }) && true then
      ((PlainL [I d, I s] ∧ True) ∧ (PlainL [I d, I s] ∧ True) ∧ true = true ∧ (0 ≤ d ∧ d < 8) ∧ 0 ≤ s ∧ s < 8) ∧
      bif boolO (nth cs (1 + d.toNat * 1)) && boolO (nth cs (1 + s.toNat * 1)) then
      (True ∧ True ∧ True) ∧ (PlainL cs ∧ True) ∧ K [B (r84 (lI cs d) (hI cs d) imm 1 64)] (heapB G [some (ABlk.cells cs true)])
    else (PlainL cs ∧ True) ∧ K [B false] (heapB G [some (ABlk.cells cs true)])
    else False
    else bif op == 13 then
      bif Nat.ble 25 cs.length && true && veq 4 (Value.agg { toList := cs }) (Value.agg { toList := cs }) && true then
      ((PlainL [I d, I s] ∧ True) ∧ (PlainL [I d, I s] ∧ True) ∧ true = true ∧ (0 ≤ d ∧ d < 8) ∧ 0 ≤ s ∧ s < 8) ∧ (PlainL cs ∧ True) ∧ K [B (boolO (nth cs (1 + d.toNat * 1)) && boolO (nth cs (1 + s.toNat * 1)))] (heapB G [some (ABlk.cells cs true)])
    else False
    else bif op == 14 then
      bif Nat.ble 25 cs.length && true && veq 4 (Value.agg { toList := cs }) (Value.agg { toList := cs }) && true then
      ((PlainL [I d, I s] ∧ True) ∧ (PlainL [I d, I s] ∧ True) ∧ true = true ∧ (0 ≤ d ∧ d < 8) ∧ 0 ≤ s ∧ s < 8) ∧ (PlainL cs ∧ True) ∧ K [B (boolO (nth cs (1 + d.toNat * 1)) && boolO (nth cs (1 + s.toNat * 1)))] (heapB G [some (ABlk.cells cs true)])
    else False
    else bif op == 15 then
      bif Nat.ble 25 cs.length && true && veq 4 (Value.agg { toList := cs }) (Value.agg { toList := cs }) && true then
      ((PlainL [I d, I s] ∧ True) ∧ (PlainL [I d, I s] ∧ True) ∧ true = true ∧ (0 ≤ d ∧ d < 8) ∧ 0 ≤ s ∧ s < 8) ∧ (PlainL cs ∧ True) ∧ K [B (boolO (nth cs (1 + d.toNat * 1)) && boolO (nth cs (1 + s.toNat * 1)))] (heapB G [some (ABlk.cells cs true)])
    else False
    else bif op == 16 then
      bif Nat.ble 25 cs.length && true && veq 4 (Value.agg { toList := cs }) (Value.agg { toList := cs }) && true then
      ((PlainL [I d, I s] ∧ True) ∧ (PlainL [I d, I s] ∧ True) ∧ true = true ∧ (0 ≤ d ∧ d < 8) ∧ 0 ≤ s ∧ s < 8) ∧ (PlainL cs ∧ True) ∧ K [B (boolO (nth cs (1 + d.toNat * 1)) && boolO (nth cs (1 + s.toNat * 1)))] (heapB G [some (ABlk.cells cs true)])
    else False
    else bif op == 19 then
      ((PlainL cs ∧ True) ∧ (PlainL (c85 cs imm) ∧ True) ∧ true = true) ∧ (PlainL (c85 cs imm) ∧ True) ∧ K [B (r85 cs imm)] (heapB G [some (ABlk.cells (c85 cs imm) true)])
    else bif op == 20 then
      ((PlainL [I 0] ∧ True) ∧ (PlainL [I 0] ∧ True) ∧ true = true ∧ (0 : Int) ≤ 0 ∧ (0 : Int) < 8) ∧ (PlainL cs ∧ True) ∧ K [B (kO cs 0)] (heapB G [some (ABlk.cells cs true)])
    else (PlainL cs ∧ True) ∧ K [B true] (heapB G [some (ABlk.cells cs true)])
    else False
    else False
    else False
    else False
    else False
    else False
    else False
theorem eval70 (c k0 k1 k2 k3 k4 k5 k6 k7 : Bool) (l0 h0 l1 h1 l2 h2 l3 h3 l4 h4 l5 h5 l6 h6 l7 h7 : Int) (op d s imm : Int) (K : List Value → AHeap → Prop) :
    evSeg Try.f60 [con84, con24, con67, con85] nt1 [PT G, AG [I op, I d, I s, I imm]] [some (.cells (stL c k0 k1 k2 k3 k4 k5 k6 k7 l0 h0 l1 h1 l2 h2 l3 h3 l4 h4 l5 h5 l6 h6 l7 h7) true)] K
    = (teval70 (stL c k0 k1 k2 k3 k4 k5 k6 k7 l0 h0 l1 h1 l2 h2 l3 h3 l4 h4 l5 h5 l6 h6 l7 h7) op d s imm K ∧ teval70 (stL c k0 k1 k2 k3 k4 k5 k6 k7 l0 h0 l1 h1 l2 h2 l3 h3 l4 h4 l5 h5 l6 h6 l7 h7) op d s imm K) := by kernel_rfl


/-- A register's byte is looked at: of so many, below a bound. -/
def lkB (cs : List Value) (s imm size bound : Int) : Bool := bif !kI cs s then false else r84 (lI cs s) (hI cs s) imm size bound
def r70 (cs : List Value) (op d s imm : Int) : Bool :=
  bif op == 7 then lkB cs s imm 1 512 else bif op == 8 then lkB cs s imm 2 512 else bif op == 9 then lkB cs s imm 1 16 else bif op == 10 then lkB cs s imm 1 64
  else bif op == 11 then (bif kI cs d && kI cs s then r84 (lI cs d) (hI cs d) imm 1 64 else false)
  else bif op == 13 then kI cs d && kI cs s else bif op == 14 then kI cs d && kI cs s else bif op == 15 then kI cs d && kI cs s else bif op == 16 then kI cs d && kI cs s
  else bif op == 19 then r85 cs imm else bif op == 20 then kO cs 0 else true
def c70 (cs : List Value) (op d s imm : Int) : List Value :=
  bif op == 7 then (bif lkB cs s imm 1 512 then setA cs 0 d 0 255 else cs) else bif op == 8 then (bif lkB cs s imm 2 512 then setA cs 0 d 0 65535 else cs)
  else bif op == 9 then (bif lkB cs s imm 1 16 then setA cs 0 d 0 255 else cs) else bif op == 10 then (bif lkB cs s imm 1 64 then setA cs 0 d 0 255 else cs)
  else bif op == 11 then cs else bif op == 13 then cs else bif op == 14 then cs else bif op == 15 then cs else bif op == 16 then cs else bif op == 19 then c85 cs imm else cs
theorem bifN {c : Bool} {p q : Prop} (h1 : c = false → p) (h2 : c = true → q) : bif !c then p else q := by
  cases c
  · exact h1 rfl
  · exact h2 rfl
theorem not_false_of {b : Bool} (h : (!b) = true) : b = false := by cases b <;> simp_all
theorem not_true_of {b : Bool} (h : (!b) = false) : b = true := by cases b <;> simp_all
theorem plain_set {cs : List Value} (h : PlainL cs) (o : Nat) (r a b : Int) : PlainL (setA cs o r a b) := plain_splice (plain_splice h (plain_B _)) (plain_II _ _)
theorem plain_c85 {cs : List Value} (h : PlainL cs) (a : Int) : PlainL (c85 cs a) := by
  unfold c85
  cases a == 1 with
  | false => exact h
  | true =>
    cases r95 cs 16 with
    | false => exact h
    | true => exact plain_set h _ _ _ _
theorem eqNo {op : Int} {m n : Int} (h1 : (op == m) = true) (h2 : (op == n) = true) (h : m ≠ n) {p : Prop} : p := by
  simp only [beq_iff_eq] at h1 h2
  omega

set_option maxHeartbeats 4000000 in
theorem t70_ok {cs : List Value} {op d s imm : Int} {K : List Value → AHeap → Prop} (hp : PlainL cs) (h25 : Nat.ble 25 cs.length = true) (hl : 25 ≤ cs.length) (hv : veq 4 (Value.agg { toList := cs }) (Value.agg { toList := cs }) = true)
    (d0 : 0 ≤ d) (d1 : d < 8) (s0 : 0 ≤ s) (s1 : s < 8)
    (hd : okI .i64 (nth cs (9 + d.toNat * 2 + 0)) = true ∧ okI .i64 (nth cs (9 + d.toNat * 2 + 1)) = true ∧ (9 + d.toNat * 2 + 2).ble cs.length = true)
    (hs : okI .i64 (nth cs (9 + s.toNat * 2 + 0)) = true ∧ okI .i64 (nth cs (9 + s.toNat * 2 + 1)) = true ∧ (9 + s.toNat * 2 + 2).ble cs.length = true)
    (hK : K [B (r70 cs op d s imm)] (heapB G [some (.cells (c70 cs op d s imm) true)])) : teval70 cs op d s imm K := by
  obtain ⟨hd1, hd2, hd3⟩ := hd
  obtain ⟨hs1, hs2, hs3⟩ := hs
  unfold teval70
  have p1 := plain_I s
  have p2 := plain_II d s
  have p3 := plain_I 0
  have p4 := plain_set hp 0 d 0 255
  have p5 := plain_set hp 0 d 0 65535
  have p6 := plain_c85 hp imm
  simp only [d0, d1, s0, s1, hd1, hd2, hd3, hs1, hs2, hs3, h25, hv, veq_ints, beq_self_eq_true, decide_true, Bool.and_self, cond_true]
  repeat' (first | exact trivial | exact rfl | assumption | omega | refine And.intro ?_ ?_ | refine bifN (fun h => ?_) (fun h => ?_) | refine bifP (fun h => ?_) (fun h => ?_))
  all_goals first
    | (simp only [r70, c70, lkB, kI, *, Bool.not_true, Bool.not_false, cond_true, cond_false] at hK; exact hK)
    | (exfalso; clear hK hd1 hd2 hd3 hs1 hs2 hs3 hp p1 p2 p3 p4 p5 p6 hv; simp_all; done)

theorem veq_refl_st {c k0 k1 k2 k3 k4 k5 k6 k7 : Bool} {l0 h0 l1 h1 l2 h2 l3 h3 l4 h4 l5 h5 l6 h6 l7 h7 : Int} : veq 4 (Value.agg { toList := stL c k0 k1 k2 k3 k4 k5 k6 k7 l0 h0 l1 h1 l2 h2 l3 h3 l4 h4 l5 h5 l6 h6 l7 h7 }) (Value.agg { toList := stL c k0 k1 k2 k3 k4 k5 k6 k7 l0 h0 l1 h1 l2 h2 l3 h3 l4 h4 l5 h5 l6 h6 l7 h7 }) = true := by
  simp [veq, veq.go]
abbrev RegP (d s : Int) : Prop := (0 ≤ d ∧ d < 8) ∧ 0 ≤ s ∧ s < 8
noncomputable def con70 : Con := { f := 60, gh := [], paths := [⟨0, [], true⟩], spec := fun args bs => match args, bs with
  | [p, v], [some (.cells cs true)] => match aggV v with
    | some [op, d, s, imm] => bif isPtr p 0 then some (IsSt cs ∧ RegP d s, [B (r70 cs op d s imm)], [(true, some (.cells (c70 cs op d s imm) true))]) else none
    | _ => none
  | _, _ => none }
set_option maxRecDepth 100000 in
set_option maxHeartbeats 4000000 in
theorem con70_ok : con70.ok Try.prog w0 := by
  intro args bs p rs out e hp
  simp only [con70] at e
  split at e <;> first | (simp at e; done) | skip
  split at e <;> first | (simp at e; done) | skip
  rename_i p0 v cs _ op d s imm hv
  cases hq : isPtr p0 0 with
  | false => rw [hq] at e; simp at e
  | true =>
    rw [hq] at e
    simp only [cond_true, Option.some.injEq, Prod.mk.injEq] at e
    obtain ⟨e1, e2, e3⟩ := e
    subst e1 e2 e3
    obtain ⟨p1, ⟨d0, d1⟩, s0, s1⟩ := hp
    obtain ⟨c, k0, k1, k2, k3, k4, k5, k6, k7, l0, h0, l1, h1, l2, h2, l3, h3, l4, h4, l5, h5, l6, h6, l7, h7, hcs⟩ := isSt_eq p1
    subst hcs
    rw [aggV_eq hv, isPtr_eq hq]
    refine ev_callS (nt := nt1) (cs := [con84, con24, con67, con85]) (f := 60) (bs := [some (.cells (stL c k0 k1 k2 k3 k4 k5 k6 k7 l0 h0 l1 h1 l2 h2 l3 h3 l4 h4 l5 h5 l6 h6 l7 h7) true)]) Try.func60 (by kernel_rfl) (fun c hc => by
      simp only [List.mem_cons, List.not_mem_nil, or_false] at hc
      rcases hc with rfl | rfl | rfl | rfl
      · exact con84_ok
      · exact con24_ok
      · exact con67_ok
      · exact con85_ok) rfl ?_
    refine (eval70 c k0 k1 k2 k3 k4 k5 k6 k7 l0 h0 l1 h1 l2 h2 l3 h3 l4 h4 l5 h5 l6 h6 l7 h7 op d s imm _).mpr ?_
    have key := t70_ok (cs := stL c k0 k1 k2 k3 k4 k5 k6 k7 l0 h0 l1 h1 l2 h2 l3 h3 l4 h4 l5 h5 l6 h6 l7 h7) (op := op) (d := d) (s := s) (imm := imm) (K := fun rs' h' => rs' = [B (r70 (stL c k0 k1 k2 k3 k4 k5 k6 k7 l0 h0 l1 h1 l2 h2 l3 h3 l4 h4 l5 h5 l6 h6 l7 h7) op d s imm)] ∧ h' = heapB G [some (.cells (c70 (stL c k0 k1 k2 k3 k4 k5 k6 k7 l0 h0 l1 h1 l2 h2 l3 h3 l4 h4 l5 h5 l6 h6 l7 h7) op d s imm) true)])
      plain_st rfl (Nat.le_refl 25) veq_refl_st d0 d1 s0 s1 (stI d0 d1) (stI s0 s1) ⟨rfl, rfl⟩
    exact ⟨key, key⟩

def teval46 (cs : List Value) (op d s imm : Int) (K : List Value → AHeap → Prop) : Prop :=
  bif decide (0 ≤ d) && decide (d < 8) then
      bif (9 + d.toNat * 2 + 2).ble cs.length && (okI .i64 (nth cs (9 + d.toNat * 2 + 0)) && (okI .i64 (nth cs (9 + d.toNat * 2 + 1)) && true)) then
      bif decide (0 ≤ s) && decide (s < 8) then
      bif (9 + s.toNat * 2 + 2).ble cs.length && (okI .i64 (nth cs (9 + s.toNat * 2 + 0)) && (okI .i64 (nth cs (9 + s.toNat * 2 + 1)) && true)) then
      bif (9 + s.toNat * 2 + 2).ble cs.length && (okI .i64 (nth cs (9 + s.toNat * 2 + 0)) && (okI .i64 (nth cs (9 + s.toNat * 2 + 1)) && true)) && veq 4 (AG [I (lI cs s), I (hI cs s)]) (AG [I (lI cs s), I (hI cs s)]) && (s == s && ((9 + d.toNat * 2 + 2).ble cs.length && (okI .i64 (nth cs (9 + d.toNat * 2 + 0)) && (okI .i64 (nth cs (9 + d.toNat * 2 + 1)) && true)) && veq 4 (AG [I (lI cs d), I (hI cs d)]) (AG [I (lI cs d), I (hI cs d)]) && (d == d && true))) then
      bif (9 + s.toNat * 2 + 2).ble cs.length && (okI .i64 (nth cs (9 + s.toNat * 2 + 0)) && (okI .i64 (nth cs (9 + s.toNat * 2 + 1)) && true)) && veq 4 (AG [I (lI cs s), I (hI cs s)]) (AG [I (lI cs s), I (hI cs s)]) && (s == s && ((9 + d.toNat * 2 + 2).ble cs.length && (okI .i64 (nth cs (9 + d.toNat * 2 + 0)) && (okI .i64 (nth cs (9 + d.toNat * 2 + 1)) && true)) && veq 4 (AG [I (lI cs d), I (hI cs d)]) (AG [I (lI cs d), I (hI cs d)]) && (d == d && true))) then
      bif (9 + s.toNat * 2 + 2).ble cs.length && (okI .i64 (nth cs (9 + s.toNat * 2 + 0)) && (okI .i64 (nth cs (9 + s.toNat * 2 + 1)) && true)) && veq 4 (AG [I (lI cs s), I (hI cs s)]) (AG [I (lI cs s), I (hI cs s)]) && (s == s && true) then
      bif op == 0 then
      (True ∧ True ∧ True) ∧
      bif d == d && true then
      ((PlainL cs ∧ True) ∧ (PlainL (setA cs 0 d (r14b imm) (r14c imm)) ∧ True) ∧ 0 ≤ d ∧ d < 8 ∧ 25 ≤ cs.length ∧ PlainL cs) ∧ (PlainL (setA cs 0 d (r14b imm) (r14c imm)) ∧ True) ∧ K [B true] (heapB G [some (ABlk.cells (setA cs 0 d (r14b imm) (r14c imm)) true)])
    else False
    else bif op == 1 then
      bif Nat.ble 25 cs.length && true && veq 4 (Value.agg { toList := cs }) (Value.agg { toList := cs }) && true then
      ((PlainL [I s] ∧ True) ∧ (PlainL [I s] ∧ True) ∧ true = true ∧ 0 ≤ s ∧ s < 8) ∧
      bif !boolO (nth cs (1 + s.toNat * 1)) then
      (PlainL cs ∧ True) ∧ K [B false] (heapB G [some (ABlk.cells cs true)])
    else ((PlainL cs ∧ True) ∧ (PlainL (setA cs 0 d (lI cs s) (hI cs s)) ∧ True) ∧ 0 ≤ d ∧ d < 8 ∧ 25 ≤ cs.length ∧ PlainL cs) ∧ (PlainL (setA cs 0 d (lI cs s) (hI cs s)) ∧ True) ∧ K [B true] (heapB G [some (ABlk.cells (setA cs 0 d (lI cs s) (hI cs s)) true)])
    else False
    else bif op == 2 then
      bif Nat.ble 25 cs.length && true && veq 4 (Value.agg { toList := cs }) (Value.agg { toList := cs }) && true then
      ((PlainL [I d, I s] ∧ True) ∧ (PlainL [I d, I s] ∧ True) ∧ true = true ∧ (0 ≤ d ∧ d < 8) ∧ 0 ≤ s ∧ s < 8) ∧
      bif !(boolO (nth cs (1 + d.toNat * 1)) && boolO (nth cs (1 + s.toNat * 1))) then
      (PlainL cs ∧ True) ∧ K [B false] (heapB G [some (ABlk.cells cs true)])
    else bif op == 2 then
      (True ∧ True ∧ True) ∧
      bif d == d && true then
      ((PlainL cs ∧ True) ∧ (PlainL (setA cs 0 d (r12b (lI cs d) (hI cs d) (lI cs s) (hI cs s)) (r12c (lI cs d) (hI cs d) (lI cs s) (hI cs s))) ∧ True) ∧ 0 ≤ d ∧ d < 8 ∧ 25 ≤ cs.length ∧ PlainL cs) ∧ (PlainL (setA cs 0 d (r12b (lI cs d) (hI cs d) (lI cs s) (hI cs s)) (r12c (lI cs d) (hI cs d) (lI cs s) (hI cs s))) ∧ True) ∧ K [B true] (heapB G [some (ABlk.cells (setA cs 0 d (r12b (lI cs d) (hI cs d) (lI cs s) (hI cs s)) (r12c (lI cs d) (hI cs d) (lI cs s) (hI cs s))) true)])
    else False
    else (True ∧ True ∧ True) ∧
      bif d == d && true then
      ((PlainL cs ∧ True) ∧ (PlainL (setA cs 0 d (r68b (lI cs d) (hI cs d) (lI cs s) (hI cs s)) (r68c (lI cs d) (hI cs d) (lI cs s) (hI cs s))) ∧ True) ∧ 0 ≤ d ∧ d < 8 ∧ 25 ≤ cs.length ∧ PlainL cs) ∧ (PlainL (setA cs 0 d (r68b (lI cs d) (hI cs d) (lI cs s) (hI cs s)) (r68c (lI cs d) (hI cs d) (lI cs s) (hI cs s))) ∧ True) ∧ K [B true] (heapB G [some (ABlk.cells (setA cs 0 d (r68b (lI cs d) (hI cs d) (lI cs s) (hI cs s)) (r68c (lI cs d) (hI cs d) (lI cs s) (hI cs s))) true)])
    else False
    else False
    else bif op == 3 then
      bif Nat.ble 25 cs.length && true && veq 4 (Value.agg { toList := cs }) (Value.agg { toList := cs }) && true then
      ((PlainL [I d, I s] ∧ True) ∧ (PlainL [I d, I s] ∧ True) ∧ true = true ∧ (0 ≤ d ∧ d < 8) ∧ 0 ≤ s ∧ s < 8) ∧
      bif !(boolO (nth cs (1 + d.toNat * 1)) && boolO (nth cs (1 + s.toNat * 1))) then
      (PlainL cs ∧ True) ∧ K [B false] (heapB G [some (ABlk.cells cs true)])
    else bif op == 2 then
      (True ∧ True ∧ True) ∧
      bif d == d && true then
      ((PlainL cs ∧ True) ∧ (PlainL (setA cs 0 d (r12b (lI cs d) (hI cs d) (lI cs s) (hI cs s)) (r12c (lI cs d) (hI cs d) (lI cs s) (hI cs s))) ∧ True) ∧ 0 ≤ d ∧ d < 8 ∧ 25 ≤ cs.length ∧ PlainL cs) ∧ (PlainL (setA cs 0 d (r12b (lI cs d) (hI cs d) (lI cs s) (hI cs s)) (r12c (lI cs d) (hI cs d) (lI cs s) (hI cs s))) ∧ True) ∧ K [B true] (heapB G [some (ABlk.cells (setA cs 0 d (r12b (lI cs d) (hI cs d) (lI cs s) (hI cs s)) (r12c (lI cs d) (hI cs d) (lI cs s) (hI cs s))) true)])
    else False
    else (True ∧ True ∧ True) ∧
      bif d == d && true then
      ((PlainL cs ∧ True) ∧ (PlainL (setA cs 0 d (r68b (lI cs d) (hI cs d) (lI cs s) (hI cs s)) (r68c (lI cs d) (hI cs d) (lI cs s) (hI cs s))) ∧ True) ∧ 0 ≤ d ∧ d < 8 ∧ 25 ≤ cs.length ∧ PlainL cs) ∧ (PlainL (setA cs 0 d (r68b (lI cs d) (hI cs d) (lI cs s) (hI cs s)) (r68c (lI cs d) (hI cs d) (lI cs s) (hI cs s))) ∧ True) ∧ K [B true] (heapB G [some (ABlk.cells (setA cs 0 d (r68b (lI cs d) (hI cs d) (lI cs s) (hI cs s)) (r68c (lI cs d) (hI cs d) (lI cs s) (hI cs s))) true)])
    else False
    else False
    else bif op == 4 then
      bif Nat.ble 25 cs.length && true && veq 4 (Value.agg { toList := cs }) (Value.agg { toList := cs }) && true then
      ((PlainL [I d] ∧ True) ∧ (PlainL [I d] ∧ True) ∧ true = true ∧ 0 ≤ d ∧ d < 8) ∧
      bif !boolO (nth cs (1 + d.toNat * 1)) then
      (PlainL cs ∧ True) ∧ K [B false] (heapB G [some (ABlk.cells cs true)])
    else bif op == 4 then
      (True ∧ True ∧ True) ∧
      bif (0 + 2).ble [I (lI cs d), I (hI cs d)].length && true && veq 4 (AG [I (lI cs d), I (hI cs d)]) (AG [I (lI cs d), I (hI cs d)]) && (d == d && true) then
      (True ∧ True ∧ True) ∧
      bif d == d && true then
      ((PlainL cs ∧ True) ∧ (PlainL (setA cs 0 d (r12b (lI cs d) (hI cs d) (r14b imm) (r14c imm)) (r12c (lI cs d) (hI cs d) (r14b imm) (r14c imm))) ∧ True) ∧ 0 ≤ d ∧ d < 8 ∧ 25 ≤ cs.length ∧ PlainL cs) ∧ (PlainL (setA cs 0 d (r12b (lI cs d) (hI cs d) (r14b imm) (r14c imm)) (r12c (lI cs d) (hI cs d) (r14b imm) (r14c imm))) ∧ True) ∧ K [B true] (heapB G [some (ABlk.cells (setA cs 0 d (r12b (lI cs d) (hI cs d) (r14b imm) (r14c imm)) (r12c (lI cs d) (hI cs d) (r14b imm) (r14c imm))) true)])
    else False
    else False
    else bif op == 5 then
      (True ∧ True ∧ True) ∧
      bif d == d && true then
      ((PlainL cs ∧ True) ∧ (PlainL (setA cs 0 d (r52b (lI cs d) (hI cs d) imm) (r52c (lI cs d) (hI cs d) imm)) ∧ True) ∧ 0 ≤ d ∧ d < 8 ∧ 25 ≤ cs.length ∧ PlainL cs) ∧ (PlainL (setA cs 0 d (r52b (lI cs d) (hI cs d) imm) (r52c (lI cs d) (hI cs d) imm)) ∧ True) ∧ K [B true] (heapB G [some (ABlk.cells (setA cs 0 d (r52b (lI cs d) (hI cs d) imm) (r52c (lI cs d) (hI cs d) imm)) true)])
    else False
    else (True ∧ True ∧ True) ∧
      bif d == d && true then
      ((PlainL cs ∧ True) ∧ (PlainL (setA cs 0 d (r69b (lI cs d) (hI cs d) imm) (r69c (lI cs d) (hI cs d) imm)) ∧ True) ∧ 0 ≤ d ∧ d < 8 ∧ 25 ≤ cs.length ∧ PlainL cs) ∧ (PlainL (setA cs 0 d (r69b (lI cs d) (hI cs d) imm) (r69c (lI cs d) (hI cs d) imm)) ∧ True) ∧ K [B true] (heapB G [some (ABlk.cells (setA cs 0 d (r69b (lI cs d) (hI cs d) imm) (r69c (lI cs d) (hI cs d) imm)) true)])
    else False
    else False
    else bif op == 5 then
      bif Nat.ble 25 cs.length && true && veq 4 (Value.agg { toList := cs }) (Value.agg { toList := cs }) && true then
      ((PlainL [I d] ∧ True) ∧ (PlainL [I d] ∧ True) ∧ true = true ∧ 0 ≤ d ∧ d < 8) ∧
      bif !boolO (nth cs (1 + d.toNat * 1)) then
      (PlainL cs ∧ True) ∧ K [B false] (heapB G [some (ABlk.cells cs true)])
    else bif op == 4 then
      (True ∧ True ∧ True) ∧
      bif (0 + 2).ble [I (lI cs d), I (hI cs d)].length && true && veq 4 (AG [I (lI cs d), I (hI cs d)]) (AG [I (lI cs d), I (hI cs d)]) && (d == d && true) then
      (True ∧ True ∧ True) ∧
      bif d == d && true then
      ((PlainL cs ∧ True) ∧ (PlainL (setA cs 0 d (r12b (lI cs d) (hI cs d) (r14b imm) (r14c imm)) (r12c (lI cs d) (hI cs d) (r14b imm) (r14c imm))) ∧ True) ∧ 0 ≤ d ∧ d < 8 ∧ 25 ≤ cs.length ∧ PlainL cs) ∧ (PlainL (setA cs 0 d (r12b (lI cs d) (hI cs d) (r14b imm) (r14c imm)) (r12c (lI cs d) (hI cs d) (r14b imm) (r14c imm))) ∧ True) ∧ K [B true] (heapB G [some (ABlk.cells (setA cs 0 d (r12b (lI cs d) (hI cs d) (r14b imm) (r14c imm)) (r12c (lI cs d) (hI cs d) (r14b imm) (r14c imm))) true)])
    else False
    else False
    else bif op == 5 then
      (True ∧ True ∧ True) ∧
      bif d == d && true then
      ((PlainL cs ∧ True) ∧ (PlainL (setA cs 0 d (r52b (lI cs d) (hI cs d) imm) (r52c (lI cs d) (hI cs d) imm)) ∧ True) ∧ 0 ≤ d ∧ d < 8 ∧ 25 ≤ cs.length ∧ PlainL cs) ∧ (PlainL (setA cs 0 d (r52b (lI cs d) (hI cs d) imm) (r52c (lI cs d) (hI cs d) imm)) ∧ True) ∧ K [B true] (heapB G [some (ABlk.cells (setA cs 0 d (r52b (lI cs d) (hI cs d) imm) (r52c (lI cs d) (hI cs d) imm)) true)])
    else False
    else (True ∧ True ∧ True) ∧
      bif d == d && true then
      ((PlainL cs ∧ True) ∧ (PlainL (setA cs 0 d (r69b (lI cs d) (hI cs d) imm) (r69c (lI cs d) (hI cs d) imm)) ∧ True) ∧ 0 ≤ d ∧ d < 8 ∧ 25 ≤ cs.length ∧ PlainL cs) ∧ (PlainL (setA cs 0 d (r69b (lI cs d) (hI cs d) imm) (r69c (lI cs d) (hI cs d) imm)) ∧ True) ∧ K [B true] (heapB G [some (ABlk.cells (setA cs 0 d (r69b (lI cs d) (hI cs d) imm) (r69c (lI cs d) (hI cs d) imm)) true)])
    else False
    else False
    else bif op == 6 then
      bif Nat.ble 25 cs.length && true && veq 4 (Value.agg { toList := cs }) (Value.agg { toList := cs }) && true then
      ((PlainL [I d] ∧ True) ∧ (PlainL [I d] ∧ True) ∧ true = true ∧ 0 ≤ d ∧ d < 8) ∧
      bif !boolO (nth cs (1 + d.toNat * 1)) then
      (PlainL cs ∧ True) ∧ K [B false] (heapB G [some (ABlk.cells cs true)])
    else bif op == 4 then
      (True ∧ True ∧ True) ∧
      bif (0 + 2).ble [I (lI cs d), I (hI cs d)].length && true && veq 4 (AG [I (lI cs d), I (hI cs d)]) (AG [I (lI cs d), I (hI cs d)]) && (d == d && true) then
      (True ∧ True ∧ True) ∧
      bif d == d && true then
      ((PlainL cs ∧ True) ∧ (PlainL (setA cs 0 d (r12b (lI cs d) (hI cs d) (r14b imm) (r14c imm)) (r12c (lI cs d) (hI cs d) (r14b imm) (r14c imm))) ∧ True) ∧ 0 ≤ d ∧ d < 8 ∧ 25 ≤ cs.length ∧ PlainL cs) ∧ (PlainL (setA cs 0 d (r12b (lI cs d) (hI cs d) (r14b imm) (r14c imm)) (r12c (lI cs d) (hI cs d) (r14b imm) (r14c imm))) ∧ True) ∧ K [B true] (heapB G [some (ABlk.cells (setA cs 0 d (r12b (lI cs d) (hI cs d) (r14b imm) (r14c imm)) (r12c (lI cs d) (hI cs d) (r14b imm) (r14c imm))) true)])
    else False
    else False
    else bif op == 5 then
      (True ∧ True ∧ True) ∧
      bif d == d && true then
      ((PlainL cs ∧ True) ∧ (PlainL (setA cs 0 d (r52b (lI cs d) (hI cs d) imm) (r52c (lI cs d) (hI cs d) imm)) ∧ True) ∧ 0 ≤ d ∧ d < 8 ∧ 25 ≤ cs.length ∧ PlainL cs) ∧ (PlainL (setA cs 0 d (r52b (lI cs d) (hI cs d) imm) (r52c (lI cs d) (hI cs d) imm)) ∧ True) ∧ K [B true] (heapB G [some (ABlk.cells (setA cs 0 d (r52b (lI cs d) (hI cs d) imm) (r52c (lI cs d) (hI cs d) imm)) true)])
    else False
    else (True ∧ True ∧ True) ∧
      bif d == d && true then
      ((PlainL cs ∧ True) ∧ (PlainL (setA cs 0 d (r69b (lI cs d) (hI cs d) imm) (r69c (lI cs d) (hI cs d) imm)) ∧ True) ∧ 0 ≤ d ∧ d < 8 ∧ 25 ≤ cs.length ∧ PlainL cs) ∧ (PlainL (setA cs 0 d (r69b (lI cs d) (hI cs d) imm) (r69c (lI cs d) (hI cs d) imm)) ∧ True) ∧ K [B true] (heapB G [some (ABlk.cells (setA cs 0 d (r69b (lI cs d) (hI cs d) imm) (r69c (lI cs d) (hI cs d) imm)) true)])
    else False
    else False
    else ((PlainL cs ∧ True) ∧ (PlainL (c70 cs op d s imm) ∧ True) ∧ true = true ∧ (0 ≤ d ∧ d < 8) ∧ 0 ≤ s ∧ s < 8) ∧ (PlainL (c70 cs op d s imm) ∧ True) ∧ K [B (r70 cs op d s imm)] (heapB G [some (ABlk.cells (c70 cs op d s imm) true)])
    else False
    else False
    else False
    else False
    else False
    else False
    else False
theorem eval46 (c k0 k1 k2 k3 k4 k5 k6 k7 : Bool) (l0 h0 l1 h1 l2 h2 l3 h3 l4 h4 l5 h5 l6 h6 l7 h7 : Int) (op d s imm : Int) (K : List Value → AHeap → Prop) :
    evSeg Try.f43 [con14, con12, con68, con52, con69, con24, con67, con70] nt1 [PT G, AG [I op, I d, I s, I imm]] [some (.cells (stL c k0 k1 k2 k3 k4 k5 k6 k7 l0 h0 l1 h1 l2 h2 l3 h3 l4 h4 l5 h5 l6 h6 l7 h7) true)] K
    = (teval46 (stL c k0 k1 k2 k3 k4 k5 k6 k7 l0 h0 l1 h1 l2 h2 l3 h3 l4 h4 l5 h5 l6 h6 l7 h7) op d s imm K ∧ teval46 (stL c k0 k1 k2 k3 k4 k5 k6 k7 l0 h0 l1 h1 l2 h2 l3 h3 l4 h4 l5 h5 l6 h6 l7 h7) op d s imm K) := by kernel_rfl


def r46 (cs : List Value) (op d s imm : Int) : Bool :=
  bif op == 0 then true else bif op == 1 then kI cs s else bif op == 2 then kI cs d && kI cs s else bif op == 3 then kI cs d && kI cs s
  else bif op == 4 then kI cs d else bif op == 5 then kI cs d else bif op == 6 then kI cs d else r70 cs op d s imm
def c46 (cs : List Value) (op d s imm : Int) : List Value :=
  bif op == 0 then setA cs 0 d (r14b imm) (r14c imm)
  else bif op == 1 then (bif kI cs s then setA cs 0 d (lI cs s) (hI cs s) else cs)
  else bif op == 2 then (bif kI cs d && kI cs s then setA cs 0 d (r12b (lI cs d) (hI cs d) (lI cs s) (hI cs s)) (r12c (lI cs d) (hI cs d) (lI cs s) (hI cs s)) else cs)
  else bif op == 3 then (bif kI cs d && kI cs s then setA cs 0 d (r68b (lI cs d) (hI cs d) (lI cs s) (hI cs s)) (r68c (lI cs d) (hI cs d) (lI cs s) (hI cs s)) else cs)
  else bif op == 4 then (bif kI cs d then setA cs 0 d (r12b (lI cs d) (hI cs d) (r14b imm) (r14c imm)) (r12c (lI cs d) (hI cs d) (r14b imm) (r14c imm)) else cs)
  else bif op == 5 then (bif kI cs d then setA cs 0 d (r52b (lI cs d) (hI cs d) imm) (r52c (lI cs d) (hI cs d) imm) else cs)
  else bif op == 6 then (bif kI cs d then setA cs 0 d (r69b (lI cs d) (hI cs d) imm) (r69c (lI cs d) (hI cs d) imm) else cs)
  else c70 cs op d s imm
theorem plain_bif {b : Bool} {x y : List Value} (hx : PlainL x) (hy : PlainL y) : PlainL (bif b then x else y) := by
  cases b
  · exact hy
  · exact hx
theorem plain_c70 {cs : List Value} (h : PlainL cs) (op d s imm : Int) : PlainL (c70 cs op d s imm) := by
  unfold c70
  repeat' (first | exact h | exact plain_set h _ _ _ _ | exact plain_c85 h _ | refine plain_bif ?_ ?_)
theorem plain_c46 {cs : List Value} (h : PlainL cs) (op d s imm : Int) : PlainL (c46 cs op d s imm) := by
  unfold c46
  repeat' (first | exact h | exact plain_set h _ _ _ _ | exact plain_c70 h _ _ _ _ | refine plain_bif ?_ ?_)

set_option maxHeartbeats 4000000 in
theorem t46_ok {cs : List Value} {op d s imm : Int} {K : List Value → AHeap → Prop} (hp : PlainL cs) (h25 : Nat.ble 25 cs.length = true) (hl : 25 ≤ cs.length) (hv : veq 4 (Value.agg { toList := cs }) (Value.agg { toList := cs }) = true)
    (d0 : 0 ≤ d) (d1 : d < 8) (s0 : 0 ≤ s) (s1 : s < 8)
    (hd : okI .i64 (nth cs (9 + d.toNat * 2 + 0)) = true ∧ okI .i64 (nth cs (9 + d.toNat * 2 + 1)) = true ∧ (9 + d.toNat * 2 + 2).ble cs.length = true)
    (hs : okI .i64 (nth cs (9 + s.toNat * 2 + 0)) = true ∧ okI .i64 (nth cs (9 + s.toNat * 2 + 1)) = true ∧ (9 + s.toNat * 2 + 2).ble cs.length = true)
    (hK : K [B (r46 cs op d s imm)] (heapB G [some (.cells (c46 cs op d s imm) true)])) : teval46 cs op d s imm K := by
  obtain ⟨hd1, hd2, hd3⟩ := hd
  obtain ⟨hs1, hs2, hs3⟩ := hs
  unfold teval46
  have p1 := plain_I s
  have p2 := plain_II d s
  have p3 := plain_I d
  have p6 := plain_c70 hp op d s imm
  simp only [d0, d1, s0, s1, hd1, hd2, hd3, hs1, hs2, hs3, h25, hv, veq_ints, beq_self_eq_true, decide_true, Bool.and_self, cond_true]
  repeat' (first | exact trivial | exact rfl | assumption | exact plain_set hp _ _ _ _ | omega | refine And.intro ?_ ?_ | refine bifN (fun h => ?_) (fun h => ?_) | refine bifP (fun h => ?_) (fun h => ?_))
  all_goals first
    | (simp only [r46, c46, kI, *, cond_true, cond_false] at hK; exact hK)
    | (exfalso; clear hK hd1 hd2 hd3 hs1 hs2 hs3 hp p1 p2 p3 p6 hv; simp_all; done)

noncomputable def con46 : Con := { f := 43, gh := [], paths := [⟨0, [], true⟩], spec := fun args bs => match args, bs with
  | [p, v], [some (.cells cs true)] => match aggV v with
    | some [op, d, s, imm] => bif isPtr p 0 then some (IsSt cs ∧ RegP d s, [B (r46 cs op d s imm)], [(true, some (.cells (c46 cs op d s imm) true))]) else none
    | _ => none
  | _, _ => none }
set_option maxRecDepth 100000 in
set_option maxHeartbeats 4000000 in
theorem con46_ok : con46.ok Try.prog w0 := by
  intro args bs p rs out e hp
  simp only [con46] at e
  split at e <;> first | (simp at e; done) | skip
  split at e <;> first | (simp at e; done) | skip
  rename_i p0 v cs _ op d s imm hv
  cases hq : isPtr p0 0 with
  | false => rw [hq] at e; simp at e
  | true =>
    rw [hq] at e
    simp only [cond_true, Option.some.injEq, Prod.mk.injEq] at e
    obtain ⟨e1, e2, e3⟩ := e
    subst e1 e2 e3
    obtain ⟨p1, ⟨d0, d1⟩, s0, s1⟩ := hp
    obtain ⟨c, k0, k1, k2, k3, k4, k5, k6, k7, l0, h0, l1, h1, l2, h2, l3, h3, l4, h4, l5, h5, l6, h6, l7, h7, hcs⟩ := isSt_eq p1
    subst hcs
    rw [aggV_eq hv, isPtr_eq hq]
    refine ev_callS (nt := nt1) (cs := [con14, con12, con68, con52, con69, con24, con67, con70]) (f := 43) (bs := [some (.cells (stL c k0 k1 k2 k3 k4 k5 k6 k7 l0 h0 l1 h1 l2 h2 l3 h3 l4 h4 l5 h5 l6 h6 l7 h7) true)]) Try.func43 (by kernel_rfl) (fun c hc => by
      simp only [List.mem_cons, List.not_mem_nil, or_false] at hc
      rcases hc with rfl | rfl | rfl | rfl | rfl | rfl | rfl | rfl
      · exact con14_ok
      · exact con12_ok
      · exact con68_ok
      · exact con52_ok
      · exact con69_ok
      · exact con24_ok
      · exact con67_ok
      · exact con70_ok) rfl ?_
    refine (eval46 c k0 k1 k2 k3 k4 k5 k6 k7 l0 h0 l1 h1 l2 h2 l3 h3 l4 h4 l5 h5 l6 h6 l7 h7 op d s imm _).mpr ?_
    have key := t46_ok (cs := stL c k0 k1 k2 k3 k4 k5 k6 k7 l0 h0 l1 h1 l2 h2 l3 h3 l4 h4 l5 h5 l6 h6 l7 h7) (op := op) (d := d) (s := s) (imm := imm) (K := fun rs' h' => rs' = [B (r46 (stL c k0 k1 k2 k3 k4 k5 k6 k7 l0 h0 l1 h1 l2 h2 l3 h3 l4 h4 l5 h5 l6 h6 l7 h7) op d s imm)] ∧ h' = heapB G [some (.cells (c46 (stL c k0 k1 k2 k3 k4 k5 k6 k7 l0 h0 l1 h1 l2 h2 l3 h3 l4 h4 l5 h5 l6 h6 l7 h7) op d s imm) true)])
      plain_st rfl (Nat.le_refl 25) veq_refl_st d0 d1 s0 s1 (stI d0 d1) (stI s0 s1) ⟨rfl, rfl⟩
    exact ⟨key, key⟩
end Go.Proofs.Ytadaindmgmielaa
