/- The functions of holds: words for their contracts. No condition. -/
import Derived.Test.YtdggbficiakbhaaHoldT
import Derived.Test.YtdggbficiakbhaaB7
namespace Go.Proofs.Ytdggbficiakbhaa
open Go.Agm

noncomputable abbrev G : Nat := Try.prog.globals.size
abbrev SL (b n sz : Nat) : Value := .slice (some ⟨b, 0, none⟩) n sz
abbrev PT (b : Nat) : Value := .pointer (some ⟨b, 0, none⟩)
def ints (l : List Int) : List Value := l.map I
def prs : List (Int × Int) → List Value
  | [] => []
  | p :: r => I p.1 :: I p.2 :: prs r
abbrev w (n : Int) : Int := IntKind.i64.wrap n

def intV : Value → Option Int
  | .int .i64 n => some n
  | _ => none
theorem intV_eq {v : Value} {n : Int} (e : intV v = some n) : v = I n := by
  unfold intV at e; split at e <;> simp_all
noncomputable def isPtr (v : Value) (i : Nat) : Bool := match v with
  | .pointer (some ⟨b, off, none⟩) => Nat.beq b (G + i) && Nat.beq off 0
  | _ => false
theorem isPtr_eq {v : Value} {i : Nat} (e : isPtr v i = true) : v = PT (G + i) := by
  unfold isPtr at e
  split at e
  · rename_i b off
    simp only [Bool.and_eq_true] at e
    rw [Nat.eq_of_beq_eq_true e.1, Nat.eq_of_beq_eq_true e.2]
  · simp at e
noncomputable def slN (v : Value) (i sz : Nat) : Option Nat := match v with
  | .slice (some ⟨b, off, none⟩) n s => bif Nat.beq b (G + i) && Nat.beq off 0 && Nat.beq s sz then some n else none
  | _ => none
theorem slN_eq {v : Value} {i sz n : Nat} (e : slN v i sz = some n) : v = SL (G + i) n sz := by
  unfold slN at e
  split at e
  · rename_i b off n' s
    cases hb : (Nat.beq b (G + i) && Nat.beq off 0 && Nat.beq s sz) with
    | false => rw [hb] at e; simp at e
    | true =>
      rw [hb] at e
      simp only [cond_true, Option.some.injEq] at e
      simp only [Bool.and_eq_true] at hb
      rw [Nat.eq_of_beq_eq_true hb.1.1, Nat.eq_of_beq_eq_true hb.1.2, Nat.eq_of_beq_eq_true hb.2, e]
  · simp at e

def int1 (v : Value) : Int := match v with
  | .int _ n => n
  | _ => 0
def unI (cs : List Value) : List Int := cs.map int1
def unP : List Value → List (Int × Int)
  | x :: y :: r => (int1 x, int1 y) :: unP r
  | _ => []
theorem unI_ints (l : List Int) : unI (ints l) = l := by
  simp [unI, ints, int1, Function.comp_def]
theorem unP_prs : ∀ l : List (Int × Int), unP (prs l) = l
  | [] => rfl
  | p :: r => by simp [prs, unP, unP_prs r, int1]
theorem ints_len (l : List Int) : (ints l).length = l.length := List.length_map _
theorem prs_len : ∀ l : List (Int × Int), (prs l).length = 2 * l.length
  | [] => rfl
  | p :: r => by simp [prs, prs_len r]; omega
theorem plain_ints (l : List Int) : PlainL (ints l) := by
  intro x hx
  obtain ⟨n, _, rfl⟩ := List.mem_map.1 hx
  rfl
theorem plain_prs : ∀ l : List (Int × Int), PlainL (prs l)
  | [], x, hx => by simp [prs] at hx
  | p :: r, x, hx => by
    simp only [prs, List.mem_cons] at hx
    rcases hx with rfl | rfl | hx
    · rfl
    · rfl
    · exact plain_prs r x hx
theorem nth_ints (l : List Int) (i : Nat) : nth (ints l) i = (l[i]?).map I := by rw [nth_eq, ints, List.getElem?_map]
theorem okI_ints {l : List Int} {i : Nat} (h : i < l.length) : okI .i64 (nth (ints l) i) = true := by
  rw [nth_ints, List.getElem?_eq_getElem h]; rfl
theorem intO_ints {l : List Int} {i : Nat} (h : i < l.length) : intO (nth (ints l) i) = l[i] := by
  rw [nth_ints, List.getElem?_eq_getElem h]; rfl

theorem w_id {n : Int} (h1 : -9223372036854775808 ≤ n) (h2 : n < 9223372036854775808) : w n = n := by
  have e : IntKind.i64.wrap n = if n % 18446744073709551616 ≥ 9223372036854775808 then n % 18446744073709551616 - 18446744073709551616 else n % 18446744073709551616 := by
    simp [IntKind.wrap, IntKind.bits, IntKind.signed]
  show IntKind.i64.wrap n = n
  rw [e]
  split <;> omega

def look (i : Nat) : List (Nat × AV) → AV
  | [] => .dead
  | (j, x) :: r => bif Nat.beq j i then x else look i r
/-- A frame of which some slots live. -/
def frm (n : Nat) (l : List (Nat × AV)) : List AV := (List.range n).map fun i => look i l
/-- Which slots live at the heads of loops. -/
def live (n : Nat) (l : List Nat) : List Bool := (List.range n).map fun i => l.any (Nat.beq i)
abbrev nmOf (flags : List Bool) (paths : List Pth) : Nt := { gh := [], flags := flags, paths := paths, tr := [] }
/-- The code from a loop's head on. -/
noncomputable def todoAt (fn : Func) (F : FT) (id : Nat) (fr : List AV) (h : AHeap) : List Item :=
  segK2 Try.prog F { fail := [], ret := fun _ _ => [], call := fun _ _ h k => k [.int .i64 0] h } fn [id] 60 [.code (fn.body.getD .skip)] fr (fun t _ _ => t) h

end Go.Proofs.Ytdggbficiakbhaa
