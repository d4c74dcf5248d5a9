/- The document's words, lines, program: plain definitions and laws. No condition. -/
import Derived.Test.YtkjdfkodclednaaDoorZm
namespace Go.Proofs.YtkjdfkodclednaaDoor
section
open Go.Agm
variable {w0 : World}
def splitL : List UInt8 → List ByteArray → List UInt8 → List ByteArray
  | [], out, wd => out ++ [⟨⟨wd⟩⟩]
  | c :: r, out, wd => if c = 32 then splitL r (out ++ [⟨⟨wd⟩⟩]) [] else splitL r out (wd ++ [c])
theorem byte_eq (c : UInt8) (n : Nat) (hn : n < 256) : (((c.toNat : Int)) == (n : Int)) = decide (c = UInt8.ofNat n) := by
  rw [Bool.eq_iff_iff, beq_iff_eq, decide_eq_true_eq]
  constructor
  · intro h
    have : c.toNat = n := by omega
    rw [← this]; exact (UInt8.ofNat_toNat).symm
  · rintro rfl
    rw [UInt8.toNat_ofNat_of_lt' hn]
def splitR (s : ByteArray) : List ByteArray := splitL s.data.toList [] []
/-- May a byte stand in a name? -/
def nmC (first : Bool) (c : UInt8) : Bool := (decide (97 ≤ c.toNat) && decide (c.toNat ≤ 122)) || (decide (48 ≤ c.toNat) && decide (c.toNat ≤ 57) && !first)
def nameL : Bool → List UInt8 → Bool
  | _, [] => true
  | f, c :: r => nmC f c && nameL false r
def nameR (s : ByteArray) : Bool := bif eqS s noS then false else bif decide ((s.size : Int) > 8) then false else nameL true s.data.toList
/-- The number that digits tell. -/
def magL : List UInt8 → Int → Option Int
  | [], n => some n
  | c :: r, n => if c.toNat < 48 ∨ 57 < c.toNat then none else magL r (10 * n + (c.toNat - 48))
def magR (neg : Bool) (t : ByteArray) : Option Int → Int × Bool
  | none => (0, false)
  | some n => if n > 9007199254740992 ∨ (bt t 0 = 48 ∧ t.size > 1) ∨ (neg = true ∧ n = 0) then (0, false) else (bif neg then -n else n, true)
def numT (neg : Bool) (t : ByteArray) : Int × Bool := bif eqS t noS then (0, false) else bif decide ((t.size : Int) > 16) then (0, false) else magR neg t (magL t.data.toList 0)
def numR (s : ByteArray) : Int × Bool := bif decide ((s.size : Int) > 0) && bt s 0 == 45 then numT true (s.extract 1 s.size) else numT false s
theorem eqS_no {s : ByteArray} : eqS s noS = decide (s.size = 0) := by
  rw [Bool.eq_iff_iff, eqS_iff, decide_eq_true_eq]
  constructor
  · rintro rfl; rfl
  · intro h
    obtain ⟨⟨l⟩⟩ := s
    cases l with
    | nil => rfl
    | cons a l => simp [ByteArray.size] at h
abbrev z4 : List Value := [I 0, I 0, I 0, I 0]
def hasR (op : Int) : Bool × Bool × Bool := (decide (op ≤ 11) || (decide (op ≥ 13) && decide (op ≤ 16)), (decide (op ≥ 1) && decide (op ≤ 3)) || (decide (op ≥ 7) && decide (op ≤ 11)) || (decide (op ≥ 13) && decide (op ≤ 16)), (op == 0) || (decide (op ≥ 4) && decide (op ≤ 17)) || (op == 19))
/-- What the words behind an operation's come to, by the document. -/
def rdX (op : Int) (d s j u : Bool) (l : List ByteArray) : InsR :=
  let l1 := bif d then l.tail else l
  let l2 := bif s then l1.tail else l1
  let l3 := bif j then l2.tail else l2
  bif (bif d then regO (hdW l) else true) && (bif s then regO (hdW l1) else true) && (bif j then (bif u then nameR (hdW l2) else (numR (hdW l2)).2) else true) then
    { x := ⟨op, bif d then regN (hdW l) else 0, bif s then regN (hdW l1) else 0, bif j then (bif u then 0 else (numR (hdW l2)).1) else 0⟩
      to := bif j then (bif u then hdW l2 else noS) else noS
      ok := l3.isEmpty }
  else ⟨⟨0, 0, 0, 0⟩, noS, false⟩
def wordC : List ByteArray := forms.map fun f => ⟨⟨f.1⟩⟩
/-- The operation of a word: the last that is alike. -/
def opR (a : ByteArray) : List ByteArray → Int → Int → Int
  | [], _, o => o
  | f :: r, i, o => opR a r (i + 1) (bif eqS f a then i else o)
def readR (ws : List ByteArray) : InsR := bif decide (opR (hdW ws) wordC 0 (-1) < 0) then ⟨⟨0, 0, 0, 0⟩, noS, false⟩
  else rdX (opR (hdW ws) wordC 0 (-1)) (hasR (opR (hdW ws) wordC 0 (-1))).1 (hasR (opR (hdW ws) wordC 0 (-1))).2.1 (hasR (opR (hdW ws) wordC 0 (-1))).2.2 (r44 (opR (hdW ws) wordC 0 (-1))) ws.tail
/-- What the document's Parse has read. -/
structure Ds where
  out : List Ins
  names : List ByteArray
  to : List ByteArray
  places : List Int
  lines : List Int
structure DsOk (d : Ds) (n : Nat) : Prop where
  len : d.out.length ≤ 128
  to' : d.to.length = d.out.length
  li : d.lines.length = d.out.length
  pl : d.places.length = d.names.length
  nm : d.names.length ≤ n
abbrev nm13 (l : ByteArray) : ByteArray := l.extract 0 (l.size - 1)
/-- Is a line a name? -/
def isN13 (l : ByteArray) : Bool := decide (1 < l.size) && (bt l (l.size - 1) == 58) && nameR (nm13 l)
def lineR (d : Ds) (n : Int) (l : ByteArray) : Except Int Ds :=
  bif isN13 l then
    bif d.names.any (eqS · (nm13 l)) then .error 9 else .ok { d with names := d.names ++ [nm13 l], places := d.places ++ [(d.out.length : Int)] }
  else bif !(readR (splitR l)).ok then .error 4
  else bif !right (readR (splitR l)).x then .error 11
  else bif (d.out.length : Int) == 128 then .error 10
  else .ok { d with out := d.out ++ [(readR (splitR l)).x], to := d.to ++ [(readR (splitR l)).to], lines := d.lines ++ [n] }
/-- The last place of a name. -/
def plR : List ByteArray → List Int → ByteArray → Int → Int
  | a :: r, p :: q, t, v => plR r q t (bif eqS a t then p else v)
  | _, _, _, v => v
/-- A round over the jumps. -/
def rndR (pl : ByteArray → Int) (u : Bool) : List (Ins × ByteArray × Int) → Except (Int × Int) (List Ins)
  | [] => .ok []
  | (x, t, l) :: r => bif eqS t noS then (match rndR pl u r with
      | .ok o => .ok (x :: o)
      | .error e => .error e)
    else bif decide (pl t < 0) then .error (l, 8)
    else bif u && !right { x with imm := pl t } then .error (l, 11)
    else match rndR pl u r with
      | .ok o => .ok ({ x with imm := pl t } :: o)
      | .error e => .error e
def zip3 : List Ins → List ByteArray → List Int → List (Ins × ByteArray × Int)
  | x :: r, t :: q, l :: k => (x, t, l) :: zip3 r q k
  | _, _, _ => []
abbrev plD (d : Ds) (t : ByteArray) : Int := plR d.names d.places t (-1)
def resR (d : Ds) : Option (Int × Int) × List Ins := match rndR (plD d) false (zip3 d.out d.to d.lines) with
  | .error e => (some e, [])
  | .ok o => match rndR (plD d) true (zip3 o d.to d.lines) with
    | .error e => (some e, [])
    | .ok o2 => (none, o2)
def cutL : List UInt8 → Option (List UInt8 × List UInt8)
  | [] => none
  | c :: r => if c = 10 then some ([], r) else match cutL r with
    | some p => some (c :: p.1, p.2)
    | none => none
def parR : Nat → Ds → Nat → List UInt8 → Option (Int × Int) × List Ins
  | 0, _, _, _ => (none, [])
  | m + 1, d, n, b => match b with
    | [] => resR d
    | c :: r => match cutL (c :: r) with
      | none => (some ((n : Int), 4), [])
      | some p => match lineR d n ⟨⟨p.1⟩⟩ with
        | .error e => (some ((n : Int), e), [])
        | .ok d' => parR m d' (n + 1) p.2
def parseR (s : ByteArray) : Option (Int × Int) × List Ins := parR (s.size + 1) ⟨[], [], [], [], []⟩ 1 s.data.toList
section
variable {K : List Value → AHeap → Prop} {s : ByteArray}
theorem ba_eq' {a b : ByteArray} (h : a.data.toList = b.data.toList) : a = b := ByteArray.ext (Array.toList_inj.1 h)
end
section
variable {K : List Value → AHeap → Prop} {s : ByteArray}
theorem any_name {d d' : Ds} {n : Nat} {l : ByteArray} (hd : DsOk d n) (h : lineR d n l = .ok d') : DsOk d' (n + 1) := by
  unfold lineR at h
  have h0 := hd.len
  have h1 := hd.to'
  have h2 := hd.li
  have h3 := hd.pl
  have h4 := hd.nm
  cases hN : isN13 l with
  | true =>
    rw [hN, cond_true] at h
    cases ha : d.names.any (eqS · (nm13 l)) with
    | true => rw [ha] at h; simp at h
    | false =>
      rw [ha, cond_false] at h
      injection h with h
      subst h
      exact ⟨h0, h1, h2, by simp only [List.length_append, List.length_singleton]; omega, by simp only [List.length_append, List.length_singleton]; omega⟩
  | false =>
    rw [hN, cond_false] at h
    cases q1 : (readR (splitR l)).ok with
    | false => rw [q1] at h; simp at h
    | true => cases q2 : right (readR (splitR l)).x with
      | false => rw [q1, q2] at h; simp at h
      | true => cases q3 : (d.out.length : Int) == 128 with
        | true => rw [q1, q2, q3] at h; simp at h
        | false =>
          rw [q1, q2, q3] at h
          simp only [Bool.not_true, cond_false] at h
          injection h with h
          subst h
          rw [beq_eq_false_iff_ne] at q3
          refine ⟨?_, ?_, ?_, h3, show d.names.length ≤ n + 1 by omega⟩ <;> simp only [List.length_append, List.length_singleton] <;> omega
end
theorem setI_at : ∀ (pre : List Ins) (x : Ins) (post : List Ins) (v : Int), setI (pre ++ x :: post) pre.length v = pre ++ { x with imm := v } :: post
  | [], _, _, _ => rfl
  | y :: r, x, post, v => by
    simp only [List.cons_append, List.length_cons, setI]
    rw [setI_at r x post v]
theorem zip3_1 : ∀ {a : List Ins} {b : List ByteArray} {c : List Int}, b.length = a.length → c.length = a.length → (zip3 a b c).map (·.1) = a ∧ (zip3 a b c).map (·.2.1) = b ∧ (zip3 a b c).map (·.2.2) = c
  | [], [], [], _, _ => ⟨rfl, rfl, rfl⟩
  | x :: a, y :: b, z :: c, h1, h2 => by
    obtain ⟨g1, g2, g3⟩ := zip3_1 (a := a) (b := b) (c := c) (by simpa using h1) (by simpa using h2)
    simp only [zip3, List.map_cons, g1, g2, g3]
    exact ⟨trivial, trivial, trivial⟩
end
section
open Go.Agm
variable {w0 : World}
theorem right_out {o d s imm : Int} (h : o < 0 ∨ 20 < o) : right ⟨o, d, s, imm⟩ = false := by
  have hk : ∀ k : Int, 0 ≤ k → k ≤ 20 → (o == k) = false := fun k _ _ => beq_eq_false_iff_ne.mpr (by omega)
  show r29 o d s imm = false
  unfold r29
  rw [hk 0 (by decide) (by decide), hk 1 (by decide) (by decide), hk 2 (by decide) (by decide), hk 3 (by decide) (by decide), hk 4 (by decide) (by decide), hk 5 (by decide) (by decide), hk 6 (by decide) (by decide), hk 7 (by decide) (by decide), hk 8 (by decide) (by decide), hk 9 (by decide) (by decide), hk 10 (by decide) (by decide), hk 11 (by decide) (by decide), hk 12 (by decide) (by decide), hk 13 (by decide) (by decide), hk 14 (by decide) (by decide), hk 15 (by decide) (by decide), hk 16 (by decide) (by decide), hk 17 (by decide) (by decide), hk 18 (by decide) (by decide), hk 19 (by decide) (by decide), hk 20 (by decide) (by decide)]
  simp only [cond_false]
  cases !r50 d <;> cases !r50 s <;> cases decide (imm < -2147483648) <;> cases decide (imm ≥ 2147483648) <;> cases !r51 o d s imm <;> rfl
section
variable {K : List Value → AHeap → Prop} {s : ByteArray}
theorem w_succ {i : Nat} (h : i ≤ 1000000) : w ((i : Int) + 1) = ((i + 1 : Nat) : Int) := by rw [w_id (by omega) (by omega)]; omega
end
section
variable {K : List Value → AHeap → Prop} {s : ByteArray}
end
section
variable {K : List Value → AHeap → Prop} {s : ByteArray}
end
end
end Go.Proofs.YtkjdfkodclednaaDoor
