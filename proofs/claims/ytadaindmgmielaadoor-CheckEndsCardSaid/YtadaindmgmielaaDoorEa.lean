/- A program that may be run, with two instructions more behind it, in plain words. No condition. -/
import Derived.Test.YtadaindmgmielaaDoorKc
namespace Go.Proofs.YtadaindmgmielaaDoor
open Go.Agm

theorem nthL {a b : List Value} {i : Nat} (h : i < a.length) : nth (a ++ b) i = nth a i := by
  rw [nth_eq, nth_eq, List.getElem?_append_left h]
theorem getL {α : Type} {a b : List α} {d : α} {i : Nat} (h : i < a.length) : (a ++ b).getD i d = a.getD i d := by
  rw [List.getD_eq_getElem?_getD, List.getD_eq_getElem?_getD, List.getElem?_append_left h]
theorem spliceL {C Z xs : List Value} {off : Nat} (h : off + xs.length ≤ C.length) : splice (C ++ Z) off xs = splice C off xs ++ Z := by
  unfold splice
  rw [List.take_append_of_le_length (by omega), List.drop_append_of_le_length h]
  simp
theorem stAtL {C Z : List Value} {i : Nat} (h : (i + 1) * 25 ≤ C.length) : stAt (C ++ Z) i = stAt C i := by
  unfold stAt
  rw [List.drop_append_of_le_length (by omega), List.take_append_of_le_length (by rw [List.length_drop]; omega)]
theorem jn_len {os C : List Value} {off i : Nat} (h : off + 25 ≤ C.length) (hi : i < 8) : (jn os off i C).length = C.length := by
  unfold jn
  cases boolO (nth C (off + 1 + i)) && boolO (nth os (1 + i)) with
  | true => rw [splice_len (by rw [splice_len (by simp; omega)]; simp; omega), splice_len (by simp; omega)]
  | false => rw [splice_len (by rw [splice_len (by simp; omega)]; simp; omega), splice_len (by simp; omega)]
theorem jnL {os C Z : List Value} {off i : Nat} (h : off + 25 ≤ C.length) (hi : i < 8) : jn os off i (C ++ Z) = jn os off i C ++ Z := by
  unfold jn
  rw [nthL (by omega), nthL (by omega), nthL (by omega), spliceL (by simp; omega)]
  cases boolO (nth C (off + 1 + i)) && boolO (nth os (1 + i)) with
  | true => rw [spliceL (by rw [splice_len (by simp; omega)]; simp; omega)]
  | false => rw [spliceL (by rw [splice_len (by simp; omega)]; simp; omega)]
theorem joinL {os Z : List Value} {off : Nat} : ∀ (n i : Nat) {C : List Value}, off + 25 ≤ C.length → i + n ≤ 8 → joinFrom os off n i (C ++ Z) = joinFrom os off n i C ++ Z ∧ (joinFrom os off n i C).length = C.length
  | 0, i, C, _, _ => ⟨rfl, rfl⟩
  | n + 1, i, C, h, hi => by
    have hl := jn_len (os := os) h (show i < 8 by omega)
    obtain ⟨e1, e2⟩ := joinL (os := os) (Z := Z) (off := off) n (i + 1) (C := jn os off i C) (by omega) (by omega)
    rw [joinFrom, joinFrom, jnL h (by omega)]
    exact ⟨e1, by rw [e2, hl]⟩
theorem join48L {os C Z : List Value} {off : Nat} (h : off + 25 ≤ C.length) (ho : os.length = 25) : join48 (C ++ Z) off os = join48 C off os ++ Z ∧ (join48 C off os).length = C.length := by
  unfold join48
  rw [nthL (by omega)]
  cases boolO (nth C off) with
  | true => exact joinL 8 0 h (by omega)
  | false => exact ⟨spliceL (by omega), splice_len (by omega)⟩
section
variable {a : List Ins} {x1 x2 : Ins} {lp en : List Int}
theorem withinL {i : Int} : ∀ (f g : Nat) (k : Int), LpOk lp a.length → en.length = a.length → k < (a.length : Int) → withinF lp en i f k = true → withinF (lp ++ [-1, -1]) (en ++ [0, 0]) i (f + g) k = true
  | 0, _, _, _, _, _, h => by cases h
  | f + 1, g, k, hl, he, hk, h => by
    rw [show f + 1 + g = (f + g) + 1 by omega, withinF]
    rw [withinF] at h
    cases c1 : decide (k ≥ 0) with
    | false => rfl
    | true =>
      rw [c1, cond_true] at h
      simp only [decide_eq_true_eq] at c1
      have hkn : k.toNat < a.length := by omega
      rw [cond_true, getL (by rw [he]; exact hkn), getL (by rw [hl.len]; exact hkn)]
      cases c2 : decide (i ≤ k) with
      | true => rw [c2] at h; cases h
      | false =>
        rw [c2, cond_false] at h
        cases c3 : decide (i > en.getD k.toNat 0) with
        | true => rw [c3] at h; cases h
        | false =>
          rw [c3, cond_false] at h
          have := hl.hi k.toNat hkn
          exact withinL f g _ hl he (by omega) h
theorem badL {i op imm : Int} (hl : LpOk lp a.length) (he : en.length = a.length) (h0 : 0 ≤ i) (h : bad25 a.length lp en i op imm = false) : bad25 (a.length + 2) (lp ++ [-1, -1]) (en ++ [0, 0]) i op imm = false := by
  unfold bad25 at h ⊢
  cases c0 : r44 op with
  | false => rfl
  | true =>
    rw [c0, cond_true] at h
    cases c1 : decide (imm ≤ i) with
    | true => rw [c1] at h; cases h
    | false =>
      rw [c1, cond_false] at h
      cases c2 : decide (imm ≥ (a.length : Int)) with
      | true => rw [c2] at h; cases h
      | false =>
        rw [c2, cond_false] at h
        simp only [decide_eq_false_iff_not] at c1 c2
        simp only [Bool.not_eq_false'] at h
        have hi : imm.toNat < a.length := by omega
        have hh := hl.hi imm.toNat hi
        rw [cond_true, cond_false, decide_eq_false (show ¬ imm ≥ ((a.length + 2 : Nat) : Int) by omega), cond_false, getL (by rw [hl.len]; exact hi),
          withinL (a.length + 1) 2 _ hl he (by omega) h]
        rfl
theorem loopL (h1 : x1.op ≠ 17) (h1' : x1.op ≠ 18) (h2 : x2.op ≠ 17) (h2' : x2.op ≠ 18) : ∀ (f i : Nat) (os lp en : List Int), a.length - i < f → i ≤ a.length → lp.length = a.length → en.length = a.length → (∀ o ∈ os, 0 ≤ o ∧ o < (a.length : Int)) →
    (loopF a f i os lp en).1 = -1 → loopF (a ++ [x1, x2]) (f + 2) i os (lp ++ [0, 0]) (en ++ [0, 0]) = (-1, (loopF a f i os lp en).2.1 ++ [-1, -1], (loopF a f i os lp en).2.2 ++ [0, 0]) := by
  intro f
  induction f with
  | zero => intro i os lp en h; omega
  | succ f ih =>
    intro i os lp en hf hi hlp hen hos hr
    have hlen : (a ++ [x1, x2]).length = a.length + 2 := by simp
    by_cases hlt : i < a.length
    · have eA : loopF a (f + 1) i os lp en = bif (a.getD i insD).op == 17 then
          bif (os.length : Int) == 3 then ((i : Int), lp.set i (topF os), en) else loopF a f (i + 1) (os ++ [(i : Int)]) (lp.set i (topF os)) en
        else bif (a.getD i insD).op == 18 then
          bif (os.length : Int) == 0 then ((i : Int), lp.set i (topF os), en) else loopF a f (i + 1) (os.take (os.length - 1)) (lp.set i (topF os)) (en.set (topF os).toNat i)
        else loopF a f (i + 1) os (lp.set i (topF os)) en := by rw [loopF, decide_eq_true hlt, cond_true]
      rw [eA] at hr ⊢
      rw [show f + 1 + 2 = (f + 2) + 1 by omega, loopF, decide_eq_true (show i < (a ++ [x1, x2]).length by omega), cond_true, getL hlt, List.set_append_left _ _ (by omega)]
      have hl1 : ∀ v, (lp.set i v).length = a.length := fun v => by rw [List.length_set]; exact hlp
      cases c1 : (a.getD i insD).op == 17 with
      | true =>
        rw [c1, cond_true] at hr
        simp only [cond_true]
        cases c2 : (os.length : Int) == 3 with
        | true => rw [c2, cond_true] at hr; exfalso; have : (i : Int) = -1 := hr; omega
        | false =>
          rw [c2, cond_false] at hr
          simp only [cond_false]
          exact ih (i + 1) _ _ _ (by omega) (by omega) (hl1 _) hen (fun o ho => by
            rcases List.mem_append.1 ho with ho | ho
            · exact hos o ho
            · simp only [List.mem_singleton] at ho; omega) hr
      | false =>
        rw [c1, cond_false] at hr
        simp only [cond_false]
        cases c2 : (a.getD i insD).op == 18 with
        | true =>
          rw [c2, cond_true] at hr
          simp only [cond_true]
          cases c3 : (os.length : Int) == 0 with
          | true => rw [c3, cond_true] at hr; exfalso; have : (i : Int) = -1 := hr; omega
          | false =>
            rw [c3, cond_false] at hr
            simp only [cond_false]
            have ht : (topF os).toNat < en.length := by
              have h0 : 0 < os.length := by have := beq_eq_false_iff_ne.mp c3; omega
              unfold topF
              rw [decide_eq_true (by omega), cond_true]
              have hm : os.getD (os.length - 1) 0 ∈ os := by
                rw [List.getD_eq_getElem?_getD, List.getElem?_eq_getElem (by omega)]
                exact List.getElem_mem _
              have := hos _ hm
              omega
            rw [List.set_append_left _ _ ht]
            exact ih (i + 1) _ _ _ (by omega) (by omega) (hl1 _) (by rw [List.length_set]; exact hen) (fun o ho => hos o (List.mem_of_mem_take ho)) hr
        | false =>
          rw [c2, cond_false] at hr
          simp only [cond_false]
          exact ih (i + 1) _ _ _ (by omega) (by omega) (hl1 _) hen hos hr
    · have e : i = a.length := by omega
      subst e
      have eA : loopF a (f + 1) a.length os lp en = (bif decide ((os.length : Int) > 0) then os.getD 0 0 else -1, lp, en) := by rw [loopF, decide_eq_false hlt, cond_false]
      rw [eA] at hr ⊢
      have ho : os = [] := by
        cases os with
        | nil => rfl
        | cons o r =>
          have h0 := (hos o (by simp)).1
          have : decide (((o :: r).length : Int) > 0) = true := decide_eq_true (by simp only [List.length_cons]; omega)
          rw [this] at hr
          have : o = -1 := hr
          omega
      subst ho
      have g0 : (a ++ [x1, x2]).getD a.length insD = x1 := by rw [List.getD_eq_getElem?_getD, List.getElem?_append_right (Nat.le_refl _)]; simp
      have g1 : (a ++ [x1, x2]).getD (a.length + 1) insD = x2 := by rw [List.getD_eq_getElem?_getD, List.getElem?_append_right (by omega)]; simp
      have s0 : (lp ++ [0, 0]).set a.length (topF []) = lp ++ [-1, 0] := by rw [← hlp, List.set_append_right _ _ (Nat.le_refl _)]; simp [topF]
      have s1 : (lp ++ [-1, 0]).set (a.length + 1) (topF []) = lp ++ [-1, -1] := by rw [← hlp, List.set_append_right _ _ (by omega)]; simp [topF]
      rw [show f + 1 + 2 = ((f + 1) + 1) + 1 by omega, loopF, decide_eq_true (show a.length < (a ++ [x1, x2]).length by omega), cond_true, g0, s0, beq_eq_false_iff_ne.2 h1, beq_eq_false_iff_ne.2 h1']
      simp only [cond_false]
      rw [loopF, decide_eq_true (show a.length + 1 < (a ++ [x1, x2]).length by omega), cond_true, g1, s1, beq_eq_false_iff_ne.2 h2, beq_eq_false_iff_ne.2 h2']
      simp only [cond_false]
      rw [loopF, decide_eq_false (show ¬ a.length + 1 + 1 < (a ++ [x1, x2]).length by omega)]
      rfl
end

section
variable {a : List Ins} {x1 x2 : Ins} {lp en : List Int}
abbrev Z50 : List Value := z25 ++ z25
theorem widL (hE : EnOk a en) (he : en.length = a.length) {i : Nat} (hi : i < a.length) (s : List Value) : wid25 (a ++ [x1, x2]) (en ++ [0, 0]) i (a.getD i insD).op s = wid25 a en i (a.getD i insD).op s := by
  unfold wid25
  cases c : (a.getD i insD).op == 17 with
  | false => rfl
  | true =>
    have hg : a.getD i insD = a[i] := by rw [List.getD_eq_getElem?_getD, List.getElem?_eq_getElem hi]; rfl
    obtain ⟨e1, e2⟩ := hE i hi (by rw [← hg]; exact beq_iff_eq.1 c)
    rw [getL (by omega), List.drop_append_of_le_length (by omega), List.take_append_of_le_length (by rw [List.length_drop]; omega)]
theorem stepL (hl : ∀ x ∈ a, right x = true) (hL : LpOk lp a.length) (hE : EnOk a en) (he : en.length = a.length) {i : Nat} (hi : i < a.length) {C : List Value} (hst : StsOk C a.length) (hok : (stepF a lp en i C).1 = true) :
    stepF (a ++ [x1, x2]) (lp ++ [-1, -1]) (en ++ [0, 0]) i (C ++ Z50) = (true, (stepF a lp en i C).2 ++ Z50) := by
  have hlen : (a ++ [x1, x2]).length = a.length + 2 := by simp
  have hcl := hst.len
  have hr := right_regs (hl _ (List.getElem_mem hi))
  have hget : a.getD i insD = a[i] := by rw [List.getD_eq_getElem?_getD, List.getElem?_eq_getElem hi]; rfl
  obtain ⟨_, _, s3⟩ := sta_eq hst hi
  unfold stepF at hok ⊢
  rw [getL hi, hlen, nthL (by omega), stAtL (by omega), widL hE he hi]
  cases hb : bad25 a.length lp en i (a.getD i insD).op (a.getD i insD).imm with
  | true => rw [hb] at hok; cases hok
  | false =>
    rw [hb, cond_false] at hok
    rw [badL hL he (by omega) hb]
    simp only [cond_false]
    cases h1 : !boolO (nth C (i * 25)) with
    | true => rfl
    | false =>
      rw [h1, cond_false] at hok
      simp only [cond_false]
      cases h2 : !r46 (stAt C i) (a.getD i insD).op (a.getD i insD).d (a.getD i insD).s (a.getD i insD).imm with
      | true => rw [h2] at hok; cases hok
      | false =>
        rw [h2, cond_false] at hok
        simp only [cond_false]
        rw [hget] at hok hb ⊢
        have hs := wid25_st (en := en) (i := i) (op := a[i].op) hl (c46_st (op := a[i].op) (imm := a[i].imm) s3 hr)
        generalize wid25 a en i a[i].op (c46 (stAt C i) a[i].op a[i].d a[i].s a[i].imm) = s at hs hok ⊢
        have h25 := isSt_len hs
        have hj : jmp25 a[i].op a[i].imm (C ++ Z50) s = jmp25 a[i].op a[i].imm C s ++ Z50 ∧ (jmp25 a[i].op a[i].imm C s).length = a.length * 25 := by
          unfold jmp25
          cases c : r44 a[i].op with
          | false => exact ⟨rfl, hcl⟩
          | true =>
            obtain ⟨_, _, q3⟩ := jump_imm hb c (by omega)
            obtain ⟨j1, j2⟩ := join48L (C := C) (Z := Z50) (off := a[i].imm.toNat * 25) (os := s) (by omega) h25
            exact ⟨j1, by rw [← hcl]; exact j2⟩
        rw [hj.1]
        generalize jmp25 a[i].op a[i].imm C s = C1 at hj hok ⊢
        unfold fin25 at hok ⊢
        cases c1 : a[i].op == 12 with
        | true => rfl
        | false =>
          rw [c1, cond_false] at hok
          simp only [cond_false]
          cases c2 : a[i].op == 20 with
          | true => rfl
          | false =>
            rw [c2, cond_false] at hok
            simp only [cond_false]
            cases c3 : ((i + 1 : Nat) : Int) == (a.length : Int) with
            | true => rw [c3] at hok; cases hok
            | false =>
              have hlt : i + 1 < a.length := by have := beq_eq_false_iff_ne.mp c3; omega
              rw [beq_eq_false_iff_ne.2 (show ((i + 1 : Nat) : Int) ≠ ((a.length + 2 : Nat) : Int) by omega)]
              simp only [cond_false]
              rw [(join48L (C := C1) (Z := Z50) (off := (i + 1) * 25) (os := s) (by omega) h25).1]
theorem walkL (j1 : r44 x1.op = false) (j2 : r44 x2.op = false) (hl : ∀ x ∈ a, right x = true) (hL : LpOk lp a.length) (hE : EnOk a en) (he : en.length = a.length) : ∀ (f i : Nat) (C : List Value), a.length - i < f → i ≤ a.length → StsOk C a.length → PlainL C →
    (walkF a lp en f i C).1 = -1 → walkF (a ++ [x1, x2]) (lp ++ [-1, -1]) (en ++ [0, 0]) (f + 2) i (C ++ Z50) = (-1, (walkF a lp en f i C).2 ++ Z50) := by
  intro f
  induction f with
  | zero => intro i C h; omega
  | succ f ih =>
    intro i C hf hi hst hpl hr
    have hlen : (a ++ [x1, x2]).length = a.length + 2 := by simp
    have hcl := hst.len
    by_cases hlt : i < a.length
    · have eA : walkF a lp en (f + 1) i C = bif !(stepF a lp en i C).1 then ((i : Int), C) else walkF a lp en f (i + 1) (stepF a lp en i C).2 := by rw [walkF, decide_eq_true hlt, cond_true]
      rw [eA] at hr ⊢
      cases c : (stepF a lp en i C).1 with
      | false => rw [c] at hr; exfalso; have : (i : Int) = -1 := hr; omega
      | true =>
        rw [c] at hr
        have hr' : (walkF a lp en f (i + 1) (stepF a lp en i C).2).1 = -1 := hr
        rw [show f + 1 + 2 = (f + 2) + 1 by omega, walkF, decide_eq_true (show i < (a ++ [x1, x2]).length by omega), cond_true, stepL hl hL hE he hlt hst c]
        obtain ⟨t1, t2⟩ := stepF_sts (lp := lp) (en := en) hl hlt hst hpl
        exact ih (i + 1) _ (by omega) (by omega) t1 t2 hr'
    · have e : i = a.length := by omega
      subst e
      have w0 : walkF a lp en (f + 1) a.length C = (-1, C) := by rw [walkF, decide_eq_false hlt]; rfl
      have g0 : (a ++ [x1, x2]).getD a.length insD = x1 := by rw [List.getD_eq_getElem?_getD, List.getElem?_append_right (Nat.le_refl _)]; simp
      have g1 : (a ++ [x1, x2]).getD (a.length + 1) insD = x2 := by rw [List.getD_eq_getElem?_getD, List.getElem?_append_right (by omega)]; simp
      have n0 : nth (C ++ Z50) (a.length * 25) = some (B false) := by rw [nth_eq, List.getElem?_append_right (by omega), hcl]; simp
      have n1 : nth (C ++ Z50) ((a.length + 1) * 25) = some (B false) := by
        rw [nth_eq, List.getElem?_append_right (by omega), hcl, show (a.length + 1) * 25 - a.length * 25 = 25 by omega]; rfl
      have s0 : stepF (a ++ [x1, x2]) (lp ++ [-1, -1]) (en ++ [0, 0]) a.length (C ++ Z50) = (true, C ++ Z50) := by
        unfold stepF bad25
        rw [g0, j1, n0]; rfl
      have s1 : stepF (a ++ [x1, x2]) (lp ++ [-1, -1]) (en ++ [0, 0]) (a.length + 1) (C ++ Z50) = (true, C ++ Z50) := by
        unfold stepF bad25
        rw [g1, j2, n1]; rfl
      rw [w0, show f + 1 + 2 = ((f + 1) + 1) + 1 by omega, walkF, decide_eq_true (show a.length < (a ++ [x1, x2]).length by omega), cond_true, s0]
      simp only [Bool.not_true, cond_false]
      rw [walkF, decide_eq_true (show a.length + 1 < (a ++ [x1, x2]).length by omega), cond_true, s1]
      simp only [Bool.not_true, cond_false]
      rw [walkF, decide_eq_false (show ¬ a.length + 1 + 1 < (a ++ [x1, x2]).length by omega)]
      rfl
theorem prodL (hL : LpOk lp a.length) : ∀ (f f' : Nat) (k q : Int), k < (a.length : Int) → (k + 1).toNat < f → (k + 1).toNat < f' → prodF (a ++ [x1, x2]) (lp ++ [-1, -1]) f' k q = prodF a lp f k q := by
  intro f
  induction f with
  | zero => intro f' k q _ h; omega
  | succ f ih =>
    intro f' k q hk h1 h2
    obtain ⟨f', rfl⟩ : ∃ g, f' = g + 1 := ⟨f' - 1, by omega⟩
    rw [prodF]
    have eA : prodF a lp (f + 1) k q = bif decide (k ≥ 0) then prodF a lp f (lp.getD k.toNat 0) (w (q * (a.getD k.toNat insD).imm)) else q := rfl
    rw [eA]
    cases c : decide (k ≥ 0) with
    | false => rfl
    | true =>
      simp only [decide_eq_true_eq] at c
      have hkn : k.toNat < a.length := by omega
      have := hL.hi k.toNat hkn
      have := hL.lo k.toNat hkn
      simp only [cond_true]
      rw [getL (by rw [hL.len]; exact hkn), getL hkn]
      exact ih f' _ _ (by omega) (by omega) (by omega)
theorem fuelL (hL : LpOk lp a.length) : ∀ (f i : Nat) (t : Int), a.length - i < f → i ≤ a.length → fuelF (a ++ [x1, x2]) (lp ++ [-1, -1]) (f + 2) i t = w (w (fuelF a lp f i t + 1) + 1) := by
  intro f
  induction f with
  | zero => intro i t h; omega
  | succ f ih =>
    intro i t hf hi
    have hlen : (a ++ [x1, x2]).length = a.length + 2 := by simp
    by_cases hlt : i < a.length
    · have eA : fuelF a lp (f + 1) i t = fuelF a lp f (i + 1) (w (t + prodF a lp (a.length + 1) (lp.getD i 0) 1)) := by rw [fuelF, decide_eq_true hlt, cond_true]
      rw [eA, show f + 1 + 2 = (f + 2) + 1 by omega, fuelF, decide_eq_true (show i < (a ++ [x1, x2]).length by omega), cond_true, getL (by rw [hL.len]; exact hlt)]
      have := hL.hi i hlt
      have := hL.lo i hlt
      rw [prodL (x1 := x1) (x2 := x2) hL (a.length + 1) ((a ++ [x1, x2]).length + 1) _ _ (by omega) (by omega) (by omega)]
      exact ih (i + 1) _ (by omega) (by omega)
    · have e : i = a.length := by omega
      subst e
      have l0 : (lp ++ [-1, -1]).getD a.length 0 = -1 := by rw [List.getD_eq_getElem?_getD, List.getElem?_append_right (by rw [hL.len]; omega), hL.len]; simp
      have l1 : (lp ++ [-1, -1]).getD (a.length + 1) 0 = -1 := by rw [List.getD_eq_getElem?_getD, List.getElem?_append_right (by rw [hL.len]; omega), hL.len, show a.length + 1 - a.length = 1 by omega]; rfl
      have p0 : ∀ f q, prodF (a ++ [x1, x2]) (lp ++ [-1, -1]) (f + 1) (-1) q = q := fun _ _ => rfl
      have eA : fuelF a lp (f + 1) a.length t = t := by rw [fuelF, decide_eq_false hlt, cond_false]
      rw [eA, show f + 1 + 2 = ((f + 1) + 1) + 1 by omega, fuelF, decide_eq_true (show a.length < (a ++ [x1, x2]).length by omega), cond_true, l0, p0, fuelF, decide_eq_true (show a.length + 1 < (a ++ [x1, x2]).length by omega), cond_true, l1, p0, fuelF,
        decide_eq_false (show ¬ a.length + 1 + 1 < (a ++ [x1, x2]).length by omega), cond_false]
end

theorem w_in (n : Int) : -9223372036854775808 ≤ w n ∧ w n < 9223372036854775808 := by
  have e : IntKind.i64.wrap n = if n % 18446744073709551616 ≥ 9223372036854775808 then n % 18446744073709551616 - 18446744073709551616 else n % 18446744073709551616 := by
    simp [IntKind.wrap, IntKind.bits, IntKind.signed]
  show -9223372036854775808 ≤ IntKind.i64.wrap n ∧ IntKind.i64.wrap n < 9223372036854775808
  rw [e]
  split <;> omega
theorem fuelF_in (l : List Ins) (lp : List Int) : ∀ (f i : Nat) (t : Int), -9223372036854775808 ≤ t → -9223372036854775808 ≤ fuelF l lp f i t := by
  intro f
  induction f with
  | zero => intro i t h; exact h
  | succ f ih =>
    intro i t h
    rw [fuelF]
    cases decide (i < l.length) with
    | true => exact ih _ _ (w_in _).1
    | false => exact h
theorem nul_app (n : Nat) : nul (n + 2) = nul n ++ [0, 0] := by
  unfold nul
  rw [← List.replicate_append_replicate]; rfl
theorem zst_app (n : Nat) : zst (n + 2) = zst n ++ Z50 := by
  unfold zst
  rw [Int.toNat_natCast, Int.toNat_natCast, ← List.replicate_append_replicate, List.flatten_append]; rfl
theorem st0_app {n : Nat} (h : 0 < n) : st0 (n + 2) = st0 n ++ Z50 := by
  have hl := zst_len n
  unfold st0 setA
  rw [zst_app, spliceL (by simp; omega), spliceL (by rw [splice_len (by simp; omega)]; simp; omega)]
  rw [spliceL (by rw [splice_len (by rw [splice_len (by simp; omega)]; simp; omega), splice_len (by simp; omega)]; simp; omega)]
theorem ends_ok {a : List Ins} {x1 x2 : Ins} (hl : ∀ x ∈ a, right x = true) (hb : badAt a = none) (h1 : x1.op ≠ 17) (h1' : x1.op ≠ 18) (h2 : x2.op ≠ 17) (h2' : x2.op ≠ 18) (j1 : r44 x1.op = false) (j2 : r44 x2.op = false) :
    fu (a ++ [x1, x2]) = fu a + 2 ∧ badAt (a ++ [x1, x2]) = bif decide (fu a + 2 > 4096) then some (0, 12) else none := by
  have hlen : (a ++ [x1, x2]).length = a.length + 2 := by simp
  unfold badAt at hb
  cases c0 : (a.length : Int) == 0 with
  | true => rw [c0] at hb; cases hb
  | false =>
    have h0 : 0 < a.length := by have := beq_eq_false_iff_ne.mp c0; omega
    rw [c0, cond_false] at hb
    cases c1 : decide ((lo0 a).1 ≥ 0) with
    | true => rw [c1] at hb; cases hb
    | false =>
      rw [c1, cond_false] at hb
      have hneg := lo0_neg (of_decide_eq_false c1)
      cases c2 : decide ((wk a).1 ≥ 0) with
      | true => rw [c2] at hb; cases hb
      | false =>
        rw [c2, cond_false] at hb
        cases c3 : decide (fu a > 4096) with
        | true => rw [c3] at hb; cases hb
        | false =>
          simp only [decide_eq_false_iff_not] at c2 c3
          have hwk : (wk a).1 = -1 := by
            have key : ∀ (f i : Nat) (cst : List Value), (walkF a (lo0 a).2.1 (lo0 a).2.2 f i cst).1 ≥ 0 ∨ (walkF a (lo0 a).2.1 (lo0 a).2.2 f i cst).1 = -1 := by
              intro f
              induction f with
              | zero => intro i cst; exact .inr rfl
              | succ f ih =>
                intro i cst
                rw [walkF]
                refine bifQ (P := fun r : Int × List Value => r.1 ≥ 0 ∨ r.1 = -1) (fun _ => ?_) (fun _ => .inr rfl)
                exact bifQ (P := fun r : Int × List Value => r.1 ≥ 0 ∨ r.1 = -1) (fun _ => .inl (by show (i : Int) ≥ 0; omega)) (fun _ => ih _ _)
            rcases key (a.length + 1) 0 (st0 a.length) with h | h
            · exact absurd h c2
            · exact h
          have hlo : lo0 (a ++ [x1, x2]) = (-1, (lo0 a).2.1 ++ [-1, -1], (lo0 a).2.2 ++ [0, 0]) := by
            unfold lo0
            rw [hlen, nul_app]
            exact loopL h1 h1' h2 h2' (a.length + 1) 0 [] (nul a.length) (nul a.length) (by omega) (by omega) (nul_len _) (nul_len _) (by simp) hneg
          obtain ⟨hL, hE⟩ := loopF_ok a (a.length + 1) 0 [] (nul a.length) (nul a.length) (by omega) (by omega) (nul_len _) (nul_len _) (by simp) (fun k h => by omega) (fun j _ h => by omega) hneg
          obtain ⟨_, n2⟩ := loopF_len a (a.length + 1) 0 [] (nul a.length) (nul a.length)
          rw [nul_len] at n2
          have hwk2 : (wk (a ++ [x1, x2])).1 = -1 := by
            unfold wk
            rw [hlo, hlen, st0_app h0]
            have := walkL (x1 := x1) (x2 := x2) j1 j2 hl hL hE n2 (a.length + 1) 0 (st0 a.length) (by omega) (by omega) (st0_sts h0) (st0_plain _) hwk
            have e : (walkF (a ++ [x1, x2]) ((lo0 a).2.1 ++ [-1, -1]) ((lo0 a).2.2 ++ [0, 0]) (a.length + 1 + 2) 0 (st0 a.length ++ Z50)).1 = -1 := congrArg Prod.fst this
            exact e
          have hfu : fu (a ++ [x1, x2]) = fu a + 2 := by
            have e : fu (a ++ [x1, x2]) = w (w (fu a + 1) + 1) := by
              unfold fu
              rw [hlo, hlen]
              exact fuelL hL (a.length + 1) 0 0 (by omega) (by omega)
            have hi := fuelF_in a (lo0 a).2.1 (a.length + 1) 0 0 (by omega)
            have hi' : -9223372036854775808 ≤ fu a := hi
            rw [e, w_id (n := fu a + 1) (by omega) (by omega), w_id (by omega) (by omega)]
            omega
          refine ⟨hfu, ?_⟩
          unfold badAt
          rw [hlo, hwk2, hfu, hlen, beq_eq_false_iff_ne.2 (show ((a.length + 2 : Nat) : Int) ≠ 0 by omega)]
          rfl

variable {w0 : World}
def rU23 (a : Int) : Int :=
  bif decide (a < (-1099511627776 : Int)) then (-1099511627776 : Int) else bif decide (a > (1099511627776 : Int)) then (1099511627776 : Int) else a
theorem evalU23 (a : Int) (r : List Value) :
    pureSeg [] Tryd.f62 [I a] r
    = (bif decide (a < (-1099511627776 : Int)) then True ∧ [Value.int IntKind.i64 (-1099511627776 : Int)] = r else bif decide (a > (1099511627776 : Int)) then True ∧ [Value.int IntKind.i64 (1099511627776 : Int)] = r else True ∧ [Value.int IntKind.i64 a] = r) := by kernel_rfl
def FU23 : List Value → Option (List Value)
  | [v0] => match intV v0 with
    | some a => some [I (rU23 a)]
    | _ => none
  | _ => none
theorem FU23_eq {args rs : List Value} (e : FU23 args = some rs) : ∃ a : Int, args = [I a] ∧ rs = [I (rU23 a)] := by
  unfold FU23 at e
  split at e
  · rename_i v0
    split at e
    · rename_i a h0
      simp only [Option.some.injEq] at e
      exact ⟨a, by rw [intV_eq h0], e.symm⟩
    · simp at e
  · simp at e
def conU23 : Con := pureCon 62 FU23
set_option maxRecDepth 100000 in
theorem conU23_ok : conU23.ok Tryd.prog w0 :=
  pure_ok (cs := []) Tryd.func62 (by kernel_rfl) (fun c hc => by simp at hc) fun args rs e => by
    obtain ⟨a, h1, h2⟩ := FU23_eq e
    rw [h1, h2, evalU23]
    repeat' (first | exact trivial | refine And.intro ?_ ?_ | refine bifP (fun h => ?_) (fun h => ?_))
    all_goals first | (simp only [rU23, *, cond_true, cond_false]; done) | simp_all

/-- A number that a register may have. -/
abbrev In40 (a : Int) : Prop := -1099511627776 ≤ a ∧ a ≤ 1099511627776
theorem r28_in (a : Int) : In40 (r28 a) := by unfold r28 In40; split <;> split <;> omega
theorem r28_id {a : Int} (h : In40 a) : r28 a = a := by unfold r28; unfold In40 at h; split <;> split <;> omega
theorem r28_mono {a b : Int} (h : a ≤ b) : r28 a ≤ r28 b := by
  unfold r28
  repeat' split
  all_goals omega
theorem mul_bd {a b : Int} {A B : Nat} (ha : a.natAbs ≤ A) (hb : b.natAbs ≤ B) : (a * b).natAbs ≤ A * B := by
  rw [Int.natAbs_mul]; exact Nat.mul_le_mul ha hb
theorem mul_ge {a b : Int} {A B : Nat} (ha : A ≤ a.natAbs) (hb : B ≤ b.natAbs) : A * B ≤ (a * b).natAbs := by
  rw [Int.natAbs_mul]; exact Nat.mul_le_mul ha hb
/-- Times, in plain words. -/
theorem r77_eq {a b : Int} (ha : In40 a) (hb : -2147483648 ≤ b ∧ b < 2147483648) : r77 a b = r28 (a * b) := by
  unfold In40 at ha
  have small : (a.natAbs ≤ 1073741824 ∨ b.natAbs ≤ 1048576) → r28 (w (a * b)) = r28 (a * b) := by
    intro h
    have : (a * b).natAbs ≤ 2305843009213693952 := by
      rcases h with h | h
      · exact Nat.le_trans (mul_bd h (show b.natAbs ≤ 2147483648 by omega)) (by decide)
      · exact Nat.le_trans (mul_bd (show a.natAbs ≤ 1099511627776 by omega) h) (by decide)
    rw [w_id (by omega) (by omega)]
  have big : 1073741824 ≤ a.natAbs → 1048576 ≤ b.natAbs → 1125899906842624 ≤ (a * b).natAbs := fun h1 h2 => mul_ge h1 h2
  have sat : ∀ x : Int, 1099511627776 ≤ x → r28 x = 1099511627776 := by intro x hx; unfold r28; split <;> split <;> omega
  have sat' : ∀ x : Int, x ≤ -1099511627776 → r28 x = -1099511627776 := by intro x hx; unfold r28; split <;> split <;> omega
  unfold r77
  by_cases b0 : b = 0
  · subst b0; rw [Int.mul_zero]; rfl
  · by_cases a0 : a = 0
    · subst a0
      rw [Int.zero_mul]
      simp; rfl
    · rw [beq_eq_false_iff_ne.2 b0, beq_eq_false_iff_ne.2 a0]
      simp only [cond_false]
      by_cases c1 : a > 1073741824
      · simp only [c1, decide_true, cond_true]
        by_cases c2 : b > 1048576
        · have := big (by omega) (by omega)
          have hp : 0 ≤ a * b := Int.mul_nonneg (by omega) (by omega)
          simp only [c2, decide_true, cond_true, show a > 0 by omega, show b > 0 by omega, beq_self_eq_true]
          rw [sat _ (by omega)]
        · simp only [c2, decide_false, cond_false]
          by_cases c3 : b < -1048576
          · have := big (by omega) (by omega)
            have hp : a * b ≤ 0 := Int.mul_nonpos_of_nonneg_of_nonpos (by omega) (by omega)
            simp only [c3, decide_true, cond_true, show a > 0 by omega, show ¬ b > 0 by omega, decide_false]
            rw [sat' _ (by omega)]; rfl
          · simp only [c3, decide_false, cond_false]
            exact small (.inr (by omega))
      · simp only [c1, decide_false, cond_false]
        by_cases c1' : a < -1073741824
        · simp only [c1', decide_true, cond_true]
          by_cases c2 : b > 1048576
          · have := big (by omega) (by omega)
            have hp : a * b ≤ 0 := Int.mul_nonpos_of_nonpos_of_nonneg (by omega) (by omega)
            simp only [c2, decide_true, cond_true, show ¬ a > 0 by omega, show b > 0 by omega, decide_false]
            rw [sat' _ (by omega)]; rfl
          · simp only [c2, decide_false, cond_false]
            by_cases c3 : b < -1048576
            · have := big (by omega) (by omega)
              have hp : 0 ≤ a * b := Int.mul_nonneg_of_nonpos_of_nonpos (by omega) (by omega)
              simp only [c3, decide_true, cond_true, show ¬ a > 0 by omega, show ¬ b > 0 by omega, decide_false, beq_self_eq_true]
              rw [sat _ (by omega)]
            · simp only [c3, decide_false, cond_false]
              exact small (.inr (by omega))
        · simp only [c1', decide_false, cond_false]
          exact small (.inl (by omega))

noncomputable def ft24 : FT := { loc := fun _ => false, mask := fun id => bif Nat.beq id 7 then live 46 [0, 1, 5, 6] else [] }
noncomputable def todo24 : List Item := todoOf Tryd.f64 7
noncomputable def fr24 (a n : Int) (neg : Bool) (p : Int) : List AV := frm 46 [(0, .v (I a)), (1, .v (I n)), (5, .v (B neg)), (6, .v (I p))]
abbrev seg24 (K : List Value → AHeap → Prop) (L : List Item → List AV → AHeap → Prop) (t : List Item) (fr : List AV) (h : AHeap) : Prop :=
  segK3 Tryd.prog ft24 (semI Tryd.prog (fun _ => ft0) (callsOf G []) 400 20 (retT G ntP K)) Tryd.f64 [7] 400 t fr (fun t fr h => match t with
  | .code (.region 7 _ _) :: _ => canonT G ntP (L t) fr h
  | _ => False) h

abbrev neg24 (a n : Int) : Bool := decide (a < 0) != decide (n < 0)
theorem start24 (a n : Int) (K : List Value → AHeap → Prop) (L : List Item → List AV → AHeap → Prop) :
    seg24 K L [.code (Tryd.f64.body.getD .skip)] (startF Tryd.f64 [I a, I n]) (heapB G [])
    = (bif decide (a < 0) then
        bif decide (n < 0) then True ∧ L todo24 (fr24 (w (0 - a)) (w (0 - n)) (neg24 a n) 0) (heapB G []) else True ∧ L todo24 (fr24 (w (0 - a)) n (neg24 a n) 0) (heapB G [])
      else bif decide (n < 0) then True ∧ L todo24 (fr24 a (w (0 - n)) (neg24 a n) 0) (heapB G []) else True ∧ L todo24 (fr24 a n (neg24 a n) 0) (heapB G [])) := by kernel_rfl

theorem head24 (a n p : Int) (neg : Bool) (K : List Value → AHeap → Prop) (L : List Item → List AV → AHeap → Prop) :
    seg24 K L todo24 (fr24 a n neg p) (heapB G [])
    = (bif decide (n > 0) then
        bif n.tmod 2 == 1 then
          bif decide (w (p + a) > 1099511627776) then True ∧ L todo24 (fr24 (w (a * 2)) 0 neg 1099511627776) (heapB G [])
          else bif decide (a > 1099511627776) then
            bif decide (n > 1) then True ∧ L todo24 (fr24 (w (a * 2)) 0 neg 1099511627776) (heapB G []) else True ∧ L todo24 (fr24 (w (a * 2)) (w (n.tdiv 2)) neg (w (p + a))) (heapB G [])
          else True ∧ L todo24 (fr24 (w (a * 2)) (w (n.tdiv 2)) neg (w (p + a))) (heapB G [])
        else
          bif decide (p > 1099511627776) then True ∧ L todo24 (fr24 (w (a * 2)) 0 neg 1099511627776) (heapB G [])
          else bif decide (a > 1099511627776) then
            bif decide (n > 1) then True ∧ L todo24 (fr24 (w (a * 2)) 0 neg 1099511627776) (heapB G []) else True ∧ L todo24 (fr24 (w (a * 2)) (w (n.tdiv 2)) neg p) (heapB G [])
          else True ∧ L todo24 (fr24 (w (a * 2)) (w (n.tdiv 2)) neg p) (heapB G [])
      else bif neg then True ∧ K [I (w (0 - p))] (heapB G []) else True ∧ K [I p] (heapB G [])) := by kernel_rfl
abbrev Sem24 (w0 : World) (K : List Value → AHeap → Prop) (t : List Item) (fr : List AV) (h : AHeap) : Prop := Agm.Sem Tryd.prog w0 (Tryd.prog.globals.size + ntP.flags.length) Tryd.f64 (retT G ntP K) t fr h
theorem leaf24 {K : List Value → AHeap → Prop} : ∀ t fr h, (match t with
    | .code (.region 7 _ _) :: _ => canonT G ntP (Sem24 w0 K t) fr h
    | _ => False) → Sem24 w0 K t fr h := by
  intro t fr h e
  split at e
  · exact canonT_semN (nt := ntP) rfl e
  · exact e.elim
def minT (x : Int) : Int := if x > 1099511627776 then 1099511627776 else x
theorem minT_big {x : Int} (h : 1099511627776 ≤ x) : minT x = 1099511627776 := by unfold minT; split <;> omega
def sg (neg : Bool) (v : Int) : Int := if neg then -v else v
set_option maxRecDepth 100000 in
theorem loop24 {K : List Value → AHeap → Prop} (neg : Bool) : ∀ (m : Nat) (a p : Int), m < 2147483649 → 0 ≤ a → (m = 0 ∨ a ≤ 2199023255552) → 0 ≤ p → p ≤ 1099511627776 → K [I (sg neg (minT (p + a * m)))] (heapB G []) → Sem24 w0 K todo24 (fr24 a m neg p) (heapB G []) := by
  intro m
  induction m using Nat.strongRecOn with
  | ind m ih =>
    intro a p hm ha ha2 hp hp2 hK
    refine seg_semI3 (F := ft24) mixed (callsOf_ok (fun c hc => by simp at hc)) leaf24 [7] 20 400 ((head24 a m p neg K _).mpr ?_)
    refine bifP (fun c0 => ?_) (fun c0 => ?_)
    · simp only [decide_eq_true_eq] at c0
      have ha3 : a ≤ 2199023255552 := by omega
      have hwa : w (a * 2) = a * 2 := w_id (by omega) (by omega)
      have hwp : w (p + a) = p + a := w_id (by omega) (by omega)
      have hdiv : (m : Int).tdiv 2 = ((m / 2 : Nat) : Int) := by rw [show (2 : Int) = ((2 : Nat) : Int) from rfl, ← Int.ofNat_tdiv]
      have hmod : (m : Int).tmod 2 = ((m % 2 : Nat) : Int) := by rw [show (2 : Int) = ((2 : Nat) : Int) from rfl, ← Int.ofNat_tmod]
      have hwn : w (((m / 2 : Nat) : Int)) = ((m / 2 : Nat) : Int) := w_id (by omega) (by omega)
      have hma : a ≤ a * m := by
        have := Int.mul_le_mul_of_nonneg_left (show (1 : Int) ≤ (m : Int) by omega) ha
        rwa [Int.mul_one] at this
      have full : 1099511627776 ≤ p + a * m → Sem24 w0 K todo24 (fr24 (w (a * 2)) ((0 : Nat) : Int) neg 1099511627776) (heapB G []) := fun h => by
        refine ih 0 (by omega) _ _ (by omega) (by rw [hwa]; omega) (.inl rfl) (by omega) (Int.le_refl _) ?_
        rw [minT_big h] at hK
        rw [show 1099511627776 + w (a * 2) * ((0 : Nat) : Int) = 1099511627776 by simp, minT_big (Int.le_refl _)]
        exact hK
      rw [hdiv, hmod, hwn, hwp]
      refine bifP (fun c1 => ?_) (fun c1 => ?_)
      · have hodd : m % 2 = 1 := by have := beq_iff_eq.1 c1; omega
        have hval : (p + a) + a * 2 * ((m / 2 : Nat) : Int) = p + a * (m : Int) := by
          have e : (m : Int) = 2 * ((m / 2 : Nat) : Int) + 1 := by omega
          rw [e, Int.mul_add, Int.mul_one, ← Int.mul_assoc]
          omega
        refine bifP (fun c2 => ⟨trivial, full (by simp only [decide_eq_true_eq] at c2; omega)⟩) (fun c2 => ?_)
        simp only [decide_eq_false_iff_not] at c2
        refine bifP (fun c3 => ?_) (fun c3 => ?_)
        · exfalso; simp only [decide_eq_true_eq] at c3; omega
        · refine ⟨trivial, ih (m / 2) (by omega) _ _ (by omega) (by rw [hwa]; omega) (.inr (by rw [hwa]; omega)) (by omega) (by omega) ?_⟩
          rw [hwa, hval]; exact hK
      · have heven : m % 2 = 0 := by have := beq_eq_false_iff_ne.1 c1; omega
        have hval : p + a * 2 * ((m / 2 : Nat) : Int) = p + a * (m : Int) := by
          rw [Int.mul_assoc]
          congr 2
          omega
        refine bifP (fun c2 => ⟨trivial, full (by simp only [decide_eq_true_eq] at c2; omega)⟩) (fun c2 => ?_)
        refine bifP (fun c3 => ?_) (fun c3 => ?_)
        · simp only [decide_eq_true_eq] at c3
          refine bifP (fun c4 => ⟨trivial, full (by omega)⟩) (fun c4 => ?_)
          exfalso; simp only [decide_eq_false_iff_not] at c4; omega
        · simp only [decide_eq_false_iff_not] at c3
          refine ⟨trivial, ih (m / 2) (by omega) _ _ (by omega) (by rw [hwa]; omega) (.inr (by rw [hwa]; omega)) hp hp2 ?_⟩
          rw [hwa, hval]; exact hK
    · simp only [decide_eq_false_iff_not] at c0
      have h0 : m = 0 := by omega
      subst h0
      have e : minT (p + a * ((0 : Nat) : Int)) = p := by
        rw [show p + a * ((0 : Nat) : Int) = p by simp]
        unfold minT
        rw [if_neg (by omega)]
      rw [e] at hK
      refine bifP (fun c => ?_) (fun c => ?_)
      · subst c
        rw [w_id (by omega) (by omega), show 0 - p = -p by omega]
        exact ⟨trivial, hK⟩
      · subst c
        exact ⟨trivial, hK⟩
/-- The cap of a product, by its sign. -/
theorem cap_sign {a n : Int} : sg (neg24 a n) (minT ((a.natAbs : Int) * (n.natAbs : Int))) = r28 (a * n) := by
  have e : (a.natAbs : Int) * (n.natAbs : Int) = ((a * n).natAbs : Int) := by rw [Int.natAbs_mul]; simp
  rw [e]
  unfold sg minT r28 neg24
  by_cases ha : a < 0
  · by_cases h : n < 0
    · have := Int.mul_nonneg_of_nonpos_of_nonpos (show a ≤ 0 by omega) (show n ≤ 0 by omega)
      rw [decide_eq_true ha, decide_eq_true h]
      simp only [bne_self_eq_false, Bool.false_eq_true, if_false]
      repeat' split
      all_goals omega
    · have := Int.mul_nonpos_of_nonpos_of_nonneg (show a ≤ 0 by omega) (show 0 ≤ n by omega)
      rw [decide_eq_true ha, decide_eq_false h]
      simp only [Bool.bne_false, if_true]
      repeat' split
      all_goals omega
  · by_cases h : n < 0
    · have := Int.mul_nonpos_of_nonneg_of_nonpos (show 0 ≤ a by omega) (show n ≤ 0 by omega)
      rw [decide_eq_false ha, decide_eq_true h]
      simp only [Bool.bne_true, Bool.not_false, if_true]
      repeat' split
      all_goals omega
    · have := Int.mul_nonneg (show 0 ≤ a by omega) (show 0 ≤ n by omega)
      rw [decide_eq_false ha, decide_eq_false h]
      simp only [bne_self_eq_false, Bool.false_eq_true, if_false]
      repeat' split
      all_goals omega
/-- Times. -/
def conT24 : Con := { f := 64, gh := [], paths := [], spec := fun args bs => match args, bs with
  | [x, y], [] => match intV x, intV y with
    | some a, some n => some (In40 a ∧ -2147483648 ≤ n ∧ n < 2147483648, [I (r77 a n)], [])
    | _, _ => none
  | _, _ => none }
set_option maxRecDepth 100000 in
theorem conT24_ok : conT24.ok Tryd.prog w0 := by
  intro args bs p rs out e hp
  simp only [conT24] at e
  split at e <;> first | (simp at e; done) | skip
  rename_i x y
  split at e <;> first | (simp at e; done) | skip
  rename_i a n hx hy
  simp only [Option.some.injEq, Prod.mk.injEq] at e
  obtain ⟨rfl, rfl, rfl⟩ := e
  obtain ⟨ha, hn⟩ := hp
  rw [intV_eq hx, intV_eq hy]
  have hval : I (sg (neg24 a n) (minT (0 + (a.natAbs : Int) * (n.natAbs : Int)))) = I (r77 a n) := by
    rw [r77_eq ha hn, Int.zero_add]
    by_cases h0 : n = 0
    · subst h0
      rw [Int.mul_zero]
      show I (sg _ (minT ((a.natAbs : Int) * 0))) = _
      rw [Int.mul_zero]
      unfold sg minT
      split <;> rfl
    · rw [cap_sign]
  refine con_body (nt := ntP) (out := []) (bs := []) (cd := Tryd.f64.body.getD .skip) Tryd.func64 (by kernel_rfl) rfl ?_
  have go : ∀ (neg : Bool) (m k : Nat), neg = neg24 a n → m = n.natAbs → k = a.natAbs → Sem24 w0 (fun rs' h' => rs' = [I (r77 a n)] ∧ h' = heapB Tryd.prog.globals.size []) todo24 (fr24 (k : Int) (m : Int) neg 0) (heapB G []) := by
    intro neg m k e1 e2 e3
    unfold In40 at ha
    refine loop24 neg m _ _ (by omega) (by omega) (.inr (by omega)) (Int.le_refl _) (by omega) ⟨?_, rfl⟩
    rw [e1, e2, e3, hval]
  have ha' := ha
  unfold In40 at ha'
  refine seg_semI3 (F := ft24) mixed (callsOf_ok (fun c hc => by simp at hc)) leaf24 [7] 20 400 ((start24 a n _ _).mpr ?_)
  refine bifP (fun c1 => ?_) (fun c1 => ?_)
  · refine bifP (fun c2 => ⟨trivial, ?_⟩) (fun c2 => ⟨trivial, ?_⟩)
    · simp only [decide_eq_true_eq] at c1 c2
      rw [show w (0 - a) = (a.natAbs : Int) by rw [w_id (by omega) (by omega)]; omega, show w (0 - n) = (n.natAbs : Int) by rw [w_id (by omega) (by omega)]; omega]
      exact go _ _ _ rfl rfl rfl
    · simp only [decide_eq_true_eq, decide_eq_false_iff_not] at c1 c2
      have := go _ _ _ rfl rfl rfl
      rw [show w (0 - a) = (a.natAbs : Int) by rw [w_id (by omega) (by omega)]; omega]
      rw [show (n.natAbs : Int) = n by omega] at this
      exact this
  · refine bifP (fun c2 => ⟨trivial, ?_⟩) (fun c2 => ⟨trivial, ?_⟩)
    · simp only [decide_eq_true_eq, decide_eq_false_iff_not] at c1 c2
      have := go _ _ _ rfl rfl rfl
      rw [show w (0 - n) = (n.natAbs : Int) by rw [w_id (by omega) (by omega)]; omega]
      rw [show (a.natAbs : Int) = a by omega] at this
      exact this
    · simp only [decide_eq_false_iff_not] at c1 c2
      have := go _ _ _ rfl rfl rfl
      rw [show (n.natAbs : Int) = n by omega, show (a.natAbs : Int) = a by omega] at this
      exact this

theorem evR0 (d s imm : Int) (r : List Value) :
    pureSeg [] Tryd.f58 [AG [I 0, I d, I s, I imm]] r
    = (bif decide (d < (0 : Int)) then True ∧ [Value.bool false] = r
else
  bif decide (d > (7 : Int)) then True ∧ [Value.bool false] = r
  else
    bif decide (s < (0 : Int)) then True ∧ [Value.bool false] = r
    else
      bif decide (s > (7 : Int)) then True ∧ [Value.bool false] = r
      else bif decide (imm < (-2147483648 : Int)) then True ∧ [Value.bool false] = r else bif decide (imm > (2147483647 : Int)) then True ∧ [Value.bool false] = r else bif s != (0 : Int) then True ∧ [Value.bool false] = r else True ∧ [Value.bool true] = r) := by kernel_rfl
theorem evR1 (d s imm : Int) (r : List Value) :
    pureSeg [] Tryd.f58 [AG [I 1, I d, I s, I imm]] r
    = (bif decide (d < (0 : Int)) then True ∧ [Value.bool false] = r
else
  bif decide (d > (7 : Int)) then True ∧ [Value.bool false] = r
  else
    bif decide (s < (0 : Int)) then True ∧ [Value.bool false] = r
    else
      bif decide (s > (7 : Int)) then True ∧ [Value.bool false] = r
      else bif decide (imm < (-2147483648 : Int)) then True ∧ [Value.bool false] = r else bif decide (imm > (2147483647 : Int)) then True ∧ [Value.bool false] = r else bif imm != (0 : Int) then True ∧ [Value.bool false] = r else True ∧ [Value.bool true] = r) := by kernel_rfl
theorem evR2 (d s imm : Int) (r : List Value) :
    pureSeg [] Tryd.f58 [AG [I 2, I d, I s, I imm]] r
    = (bif decide (d < (0 : Int)) then True ∧ [Value.bool false] = r
else
  bif decide (d > (7 : Int)) then True ∧ [Value.bool false] = r
  else
    bif decide (s < (0 : Int)) then True ∧ [Value.bool false] = r
    else
      bif decide (s > (7 : Int)) then True ∧ [Value.bool false] = r
      else bif decide (imm < (-2147483648 : Int)) then True ∧ [Value.bool false] = r else bif decide (imm > (2147483647 : Int)) then True ∧ [Value.bool false] = r else bif imm != (0 : Int) then True ∧ [Value.bool false] = r else True ∧ [Value.bool true] = r) := by kernel_rfl
theorem evR3 (d s imm : Int) (r : List Value) :
    pureSeg [] Tryd.f58 [AG [I 3, I d, I s, I imm]] r
    = (bif decide (d < (0 : Int)) then True ∧ [Value.bool false] = r
else
  bif decide (d > (7 : Int)) then True ∧ [Value.bool false] = r
  else
    bif decide (s < (0 : Int)) then True ∧ [Value.bool false] = r
    else
      bif decide (s > (7 : Int)) then True ∧ [Value.bool false] = r
      else bif decide (imm < (-2147483648 : Int)) then True ∧ [Value.bool false] = r else bif decide (imm > (2147483647 : Int)) then True ∧ [Value.bool false] = r else bif imm != (0 : Int) then True ∧ [Value.bool false] = r else True ∧ [Value.bool true] = r) := by kernel_rfl
theorem evR4 (d s imm : Int) (r : List Value) :
    pureSeg [] Tryd.f58 [AG [I 4, I d, I s, I imm]] r
    = (bif decide (d < (0 : Int)) then True ∧ [Value.bool false] = r
else
  bif decide (d > (7 : Int)) then True ∧ [Value.bool false] = r
  else
    bif decide (s < (0 : Int)) then True ∧ [Value.bool false] = r
    else
      bif decide (s > (7 : Int)) then True ∧ [Value.bool false] = r
      else bif decide (imm < (-2147483648 : Int)) then True ∧ [Value.bool false] = r else bif decide (imm > (2147483647 : Int)) then True ∧ [Value.bool false] = r else bif s != (0 : Int) then True ∧ [Value.bool false] = r else True ∧ [Value.bool true] = r) := by kernel_rfl
theorem evR5 (d s imm : Int) (r : List Value) :
    pureSeg [] Tryd.f58 [AG [I 5, I d, I s, I imm]] r
    = (bif decide (d < (0 : Int)) then True ∧ [Value.bool false] = r
else
  bif decide (d > (7 : Int)) then True ∧ [Value.bool false] = r
  else
    bif decide (s < (0 : Int)) then True ∧ [Value.bool false] = r
    else
      bif decide (s > (7 : Int)) then True ∧ [Value.bool false] = r
      else bif decide (imm < (-2147483648 : Int)) then True ∧ [Value.bool false] = r else bif decide (imm > (2147483647 : Int)) then True ∧ [Value.bool false] = r else bif s != (0 : Int) then True ∧ [Value.bool false] = r else True ∧ [Value.bool true] = r) := by kernel_rfl
theorem evR6 (d s imm : Int) (r : List Value) :
    pureSeg [] Tryd.f58 [AG [I 6, I d, I s, I imm]] r
    = (bif decide (d < (0 : Int)) then True ∧ [Value.bool false] = r
else
  bif decide (d > (7 : Int)) then True ∧ [Value.bool false] = r
  else
    bif decide (s < (0 : Int)) then True ∧ [Value.bool false] = r
    else
      bif decide (s > (7 : Int)) then True ∧ [Value.bool false] = r
      else
        bif decide (imm < (-2147483648 : Int)) then True ∧ [Value.bool false] = r
        else bif decide (imm > (2147483647 : Int)) then True ∧ [Value.bool false] = r else bif s != (0 : Int) then True ∧ [Value.bool false] = r else bif decide (imm < (0 : Int)) then True ∧ [Value.bool false] = r else True ∧ [Value.bool true] = r) := by kernel_rfl
theorem evR7 (d s imm : Int) (r : List Value) :
    pureSeg [] Tryd.f58 [AG [I 7, I d, I s, I imm]] r
    = (bif decide (d < (0 : Int)) then True ∧ [Value.bool false] = r
else
  bif decide (d > (7 : Int)) then True ∧ [Value.bool false] = r
  else
    bif decide (s < (0 : Int)) then True ∧ [Value.bool false] = r
    else bif decide (s > (7 : Int)) then True ∧ [Value.bool false] = r else bif decide (imm < (-2147483648 : Int)) then True ∧ [Value.bool false] = r else bif decide (imm > (2147483647 : Int)) then True ∧ [Value.bool false] = r else True ∧ [Value.bool true] = r) := by kernel_rfl
theorem evR8 (d s imm : Int) (r : List Value) :
    pureSeg [] Tryd.f58 [AG [I 8, I d, I s, I imm]] r
    = (bif decide (d < (0 : Int)) then True ∧ [Value.bool false] = r
else
  bif decide (d > (7 : Int)) then True ∧ [Value.bool false] = r
  else
    bif decide (s < (0 : Int)) then True ∧ [Value.bool false] = r
    else bif decide (s > (7 : Int)) then True ∧ [Value.bool false] = r else bif decide (imm < (-2147483648 : Int)) then True ∧ [Value.bool false] = r else bif decide (imm > (2147483647 : Int)) then True ∧ [Value.bool false] = r else True ∧ [Value.bool true] = r) := by kernel_rfl
theorem evR9 (d s imm : Int) (r : List Value) :
    pureSeg [] Tryd.f58 [AG [I 9, I d, I s, I imm]] r
    = (bif decide (d < (0 : Int)) then True ∧ [Value.bool false] = r
else
  bif decide (d > (7 : Int)) then True ∧ [Value.bool false] = r
  else
    bif decide (s < (0 : Int)) then True ∧ [Value.bool false] = r
    else bif decide (s > (7 : Int)) then True ∧ [Value.bool false] = r else bif decide (imm < (-2147483648 : Int)) then True ∧ [Value.bool false] = r else bif decide (imm > (2147483647 : Int)) then True ∧ [Value.bool false] = r else True ∧ [Value.bool true] = r) := by kernel_rfl
theorem evR10 (d s imm : Int) (r : List Value) :
    pureSeg [] Tryd.f58 [AG [I 10, I d, I s, I imm]] r
    = (bif decide (d < (0 : Int)) then True ∧ [Value.bool false] = r
else
  bif decide (d > (7 : Int)) then True ∧ [Value.bool false] = r
  else
    bif decide (s < (0 : Int)) then True ∧ [Value.bool false] = r
    else bif decide (s > (7 : Int)) then True ∧ [Value.bool false] = r else bif decide (imm < (-2147483648 : Int)) then True ∧ [Value.bool false] = r else bif decide (imm > (2147483647 : Int)) then True ∧ [Value.bool false] = r else True ∧ [Value.bool true] = r) := by kernel_rfl
theorem evR11 (d s imm : Int) (r : List Value) :
    pureSeg [] Tryd.f58 [AG [I 11, I d, I s, I imm]] r
    = (bif decide (d < (0 : Int)) then True ∧ [Value.bool false] = r
else
  bif decide (d > (7 : Int)) then True ∧ [Value.bool false] = r
  else
    bif decide (s < (0 : Int)) then True ∧ [Value.bool false] = r
    else bif decide (s > (7 : Int)) then True ∧ [Value.bool false] = r else bif decide (imm < (-2147483648 : Int)) then True ∧ [Value.bool false] = r else bif decide (imm > (2147483647 : Int)) then True ∧ [Value.bool false] = r else True ∧ [Value.bool true] = r) := by kernel_rfl
theorem evR12 (d s imm : Int) (r : List Value) :
    pureSeg [] Tryd.f58 [AG [I 12, I d, I s, I imm]] r
    = (bif decide (d < (0 : Int)) then True ∧ [Value.bool false] = r
else
  bif decide (d > (7 : Int)) then True ∧ [Value.bool false] = r
  else
    bif decide (s < (0 : Int)) then True ∧ [Value.bool false] = r
    else
      bif decide (s > (7 : Int)) then True ∧ [Value.bool false] = r
      else
        bif decide (imm < (-2147483648 : Int)) then True ∧ [Value.bool false] = r
        else
          bif decide (imm > (2147483647 : Int)) then True ∧ [Value.bool false] = r
          else
            bif d != (0 : Int) then True ∧ [Value.bool false] = r else bif s != (0 : Int) then True ∧ [Value.bool false] = r else bif decide (imm < (0 : Int)) then True ∧ [Value.bool false] = r else bif decide (imm > (127 : Int)) then True ∧ [Value.bool false] = r else True ∧ [Value.bool true] = r) := by kernel_rfl
theorem evR13 (d s imm : Int) (r : List Value) :
    pureSeg [] Tryd.f58 [AG [I 13, I d, I s, I imm]] r
    = (bif decide (d < (0 : Int)) then True ∧ [Value.bool false] = r
else
  bif decide (d > (7 : Int)) then True ∧ [Value.bool false] = r
  else
    bif decide (s < (0 : Int)) then True ∧ [Value.bool false] = r
    else
      bif decide (s > (7 : Int)) then True ∧ [Value.bool false] = r
      else
        bif decide (imm < (-2147483648 : Int)) then True ∧ [Value.bool false] = r
        else bif decide (imm > (2147483647 : Int)) then True ∧ [Value.bool false] = r else bif decide (imm < (0 : Int)) then True ∧ [Value.bool false] = r else bif decide (imm > (127 : Int)) then True ∧ [Value.bool false] = r else True ∧ [Value.bool true] = r) := by kernel_rfl
theorem evR14 (d s imm : Int) (r : List Value) :
    pureSeg [] Tryd.f58 [AG [I 14, I d, I s, I imm]] r
    = (bif decide (d < (0 : Int)) then True ∧ [Value.bool false] = r
else
  bif decide (d > (7 : Int)) then True ∧ [Value.bool false] = r
  else
    bif decide (s < (0 : Int)) then True ∧ [Value.bool false] = r
    else
      bif decide (s > (7 : Int)) then True ∧ [Value.bool false] = r
      else
        bif decide (imm < (-2147483648 : Int)) then True ∧ [Value.bool false] = r
        else bif decide (imm > (2147483647 : Int)) then True ∧ [Value.bool false] = r else bif decide (imm < (0 : Int)) then True ∧ [Value.bool false] = r else bif decide (imm > (127 : Int)) then True ∧ [Value.bool false] = r else True ∧ [Value.bool true] = r) := by kernel_rfl
theorem evR15 (d s imm : Int) (r : List Value) :
    pureSeg [] Tryd.f58 [AG [I 15, I d, I s, I imm]] r
    = (bif decide (d < (0 : Int)) then True ∧ [Value.bool false] = r
else
  bif decide (d > (7 : Int)) then True ∧ [Value.bool false] = r
  else
    bif decide (s < (0 : Int)) then True ∧ [Value.bool false] = r
    else
      bif decide (s > (7 : Int)) then True ∧ [Value.bool false] = r
      else
        bif decide (imm < (-2147483648 : Int)) then True ∧ [Value.bool false] = r
        else bif decide (imm > (2147483647 : Int)) then True ∧ [Value.bool false] = r else bif decide (imm < (0 : Int)) then True ∧ [Value.bool false] = r else bif decide (imm > (127 : Int)) then True ∧ [Value.bool false] = r else True ∧ [Value.bool true] = r) := by kernel_rfl
theorem evR16 (d s imm : Int) (r : List Value) :
    pureSeg [] Tryd.f58 [AG [I 16, I d, I s, I imm]] r
    = (bif decide (d < (0 : Int)) then True ∧ [Value.bool false] = r
else
  bif decide (d > (7 : Int)) then True ∧ [Value.bool false] = r
  else
    bif decide (s < (0 : Int)) then True ∧ [Value.bool false] = r
    else
      bif decide (s > (7 : Int)) then True ∧ [Value.bool false] = r
      else
        bif decide (imm < (-2147483648 : Int)) then True ∧ [Value.bool false] = r
        else bif decide (imm > (2147483647 : Int)) then True ∧ [Value.bool false] = r else bif decide (imm < (0 : Int)) then True ∧ [Value.bool false] = r else bif decide (imm > (127 : Int)) then True ∧ [Value.bool false] = r else True ∧ [Value.bool true] = r) := by kernel_rfl
theorem evR17 (d s imm : Int) (r : List Value) :
    pureSeg [] Tryd.f58 [AG [I 17, I d, I s, I imm]] r
    = (bif decide (d < (0 : Int)) then True ∧ [Value.bool false] = r
else
  bif decide (d > (7 : Int)) then True ∧ [Value.bool false] = r
  else
    bif decide (s < (0 : Int)) then True ∧ [Value.bool false] = r
    else
      bif decide (s > (7 : Int)) then True ∧ [Value.bool false] = r
      else
        bif decide (imm < (-2147483648 : Int)) then True ∧ [Value.bool false] = r
        else
          bif decide (imm > (2147483647 : Int)) then True ∧ [Value.bool false] = r
          else bif d != (0 : Int) then True ∧ [Value.bool false] = r else bif s != (0 : Int) then True ∧ [Value.bool false] = r else bif decide (imm ≥ (1 : Int)) then True ∧ [Value.bool (decide (imm ≤ (64 : Int)))] = r else True ∧ [Value.bool false] = r) := by kernel_rfl
theorem evR18 (d s imm : Int) (r : List Value) :
    pureSeg [] Tryd.f58 [AG [I 18, I d, I s, I imm]] r
    = (bif decide (d < (0 : Int)) then True ∧ [Value.bool false] = r
else
  bif decide (d > (7 : Int)) then True ∧ [Value.bool false] = r
  else
    bif decide (s < (0 : Int)) then True ∧ [Value.bool false] = r
    else
      bif decide (s > (7 : Int)) then True ∧ [Value.bool false] = r
      else
        bif decide (imm < (-2147483648 : Int)) then True ∧ [Value.bool false] = r
        else bif decide (imm > (2147483647 : Int)) then True ∧ [Value.bool false] = r else bif d == (0 : Int) then bif s == (0 : Int) then True ∧ [Value.bool (imm == (0 : Int))] = r else True ∧ [Value.bool false] = r else True ∧ [Value.bool false] = r) := by kernel_rfl
theorem evR19 (d s imm : Int) (r : List Value) :
    pureSeg [] Tryd.f58 [AG [I 19, I d, I s, I imm]] r
    = (bif decide (d < (0 : Int)) then True ∧ [Value.bool false] = r
else
  bif decide (d > (7 : Int)) then True ∧ [Value.bool false] = r
  else
    bif decide (s < (0 : Int)) then True ∧ [Value.bool false] = r
    else
      bif decide (s > (7 : Int)) then True ∧ [Value.bool false] = r
      else
        bif decide (imm < (-2147483648 : Int)) then True ∧ [Value.bool false] = r
        else
          bif decide (imm > (2147483647 : Int)) then True ∧ [Value.bool false] = r
          else bif d == (0 : Int) then bif s == (0 : Int) then bif decide (imm ≥ (1 : Int)) then True ∧ [Value.bool (decide (imm ≤ (3 : Int)))] = r else True ∧ [Value.bool false] = r else True ∧ [Value.bool false] = r else True ∧ [Value.bool false] = r) := by kernel_rfl
theorem evR20 (d s imm : Int) (r : List Value) :
    pureSeg [] Tryd.f58 [AG [I 20, I d, I s, I imm]] r
    = (bif decide (d < (0 : Int)) then True ∧ [Value.bool false] = r
else
  bif decide (d > (7 : Int)) then True ∧ [Value.bool false] = r
  else
    bif decide (s < (0 : Int)) then True ∧ [Value.bool false] = r
    else
      bif decide (s > (7 : Int)) then True ∧ [Value.bool false] = r
      else
        bif decide (imm < (-2147483648 : Int)) then True ∧ [Value.bool false] = r
        else bif decide (imm > (2147483647 : Int)) then True ∧ [Value.bool false] = r else bif d == (0 : Int) then bif s == (0 : Int) then True ∧ [Value.bool (imm == (0 : Int))] = r else True ∧ [Value.bool false] = r else True ∧ [Value.bool false] = r) := by kernel_rfl

structure Rt (o d s i : Int) : Prop where
  un : pureSeg [] Tryd.f58 [AG [I o, I d, I s, I i]] [B (right ⟨o, d, s, i⟩)]
theorem rt0 {d s imm : Int} : Rt 0 d s imm := by
  constructor
  rw [evR0]
  have e : right ⟨0, d, s, imm⟩ = right ⟨0, d, s, imm⟩ := rfl
  conv at e => rhs; simp [right, r29, r50, r51]
  rw [e]
  repeat' (refine bifP (fun c => ?_) (fun c => ?_))
  all_goals
    refine ⟨trivial, ?_⟩
    simp at *
    omega
theorem rt1 {d s imm : Int} : Rt 1 d s imm := by
  constructor
  rw [evR1]
  have e : right ⟨1, d, s, imm⟩ = right ⟨1, d, s, imm⟩ := rfl
  conv at e => rhs; simp [right, r29, r50, r51]
  rw [e]
  repeat' (refine bifP (fun c => ?_) (fun c => ?_))
  all_goals
    refine ⟨trivial, ?_⟩
    simp at *
    omega
theorem rt2 {d s imm : Int} : Rt 2 d s imm := by
  constructor
  rw [evR2]
  have e : right ⟨2, d, s, imm⟩ = right ⟨2, d, s, imm⟩ := rfl
  conv at e => rhs; simp [right, r29, r50, r51]
  rw [e]
  repeat' (refine bifP (fun c => ?_) (fun c => ?_))
  all_goals
    refine ⟨trivial, ?_⟩
    simp at *
    omega
theorem rt3 {d s imm : Int} : Rt 3 d s imm := by
  constructor
  rw [evR3]
  have e : right ⟨3, d, s, imm⟩ = right ⟨3, d, s, imm⟩ := rfl
  conv at e => rhs; simp [right, r29, r50, r51]
  rw [e]
  repeat' (refine bifP (fun c => ?_) (fun c => ?_))
  all_goals
    refine ⟨trivial, ?_⟩
    simp at *
    omega
theorem rt4 {d s imm : Int} : Rt 4 d s imm := by
  constructor
  rw [evR4]
  have e : right ⟨4, d, s, imm⟩ = right ⟨4, d, s, imm⟩ := rfl
  conv at e => rhs; simp [right, r29, r50, r51]
  rw [e]
  repeat' (refine bifP (fun c => ?_) (fun c => ?_))
  all_goals
    refine ⟨trivial, ?_⟩
    simp at *
    omega
theorem rt5 {d s imm : Int} : Rt 5 d s imm := by
  constructor
  rw [evR5]
  have e : right ⟨5, d, s, imm⟩ = right ⟨5, d, s, imm⟩ := rfl
  conv at e => rhs; simp [right, r29, r50, r51]
  rw [e]
  repeat' (refine bifP (fun c => ?_) (fun c => ?_))
  all_goals
    refine ⟨trivial, ?_⟩
    simp at *
    omega
theorem rt6 {d s imm : Int} : Rt 6 d s imm := by
  constructor
  rw [evR6]
  have e : right ⟨6, d, s, imm⟩ = right ⟨6, d, s, imm⟩ := rfl
  conv at e => rhs; simp [right, r29, r50, r51]
  rw [e]
  repeat' (refine bifP (fun c => ?_) (fun c => ?_))
  all_goals
    refine ⟨trivial, ?_⟩
    simp at *
    omega
theorem rt7 {d s imm : Int} : Rt 7 d s imm := by
  constructor
  rw [evR7]
  have e : right ⟨7, d, s, imm⟩ = right ⟨7, d, s, imm⟩ := rfl
  conv at e => rhs; simp [right, r29, r50, r51]
  rw [e]
  repeat' (refine bifP (fun c => ?_) (fun c => ?_))
  all_goals
    refine ⟨trivial, ?_⟩
    simp at *
    omega
theorem rt8 {d s imm : Int} : Rt 8 d s imm := by
  constructor
  rw [evR8]
  have e : right ⟨8, d, s, imm⟩ = right ⟨8, d, s, imm⟩ := rfl
  conv at e => rhs; simp [right, r29, r50, r51]
  rw [e]
  repeat' (refine bifP (fun c => ?_) (fun c => ?_))
  all_goals
    refine ⟨trivial, ?_⟩
    simp at *
    omega
theorem rt9 {d s imm : Int} : Rt 9 d s imm := by
  constructor
  rw [evR9]
  have e : right ⟨9, d, s, imm⟩ = right ⟨9, d, s, imm⟩ := rfl
  conv at e => rhs; simp [right, r29, r50, r51]
  rw [e]
  repeat' (refine bifP (fun c => ?_) (fun c => ?_))
  all_goals
    refine ⟨trivial, ?_⟩
    simp at *
    omega
theorem rt10 {d s imm : Int} : Rt 10 d s imm := by
  constructor
  rw [evR10]
  have e : right ⟨10, d, s, imm⟩ = right ⟨10, d, s, imm⟩ := rfl
  conv at e => rhs; simp [right, r29, r50, r51]
  rw [e]
  repeat' (refine bifP (fun c => ?_) (fun c => ?_))
  all_goals
    refine ⟨trivial, ?_⟩
    simp at *
    omega
theorem rt11 {d s imm : Int} : Rt 11 d s imm := by
  constructor
  rw [evR11]
  have e : right ⟨11, d, s, imm⟩ = right ⟨11, d, s, imm⟩ := rfl
  conv at e => rhs; simp [right, r29, r50, r51]
  rw [e]
  repeat' (refine bifP (fun c => ?_) (fun c => ?_))
  all_goals
    refine ⟨trivial, ?_⟩
    simp at *
    omega
theorem rt12 {d s imm : Int} : Rt 12 d s imm := by
  constructor
  rw [evR12]
  have e : right ⟨12, d, s, imm⟩ = right ⟨12, d, s, imm⟩ := rfl
  conv at e => rhs; simp [right, r29, r50, r51]
  rw [e]
  repeat' (refine bifP (fun c => ?_) (fun c => ?_))
  all_goals
    refine ⟨trivial, ?_⟩
    simp at *
    omega
theorem rt13 {d s imm : Int} : Rt 13 d s imm := by
  constructor
  rw [evR13]
  have e : right ⟨13, d, s, imm⟩ = right ⟨13, d, s, imm⟩ := rfl
  conv at e => rhs; simp [right, r29, r50, r51]
  rw [e]
  repeat' (refine bifP (fun c => ?_) (fun c => ?_))
  all_goals
    refine ⟨trivial, ?_⟩
    simp at *
    omega
theorem rt14 {d s imm : Int} : Rt 14 d s imm := by
  constructor
  rw [evR14]
  have e : right ⟨14, d, s, imm⟩ = right ⟨14, d, s, imm⟩ := rfl
  conv at e => rhs; simp [right, r29, r50, r51]
  rw [e]
  repeat' (refine bifP (fun c => ?_) (fun c => ?_))
  all_goals
    refine ⟨trivial, ?_⟩
    simp at *
    omega
theorem rt15 {d s imm : Int} : Rt 15 d s imm := by
  constructor
  rw [evR15]
  have e : right ⟨15, d, s, imm⟩ = right ⟨15, d, s, imm⟩ := rfl
  conv at e => rhs; simp [right, r29, r50, r51]
  rw [e]
  repeat' (refine bifP (fun c => ?_) (fun c => ?_))
  all_goals
    refine ⟨trivial, ?_⟩
    simp at *
    omega
theorem rt16 {d s imm : Int} : Rt 16 d s imm := by
  constructor
  rw [evR16]
  have e : right ⟨16, d, s, imm⟩ = right ⟨16, d, s, imm⟩ := rfl
  conv at e => rhs; simp [right, r29, r50, r51]
  rw [e]
  repeat' (refine bifP (fun c => ?_) (fun c => ?_))
  all_goals
    refine ⟨trivial, ?_⟩
    simp at *
    omega
theorem rt17 {d s imm : Int} : Rt 17 d s imm := by
  constructor
  rw [evR17]
  have e : right ⟨17, d, s, imm⟩ = right ⟨17, d, s, imm⟩ := rfl
  conv at e => rhs; simp [right, r29, r50, r51]
  rw [e]
  repeat' (refine bifP (fun c => ?_) (fun c => ?_))
  all_goals
    refine ⟨trivial, ?_⟩
    simp at *
    first | omega | grind
theorem rt18 {d s imm : Int} : Rt 18 d s imm := by
  constructor
  rw [evR18]
  have e : right ⟨18, d, s, imm⟩ = right ⟨18, d, s, imm⟩ := rfl
  conv at e => rhs; simp [right, r29, r50, r51]
  rw [e]
  repeat' (refine bifP (fun c => ?_) (fun c => ?_))
  all_goals
    refine ⟨trivial, ?_⟩
    simp at *
    first | omega | grind
theorem rt19 {d s imm : Int} : Rt 19 d s imm := by
  constructor
  rw [evR19]
  have e : right ⟨19, d, s, imm⟩ = right ⟨19, d, s, imm⟩ := rfl
  conv at e => rhs; simp [right, r29, r50, r51]
  rw [e]
  repeat' (refine bifP (fun c => ?_) (fun c => ?_))
  all_goals
    refine ⟨trivial, ?_⟩
    simp at *
    first | omega | grind
theorem rt20 {d s imm : Int} : Rt 20 d s imm := by
  constructor
  rw [evR20]
  have e : right ⟨20, d, s, imm⟩ = right ⟨20, d, s, imm⟩ := rfl
  conv at e => rhs; simp [right, r29, r50, r51]
  rw [e]
  repeat' (refine bifP (fun c => ?_) (fun c => ?_))
  all_goals
    refine ⟨trivial, ?_⟩
    simp at *
    first | omega | grind

abbrev pureSegC (cuts : List Nat) (cs : List Con) (fn : Func) (args : List Value) (rs : List Value) : Prop :=
  segK2 Tryd.prog ft0 (semI Tryd.prog (fun _ => ft0) (callsOf G cs) 400 20 (retT G ntP fun rs' _ => rs' = rs)) fn cuts 400 [.code (fn.body.getD .skip)] (startF fn args) noLeaf (heapB G [])
theorem pureSC {w0 : World} {f : Nat} {fn : Func} {cs : List Con} {args rs : List Value} {cuts : List Nat} (hfn : Tryd.prog.funcs[f]? = some fn) (hcd : fn.body = some (fn.body.getD .skip)) (hcs : ∀ c ∈ cs, c.ok Tryd.prog w0)
    (hs : pureSegC cuts cs fn args rs) : CallS Tryd.prog w0 f args (heapB Tryd.prog.globals.size []) fun rs' h' => rs' = rs ∧ h' = heapB Tryd.prog.globals.size [] := by
  refine con_body (nt := ntP) (out := []) (bs := []) hfn hcd rfl ?_
  refine (seg_semI (F := ft0) (leaf := noLeaf) mixed (callsOf_ok hcs) (fun _ _ _ hh => hh.elim) cuts 20 400 hs).mono ?_
  intro rs2 h2 hh
  simp only [retT, canonT, canonQ, nmL, pathsG, Option.map_some, ghosts, trims] at hh ⊢
  generalize tysOk h2 (List.map (fun x => x.fst) (headN G [] ++ [])) [] = b at hh
  cases b with
  | false => exact hh.elim
  | true =>
    refine ⟨hh.1, ?_⟩
    have h3 := hh.2
    generalize valsF (List.map (invA G (List.map (fun x => x.fst) (headN G [] ++ []))) (List.map AV.v rs2)) = o at h3
    cases o with
    | none => exact h3.elim
    | some rs3 => exact ⟨h3, rfl⟩
theorem evRo (o d s imm : Int) (r : List Value) :
    pureSegC [6] [] Tryd.f58 [AG [I o, I d, I s, I imm]] r
    = (bif decide (o < (0 : Int)) then True ∧ [B false] = r else bif decide (o > (20 : Int)) then True ∧ [B false] = r else
      bif decide (d < (0 : Int)) then True ∧ [B false] = r else bif decide (d > (7 : Int)) then True ∧ [B false] = r else
      bif decide (s < (0 : Int)) then True ∧ [B false] = r else bif decide (s > (7 : Int)) then True ∧ [B false] = r else
      bif decide (imm < (-2147483648 : Int)) then True ∧ [B false] = r else bif decide (imm > (2147483647 : Int)) then True ∧ [B false] = r else False) := by kernel_rfl
theorem right_out {o d s imm : Int} (h : o < 0 ∨ 20 < o) : right ⟨o, d, s, imm⟩ = false := by
  have hk : ∀ k : Int, 0 ≤ k → k ≤ 20 → (o == k) = false := fun k _ _ => beq_eq_false_iff_ne.mpr (by omega)
  show r29 o d s imm = false
  unfold r29
  rw [hk 0 (by decide) (by decide), hk 1 (by decide) (by decide), hk 2 (by decide) (by decide), hk 3 (by decide) (by decide), hk 4 (by decide) (by decide), hk 5 (by decide) (by decide), hk 6 (by decide) (by decide), hk 7 (by decide) (by decide), hk 8 (by decide) (by decide), hk 9 (by decide) (by decide), hk 10 (by decide) (by decide), hk 11 (by decide) (by decide), hk 12 (by decide) (by decide), hk 13 (by decide) (by decide), hk 14 (by decide) (by decide), hk 15 (by decide) (by decide), hk 16 (by decide) (by decide), hk 17 (by decide) (by decide), hk 18 (by decide) (by decide), hk 19 (by decide) (by decide), hk 20 (by decide) (by decide)]
  simp only [cond_false]
  cases !r50 d <;> cases !r50 s <;> cases decide (imm < -2147483648) <;> cases decide (imm ≥ 2147483648) <;> cases !r51 o d s imm <;> rfl
def F58 : List Value → Option (List Value)
  | [v0] => match aggV v0 with
    | some [a, b, c, d] => some [B (right ⟨a, b, c, d⟩)]
    | _ => none
  | _ => none
theorem F58_eq {args rs : List Value} (e : F58 args = some rs) : ∃ a b c d : Int, args = [AG [I a, I b, I c, I d]] ∧ rs = [B (right ⟨a, b, c, d⟩)] := by
  unfold F58 at e
  split at e
  · rename_i v0
    split at e
    · rename_i a b c d h0
      simp only [Option.some.injEq] at e
      exact ⟨a, b, c, d, by rw [aggV_eq h0]; rfl, e.symm⟩
    · simp at e
  · simp at e
def con58 : Con := pureCon 58 F58
set_option maxRecDepth 100000 in
theorem call58 {o d s i : Int} : CallS Tryd.prog w0 58 [AG [I o, I d, I s, I i]] (heapB Tryd.prog.globals.size []) fun rs' h' => rs' = [B (right ⟨o, d, s, i⟩)] ∧ h' = heapB Tryd.prog.globals.size [] := by
  have hq : ∀ c ∈ ([] : List Con), c.ok Tryd.prog w0 := fun c hc => by simp at hc
  by_cases ho : o < 0 ∨ 20 < o
  · refine pureSC (cuts := [6]) (cs := []) Tryd.func58 (by kernel_rfl) hq ?_
    rw [evRo, right_out ho]
    rcases ho with h | h
    · rw [decide_eq_true h]; exact ⟨trivial, rfl⟩
    · rw [decide_eq_false (show ¬ o < 0 by omega), decide_eq_true (show o > 20 by omega)]; exact ⟨trivial, rfl⟩
  · have key : Rt o d s i → CallS Tryd.prog w0 58 [AG [I o, I d, I s, I i]] (heapB Tryd.prog.globals.size []) fun rs' h' => rs' = [B (right ⟨o, d, s, i⟩)] ∧ h' = heapB Tryd.prog.globals.size [] := fun h =>
      pureS (cs := []) Tryd.func58 (by kernel_rfl) hq h.un
    refine key ?_
    have : o = 0 ∨ o = 1 ∨ o = 2 ∨ o = 3 ∨ o = 4 ∨ o = 5 ∨ o = 6 ∨ o = 7 ∨ o = 8 ∨ o = 9 ∨ o = 10 ∨ o = 11 ∨ o = 12 ∨ o = 13 ∨ o = 14 ∨ o = 15 ∨ o = 16 ∨ o = 17 ∨ o = 18 ∨ o = 19 ∨ o = 20 := by omega
    rcases this with rfl | rfl | rfl | rfl | rfl | rfl | rfl | rfl | rfl | rfl | rfl | rfl | rfl | rfl | rfl | rfl | rfl | rfl | rfl | rfl | rfl
    · exact rt0
    · exact rt1
    · exact rt2
    · exact rt3
    · exact rt4
    · exact rt5
    · exact rt6
    · exact rt7
    · exact rt8
    · exact rt9
    · exact rt10
    · exact rt11
    · exact rt12
    · exact rt13
    · exact rt14
    · exact rt15
    · exact rt16
    · exact rt17
    · exact rt18
    · exact rt19
    · exact rt20
set_option maxRecDepth 100000 in
theorem con58_ok : con58.ok Tryd.prog w0 := by
  intro args bs p rs out e _
  simp only [con58, pureCon] at e
  split at e
  · split at e
    · rename_i rs' h1
      simp only [Option.some.injEq, Prod.mk.injEq] at e
      obtain ⟨_, h3, h4⟩ := e
      subst h3 h4
      obtain ⟨a, b, c, d, rfl, rfl⟩ := F58_eq h1
      exact call58
    · simp at e
  · simp at e
end Go.Proofs.YtadaindmgmielaaDoor
