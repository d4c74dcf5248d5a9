/- The document's names, words and numbers are asm's: plain laws. No condition. -/
import Derived.Test.YtkjdfkodclednaaDoorZq
import Derived.Lib.TrimUEq
import Derived.Lib.DecodeN
import Derived.Lib.AtoiAllCases
namespace Go.Proofs.YtkjdfkodclednaaDoor
section
open Go.Agm
variable {w0 : World}
theorem decodeN_lo {n b0 b1 b2 b3 : Nat} (h : b0 < 128) : Lib.decodeN n b0 b1 b2 b3 = (b0, 1) := by
  unfold Lib.decodeN
  rw [if_pos h]
set_option maxRecDepth 100000 in
theorem decodeN_hi {n b0 b1 b2 b3 : Nat} (h : 128 ≤ b0) : 128 ≤ (Lib.decodeN n b0 b1 b2 b3).1 := by
  unfold Lib.decodeN
  rw [if_neg (by omega)]
  repeat' split
  all_goals (simp only; omega)
def goodC (c : UInt8) : Bool := !isNm c.toNat
theorem isNm_hi {n : Nat} (h : 128 ≤ n) : isNm n = true := by
  unfold isNm
  rw [decide_eq_true (show (n : Int) > 122 by omega), decide_eq_true (show (n : Int) > 57 by omega), Bool.or_true, Bool.or_true]
  rfl
theorem drop_split {l : List UInt8} {i : Nat} (h : i < l.length) : l.drop i = l.getD i 0 :: l.drop (i + 1) := by
  rw [List.drop_eq_getElem_cons h, List.getD_eq_getElem?_getD, List.getElem?_eq_getElem h]; rfl
theorem idx_of (s : ByteArray) : ∀ (f pos : Nat), s.size ≤ pos + f → pos ≤ s.size → decide (0 ≤ Lib.idxFuncFrom isNm true s f pos) = !((s.data.toList.drop pos).all goodC)
  | 0, pos, h1, h2 => by
    have : s.data.toList.drop pos = [] := List.drop_of_length_le (by rw [← Lib.size_eq]; omega)
    rw [this]; rfl
  | f + 1, pos, h1, h2 => by
    unfold Lib.idxFuncFrom
    by_cases hp : pos < s.size
    · rw [if_pos hp]
      have hl : pos < s.data.toList.length := by rw [← Lib.size_eq]; exact hp
      rw [drop_split hl, List.all_cons, Lib.decode_N]
      generalize hc : s.data.toList.getD pos 0 = c
      by_cases hlo : c.toNat < 128
      · rw [decodeN_lo hlo]
        cases hn : isNm c.toNat with
        | true => rw [if_pos rfl]; simp only [goodC, hn, Bool.not_true, Bool.false_and, Bool.not_false, decide_eq_true_eq]; omega
        | false =>
          rw [if_neg (by simp)]
          simp only [goodC, hn, Bool.not_false, Bool.true_and]
          exact idx_of s f (pos + 1) (by omega) (by omega)
      · have h3 : isNm (Lib.decodeN (s.data.toList.length - pos) c.toNat (s.data.toList.getD (pos + 1) 0).toNat (s.data.toList.getD (pos + 2) 0).toNat (s.data.toList.getD (pos + 3) 0).toNat).1 = true := isNm_hi (decodeN_hi (by omega))
        rw [h3, if_pos rfl]
        simp only [goodC, isNm_hi (show 128 ≤ c.toNat by omega), Bool.not_true, Bool.false_and, Bool.not_false, decide_eq_true_eq]
        omega
    · rw [if_neg hp]
      have : s.data.toList.drop pos = [] := List.drop_of_length_le (by rw [← Lib.size_eq]; omega)
      rw [this]; rfl
theorem hasBad_eq (s : ByteArray) : hasBad s = !(s.data.toList.all goodC) := by
  have := idx_of s s.size 0 (by omega) (by omega)
  rw [List.drop_zero] at this
  exact this
theorem good_nm (c : UInt8) : goodC c = nmC false c := by
  unfold goodC isNm nmC
  rw [Bool.eq_iff_iff]
  simp only [Bool.not_eq_true', Bool.and_eq_false_iff, Bool.or_eq_false_iff, decide_eq_false_iff_not, Bool.or_eq_true, Bool.and_eq_true, decide_eq_true_eq, Bool.not_false, and_true]
  omega
theorem nameL_all : ∀ l : List UInt8, nameL false l = l.all goodC
  | [] => rfl
  | c :: r => by rw [nameL, List.all_cons, good_nm, nameL_all r]
theorem named_eq (s : ByteArray) : namedB s = nameR s := by
  unfold namedB nameR
  rw [show (⟨#[]⟩ : ByteArray) = noS from rfl, eqS_no, hasBad_eq]
  cases h1 : decide (s.size = 0) with
  | true => rfl
  | false =>
    cases h2 : decide ((s.size : Int) > 8) with
    | true => rfl
    | false =>
      obtain ⟨⟨l⟩⟩ := s
      cases l with
      | nil => simp [ByteArray.size] at h1
      | cons c r =>
        simp only [cond_false, bt, List.getD_cons_zero, nameL, List.all_cons, nameL_all, Bool.not_not, good_nm]
        unfold nmC
        by_cases a1 : c.toNat < 97
        · rw [decide_eq_true (show (c.toNat : Int) < 97 by omega), decide_eq_false (show ¬ 97 ≤ c.toNat by omega)]; simp
        · rw [decide_eq_false (show ¬ (c.toNat : Int) < 97 by omega), decide_eq_true (show 97 ≤ c.toNat by omega)]
          by_cases a2 : 122 < c.toNat
          · rw [decide_eq_true (show (c.toNat : Int) > 122 by omega), decide_eq_false (show ¬ c.toNat ≤ 122 by omega)]; simp
          · rw [decide_eq_false (show ¬ (c.toNat : Int) > 122 by omega), decide_eq_true (show c.toNat ≤ 122 by omega)]; simp
/-! Words of a line. -/
theorem splitL_acc : ∀ (b : List UInt8) (out : List ByteArray) (wd : List UInt8), splitL b out wd = out ++ splitL b [] wd
  | [], out, wd => rfl
  | c :: r, out, wd => by
    simp only [splitL]
    split
    · rw [splitL_acc r (out ++ _), splitL_acc r ([] ++ _), List.append_assoc]; rfl
    · exact splitL_acc r out _
theorem splitL_no : ∀ (b wd : List UInt8), 32 ∉ b → splitL b [] wd = [⟨⟨wd ++ b⟩⟩]
  | [], wd, _ => by simp [splitL]
  | c :: r, wd, h => by
    simp only [List.mem_cons, not_or] at h
    simp only [splitL, if_neg (fun e : c = 32 => h.1 e.symm)]
    rw [splitL_no r _ h.2]; simp
theorem splitL_at : ∀ (a r wd : List UInt8), 32 ∉ a → splitL (a ++ 32 :: r) [] wd = ⟨⟨wd ++ a⟩⟩ :: splitL r [] []
  | [], r, wd, _ => by
    simp only [List.nil_append, splitL, if_true]
    rw [splitL_acc]; simp
  | c :: a, r, wd, h => by
    simp only [List.mem_cons, not_or] at h
    simp only [List.cons_append, splitL, if_neg (fun e : c = 32 => h.1 e.symm)]
    rw [splitL_at a r _ h.2]; simp
theorem index_sp : ∀ l : List UInt8, (Lib.index l [32] = -1 ∧ 32 ∉ l) ∨ ∃ a r, l = a ++ 32 :: r ∧ 32 ∉ a ∧ Lib.index l [32] = a.length
  | [] => .inl ⟨rfl, by simp⟩
  | c :: l => by
    unfold Lib.index
    by_cases hc : c = 32
    · subst hc
      exact .inr ⟨[], l, rfl, by simp, by simp⟩
    · rw [if_neg (by simp [List.isPrefixOf]; exact fun e => hc e.symm)]
      rcases index_sp l with ⟨h1, h2⟩ | ⟨a, r, h1, h2, h3⟩
      · refine .inl ⟨by rw [h1]; rfl, ?_⟩
        simp only [List.mem_cons, not_or]
        exact ⟨fun e => hc e.symm, h2⟩
      · refine .inr ⟨c :: a, r, by rw [h1]; rfl, ?_, ?_⟩
        · simp only [List.mem_cons, not_or]
          exact ⟨fun e => hc e.symm, h2⟩
        · rw [if_neg (by rw [h3, beq_iff_eq]; omega), h3]; simp
theorem ba_eq {a b : ByteArray} (h : a.data.toList = b.data.toList) : a = b := ByteArray.ext (Array.toList_inj.1 h)
theorem splitB_eq : ∀ (k : Nat) (s : ByteArray), Lib.countB s spB ≤ k → Lib.splitB spB 0 k s = splitL s.data.toList [] []
  | 0, s, h => by
    rcases index_sp s.data.toList with ⟨h1, h2⟩ | ⟨a, r, h1, h2, h3⟩
    · rw [splitL_no _ _ h2, Lib.splitB_zero]
      congr 1
    · have := Lib.countB_hit s spB a.length (by decide) h3
      omega
  | k + 1, s, h => by
    rcases index_sp s.data.toList with ⟨h1, h2⟩ | ⟨a, r, h1, h2, h3⟩
    · rw [splitL_no _ _ h2, Lib.splitB_miss _ _ _ _ h1]
      congr 1
    · have hc := Lib.countB_hit s spB a.length (by decide) h3
      have e : (s.extract (a.length + spB.size) s.size).data.toList = r := by
        rw [Lib.extract_to_end, h1, show spB.size = 1 from rfl, ← List.drop_drop, List.drop_left]; rfl
      rw [Lib.splitB_hit _ _ _ _ _ h3, splitB_eq k _ (by omega), e, h1, splitL_at a r [] h2]
      congr 1
      refine ba_eq ?_
      rw [Lib.extract_from_zero, h1, Nat.add_zero, List.take_left]; rfl
theorem words_eq (s : ByteArray) : wordsOf s spB = splitR s := splitB_eq _ s (Nat.le_refl _)
/-! The operation of a word. -/
theorem opR_none {a : ByteArray} : ∀ (l : List ByteArray) (i o : Int), a ∉ l → opR a l i o = o
  | [], i, o, _ => rfl
  | f :: r, i, o, h => by
    simp only [List.mem_cons, not_or] at h
    have : eqS f a = false := by
      cases hh : eqS f a with
      | false => rfl
      | true => exact absurd (eqS_iff.1 hh).symm h.1
    rw [opR, this, cond_false, opR_none r _ _ h.2]
theorem op_eq {a : ByteArray} : ∀ (l : List (List UInt8 × Bool × Bool × Bool)) (i : Int), (l.map fun f => (⟨⟨f.1⟩⟩ : ByteArray)).Nodup → opR a (l.map fun f => ⟨⟨f.1⟩⟩) i (-1) = opAt a l i
  | [], i, _ => rfl
  | f :: r, i, h => by
    rw [List.map_cons, List.nodup_cons] at h
    rw [List.map_cons, opR, opAt]
    cases hh : eqS ⟨⟨f.1⟩⟩ a with
    | true =>
      have := eqS_iff.1 hh
      rw [this] at h
      rw [cond_true, cond_true, opR_none _ _ _ h.1]
    | false => rw [cond_false, cond_false, op_eq r (i + 1) h.2]
theorem words_nodup : (forms.map fun f => (⟨⟨f.1⟩⟩ : ByteArray)).Nodup := by decide +kernel
theorem op_same (a : ByteArray) : opR a wordC 0 (-1) = opAt a forms 0 := op_eq forms 0 words_nodup
end
section
open Go.Agm
variable {w0 : World}
theorem magL_app : ∀ (l : List UInt8) (c : UInt8) (n : Int), magL (l ++ [c]) n = (magL l n).bind fun m => if c.toNat < 48 ∨ 57 < c.toNat then none else some (10 * m + (c.toNat - 48))
  | [], c, n => by simp [magL]
  | d :: r, c, n => by
    simp only [List.cons_append, magL]
    split
    · rfl
    · exact magL_app r c _
theorem dig_toNat {d : Nat} (h : d < 10) : (UInt8.ofNat (48 + d)).toNat = 48 + d := UInt8.toNat_ofNat_of_lt' (show 48 + d < 256 by omega)
theorem mag_dec (u : Nat) : magL (Lib.decDigits u) 0 = some (u : Int) := by
  induction u using Nat.strongRecOn with
  | _ u ih =>
    by_cases h : u < 10
    · rw [Lib.decDigits, dif_pos h]
      simp only [magL, dig_toNat h]
      rw [if_neg (by omega)]
      congr 1; omega
    · rw [Lib.decDigits, dif_neg h, magL_app, ih (u / 10) (by omega), Option.bind_some, dig_toNat (show u % 10 < 10 by omega), if_neg (by omega)]
      congr 1; omega
theorem dec_len : ∀ (k u : Nat), u < 10 ^ (k + 1) → (Lib.decDigits u).length ≤ k + 1
  | 0, u, h => by rw [Lib.decDigits, dif_pos (by simpa using h)]; simp
  | k + 1, u, h => by
    by_cases h1 : u < 10
    · rw [Lib.decDigits, dif_pos h1]; simp
    · rw [Lib.decDigits, dif_neg h1, List.length_append, List.length_singleton]
      have := dec_len k (u / 10) (by rw [Nat.pow_succ] at h; omega)
      omega
theorem dec_head (u : Nat) : ∃ c r, Lib.decDigits u = c :: r ∧ 48 ≤ c.toNat ∧ c.toNat ≤ 57 ∧ (0 < u → c.toNat ≠ 48) := by
  induction u using Nat.strongRecOn with
  | _ u ih =>
    by_cases h : u < 10
    · refine ⟨_, [], by rw [Lib.decDigits, dif_pos h], ?_, ?_, ?_⟩ <;> rw [dig_toNat h] <;> omega
    · obtain ⟨c, r, h1, h2, h3, h4⟩ := ih (u / 10) (by omega)
      exact ⟨c, r ++ [UInt8.ofNat (48 + u % 10)], by rw [Lib.decDigits, dif_neg h, h1]; rfl, h2, h3, fun _ => h4 (by omega)⟩
theorem dec_of_mag : ∀ (k : Nat) (l : List UInt8) (n : Int), l.length = k + 1 → magL l 0 = some n → ((l.getD 0 0).toNat ≠ 48 ∨ l.length = 1) → ∃ u : Nat, n = u ∧ l = Lib.decDigits u
  | 0, l, n, hl, hm, _ => by
    match l, hl with
    | [c], _ =>
      simp only [magL] at hm
      split at hm
      · simp at hm
      · rename_i hc
        injection hm with hm
        refine ⟨c.toNat - 48, by omega, ?_⟩
        rw [Lib.decDigits, dif_pos (by omega)]
        congr 1
        rw [show 48 + (c.toNat - 48) = c.toNat by omega]
        exact UInt8.ofNat_toNat.symm
  | k + 1, l, n, hl, hm, hz => by
    have hne : l ≠ [] := fun e => by rw [e] at hl; simp at hl
    obtain ⟨a, c, rfl⟩ : ∃ a c, l = a ++ [c] := ⟨l.dropLast, l.getLast hne, (List.dropLast_concat_getLast hne).symm⟩
    rw [List.length_append, List.length_singleton] at hl hz
    rw [magL_app] at hm
    cases hm1 : magL a 0 with
    | none => rw [hm1] at hm; simp at hm
    | some m =>
      rw [hm1, Option.bind_some] at hm
      split at hm
      · simp at hm
      · rename_i hc
        injection hm with hm
        have h48 : (a.getD 0 0).toNat ≠ 48 := by
          rcases hz with hz | hz
          · match a, hl with
            | x :: a', _ => simpa using hz
          · omega
        obtain ⟨u, hu, ha⟩ := dec_of_mag k a m (by omega) hm1 (.inl h48)
        have hu0 : u ≠ 0 := fun e => by
          rw [e] at ha
          rw [ha, Lib.decDigits, dif_pos (by omega)] at h48
          exact h48 rfl
        refine ⟨10 * u + (c.toNat - 48), by omega, ?_⟩
        rw [Lib.decDigits, dif_neg (by omega), show (10 * u + (c.toNat - 48)) / 10 = u by omega, show (10 * u + (c.toNat - 48)) % 10 = c.toNat - 48 by omega, ← ha, show 48 + (c.toNat - 48) = c.toNat by omega, UInt8.ofNat_toNat]
theorem pu_mag : ∀ (l : List UInt8) (a : Nat) (n : Int), magL l (a : Int) = some n → n ≤ 9007199254740992 → Lib.parseUint10 a l = .ok n.toNat ∧ (a : Int) ≤ n
  | [], a, n, h, _ => by
    simp only [magL] at h
    injection h with h
    subst h
    exact ⟨rfl, Int.le_refl _⟩
  | c :: r, a, n, h, hn => by
    simp only [magL] at h
    split at h
    · simp at h
    · rename_i hc
      rw [show (10 * (a : Int) + ((c.toNat : Int) - 48)) = ((a * 10 + (c.toNat - 48) : Nat) : Int) by omega] at h
      obtain ⟨h1, h2⟩ := pu_mag r _ n h hn
      refine ⟨?_, by omega⟩
      rw [Lib.parseUint10, if_pos (by omega), if_neg (by omega), if_neg (by omega)]
      exact h1
theorem mag_bound {u : Nat} (h : u ≤ 9007199254740992) : Lib.parseMag (Lib.decDigits u) = .ok u := by
  obtain ⟨c, r, h1, _⟩ := dec_head u
  unfold Lib.parseMag
  rw [if_neg (by rw [h1]; simp)]
  have := (pu_mag (Lib.decDigits u) 0 u (mag_dec u) (by omega)).1
  rw [this]; rfl
theorem atoi_itoa {v : Int} (h1 : -9007199254740992 ≤ v) (h2 : v ≤ 9007199254740992) : Lib.atoiAll (Lib.itoa v) = .ok v := by
  unfold Lib.itoa
  by_cases h : v < 0
  · rw [if_pos h, Lib.atoiAll_minus, mag_bound (by omega)]
    simp only [Lib.signed]
    rw [if_neg (by omega)]
    congr 1; omega
  · rw [if_neg h]
    obtain ⟨c, r, e, g1, g2, _⟩ := dec_head v.toNat
    rw [e, Lib.atoiAll_plain c r (by omega) (by omega), ← e, mag_bound (by omega)]
    simp only [Lib.signless]
    rw [if_neg (by omega)]
    congr 1; omega
theorem numT_dec {neg : Bool} {u : Nat} (h : u ≤ 9007199254740992) (hz : neg = true → u ≠ 0) : numT neg ⟨⟨Lib.decDigits u⟩⟩ = (bif neg then -(u : Int) else u, true) := by
  obtain ⟨c, r, e, g1, g2, g3⟩ := dec_head u
  have hl := dec_len 15 u (by omega)
  have hs : (ByteArray.mk ⟨Lib.decDigits u⟩).size = (Lib.decDigits u).length := rfl
  have h0 : eqS ⟨⟨Lib.decDigits u⟩⟩ noS = false := by
    rw [eqS_no, decide_eq_false_iff_not, hs, e]; simp
  have hb : bt ⟨⟨Lib.decDigits u⟩⟩ 0 = c.toNat := by unfold bt; rw [show (ByteArray.mk ⟨Lib.decDigits u⟩).data.toList = Lib.decDigits u from rfl, e]; rfl
  unfold numT
  rw [h0, cond_false, decide_eq_false (by rw [hs]; omega), cond_false, show (ByteArray.mk ⟨Lib.decDigits u⟩).data.toList = Lib.decDigits u from rfl, mag_dec]
  unfold magR
  dsimp only
  rw [if_neg]
  rintro (q | ⟨q1, q2⟩ | ⟨q1, q2⟩)
  · omega
  · rw [hb] at q1
    by_cases hu : u = 0
    · rw [hs, hu, Lib.decDigits, dif_pos (by omega)] at q2
      simp at q2
    · exact g3 (by omega) (by omega)
  · exact hz q1 (by omega)
theorem numR_itoa {v : Int} (h1 : -9007199254740992 ≤ v) (h2 : v ≤ 9007199254740992) : numR (itS v) = (v, true) := by
  unfold numR itS Lib.itoa
  by_cases h : v < 0
  · rw [if_pos h]
    have e1 : bt ⟨(45 :: Lib.decDigits v.natAbs).toArray⟩ 0 = 45 := rfl
    have e2 : decide (((ByteArray.mk (45 :: Lib.decDigits v.natAbs).toArray).size : Int) > 0) = true := by
      rw [decide_eq_true_eq, size_of]; simp
    rw [e1, e2, show (true && ((45 : Int) == 45)) = true from rfl, cond_true]
    have e3 : (ByteArray.mk (45 :: Lib.decDigits v.natAbs).toArray).extract 1 (ByteArray.mk (45 :: Lib.decDigits v.natAbs).toArray).size = ⟨⟨Lib.decDigits v.natAbs⟩⟩ := by
      refine ba_eq ?_
      rw [Lib.extract_to_end]; rfl
    rw [e3, numT_dec (by omega) (fun _ => by omega), cond_true]
    congr 1; omega
  · rw [if_neg h]
    obtain ⟨c, r, e, g1, g2, g3⟩ := dec_head v.toNat
    have hb : bt ⟨(Lib.decDigits v.toNat).toArray⟩ 0 = c.toNat := by unfold bt; rw [show (ByteArray.mk (Lib.decDigits v.toNat).toArray).data.toList = Lib.decDigits v.toNat by simp, e]; rfl
    rw [show (bt ⟨(Lib.decDigits v.toNat).toArray⟩ 0 == 45) = false by rw [hb, beq_eq_false_iff_ne]; omega, Bool.and_false, cond_false]
    have := numT_dec (neg := false) (u := v.toNat) (by omega) (by simp)
    rw [show (⟨(Lib.decDigits v.toNat).toArray⟩ : ByteArray) = ⟨⟨Lib.decDigits v.toNat⟩⟩ from rfl, this, cond_false]
    congr 1; omega
theorem numT_true {neg : Bool} {t : ByteArray} (h : (numT neg t).2 = true) : ∃ u : Nat, u ≤ 9007199254740992 ∧ t.data.toList = Lib.decDigits u ∧ (neg = true → u ≠ 0) ∧ (numT neg t).1 = bif neg then -(u : Int) else u := by
  unfold numT at h ⊢
  cases h1 : eqS t noS with
  | true => rw [h1] at h; simp at h
  | false =>
    rw [h1, cond_false] at h
    rw [cond_false]
    cases h2 : decide ((t.size : Int) > 16) with
    | true => rw [h2] at h; simp at h
    | false =>
      rw [h2, cond_false] at h
      rw [cond_false]
      cases h3 : magL t.data.toList 0 with
      | none => rw [h3] at h; simp [magR] at h
      | some n =>
        rw [h3] at h
        unfold magR at h ⊢
        dsimp only at h ⊢
        split at h
        · simp at h
        · rename_i hc
          rw [if_neg hc]
          have hsz : t.size ≠ 0 := by rw [eqS_no, decide_eq_false_iff_not] at h1; exact h1
          have hlen := Lib.size_eq t
          obtain ⟨u, hu, hd⟩ := dec_of_mag (t.size - 1) t.data.toList n (by omega) h3 (by
            by_cases hq : t.data.toList.length = 1
            · exact .inr hq
            · refine .inl fun hh => hc (.inr (.inl ⟨?_, by omega⟩))
              unfold bt; rw [hh]; rfl)
          refine ⟨u, ?_, hd, fun hn hu0 => hc (.inr (.inr ⟨hn, by omega⟩)), by rw [hu]⟩
          apply Classical.byContradiction
          intro hh
          exact hc (.inl (by omega))
theorem numR_true {s : ByteArray} (h : (numR s).2 = true) : s = itS (numR s).1 ∧ -9007199254740992 ≤ (numR s).1 ∧ (numR s).1 ≤ 9007199254740992 := by
  unfold numR at h ⊢
  cases hc : decide ((s.size : Int) > 0) && bt s 0 == 45 with
  | true =>
    rw [hc, cond_true] at h
    rw [cond_true]
    obtain ⟨u, h1, h2, h3, h4⟩ := numT_true h
    have hu := h3 rfl
    rw [h4, cond_true]
    simp only [Bool.and_eq_true, decide_eq_true_eq, beq_iff_eq] at hc
    refine ⟨ba_eq ?_, by omega, by omega⟩
    unfold itS Lib.itoa
    rw [if_pos (by omega), show (-(u : Int)).natAbs = u by omega, ← h2, Lib.extract_to_end]
    obtain ⟨⟨l⟩⟩ := s
    match l, hc with
    | c :: r, hc =>
      have : c.toNat = 45 := by have := hc.2; unfold bt at this; simp only [List.getD_cons_zero] at this; omega
      have : c = 45 := by rw [← UInt8.ofNat_toNat (x := c), this]; rfl
      rw [this]; rfl
    | [], hc => simp [ByteArray.size] at hc
  | false =>
    rw [hc, cond_false] at h
    rw [cond_false]
    obtain ⟨u, h1, h2, h3, h4⟩ := numT_true h
    rw [h4, cond_false]
    refine ⟨ba_eq ?_, by omega, by omega⟩
    unfold itS Lib.itoa
    rw [if_neg (by omega), h2, Int.toNat_natCast]
theorem itS_list (v : Int) : (itS v).data.toList = Lib.itoa v := by simp [itS]
theorem num_eq (s : ByteArray) : numO s = (numR s).2 ∧ (numO s = true → numN s = (numR s).1) := by
  cases h : (numR s).2 with
  | true =>
    obtain ⟨h1, h2, h3⟩ := numR_true h
    generalize (numR s).1 = v at h1 h2 h3 ⊢
    have e : Lib.atoiAll s.data.toList = .ok v := by rw [h1, itS_list]; exact atoi_itoa h2 h3
    unfold numO numN
    rw [e]
    refine ⟨?_, fun _ => rfl⟩
    simp only [okN]
    rw [show eqS (itS v) s = true from eqS_iff.2 h1.symm, cond_true, decide_eq_true (show v ≥ -9007199254740992 from h2), cond_true, decide_eq_true h3]
  | false =>
    have hO : numO s = false := by
      cases hh : numO s with
      | false => rfl
      | true =>
        unfold numO at hh
        split at hh
        · rename_i v hv
          unfold okN at hh
          cases a1 : eqS (itS v) s with
          | false => rw [a1] at hh; simp at hh
          | true =>
            rw [a1, cond_true] at hh
            by_cases a2 : v ≥ -9007199254740992
            · rw [decide_eq_true a2, cond_true, decide_eq_true_eq] at hh
              rw [← eqS_iff.1 a1, numR_itoa a2 hh] at h
              simp at h
            · rw [decide_eq_false a2] at hh; simp at hh
        · simp at hh
    exact ⟨hO, fun hh => by rw [hO] at hh; simp at hh⟩
end
section
open Go.Agm
variable {w0 : World}
theorem ins_rd (op : Int) (d s j u : Bool) (l : List ByteArray) (hu : u = true → j = true) :
    (insX op d s j u l).ok = (rdX op d s j u l).ok ∧ ((insX op d s j u l).ok = true → (insX op d s j u l).x = (rdX op d s j u l).x ∧ (insX op d s j u l).to = (rdX op d s j u l).to) := by
  have key : ∀ (a b c c' e : Bool) (y : Ins) (t : ByteArray) (y' : Ins) (t' : ByteArray), c = c' → (c = true → y = y' ∧ t = t') →
      (InsR.mk y t (a && b && c && e)).ok = (bif a && b && c' then (InsR.mk y' t' e) else InsR.mk ⟨0, 0, 0, 0⟩ noS false).ok ∧
      ((InsR.mk y t (a && b && c && e)).ok = true → (InsR.mk y t (a && b && c && e)).x = (bif a && b && c' then (InsR.mk y' t' e) else InsR.mk ⟨0, 0, 0, 0⟩ noS false).x ∧ (InsR.mk y t (a && b && c && e)).to = (bif a && b && c' then (InsR.mk y' t' e) else InsR.mk ⟨0, 0, 0, 0⟩ noS false).to) := by
    intro a b c c' e y t y' t' hc hy
    subst hc
    cases a <;> cases b <;> cases c <;> simp_all
  unfold insX rdX
  cases u with
  | true =>
    have hj := hu rfl
    subst hj
    exact key _ _ _ _ _ _ _ _ _ (by simp only [cond_true]; rw [named_eq]) (fun _ => by simp)
  | false =>
    cases j with
    | true =>
      refine key _ _ _ _ _ _ _ _ _ ?_ (fun h => ?_)
      · simp only [cond_true, cond_false]; exact (num_eq _).1
      · simp only [cond_true, cond_false] at h ⊢
        rw [(num_eq _).2 h]
        exact ⟨rfl, rfl⟩
    | false => exact key _ _ _ _ _ _ _ _ _ rfl (fun _ => ⟨rfl, rfl⟩)
theorem flags {k : Nat} (hk : k < 21) : ∀ f, forms[k]? = some f → hasR k = (f.2.1, f.2.2.1, f.2.2.2) ∧ (r44 k = true → f.2.2.2 = true) := by
  intro f hf
  rcases k with _ | _ | _ | _ | _ | _ | _ | _ | _ | _ | _ | _ | _ | _ | _ | _ | _ | _ | _ | _ | _ | k
  case succ.succ.succ.succ.succ.succ.succ.succ.succ.succ.succ.succ.succ.succ.succ.succ.succ.succ.succ.succ.succ => omega
  all_goals (obtain rfl := Option.some.inj hf; exact ⟨rfl, fun h => by first | rfl | exact absurd h (by decide)⟩)
theorem ins_eq (ws : List ByteArray) : (insP ws).ok = (readR ws).ok ∧ ((insP ws).ok = true → (insP ws).x = (readR ws).x ∧ (insP ws).to = (readR ws).to) := by
  unfold insP readR
  rw [op_same]
  rcases opAt_range (hdW ws) forms 0 with h | ⟨k, h1, h2⟩
  · have h' : opAt (hdW ws) forms 0 = -1 := h
    rw [h']
    exact ⟨rfl, fun h => Bool.noConfusion (show false = true from h)⟩
  · have h' : opAt (hdW ws) forms 0 = (k : Int) := by
      have := h1
      rw [Nat.zero_add] at this
      exact this
    have hf : forms[k]? = some forms[k] := List.getElem?_eq_getElem h2
    obtain ⟨g1, g2⟩ := flags (show k < 21 from h2) _ hf
    have hk : decide ((k : Int) < 0) = false := by simp
    simp only [h', Int.toNat_natCast, hf, hk, cond_false, g1]
    exact ins_rd _ _ _ _ _ _ g2
/-- The document's line is asm's. -/
theorem line_eq (l : ByteArray) : (insO l).ok = (readR (splitR l)).ok ∧ ((insO l).ok = true → (insO l).x = (readR (splitR l)).x ∧ (insO l).to = (readR (splitR l)).to) := by
  unfold insO
  rw [words_eq]
  exact ins_eq _
end
section
open Go.Agm
variable {w0 : World}
theorem index_one (k : UInt8) : ∀ l : List UInt8, (Lib.index l [k] = -1 ∧ k ∉ l) ∨ ∃ a r, l = a ++ k :: r ∧ k ∉ a ∧ Lib.index l [k] = a.length
  | [] => .inl ⟨rfl, by simp⟩
  | c :: l => by
    unfold Lib.index
    by_cases hc : c = k
    · subst hc
      exact .inr ⟨[], l, rfl, by simp, by simp⟩
    · rw [if_neg (by simp [List.isPrefixOf]; exact fun e => hc e.symm)]
      rcases index_one k l with ⟨h1, h2⟩ | ⟨a, r, h1, h2, h3⟩
      · refine .inl ⟨by rw [h1]; rfl, ?_⟩
        simp only [List.mem_cons, not_or]
        exact ⟨fun e => hc e.symm, h2⟩
      · refine .inr ⟨c :: a, r, by rw [h1]; rfl, ?_, ?_⟩
        · simp only [List.mem_cons, not_or]
          exact ⟨fun e => hc e.symm, h2⟩
        · rw [if_neg (by rw [h3, beq_iff_eq]; omega), h3]; simp
theorem cutL_no : ∀ {l : List UInt8}, 10 ∉ l → cutL l = none
  | [], _ => rfl
  | c :: r, h => by
    simp only [List.mem_cons, not_or] at h
    rw [cutL, if_neg (fun e : c = 10 => h.1 e.symm), cutL_no h.2]
theorem cutL_at : ∀ {a r : List UInt8}, 10 ∉ a → cutL (a ++ 10 :: r) = some (a, r)
  | [], r, _ => by simp [cutL]
  | c :: a, r, h => by
    simp only [List.mem_cons, not_or] at h
    rw [List.cons_append, cutL, if_neg (fun e : c = 10 => h.1 e.symm), cutL_at h.2]
theorem cut_eq (s : ByteArray) : (cutL s.data.toList = none ∧ cutO s nlB = false) ∨ ∃ a r, cutL s.data.toList = some (a, r) ∧ cutO s nlB = true ∧ cutA s nlB = ⟨⟨a⟩⟩ ∧ cutB s nlB = ⟨⟨r⟩⟩ := by
  have hn : nlB.data.toList = [10] := rfl
  unfold cutO cutA cutB Lib.cut
  rw [hn]
  rcases index_one 10 s.data.toList with ⟨h1, h2⟩ | ⟨a, r, h1, h2, h3⟩
  · refine .inl ⟨cutL_no h2, ?_⟩
    rw [if_neg (by omega)]
  · refine .inr ⟨a, r, by rw [h1]; exact cutL_at h2, ?_⟩
    rw [if_pos (by omega), h3, Int.toNat_natCast, h1]
    refine ⟨rfl, ?_, ?_⟩
    · simp only [List.take_left]
    · simp only [List.length_singleton, ← List.drop_drop, List.drop_left]; rfl
theorem suf_eq (l : ByteArray) : (sufO l coB && namedB (sufA l coB)) = isN13 l ∧ (isN13 l = true → sufA l coB = nm13 l) := by
  have hc : coB.data.toList = [58] := rfl
  obtain ⟨⟨b⟩⟩ := l
  rcases List.eq_nil_or_concat b with rfl | ⟨a, c, rfl⟩
  · exact ⟨rfl, fun h => absurd h (by simp [isN13, ByteArray.size])⟩
  · rw [List.concat_eq_append]
    have hsz : (ByteArray.mk ⟨a ++ [c]⟩).size = a.length + 1 := by simp [ByteArray.size]
    have hO : sufO ⟨⟨a ++ [c]⟩⟩ coB = decide (c = 58) := by
      unfold sufO Lib.hasSuffix
      rw [hc, Bool.eq_iff_iff, List.isSuffixOf_iff_suffix, decide_eq_true_eq]
      constructor
      · rintro ⟨t, ht⟩
        have := congrArg List.getLast? ht
        simpa [eq_comm] using this
      · rintro rfl; exact ⟨a, rfl⟩
    have hb : bt ⟨⟨a ++ [c]⟩⟩ ((ByteArray.mk ⟨a ++ [c]⟩).size - 1) = c.toNat := by
      rw [hsz, Nat.add_sub_cancel]
      unfold bt
      simp
    have hm : nm13 ⟨⟨a ++ [c]⟩⟩ = ⟨⟨a⟩⟩ := by
      refine ba_eq' ?_
      simp only [nm13]
      rw [Lib.extract_data, hsz]; simp
    have hA : c = 58 → sufA ⟨⟨a ++ [c]⟩⟩ coB = ⟨⟨a⟩⟩ := fun h => by
      have hO' : Lib.hasSuffix (a ++ [c]) [58] = true := by
        have := hO
        unfold sufO at this
        rw [hc, decide_eq_true h] at this
        exact this
      refine ba_eq' ?_
      unfold sufA Lib.trimSuffix
      rw [hc]
      rw [show (if Lib.hasSuffix (a ++ [c]) [58] then (a ++ [c]).take ((a ++ [c]).length - [(58 : UInt8)].length) else a ++ [c]) = (a ++ [c]).take ((a ++ [c]).length - [(58 : UInt8)].length) from if_pos hO']
      simp
    unfold isN13
    rw [hb, hm, hO, hsz, show ((c.toNat : Int) == 58) = decide (c = 58) from byte_eq c 58 (by decide), ← named_eq]
    by_cases h : c = 58
    · rw [decide_eq_true h, hA h]
      refine ⟨?_, fun _ => rfl⟩
      by_cases h1 : a = []
      · subst h1
        simp [namedB, show eqS (⟨⟨[]⟩⟩ : ByteArray) ⟨#[]⟩ = true from eqS_iff.2 rfl]
      · have : 0 < a.length := List.length_pos_iff.2 h1
        rw [decide_eq_true (show 1 < a.length + 1 by omega)]; rfl
    · rw [decide_eq_false h]
      refine ⟨by simp, fun hh => by simp at hh⟩
/-! The jumps. -/
def jsOf : Nat → List (Ins × ByteArray × Int) → List Jm
  | _, [] => []
  | i, (_, t, l) :: r => bif eqS t noS then jsOf (i + 1) r else ⟨i, l, t⟩ :: jsOf (i + 1) r
theorem jsOf_app (x : Ins) (t : ByteArray) (l : Int) : ∀ (tr : List (Ins × ByteArray × Int)) (i : Nat), jsOf i (tr ++ [(x, t, l)]) = bif !eqS t noS then jsOf i tr ++ [⟨i + tr.length, l, t⟩] else jsOf i tr
  | [], i => by
    simp only [List.nil_append, jsOf]
    cases eqS t noS <;> rfl
  | (y, u, k) :: r, i => by
    simp only [List.cons_append, jsOf, List.length_cons]
    rw [jsOf_app x t l r (i + 1), show i + 1 + r.length = i + (r.length + 1) by omega]
    cases eqS t noS <;> cases eqS u noS <;> rfl
theorem zip3_app (x : Ins) (y : ByteArray) (z : Int) : ∀ {a : List Ins} {b : List ByteArray} {c : List Int}, b.length = a.length → c.length = a.length → zip3 (a ++ [x]) (b ++ [y]) (c ++ [z]) = zip3 a b c ++ [(x, y, z)]
  | [], [], [], _, _ => rfl
  | p :: a, q :: b, r :: c, h1, h2 => by
    simp only [List.cons_append, zip3]
    rw [zip3_app x y z (a := a) (b := b) (c := c) (by simpa using h1) (by simpa using h2)]
theorem zip3_len {a : List Ins} {b : List ByteArray} {c : List Int} (h1 : b.length = a.length) (h2 : c.length = a.length) : (zip3 a b c).length = a.length := by
  have := (zip3_1 h1 h2).1
  rw [← List.length_map (f := fun x : Ins × ByteArray × Int => x.1), this]
theorem plR_none {t : ByteArray} : ∀ {ns : List ByteArray} {ps : List Int} {v : Int}, t ∉ ns → plR ns ps t v = v
  | [], ps, v, _ => by cases ps <;> rfl
  | a :: r, [], v, _ => rfl
  | a :: r, p :: q, v, h => by
    simp only [List.mem_cons, not_or] at h
    have : eqS a t = false := by
      cases hh : eqS a t with
      | false => rfl
      | true => exact absurd (eqS_iff.1 hh).symm h.1
    rw [plR, this, cond_false, plR_none h.2]
theorem plR_find {t : ByteArray} : ∀ {ns : List ByteArray} {ps : List Int} {v : Int}, ns.Nodup → ps.length = ns.length → plR ns ps t v = (findP (ns.zip ps) t).getD v
  | [], [], v, _, _ => rfl
  | a :: r, p :: q, v, h, hl => by
    rw [List.nodup_cons] at h
    simp only [plR, List.zip_cons_cons, findP]
    cases hh : eqS a t with
    | true =>
      have e := eqS_iff.1 hh
      subst e
      rw [cond_true, if_pos rfl, plR_none h.1]; rfl
    | false =>
      have e : ¬ t = a := fun e => by rw [e, eqS_iff.2 rfl] at hh; simp at hh
      rw [cond_false, if_neg e]
      exact plR_find h.2 (by simpa using hl)
theorem find_any {t : ByteArray} : ∀ {ns : List ByteArray} {ps : List Int}, ps.length = ns.length → (findP (ns.zip ps) t).isSome = ns.any (eqS · t)
  | [], [], _ => rfl
  | a :: r, p :: q, hl => by
    simp only [List.zip_cons_cons, findP, List.any_cons]
    by_cases e : t = a
    · rw [if_pos e, e, eqS_iff.2 rfl]; rfl
    · rw [if_neg e, find_any (by simpa using hl)]
      have : eqS a t = false := by
        cases hh : eqS a t with
        | false => rfl
        | true => exact absurd (eqS_iff.1 hh).symm e
      rw [this, Bool.false_or]
theorem find_mem {t : ByteArray} {v : Int} : ∀ {ns : List ByteArray} {ps : List Int}, findP (ns.zip ps) t = some v → v ∈ ps
  | [], ps, h => by simp [findP] at h
  | a :: r, [], h => by simp [findP] at h
  | a :: r, p :: q, h => by
    simp only [List.zip_cons_cons, findP] at h
    split at h
    · injection h with h
      rw [h]; simp
    · exact List.mem_cons_of_mem _ (find_mem h)
section
variable {pl : List (ByteArray × Int)} {f : ByteArray → Int}
def setT (f : ByteArray → Int) (e : Ins × ByteArray × Int) : Ins := bif eqS e.2.1 noS then e.1 else { e.1 with imm := f e.2.1 }
theorem miss_rnd (hf : ∀ t, (findP pl t = none → f t < 0) ∧ ∀ v, findP pl t = some v → f t = v ∧ 0 ≤ v) : ∀ (tr : List (Ins × ByteArray × Int)) (i : Nat),
    (∀ n, missP pl (jsOf i tr) = some n → rndR f false tr = .error (n, 8)) ∧ (missP pl (jsOf i tr) = none → rndR f false tr = .ok (tr.map (setT f)))
  | [], i => ⟨fun n h => by simp [jsOf, missP] at h, fun _ => rfl⟩
  | (x, t, l) :: r, i => by
    obtain ⟨g1, g2⟩ := miss_rnd hf r (i + 1)
    simp only [jsOf, rndR, List.map_cons, setT]
    cases he : eqS t noS with
    | true =>
      simp only [cond_true]
      exact ⟨fun n h => by rw [g1 n h], fun h => by rw [g2 h]⟩
    | false =>
      simp only [cond_false, missP]
      obtain ⟨k1, k2⟩ := hf t
      cases hs : findP pl t with
      | none =>
        rw [decide_eq_true (k1 hs)]
        refine ⟨fun n h => ?_, fun h => by simp at h⟩
        simp only [Option.isSome_none, Bool.false_eq_true, if_false, Option.some.injEq] at h
        rw [h]; rfl
      | some v =>
        obtain ⟨e1, e2⟩ := k2 v hs
        rw [decide_eq_false (by omega), cond_false, Bool.false_and, cond_false]
        simp only [Option.isSome_some, if_true]
        exact ⟨fun n h => by rw [g1 n h], fun h => by rw [g2 h]⟩
theorem fix_rnd (hf : ∀ t, (findP pl t = none → f t < 0) ∧ ∀ v, findP pl t = some v → f t = v ∧ 0 ≤ v) : ∀ (tr : List (Ins × ByteArray × Int)) (pre : List Ins), missP pl (jsOf pre.length tr) = none →
    (∀ o, rndR f true tr = .ok o → fixP pl (jsOf pre.length tr) (pre ++ tr.map (·.1)) = (pre ++ o, none)) ∧ (∀ e, rndR f true tr = .error e → e.2 = 11 ∧ (fixP pl (jsOf pre.length tr) (pre ++ tr.map (·.1))).2 = some e.1)
  | [], pre, _ => ⟨fun o h => by
      simp only [rndR] at h
      injection h with h
      subst h; rfl, fun e h => by simp [rndR] at h⟩
  | (x, t, l) :: r, pre, hm => by
    simp only [jsOf, rndR, List.map_cons] at hm ⊢
    cases he : eqS t noS with
    | true =>
      rw [he, cond_true] at hm
      simp only [cond_true]
      have hp : (pre ++ [x]).length = pre.length + 1 := by simp
      obtain ⟨g1, g2⟩ := fix_rnd hf r (pre ++ [x]) (by rw [hp]; exact hm)
      rw [hp] at g1 g2
      simp only [List.append_assoc, List.singleton_append] at g1 g2
      cases hr : rndR f true r with
      | ok o =>
        refine ⟨fun o' h => ?_, fun e h => by simp at h⟩
        injection h with h
        subst h
        exact g1 o hr
      | error e =>
        refine ⟨fun o' h => by simp at h, fun e' h => ?_⟩
        injection h with h
        subst h
        exact g2 e hr
    | false =>
      rw [he, cond_false] at hm
      simp only [cond_false, missP] at hm ⊢
      cases hs : findP pl t with
      | none => rw [hs] at hm; simp at hm
      | some v =>
        rw [hs] at hm
        simp only [Option.isSome_some, if_true] at hm
        obtain ⟨e1, e2⟩ := (hf t).2 v hs
        rw [decide_eq_false (show ¬ f t < 0 by omega), cond_false, Bool.true_and, e1]
        simp only [fixP, hs, Option.getD_some, setI_at]
        have hget : (pre ++ { x with imm := v } :: r.map (·.1)).getD pre.length ⟨0, 0, 0, 0⟩ = { x with imm := v } := by simp [List.getD_eq_getElem?_getD]
        rw [hget]
        cases hr : right { x with imm := v } with
        | false =>
          simp only [Bool.not_false, cond_true, Bool.false_eq_true, if_false]
          refine ⟨fun o h => by simp at h, fun e h => ?_⟩
          injection h with h
          subst h
          exact ⟨rfl, rfl⟩
        | true =>
          simp only [Bool.not_true, cond_false, if_true]
          have hp : (pre ++ [{ x with imm := v }]).length = pre.length + 1 := by simp
          obtain ⟨g1, g2⟩ := fix_rnd hf r (pre ++ [{ x with imm := v }]) (by rw [hp]; exact hm)
          rw [hp] at g1 g2
          simp only [List.append_assoc, List.singleton_append] at g1 g2
          cases hr : rndR f true r with
          | ok o =>
            refine ⟨fun o' h => ?_, fun e h => by simp at h⟩
            injection h with h
            subst h
            exact g1 o hr
          | error e =>
            refine ⟨fun o' h => by simp at h, fun e' h => ?_⟩
            injection h with h
            subst h
            exact g2 e hr
theorem rnd_again : ∀ (tr : List (Ins × ByteArray × Int)), rndR f true (zip3 (tr.map (setT f)) (tr.map (·.2.1)) (tr.map (·.2.2))) = rndR f true tr
  | [] => rfl
  | (x, t, l) :: r => by
    simp only [List.map_cons, zip3, rndR, rnd_again r, setT]
    cases eqS t noS <;> rfl
end
structure PR (p : Ps) (d : Ds) (n : Nat) : Prop where
  out : p.out = d.out
  ln : p.ln + 1 = n
  pl : p.pl = d.names.zip d.places
  js : p.js = jsOf 0 (zip3 d.out d.to d.lines)
  ok : DsOk d n
  nd : d.names.Nodup
  nn : ∀ q ∈ d.places, 0 ≤ q
theorem res_eq {p : Ps} {d : Ds} {n : Nat} (h : PR p d n) : (match resP p.pl p.js p.out with
      | (_, some e) => (some e, [])
      | (o, none) => (none, o)) = resR d := by
  have hf : ∀ t, (findP p.pl t = none → plD d t < 0) ∧ ∀ v, findP p.pl t = some v → plD d t = v ∧ 0 ≤ v := fun t => by
    simp only [plD]
    rw [h.pl, plR_find h.nd h.ok.pl]
    exact ⟨fun e => by rw [e]; decide, fun v e => ⟨by rw [e]; rfl, h.nn v (find_mem e)⟩⟩
  obtain ⟨z1, z2, z3⟩ := zip3_1 (a := d.out) (b := d.to) (c := d.lines) h.ok.to' h.ok.li
  obtain ⟨m1, m2⟩ := miss_rnd hf (zip3 d.out d.to d.lines) 0
  unfold resP resR
  rw [h.js, h.out]
  cases hm : missP p.pl (jsOf 0 (zip3 d.out d.to d.lines)) with
  | some n => rw [m1 n hm]
  | none =>
    rw [m2 hm]
    dsimp only
    have ra := rnd_again (f := plD d) (zip3 d.out d.to d.lines)
    rw [z2, z3] at ra
    rw [ra]
    obtain ⟨x1, x2⟩ := fix_rnd hf (zip3 d.out d.to d.lines) [] hm
    simp only [List.length_nil, List.nil_append, z1] at x1 x2
    cases hr : rndR (plD d) true (zip3 d.out d.to d.lines) with
    | ok o => rw [x1 o hr]
    | error e =>
      obtain ⟨y1, y2⟩ := x2 e hr
      cases hx : fixP p.pl (jsOf 0 (zip3 d.out d.to d.lines)) d.out with
      | mk a b =>
        rw [hx] at y2
        subst y2
        obtain ⟨e1, e2⟩ := e
        simp only at y1
        subst y1
        rfl
theorem lines_eq {p : Ps} {d : Ds} {n : Nat} (h : PR p d n) (l : ByteArray) : (∃ e, lineP p (p.ln + 1) l = .error e ∧ lineR d n l = .error e) ∨ ∃ p' d', lineP p (p.ln + 1) l = .ok p' ∧ lineR d n l = .ok d' ∧ PR p' d' (n + 1) := by
  obtain ⟨s1, s2⟩ := suf_eq l
  unfold lineP lineR
  rw [s1, h.ln]
  have hok := fun d' (hd : lineR d n l = .ok d') => any_name h.ok hd
  unfold lineR at hok
  have hlen := h.ok.len
  cases hN : isN13 l with
  | true =>
    rw [hN] at hok
    simp only [cond_true] at hok ⊢
    rw [s2 hN]
    have hfa := find_any (t := nm13 l) h.ok.pl
    rw [← h.pl] at hfa
    cases ha : d.names.any (eqS · (nm13 l)) with
    | true =>
      rw [ha] at hfa
      obtain ⟨v, hv⟩ := Option.isSome_iff_exists.1 hfa
      rw [hv]
      exact .inl ⟨9, rfl, rfl⟩
    | false =>
      rw [ha] at hfa hok
      have hv : findP p.pl (nm13 l) = none := by
        cases q : findP p.pl (nm13 l) with
        | none => rfl
        | some v => rw [q] at hfa; simp at hfa
      rw [hv]
      refine .inr ⟨_, _, rfl, rfl, ⟨h.out, by simp, ?_, h.js, hok _ rfl, ?_, ?_⟩⟩
      · simp only [h.pl, h.out]
        rw [List.zip_append h.ok.pl.symm]; rfl
      · refine List.nodup_append.2 ⟨h.nd, by simp, ?_⟩
        intro a ha' b hb e
        rw [List.mem_singleton] at hb
        rw [hb] at e
        rw [e] at ha'
        have : d.names.any (eqS · (nm13 l)) = true := List.any_eq_true.2 ⟨nm13 l, ha', eqS_iff.2 rfl⟩
        rw [ha] at this
        simp at this
      · intro q hq
        rcases List.mem_append.1 hq with hq | hq
        · exact h.nn q hq
        · rw [List.mem_singleton.1 hq]; omega
  | false =>
    rw [hN] at hok
    simp only [cond_false] at hok ⊢
    unfold insLine
    obtain ⟨i1, i2⟩ := line_eq l
    rw [i1]
    cases h1 : (readR (splitR l)).ok with
    | false => exact .inl ⟨4, rfl, rfl⟩
    | true =>
      rw [h1] at i1 hok
      obtain ⟨i3, i4⟩ := i2 i1
      rw [i3, i4]
      simp only [Bool.not_true, cond_false] at hok ⊢
      cases h2 : right (readR (splitR l)).x with
      | false => exact .inl ⟨11, rfl, rfl⟩
      | true =>
        rw [h2] at hok
        simp only [Bool.not_true, cond_false] at hok ⊢
        rw [h.out]
        cases h3 : (d.out.length : Int) == 128 with
        | true =>
          rw [beq_iff_eq] at h3
          rw [decide_eq_true (show (d.out.length : Int) ≥ 128 by omega)]
          exact .inl ⟨10, rfl, rfl⟩
        | false =>
          rw [h3] at hok
          rw [beq_eq_false_iff_ne] at h3
          rw [decide_eq_false (show ¬ (d.out.length : Int) ≥ 128 by omega)]
          simp only [cond_false] at hok ⊢
          refine .inr ⟨_, _, rfl, rfl, ⟨rfl, by simp, h.pl, ?_, hok _ rfl, h.nd, h.nn⟩⟩
          rw [zip3_app _ _ _ h.ok.to' h.ok.li, jsOf_app, h.js, zip3_len h.ok.to' h.ok.li, Nat.zero_add]
theorem par_eq : ∀ (m : Nat) (s : ByteArray) (p : Ps) (d : Ds) (n : Nat), PR p d n → parP m p s = parR m d n s.data.toList
  | 0, _, _, _, _, _ => rfl
  | m + 1, s, p, d, n, h => by
    unfold parP parR
    rw [eqS_no]
    cases hb : s.data.toList with
    | nil =>
      rw [decide_eq_true (by rw [Lib.size_eq, hb]; rfl)]
      exact res_eq h
    | cons c r =>
      rw [decide_eq_false (by rw [Lib.size_eq, hb]; simp)]
      simp only [Bool.not_false, cond_true]
      rcases cut_eq s with ⟨h1, h2⟩ | ⟨a, q, h1, h2, h3, h4⟩
      · rw [hb] at h1
        rw [h1, h2, h.ln]; rfl
      · rw [hb] at h1
        rw [h1, h2, h3, h4]
        simp only [Bool.not_true, cond_false]
        rcases lines_eq h ⟨⟨a⟩⟩ with ⟨e, g1, g2⟩ | ⟨p', d', g1, g2, g3⟩
        · rw [g1, g2, h.ln]
        · rw [g1, g2]
          exact par_eq m ⟨⟨q⟩⟩ p' d' (n + 1) g3
/-- The document's Parse is asm's. -/
theorem parse_eq (s : ByteArray) : parseP s = parseR s :=
  par_eq _ s ⟨[], [], [], 0⟩ ⟨[], [], [], [], []⟩ 1 ⟨rfl, rfl, rfl, rfl, ⟨Nat.zero_le _, rfl, rfl, rfl, Nat.zero_le _⟩, List.nodup_nil, fun q hq => by simp at hq⟩
end
end Go.Proofs.YtkjdfkodclednaaDoor
