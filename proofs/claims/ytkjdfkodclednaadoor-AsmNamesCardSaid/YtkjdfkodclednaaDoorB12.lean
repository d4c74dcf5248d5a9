/- An abstract machine for one goroutine: code where what acts in a region may act in more than one order. No condition. -/
import Derived.Test.YtkjdfkodclednaaDoorB11
namespace Go.Agm

variable {P : Program} {w0 : World} {m m' m0 : MapN} {E : Nat → Prop} {fr : List AV} {h : AHeap} {a : Act} {w : World} {F : FT} {loc : Nat → Bool}

/-- All orders of what acts. -/
def drawL (P : Program) (loc : Nat → Bool) (M : Mach Prop) (ops : Array Oper) (fr : List AV) (k : List AV → AHeap → Prop) (h : AHeap) : List (List Nat) → Prop
  | [] => True
  | σ :: r => match r with
    | [] => bif memOk P loc ops σ then opsC2 P loc M ops (preS P loc ops σ) [] (orderS P loc ops σ) fr k h else False
    | _ :: _ => (bif memOk P loc ops σ then opsC2 P loc M ops (preS P loc ops σ) [] (orderS P loc ops σ) fr k h else False) ∧ drawL P loc M ops fr k h r
def drawK3 (P : Program) (loc : Nat → Bool) (M : Mach Prop) (ops : Array Oper) (fr : List AV) (k : List AV → AHeap → Prop) (h : AHeap) : Prop :=
  bif regionOk P loc ops (Region.before ops) (orderA P loc ops) && ops.toList.all (freshA fr) then opsC2 P loc M ops (Region.before ops) [] (orderA P loc ops) fr k h
  else bif noBB fr && ops.toList.all (nlA loc) && ops.toList.all (freshA fr) && !(linA (Region.before ops) ops.size (actsA P loc ops)).isEmpty then drawL P loc M ops fr k h (linA (Region.before ops) ops.size (actsA P loc ops)) else False

theorem drawL_mem {M : Mach Prop} {ops : Array Oper} {k : List AV → AHeap → Prop} : ∀ {l : List (List Nat)}, drawL P loc M ops fr k h l → ∀ σ ∈ l, memOk P loc ops σ = true ∧ opsC2 P loc M ops (preS P loc ops σ) [] (orderS P loc ops σ) fr k h
  | [], _, σ, hs => by simp at hs
  | τ :: r, e, σ, hs => by
    have one : (bif memOk P loc ops τ then opsC2 P loc M ops (preS P loc ops τ) [] (orderS P loc ops τ) fr k h else False) → memOk P loc ops τ = true ∧ opsC2 P loc M ops (preS P loc ops τ) [] (orderS P loc ops τ) fr k h := by
      intro e
      cases hm : memOk P loc ops τ with
      | false => rw [hm] at e; exact e.elim
      | true => rw [hm] at e; exact ⟨rfl, e⟩
    cases r with
    | nil =>
      simp only [List.mem_singleton] at hs
      subst hs
      exact one e
    | cons x r =>
      rcases List.mem_cons.1 hs with rfl | hs
      · exact one e.1
      · exact drawL_mem e.2 σ hs

def goStep3 (P : Program) (F : FT) (M : Mach Prop) (fn : Func) (todo : List Item) (fr : List AV) (k : List Item → List AV → AHeap → Prop) (h : AHeap) : Prop :=
  match todo with
  | .code (.region id ops draw) :: t => bif draw then drawK3 P F.loc M ops (maskF (F.mask id) fr) (fun fr h => k t fr h) h else opsK2 P F.loc M ops (List.range ops.size) (maskF (F.mask id) fr) (fun fr h => k t fr h) h
  | t => goStep P F M fn t fr k h

def segK3 (P : Program) (F : FT) (M : Mach Prop) (fn : Func) (cuts : List Nat) : Nat → List Item → List AV → (List Item → List AV → AHeap → Prop) → AHeap → Prop
  | 0, t, fr, leaf, h => leaf t fr h
  | n + 1, t, fr, leaf, h => goStep3 P F M fn t fr (fun t fr h => match t with
      | .code (.region id ops d) :: t => bif cuts.contains id then leaf (.code (.region id ops d) :: t) (maskF (F.mask id) fr) h else segK3 P F M fn cuts n (.code (.region id ops d) :: t) fr leaf h
      | t => segK3 P F M fn cuts n t fr leaf h) h

open Classical in
theorem goStep3_sem (hmix : P.follows .mixedOrders = true) {c : CallsP} (hc : CallsOk P w0 c) {n : Nat} {fn : Func} {Q : Post} {todo : List Item}
    (e : goStep3 P F (semM c Q) fn todo fr (fun t fr h => Sem P w0 n fn Q t fr h) h) : Sem P w0 n fn Q todo fr h := by
  have two : goStep2 P F (semM c Q) fn todo fr (fun t fr h => Sem P w0 n fn Q t fr h) h → Sem P w0 n fn Q todo fr h := fun e =>
    goStep_sem (F := F) hmix hc (goStep2_le (R := fun x y : Prop => x → y) (fun _ => False.elim) semM_self (fun _ _ _ => id) e)
  unfold goStep3 at e
  split at e
  · rename_i rid ops draw t
    cases draw with
    | false => exact two e
    | true =>
      simp only [cond_true, drawK3] at e
      cases hok : (regionOk P F.loc ops (Region.before ops) (orderA P F.loc ops) && ops.toList.all (freshA (maskF (F.mask rid) fr))) with
      | true =>
        rw [hok, cond_true] at e
        refine two ?_
        simp only [goStep2, cond_true, drawK2, hok]
        exact e
      | false =>
        rw [hok, cond_false] at e
        cases hm : (noBB (maskF (F.mask rid) fr) && ops.toList.all (nlA F.loc) && ops.toList.all (freshA (maskF (F.mask rid) fr)) && !(linA (Region.before ops) ops.size (actsA P F.loc ops)).isEmpty) with
        | false => rw [hm] at e; exact e.elim
        | true =>
          rw [hm, cond_true] at e
          simp only [Bool.and_eq_true, Bool.not_eq_true', List.isEmpty_eq_false_iff] at hm
          obtain ⟨⟨⟨h1, h2⟩, h3⟩, h4⟩ := hm
          intro m E a w b cs hr hf hk
          have hr' := hr.mask (F.mask rid)
          let l : List AV → AHeap → Option Res := fun fr h => if Sem P w0 n fn Q t fr h then some tok else none
          have hl : ∀ fr h, Sem P w0 n fn Q t fr h → l fr h = some tok := fun fr h s => by simp only [l, if_pos s]
          have hwp : (Code.region rid ops true).wp P (fun ex a' w' => ex = .normal ∧ ∃ fr2 h2, Step P w0 m E w fr2 h2 a' w' ∧ Sem P w0 n fn Q t fr2 h2) a w := by
            refine wp_region_any hmix ?_
            have he : Ext w { w with drawn := w.drawn + 1 } := ⟨rfl, rfl, rfl, Nat.le_refl _, fun _ _ => rfl⟩
            refine drawS_sound (c1_ok hc) (k := l) (r := tok) (hr'.grow he) (fun fr2 h2 a2 w2 s ek => ?_) (noBB_iff h1) h2 h3 h4 fun σ hσ => ?_
            · by_cases hs : Sem P w0 n fn Q t fr2 h2
              · exact ⟨rfl, fr2, h2, Step.trans (MLe.refl m) (he.keep hr.hr.ext) s, hs⟩
              · simp only [l, if_neg hs] at ek; simp at ek
            · obtain ⟨k1, k2⟩ := drawL_mem e σ hσ
              refine ⟨k1, ?_⟩
              have k3 := opsC2_le (R := fun x y : Prop => x → y) (P := P) (loc := F.loc) (M := semM c Q) (fun _ => False.elim) semM_self.toMRel0 (ops := ops) (pre := preS P F.loc ops σ) (k := fun fr h => Sem P w0 n fn Q t fr h) (l := fun fr h => Sem P w0 n fn Q t fr h) (fun _ _ => id) (orderS P F.loc ops σ) [] (maskF (F.mask rid) fr) h k2
              exact opsC_rel semM_opt hl _ _ _ _ k3
          obtain ⟨ex, a', w', ⟨rfl, fr2, h2, ⟨m', s1, s2, s3⟩, ek⟩, harr⟩ := hwp b t cs
          obtain ⟨rs, h', w2, fr3, v, m2, k0, k1, k2, k3, k4, k5, k6, k7⟩ := ek m' E a' w' b cs s2 hf hk
          exact ⟨rs, h', w2, fr3, v, m2, k0, Steps.trans harr k1, k2, k3, fun i hi x hx => k4 i hi x (s1 i x hx), k5, s3.trans k6, k7⟩
  · rename_i hne
    exact goStep_sem (F := F) hmix hc e

theorem goStep3_mono {M : Mach Prop} (hM : MRel (fun x y : Prop => x → y) M M) {fn : Func} {todo : List Item} {k l : List Item → List AV → AHeap → Prop} (hk : ∀ t fr h, k t fr h → l t fr h) (e : goStep3 P F M fn todo fr k h) : goStep3 P F M fn todo fr l h := by
  revert e
  unfold goStep3
  split
  · rename_i rid ops draw t
    cases draw with
    | false => exact opsK2_rel (R := fun x y : Prop => x → y) hM.toMRel0 (fun _ _ => hk _ _ _) _ _ _
    | true =>
      simp only [cond_true, drawK3]
      have one : ∀ pre order, opsC2 P F.loc M ops pre [] order (maskF (F.mask rid) fr) (fun fr h => k t fr h) h → opsC2 P F.loc M ops pre [] order (maskF (F.mask rid) fr) (fun fr h => l t fr h) h := fun pre order => opsC2_rel (R := fun x y : Prop => x → y) hM.toMRel0 (fun _ _ => hk _ _ _) _ _ _ _
      have many : ∀ ls, drawL P F.loc M ops (maskF (F.mask rid) fr) (fun fr h => k t fr h) h ls → drawL P F.loc M ops (maskF (F.mask rid) fr) (fun fr h => l t fr h) h ls := by
        intro ls
        induction ls with
        | nil => exact fun _ => trivial
        | cons σ r ih =>
          have h1 : (bif memOk P F.loc ops σ then opsC2 P F.loc M ops (preS P F.loc ops σ) [] (orderS P F.loc ops σ) (maskF (F.mask rid) fr) (fun fr h => k t fr h) h else False) → (bif memOk P F.loc ops σ then opsC2 P F.loc M ops (preS P F.loc ops σ) [] (orderS P F.loc ops σ) (maskF (F.mask rid) fr) (fun fr h => l t fr h) h else False) := by
            cases memOk P F.loc ops σ with
            | true => exact one _ _
            | false => exact id
          cases r with
          | nil => exact h1
          | cons x r => exact fun e => ⟨h1 e.1, ih e.2⟩
      cases (regionOk P F.loc ops (Region.before ops) (orderA P F.loc ops) && ops.toList.all (freshA (maskF (F.mask rid) fr))) with
      | true => exact one _ _
      | false =>
        simp only [cond_false]
        cases (noBB (maskF (F.mask rid) fr) && ops.toList.all (nlA F.loc) && ops.toList.all (freshA (maskF (F.mask rid) fr)) && !(linA (Region.before ops) ops.size (actsA P F.loc ops)).isEmpty) with
        | true => exact many _
        | false => exact id
  · exact goStep_rel (R := fun x y : Prop => x → y) hM hk

theorem seg_sem3 (hmix : P.follows .mixedOrders = true) {c : CallsP} (hc : CallsOk P w0 c) {n : Nat} {fn : Func} {Q : Post} {leaf : List Item → List AV → AHeap → Prop} (hl : ∀ t fr h, leaf t fr h → Sem P w0 n fn Q t fr h) (cuts : List Nat) :
    ∀ (k : Nat) {t : List Item} {fr : List AV} {h : AHeap}, segK3 P F (semM c Q) fn cuts k t fr leaf h → Sem P w0 n fn Q t fr h := by
  intro k
  induction k with
  | zero => exact fun e => hl _ _ _ e
  | succ k ih =>
    intro t fr h e
    simp only [segK3] at e
    refine goStep3_sem (F := F) hmix hc (goStep3_mono semM_self ?_ e)
    intro t fr h
    split
    · rename_i id ops d t
      intro e
      cases hcu : cuts.contains id with
      | true => rw [hcu] at e; exact (hl _ _ _ e).mask _
      | false => rw [hcu] at e; exact ih e
    · exact ih

/-- The code from a region on, wherever it stands. -/
def todoCode : Nat → Nat → Code → List Item → Option (List Item)
  | 0, _, _, _ => none
  | n + 1, id, c, t => match c with
    | .seq x y => match todoCode n id x (.code y :: t) with
      | some r => some r
      | none => todoCode n id y t
    | .region j ops d => bif Nat.beq j id then some (.code (.region j ops d) :: t) else none
    | .cond _ x y => match todoCode n id x t with
      | some r => some r
      | none => todoCode n id y t
    | .block l x => todoCode n id x (.inBlock l :: t)
    | .loop x => todoCode n id x (.inLoop x :: t)
    | _ => none
def todoOf (fn : Func) (id : Nat) : List Item := (todoCode 100 id (fn.body.getD .skip) []).getD []

end Go.Agm
