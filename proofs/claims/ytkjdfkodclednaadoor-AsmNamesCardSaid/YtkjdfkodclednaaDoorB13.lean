/- An abstract machine for one goroutine: regions with more than one order, beside calls that go on in their callees. No condition. -/
import Derived.Test.YtkjdfkodclednaaDoorB12
namespace Go.Agm

variable {P : Program} {w0 : World} {fr : List AV} {h : AHeap} {F : FT}

theorem goStep3_rel {M N : Mach Prop} (hM : MRel (fun x y : Prop => x → y) M N) {fn : Func} {todo : List Item} {k l : List Item → List AV → AHeap → Prop} (hk : ∀ t fr h, k t fr h → l t fr h) (e : goStep3 P F M fn todo fr k h) : goStep3 P F N fn todo fr l h := by
  revert e
  unfold goStep3
  split
  · rename_i rid ops draw t
    cases draw with
    | false => exact opsK2_rel (R := fun x y : Prop => x → y) hM.toMRel0 (fun _ _ => hk _ _ _) _ _ _
    | true =>
      simp only [cond_true, drawK3]
      have one : ∀ pre order, opsC2 P F.loc M ops pre [] order (maskF (F.mask rid) fr) (fun fr h => k t fr h) h → opsC2 P F.loc N ops pre [] order (maskF (F.mask rid) fr) (fun fr h => l t fr h) h := fun pre order => opsC2_rel (R := fun x y : Prop => x → y) hM.toMRel0 (fun _ _ => hk _ _ _) _ _ _ _
      have many : ∀ ls, drawL P F.loc M ops (maskF (F.mask rid) fr) (fun fr h => k t fr h) h ls → drawL P F.loc N ops (maskF (F.mask rid) fr) (fun fr h => l t fr h) h ls := by
        intro ls
        induction ls with
        | nil => exact fun _ => trivial
        | cons σ r ih =>
          have h1 : (bif memOk P F.loc ops σ then opsC2 P F.loc M ops (preS P F.loc ops σ) [] (orderS P F.loc ops σ) (maskF (F.mask rid) fr) (fun fr h => k t fr h) h else False) → (bif memOk P F.loc ops σ then opsC2 P F.loc N ops (preS P F.loc ops σ) [] (orderS P F.loc ops σ) (maskF (F.mask rid) fr) (fun fr h => l t fr h) h else False) := by
            cases memOk P F.loc ops σ with
            | true => exact one _ _
            | false => exact id
          cases r with
          | nil => exact h1
          | cons x r => exact fun e => ⟨h1 e.1, ih e.2⟩
      cases (regionOk P F.loc ops (Region.before ops) (orderA P F.loc ops) && ops.toList.all (freshA (maskF (F.mask rid) fr))) with
      | true => exact one _ _
      | false =>
        simp only [cond_false]
        cases (noBB (maskF (F.mask rid) fr) && ops.toList.all (nlA F.loc) && ops.toList.all (freshA (maskF (F.mask rid) fr)) && !(linA (Region.before ops) ops.size (actsA P F.loc ops)).isEmpty) with
        | true => exact many _
        | false => exact id
  · exact goStep_rel (R := fun x y : Prop => x → y) hM hk

theorem segK3_rel {M N : Mach Prop} (hM : MRel (fun x y : Prop => x → y) M N) {fn : Func} {cuts : List Nat} : ∀ (n : Nat) {todo : List Item} {fr : List AV} {k l : List Item → List AV → AHeap → Prop} {h : AHeap}
    (_ : ∀ t fr h, k t fr h → l t fr h), segK3 P F M fn cuts n todo fr k h → segK3 P F N fn cuts n todo fr l h := by
  intro n
  induction n with
  | zero => exact fun hk => hk _ _ _
  | succ n ih =>
    intro todo fr k l h hk
    simp only [segK3]
    refine goStep3_rel hM fun t fr h => ?_
    split
    · rename_i id ops d t
      cases cuts.contains id with
      | true => exact hk _ _ _
      | false => exact ih hk
    · exact ih hk

variable {ft : FuncId → FT} {fuel : Nat}
theorem seg_semI3 (hmix : P.follows .mixedOrders = true) {c : CallsP} (hc : CallsOk P w0 c) {n0 : Nat} {fn : Func} {Q : Post} {leaf : List Item → List AV → AHeap → Prop} (hl : ∀ t fr h, leaf t fr h → Sem P w0 n0 fn Q t fr h) (cuts : List Nat)
    (n k : Nat) {t : List Item} {fr : List AV} {h : AHeap} (e : segK3 P F (semI P ft c fuel n Q) fn cuts k t fr leaf h) : Sem P w0 n0 fn Q t fr h := by
  have hc' : CallsOk P w0 (fun g xs h => (runC P ft c fuel n g xs h).map fun r => (True, r)) := by
    intro f args h p rs h' e hp
    rw [Option.map_eq_some_iff] at e
    obtain ⟨r, hr, hr2⟩ := e
    simp only [Prod.mk.injEq] at hr2
    obtain ⟨_, h2⟩ := hr2
    subst h2
    exact runC_ok hmix hc n f args h rs h' hr
  refine seg_sem3 (F := F) hmix hc' hl cuts k (segK3_rel (M := semI P ft c fuel n Q) (N := semM (fun g xs h => (runC P ft c fuel n g xs h).map fun r => (True, r)) Q) ⟨⟨id, fun g xs h k' l hk e => ?_⟩, fun _ _ => id⟩ k (fun _ _ _ => id) e)
  obtain ⟨r, hr, hkr⟩ := inl_run n e
  simp only [semM, hr, Option.map_some]
  exact ⟨trivial, hk _ _ hkr⟩

end Go.Agm
