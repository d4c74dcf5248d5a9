/- An abstract machine for one goroutine: code beside a condition on the world that its steps leave; ranges over maps with numbers as keys. No condition. -/
import Derived.Test.YtkjdfkodclednaaDoorB9
import Derived.Maps.RangeRun
namespace Go.Agm

variable {P : Program} {w0 : World} {m m' m0 : MapN} {E E' : Nat → Prop} {fr : List AV} {h : AHeap} {a : Act} {w : World} {F : FT} {S : Nat → Nat}

theorem HRel.less (hr : HRel P w0 m E' h w) (hE : ∀ B, E B → E' B) (ho : ∀ B, B < w0.heap.size → E B) : HRel P w0 m E h w :=
  ⟨hr.base, ho, fun B hB => hr.ext B (hE B hB), hr.glob, hr.lt, hr.dom, fun b cs rw e => (hr.cells b cs rw e).imp id fun ⟨B, bs, C, el, fz, k1, k2, k3, k4, k5⟩ => ⟨B, bs, C, el, fz, k1, k2, k3, fun hh => ⟨fun hx => (k4 hh).1 (hE B hx), (k4 hh).2⟩, k5⟩,
    fun b es e => let ⟨B, en, cl, k1, k2, k3, k4⟩ := hr.maps b es e; ⟨B, en, cl, k1, k2, fun hx => k3 (hE B hx), k4⟩, hr.inj, hr.ty⟩

theorem Rel.less (hr : Rel P w0 m E' fr h a w) (hE : ∀ B, E B → E' B) (ho : ∀ B, B < w0.heap.size → E B) : Rel P w0 m E fr h a w := by
  refine ⟨hr.hr.less hE ho, hr.fr.defers, hr.fr.len, fun i x e => ?_, hr.fr.dis⟩
  have := hr.fr.slot i x e
  cases x with
  | blk cs =>
    obtain ⟨B, C, el, fz, k1, k2, k3, k4, k5, k6⟩ := this
    exact ⟨B, C, el, fz, k1, k2, k3, k4, fun hx => k5 (hE B hx), k6⟩
  | _ => exact this

abbrev JP := MapN → (Nat → Prop) → World → Prop

/-- Steps leave what is said of some blocks that nobody else names. -/
def Stable (n : Nat) (J : JP) : Prop := ∀ m m' X w w', J m X w → KeptN n m m' → Keep X w w' → J m' X w'

def SemJ (P : Program) (w0 : World) (J : JP) (n : Nat) (fn : Func) (Q : Post) (t : List Item) (fr : List AV) (h : AHeap) : Prop :=
  ∀ m E X a w b cs, Rel P w0 m (fun B => E B ∨ X B) fr h a w → (∀ B, B < w0.heap.size → E B) → (∀ B, X B → ¬ E B) → J m X w → P.funcs[b.fn]? = some fn → b.kind = .normal → EndsN P w0 n m E w b cs (lone (b.at a t) cs w) Q

theorem Sem.toJ {J : JP} {n : Nat} {fn : Func} {Q : Post} {t : List Item} (s : Sem P w0 n fn Q t fr h) : SemJ P w0 J n fn Q t fr h :=
  fun m E _ a w b cs hr ho _ _ hf hk => s m E a w b cs (hr.less (fun _ hB => .inl hB) ho) hf hk

theorem SemJ.imp {J J' : JP} {n : Nat} {fn : Func} {Q : Post} {t : List Item} (hj : ∀ m X w, J m X w → J' m X w) (s : SemJ P w0 J' n fn Q t fr h) : SemJ P w0 J n fn Q t fr h :=
  fun m E X a w b cs hr ho hx h1 hf hk => s m E X a w b cs hr ho hx (hj _ _ _ h1) hf hk

theorem SemJ.mask {J : JP} {n : Nat} {fn : Func} {Q : Post} {t : List Item} (mk : List Bool) (s : SemJ P w0 J n fn Q t (maskF mk fr) h) : SemJ P w0 J n fn Q t fr h :=
  fun m E X a w b cs hr ho hx h1 hf hk => s m E X a w b cs (hr.mask mk) ho hx h1 hf hk

theorem EndsN.kept {n n' : Nat} {b : Frame} {cs : List Frame} {M : Machine} {Q : Post} {w1 : World} (hn : n ≤ n') (hm : KeptN n m m') (hk : Keep E w w1) (he : EndsN P w0 n' m' E w1 b cs M Q) : EndsN P w0 n m E w b cs M Q := by
  obtain ⟨rs, h', w', fr', v, m2, k0, k1, k2, k3, k4, k5, k6, k7⟩ := he
  exact ⟨rs, h', w', fr', v, m2, k0, k1, k2, k3, fun i hi x hx => k4 i (by omega) x (hm i hi x hx), k5, hk.trans k6, k7⟩

open Classical in
/-- Operations in the text's order, to a statement. -/
theorem opsK_stmt {c : CallsP} (hc : CallsOk P w0 c) {Q : Post} {loc : Nat → Bool} {ops : Array Oper} {is : List Nat} {K : List AV → AHeap → Prop} {Q' : Exit → Act → World → Prop} (hr : Rel P w0 m E fr h a w) (e : opsK P loc (semM c Q) ops is fr K h)
    (hq : ∀ fr2 h2 a2 w2, Step P w0 m E w fr2 h2 a2 w2 → K fr2 h2 → Q' .normal a2 w2) : wpOps P ops Q' is a w := by
  let l : List AV → AHeap → Option Res := fun fr h => if K fr h then some tok else none
  have hl : ∀ fr h, K fr h → l fr h = some tok := fun fr h s => by simp only [l, if_pos s]
  have e2 : opsK P loc (optM (c1 c)) ops is fr l h = some tok := opsK_rel semM_opt hl _ _ _ e
  refine opsK_sound (c1_ok hc) is hr (fun fr2 h2 a2 w2 s ek => ?_) e2
  by_cases hs : K fr2 h2
  · exact hq _ _ _ _ s hs
  · simp only [l, if_neg hs] at ek; simp at ek

open Classical in
theorem goStep_semJ {J : JP} (hmix : P.follows .mixedOrders = true) {c : CallsP} (hc : CallsOk P w0 c) {n : Nat} (hJ : Stable n J) {fn : Func} {Q : Post} {todo : List Item}
    (e : goStep P F (semM c Q) fn todo fr (fun t fr h => SemJ P w0 J n fn Q t fr h) h) : SemJ P w0 J n fn Q todo fr h := by
  intro m E X a w b cs hr ho hx hj hf hk
  have fin : ∀ fr2 : Frame, fr2 = { b.at a todo with mode := .returning } → (semM c Q).on (resL P fr h fn.results.toList) (fun rs => (semM c Q).ret rs h) → Steps P (lone (b.at a todo) cs w) (lone fr2 cs w) → EndsN P w0 n m E w b cs (lone (b.at a todo) cs w) Q := by
    intro fr2 h1 h2 h3
    cases h4 : resL P fr h fn.results.toList with
    | none => rw [h4] at h2; exact h2.elim
    | some rs' =>
      rw [h4] at h2
      obtain ⟨v, h6, h7⟩ := results_run hr h4
      subst h1
      exact ⟨rs', h, w, _, v, m, h2, h3, rfl, ⟨rfl, hr.fr.defers, hk, fn, hf, h6⟩, fun _ _ _ h => h, hr.hr.less (fun _ hB => .inl hB) ho, Keep.refl E w, h7⟩
  unfold goStep at e
  split at e
  · exact fin _ rfl e (.one step_end)
  · rename_i cd t
    split at e
    · exact (e m E X a w b cs hr ho hx hj hf hk).head (.one step_skip)
    · exact (e m E X a w b cs hr ho hx hj hf hk).head (.one step_label)
    · exact (e m E X a w b cs hr ho hx hj hf hk).head (.one step_seq)
    · rename_i id ops draw
      let l : List AV → AHeap → Option Res := fun fr h => if SemJ P w0 J n fn Q t fr h then some tok else none
      have hl : ∀ fr h, SemJ P w0 J n fn Q t fr h → l fr h = some tok := fun fr h s => by simp only [l, if_pos s]
      have e2 : (bif draw then drawK P F.loc (optM (c1 c)) ops (maskF (F.mask id) fr) l h else opsK P F.loc (optM (c1 c)) ops (List.range ops.size) (maskF (F.mask id) fr) l h) = some tok := by
        cases draw with
        | true => exact drawK_rel semM_opt hl e
        | false => exact opsK_rel semM_opt hl _ _ _ e
      have hwp := region_sound (F := F) (id := id) (ops := ops) (draw := draw) (k := l) (r := tok) (Q := fun ex a' w' => ex = .normal ∧ ∃ fr2 h2, Step P w0 m (fun B => E B ∨ X B) w fr2 h2 a' w' ∧ SemJ P w0 J n fn Q t fr2 h2) hmix (c1_ok hc) hr
        (fun fr2 h2 a2 w2 s ek => by
          by_cases hs : SemJ P w0 J n fn Q t fr2 h2
          · exact ⟨rfl, fr2, h2, s, hs⟩
          · simp only [l, if_neg hs] at ek; simp at ek) e2
      obtain ⟨ex, a', w', ⟨rfl, fr2, h2, ⟨m', s1, s2, s3⟩, ek⟩, harr⟩ := hwp b t cs
      have := ek m' E X a' w' b cs s2 ho hx (hJ m m' X w w' hj (fun i _ x hx => s1 i x hx) (s3.sub fun _ hB => .inr hB)) hf hk
      exact (this.head harr).kept (Nat.le_refl _) (fun i _ x hx => s1 i x hx) (s3.sub fun _ hB => .inl hB)
    · rename_i cnd x y
      split at e
      · rename_i bb hcv
        have hv := hr.eval hcv
        generalize hev : a.eval cnd = v' at hv
        cases hv
        have key : ∀ fr1, fr1 = fr → (bif bb then SemJ P w0 J n fn Q (.code x :: t) fr1 h else SemJ P w0 J n fn Q (.code y :: t) fr1 h) → EndsN P w0 n m E w b cs (lone (b.at a (.code (.cond cnd x y) :: t)) cs w) Q := by
          intro fr1 h1 e1
          subst h1
          cases bb with
          | true => exact (e1 m E X a w b cs hr ho hx hj hf hk).head (.one (step_cond hev))
          | false => exact (e1 m E X a w b cs hr ho hx hj hf hk).head (.one (step_cond hev))
        split at e
        · rename_i s
          have hset := set_same (getF_some (fr := fr) (x := .v (.bool bb)) hcv (by simp))
          refine key _ hset ?_
          cases bb with
          | true => exact e
          | false => exact e
        · exact key fr rfl e
      · exact e.elim
    · exact (e m E X a w b cs hr ho hx hj hf hk).head (.one step_block)
    · exact (e m E X a w b cs hr ho hx hj hf hk).head (.one step_loop)
    · split at e
      · rename_i t' hx'
        exact (e m E X a w b cs hr ho hx hj hf hk).head (.one (step_exit hx'))
      · exact e.elim
    · exact fin _ rfl e (.one step_ret)
    · exact e.elim
  · exact (e m E X a w b cs hr ho hx hj hf hk).head (.one step_inBlock)
  · exact (e m E X a w b cs hr ho hx hj hf hk).head (.one step_inLoop)
  · exact e.elim

theorem seg_semJ {J : JP} (hmix : P.follows .mixedOrders = true) {c : CallsP} (hc : CallsOk P w0 c) {n : Nat} (hJ : Stable n J) {fn : Func} {Q : Post} {leaf : List Item → List AV → AHeap → Prop} (hl : ∀ t fr h, leaf t fr h → SemJ P w0 J n fn Q t fr h) (cuts : List Nat) :
    ∀ (k : Nat) {t : List Item} {fr : List AV} {h : AHeap}, segK P F (semM c Q) fn cuts k t fr leaf h → SemJ P w0 J n fn Q t fr h := by
  intro k
  induction k with
  | zero => exact fun e => hl _ _ _ e
  | succ k ih =>
    intro t fr h e
    simp only [segK] at e
    refine goStep_semJ (F := F) hmix hc hJ (goStep_rel (R := fun x y : Prop => x → y) (M := semM c Q) (N := semM c Q) semM_self ?_ e)
    intro t fr h
    split
    · rename_i id ops d t
      intro e
      cases hcu : cuts.contains id with
      | true => rw [hcu] at e; exact (hl _ _ _ e).mask _
      | false => rw [hcu] at e; exact ih e
    · exact ih

theorem seg_semJ2 {J : JP} (hmix : P.follows .mixedOrders = true) {c : CallsP} (hc : CallsOk P w0 c) {n : Nat} (hJ : Stable n J) {fn : Func} {Q : Post} {leaf : List Item → List AV → AHeap → Prop} (hl : ∀ t fr h, leaf t fr h → SemJ P w0 J n fn Q t fr h) (cuts : List Nat)
    (k : Nat) {t : List Item} (e : segK2 P F (semM c Q) fn cuts k t fr leaf h) : SemJ P w0 J n fn Q t fr h :=
  seg_semJ (F := F) hmix hc hJ hl cuts k (segK2_le (R := fun x y : Prop => x → y) (fun _ => False.elim) semM_self (fun _ _ _ => id) k e)

theorem canonT_semJ {J : JP} {fn : Func} {Q : Post} {nt : Nt} (hJ : Stable (P.globals.size + nt.flags.length) J) {t : List Item} (e : canonT P.globals.size nt (SemJ P w0 J (P.globals.size + nt.flags.length) fn Q t) fr h) : SemJ P w0 J (P.globals.size + nt.flags.length) fn Q t fr h := by
  intro m E X a w b cs hr ho hx hj hf hk
  obtain ⟨l, H, s, hr3, hkn⟩ := canonT_rel hr e
  exact (s _ E X a w b cs hr3 ho hx (hJ m _ X w w hj hkn (Keep.refl X w)) hf hk).kept (Nat.le_refl _) hkn (Keep.refl E w)

/-! A range over a map with numbers as keys. -/

/-- An iterator that a name names, what is left. -/
def It (kd : IntKind) (n1 : Nat) (L : List Int) : JP := fun m X w => ∃ (r bm : Nat) (seen : Array Nat) (es : Array MapEntry) (cl : Nat), m n1 = some (r, 0) ∧ X r ∧ X bm ∧ r ≠ bm ∧ w.heap[r]? = some (.mapIter (some bm) cl seen cl) ∧ w.heap[bm]? = some (.map es cl) ∧
  (∀ x ∈ es.toList, x.born < cl) ∧ (es.toList.map (·.born)).Nodup ∧ (∀ x ∈ es.toList, one x.val = true) ∧ ((leftOf es seen).toList.map (·.key)).Perm (L.map (.int kd))
/-- An iterator that has handed out a number. -/
def ItE (kd : IntKind) (n1 : Nat) (x : Int) (L : List Int) : JP := fun m X w => ∃ (r bm : Nat) (seen : Array Nat) (es : Array MapEntry) (cl : Nat) (e : MapEntry), m n1 = some (r, 0) ∧ X r ∧ X bm ∧ r ≠ bm ∧ w.heap[r]? = some (.mapIter (some bm) cl (seen.push e.born) cl) ∧ w.heap[bm]? = some (.map es cl) ∧
  (∀ x ∈ es.toList, x.born < cl) ∧ (es.toList.map (·.born)).Nodup ∧ (∀ x ∈ es.toList, one x.val = true) ∧ ((leftOf es (seen.push e.born)).toList.map (·.key)).Perm (L.map (.int kd)) ∧ e ∈ es.toList ∧ e.key = .int kd x

theorem It.stable {kd : IntKind} {n1 n : Nat} {L : List Int} (hn : n1 < n) : Stable n (It kd n1 L) := by
  rintro m m' X w w' ⟨r, bm, seen, es, cl, h1, h2, h3, h4, h5, h6, h7⟩ hm hk
  exact ⟨r, bm, seen, es, cl, hm _ hn _ h1, h2, h3, h4, by rw [hk.block r h2]; exact h5, by rw [hk.block bm h3]; exact h6, h7⟩
theorem ItE.stable {kd : IntKind} {n1 n : Nat} {x : Int} {L : List Int} (hn : n1 < n) : Stable n (ItE kd n1 x L) := by
  rintro m m' X w w' ⟨r, bm, seen, es, cl, e, h1, h2, h3, h4, h5, h6, h7⟩ hm hk
  exact ⟨r, bm, seen, es, cl, e, hm _ hn _ h1, h2, h3, h4, by rw [hk.block r h2]; exact h5, by rw [hk.block bm h3]; exact h6, h7⟩
theorem ItE.it {kd : IntKind} {n1 : Nat} {x : Int} {L : List Int} {X : Nat → Prop} (h : ItE kd n1 x L m X w) : It kd n1 L m X w := by
  obtain ⟨r, bm, seen, es, cl, e, h1, h2, h3, h4, h5, h6, h7, h8, h9, h10, _⟩ := h
  exact ⟨r, bm, _, es, cl, h1, h2, h3, h4, h5, h6, h7, h8, h9, h10⟩

theorem perm_filter : ∀ {l : List MapEntry} {e : MapEntry}, (l.map (·.born)).Nodup → e ∈ l → l.Perm (e :: l.filter fun x => x.born != e.born)
  | [], e, _, h => by simp at h
  | x :: l, e, hn, h => by
    simp only [List.map_cons, List.nodup_cons] at hn
    by_cases hx : x.born = e.born
    · have hxe : x = e := by
        rcases List.mem_cons.1 h with h | h
        · exact h.symm
        · exact absurd (hx ▸ List.mem_map_of_mem (f := (·.born)) h) hn.1
      subst hxe
      have : (x :: l).filter (fun y => y.born != x.born) = l := by
        rw [List.filter_cons_of_neg (by simp)]
        refine List.filter_eq_self.2 fun y hy => ?_
        simp only [bne_iff_ne, ne_eq]
        intro hh
        exact hn.1 (hh ▸ List.mem_map_of_mem (f := (·.born)) hy)
      rw [this]
    · rcases List.mem_cons.1 h with rfl | h
      · exact absurd rfl hx
      · rw [List.filter_cons_of_pos (by simpa using hx)]
        exact ((perm_filter hn.2 h).cons x).trans (List.Perm.swap _ _ _)

theorem left_perm {es : Array MapEntry} {seen : Array Nat} {e : MapEntry} (hn : (es.toList.map (·.born)).Nodup) (he : e ∈ (leftOf es seen).toList) : (leftOf es seen).toList.Perm (e :: (leftOf es (seen.push e.born)).toList) := by
  have h1 : ((leftOf es seen).toList.map (·.born)).Nodup := by
    unfold leftOf
    rw [Array.toList_filter]
    exact hn.sublist (List.filter_sublist.map _)
  refine (perm_filter h1 he).trans (List.Perm.of_eq ?_)
  congr 1
  unfold leftOf
  simp only [Array.toList_filter, List.filter_filter]
  refine List.filter_congr fun x _ => ?_
  rw [contains_push]
  cases seen.contains x.born <;> cases hh : (x.born == e.born) <;> simp_all

theorem keep_ext {X : Nat → Prop} {r : Nat} {o : Obj} {w1 : World} (h1 : Ext w w1) (hh : w1.heap = w.heap) (hX : ¬ X r) (ho : szB (ChangeMaps.setBlock w1 r o) r = szB w1 r) : Keep X w (ChangeMaps.setBlock w1 r o) := by
  refine ⟨h1.os, h1.tape, h1.output, ?_, fun B hB => ?_, fun B => ?_⟩
  · simp [ChangeMaps.setBlock, hh]
  · have hne : B ≠ r := fun e => hX (e ▸ hB)
    simp only [ChangeMaps.setBlock, hh]
    rw [Array.getElem?_setIfInBounds_ne (Ne.symm hne)]
  · by_cases hB : B = r
    · subst hB; rw [ho]; exact h1.len B
    · unfold szB
      simp only [ChangeMaps.setBlock, hh]
      rw [Array.getElem?_setIfInBounds_ne (Ne.symm hB)]
      exact Nat.le_refl _

/-- A block that nobody names is turned. -/
theorem Rel.aside (hr : Rel P w0 m E fr h a w) {r : Nat} {w1 : World} {o : Obj} (h1 : Ext w w1) (hh : w1.heap = w.heap) (hE : E r) (hge : w0.heap.size ≤ r) (hty : ∀ C el fz, w.heap[r]? ≠ some (.cells C el fz)) (hno : szB w r = 0) (hsz : szB (ChangeMaps.setBlock w1 r o) r = 0) : Rel P w0 m E fr h a (ChangeMaps.setBlock w1 r o) := by
  have hz1 : szB w1 r = 0 := by unfold szB; rw [hh]; exact hno
  have hkeep : ∀ X : Nat → Prop, ¬ X r → Keep X w (ChangeMaps.setBlock w1 r o) := fun X hX => keep_ext h1 hh hX (by rw [hsz, hz1])
  have hlen : SLe (szB w) (szB (ChangeMaps.setBlock w1 r o)) := (hkeep (fun _ => False) id).len
  have hblk : ∀ B, B ≠ r → (ChangeMaps.setBlock w1 r o).heap[B]? = w.heap[B]? := fun B hB => (hkeep (fun i => i ≠ r) (by simp)).block B hB
  have hsize : (ChangeMaps.setBlock w1 r o).heap.size = w.heap.size := by simp [ChangeMaps.setBlock, hh]
  refine ⟨⟨?_, hr.hr.out, fun B hB => by rw [hsize]; exact hr.hr.ext B hB, hr.hr.glob, fun b B bs e => by rw [hsize]; exact hr.hr.lt b B bs e, hr.hr.dom, ?_, ?_, hr.hr.inj, ?_⟩, hr.fr.defers, hr.fr.len, ?_, hr.fr.dis⟩
  · exact (hkeep (fun B => B < w0.heap.size) (by omega)).below hr.hr.base fun _ h => h
  · intro b cs rw e
    rcases hr.hr.cells b cs rw e with hh | ⟨B, bs, C, el, fz, k1, k2, k3, k4, k5⟩
    · exact .inl hh
    · have hB : B ≠ r := by
        rintro rfl
        cases rw with
        | true => exact (k4 rfl).1 hE
        | false => have := k5 rfl; omega
      exact .inr ⟨B, bs, C, el, fz, k1, by rw [hblk B hB]; exact k2, k3.mono (MLe.refl m) hlen, k4, k5⟩
  · intro b es e
    obtain ⟨B, en, cl, k1, k2, k3, k4, k5, k6⟩ := hr.hr.maps b es e
    have hB : B ≠ r := by rintro rfl; exact k3 hE
    exact ⟨B, en, cl, k1, by rw [hblk B hB]; exact k2, k3, k4.mono (MLe.refl m) hlen, k5.mono (MLe.refl m) hlen, k6⟩
  · intro b t e
    obtain ⟨B, C, fz, k1, k2⟩ := hr.hr.ty b t e
    by_cases hB : B = r
    · subst hB
      exact absurd k2 (hty C t fz)
    · exact ⟨B, C, fz, k1, by rw [hblk B hB]; exact k2⟩
  · intro i x e
    have := hr.fr.slot i x e
    cases x with
    | v x => exact V.mono (MLe.refl m) hlen this
    | tup xs => obtain ⟨vs, h1, h2⟩ := this; exact ⟨vs, h1, h2.mono (MLe.refl m) hlen⟩
    | blk cs =>
      obtain ⟨B, C, el, fz, k1, k2, k3, k4, k5, k6⟩ := this
      have hB : B ≠ r := by rintro rfl; exact k5 hE
      exact ⟨B, C, el, fz, k1, by rw [hblk B hB]; exact k2, k3.mono (MLe.refl m) hlen, k4, k5, k6⟩
    | ref s off => exact this
    | dead => trivial

theorem szB_iter {r : Nat} {b : Option Nat} {s : Nat} {q : Array Nat} {c : Nat} (hr : w.heap[r]? = some (.mapIter b s q c)) : szB w r = 0 := by unfold szB; rw [hr]

theorem range_two : List.range 2 = [0, 1] := rfl
theorem range_three : List.range 3 = [0, 1, 2] := rfl

/-- The step of a range: nothing is left, or some number that is left comes. -/
theorem next_semJ {kd : IntKind} {n1 n : Nat} {L : List Int} {fn : Func} {Q : Post} {t : List Item} {id : Nat} {ops : Array Oper} {o0 o1 : Oper} {s d : Nat} {mk : List Bool} {c : CallsP} (hc : CallsOk P w0 c)
    (hops : ops = #[o0, o1]) (h0 : o0.op = .next (.tmp s) false) (hg : o0.guard = none) (hd : o0.dst = some d) (hs : getF (maskF mk fr) s = .v (.pointer (some ⟨n1, 0, none⟩))) (hn : n1 < n)
    (k0 : L = [] → opsK P F.loc (semM c Q) ops [1] (putF (maskF mk fr) (some d) (.tup [.bool false])) (fun fr h => SemJ P w0 (It kd n1 L) n fn Q t fr h) h)
    (k1 : ∀ x L', L.Perm (x :: L') → opsK P F.loc (semM c Q) ops [1] (putF (maskF mk fr) (some d) (.tup [.bool true, .int kd x, .chan none])) (fun fr h => SemJ P w0 (ItE kd n1 x L') n fn Q t fr h) h) :
    SemJ P w0 (It kd n1 L) n fn Q (.code (.region id ops false) :: t) fr h := by
  intro m E X a w b cs hr0 ho hx hj hf hk
  have hr := hr0.mask mk
  obtain ⟨r, bm, seen, es, cl, j1, j2, j3, j4, j5, j6, j7, j8, j9, j10⟩ := hj
  have hge : w0.heap.size ≤ r := by
    rcases Nat.lt_or_ge r w0.heap.size with hh | hh
    · exact absurd (ho r hh) (hx r j2)
    · exact hh
  have hev : a.eval (.tmp s) = .pointer (some ⟨r, 0, none⟩) := by
    have := hr.fr.v hs
    show a.tmps.getD s undef = _
    generalize a.tmps.getD s undef = z at this
    cases this with
    | ptr hh => rw [j1] at hh; simp only [Option.some.injEq, Prod.mk.injEq] at hh; obtain ⟨rfl, rfl⟩ := hh; rfl
  have ho0 : ops[0]? = some o0 := by rw [hops]; rfl
  have hwp : ∃ J', wpOps P ops (fun ex a' w' => ex = .normal ∧ ∃ m1 w1 fr2 h2, MLe m m1 ∧ Keep E w w1 ∧ Keep E w1 w' ∧ Rel P w0 m1 (fun B => E B ∨ X B) fr2 h2 a' w' ∧ J' m1 X w' ∧ SemJ P w0 J' n fn Q t fr2 h2) (List.range ops.size) a w := by
    have hrg : List.range ops.size = [0, 1] := by rw [hops]; rfl
    rw [hrg]
    rcases run_next_at (P := P) w o0.type r bm cl cl seen es cl j5 j6 j7 (Nat.le_refl _) with ⟨hz, hrun⟩ | ⟨e, he, w1, hw1, hrun⟩
    · have hL : L = [] := by
        have := j10.length_eq
        simp only [List.length_map, Array.length_toList, hz] at this
        exact List.length_eq_zero_iff.1 this.symm
      refine ⟨It kd n1 L, wpOps_run ho0 (by simp [Region.wanted, hg]) (wp_value (v := .tuple #[.bool false]) (w' := w) ?_ ?_)⟩
      · simp only [execOp, h0, hev, Sem.run_bind, hrun, Result.andThen_ok]; rfl
      · rw [hd]
        have hr1 := hr.put (d := some d) (x := .tup [.bool false]) (v := .tuple #[.bool false]) ⟨_, rfl, .cons (.bool _) .nil⟩ (by simp)
        refine opsK_stmt hc hr1 (k0 hL) ?_
        rintro fr2 h2 a' w' ⟨m1, s1, s2, s3⟩ s4
        exact ⟨rfl, m1, w, fr2, h2, s1, Keep.refl E w, s3.sub fun _ hB => .inl hB, s2, (It.stable hn) m m1 X w w' ⟨r, bm, seen, es, cl, j1, j2, j3, j4, j5, j6, j7, j8, j9, j10⟩ (fun i _ x hx => s1 i x hx) (s3.sub fun _ hB => .inr hB), s4⟩
    · have hmem := mem_left he
      have hperm := left_perm j8 he
      have hkey : e.key ∈ L.map (.int kd) := (j10.mem_iff).1 (List.mem_map_of_mem he)
      obtain ⟨x, hxL, hxe⟩ := List.mem_map.1 hkey
      have hLp : L.Perm (x :: L.erase x) := List.perm_cons_erase hxL
      have hrest : ((leftOf es (seen.push e.born)).toList.map (·.key)).Perm ((L.erase x).map (.int kd)) := by
        have p1 : ((leftOf es seen).toList.map (·.key)).Perm (e.key :: (leftOf es (seen.push e.born)).toList.map (·.key)) := by simpa using hperm.map (·.key)
        have p2 : (L.map (Value.int kd)).Perm (.int kd x :: (L.erase x).map (.int kd)) := by simpa using hLp.map (Value.int kd)
        have p3 := (p1.symm.trans j10).trans p2
        rw [← hxe] at p3
        exact List.Perm.cons_inv p3
      have hExt : Ext w w1 ∧ w1.heap = w.heap := by rcases hw1 with rfl | rfl
                                                    · exact ⟨Ext.refl _, rfl⟩
                                                    · exact ⟨ext_drew w, rfl⟩
      have hz0 := szB_iter j5
      have hlt := some_lt j5
      have hset : (ChangeMaps.setBlock w1 r (.mapIter (some bm) cl (seen.push e.born) cl)).heap[r]? = some (.mapIter (some bm) cl (seen.push e.born) cl) := by
        simp only [ChangeMaps.setBlock, hExt.2]
        rw [Array.getElem?_setIfInBounds_self_of_lt hlt]
      have hset2 : (ChangeMaps.setBlock w1 r (.mapIter (some bm) cl (seen.push e.born) cl)).heap[bm]? = some (.map es cl) := by
        simp only [ChangeMaps.setBlock, hExt.2]
        rw [Array.getElem?_setIfInBounds_ne j4, j6]
      have hr1 := hr.aside (o := .mapIter (some bm) cl (seen.push e.born) cl) hExt.1 hExt.2 (.inr j2) hge (fun C el fz e => by rw [j5] at e; simp at e) hz0 (szB_iter hset)
      have hkE : Keep E w (ChangeMaps.setBlock w1 r (.mapIter (some bm) cl (seen.push e.born) cl)) := keep_ext hExt.1 hExt.2 (hx r j2) (by rw [szB_iter hset]; unfold szB; rw [hExt.2, j5])
      refine ⟨ItE kd n1 x (L.erase x), wpOps_run ho0 (by simp [Region.wanted, hg]) (wp_value (v := .tuple #[.bool true, e.key, e.val]) (w' := ChangeMaps.setBlock w1 r (.mapIter (some bm) cl (seen.push e.born) cl)) ?_ ?_)⟩
      · simp only [execOp, h0, hev, Sem.run_bind, hrun, Result.andThen_ok]; rfl
      · rw [hd]
        have hr2 := hr1.put (d := some d) (x := .tup [.bool true, .int kd x, .chan none]) (v := .tuple #[.bool true, e.key, e.val]) ⟨_, rfl, .cons (.bool _) (.cons (by rw [← hxe]; exact .int _ _) (.cons (.junk (j9 e hmem.1)) .nil))⟩ (by simp)
        refine opsK_stmt hc hr2 (k1 x _ hLp) ?_
        rintro fr2 h2 a' w' ⟨m1, s1, s2, s3⟩ s4
        exact ⟨rfl, m1, _, fr2, h2, s1, hkE, s3.sub fun _ hB => .inl hB, s2, (ItE.stable hn) m m1 X _ w' ⟨r, bm, seen, es, cl, e, j1, j2, j3, j4, hset, hset2, j7, j8, j9, hrest, hmem.1, hxe.symm⟩ (fun i _ x hx => s1 i x hx) (s3.sub fun _ hB => .inr hB), s4⟩
  obtain ⟨J', hwp⟩ := hwp
  obtain ⟨ex, a', w', ⟨rfl, m1, w1, fr2, h2, q1, q2, q3, q4, q5, q6⟩, harr⟩ := wp_region (id := id) hwp b t cs
  exact ((q6 m1 E X a' w' b cs q4 ho hx q5 hf hk).head harr).kept (Nat.le_refl _) (fun i _ x hx => q1 i x hx) (q2.trans q3)

/-- The number that a range's step has handed out. -/
theorem entry_semJ {kd : IntKind} {n1 n : Nat} {x : Int} {L : List Int} {fn : Func} {Q : Post} {t : List Item} {id : Nat} {ops : Array Oper} {o0 o1 o2 : Oper} {s d : Nat} {mk : List Bool} {c : CallsP} (hc : CallsOk P w0 c)
    (hops : ops = #[o0, o1, o2]) (h0 : o0.op = .entry (.tmp s)) (hg : o0.guard = none) (hd : o0.dst = some d) (hs : getF (maskF mk fr) s = .v (.pointer (some ⟨n1, 0, none⟩))) (hn : n1 < n)
    (k1 : opsK P F.loc (semM c Q) ops [1, 2] (putF (maskF mk fr) (some d) (.tup [.int kd x, .chan none])) (fun fr h => SemJ P w0 (It kd n1 L) n fn Q t fr h) h) :
    SemJ P w0 (ItE kd n1 x L) n fn Q (.code (.region id ops false) :: t) fr h := by
  intro m E X a w b cs hr0 ho hx hj hf hk
  have hr := hr0.mask mk
  have hit := ItE.it hj
  obtain ⟨r, bm, seen, es, cl, e, j1, j2, j3, j4, j5, j6, j7, j8, j9, j10, j11, j12⟩ := hj
  have hev : a.eval (.tmp s) = .pointer (some ⟨r, 0, none⟩) := by
    have := hr.fr.v hs
    show a.tmps.getD s undef = _
    generalize a.tmps.getD s undef = z at this
    cases this with
    | ptr hh => rw [j1] at hh; simp only [Option.some.injEq, Prod.mk.injEq] at hh; obtain ⟨rfl, rfl⟩ := hh; rfl
  have ho0 : ops[0]? = some o0 := by rw [hops]; rfl
  have hwp : wpOps P ops (fun ex a' w' => ex = .normal ∧ ∃ fr2 h2, Step P w0 m (fun B => E B ∨ X B) w fr2 h2 a' w' ∧ SemJ P w0 (It kd n1 L) n fn Q t fr2 h2) (List.range ops.size) a w := by
    have hrg : List.range ops.size = [0, 1, 2] := by rw [hops]; rfl
    rw [hrg]
    have hrun := run_entry_at (P := P) w r bm cl seen es cl e j5 j6 j11 j8
    refine wpOps_run ho0 (by simp [Region.wanted, hg]) (wp_value (v := .tuple #[e.key, e.val]) (w' := w) ?_ ?_)
    · simp only [execOp, h0, hev, Sem.run_bind, hrun, Result.andThen_ok]; rfl
    · rw [hd]
      exact opsK_stmt hc (hr.put (d := some d) (x := .tup [.int kd x, .chan none]) (v := .tuple #[e.key, e.val]) ⟨_, rfl, .cons (by rw [j12]; exact .int _ _) (.cons (.junk (j9 e j11)) .nil)⟩ (by simp)) k1 fun fr2 h2 _ _ st sk => ⟨rfl, fr2, h2, st, sk⟩
  obtain ⟨ex, a', w', ⟨rfl, fr2, h2, ⟨m1, s1, s2, s3⟩, ek⟩, harr⟩ := wp_region (id := id) hwp b t cs
  have hst := (It.stable hn) m m1 X w w' hit (fun i _ x hx => s1 i x hx) (s3.sub fun _ hB => .inr hB)
  exact ((ek m1 E X a' w' b cs s2 ho hx hst hf hk).head harr).kept (Nat.le_refl _) (fun i _ x hx => s1 i x hx) (s3.sub fun _ hB => .inl hB)

/-- No slot owns a block. -/
def noBlk (fr : List AV) : Bool := fr.all fun x => match x with
  | .blk _ => false
  | _ => true

/-- The start of a range over a map that nobody looks at any more. -/
theorem range_semJ {kd : IntKind} {n0 n n' : Nat} {L : List Int} {fn : Func} {Q : Post} {t : List Item} {id : Nat} {ops : Array Oper} {o0 o1 : Oper} {s d e1 : Nat} {ty kt et : TypeId} {es : List (Value × Value)} (mk : List Bool)
    (hops : ops = #[o0, o1]) (h0 : o0.op = .move (.tmp s)) (hg0 : o0.guard = none) (hd0 : o0.dst = some d) (h1 : o1.op = .range ty (.tmp d)) (hg1 : o1.guard = none) (hd1 : o1.dst = some e1) (hty : P.underlying ty = some (.map kt et))
    (hs : getF (maskF mk fr) s = .v (.map (some n0))) (hds : Nat.blt d fr.length = true) (hm : h.get n0 = some (.map es)) (hkeys : es.map (·.1) = L.map (.int kd)) (hvals : ∀ y ∈ es.map (·.2), one y = true) (hb : noBlk (maskF mk fr) = true) (hn : n ≤ n')
    (k : SemJ P w0 (It kd h.next L) n' fn Q t (putF (putF (maskF mk fr) (some d) .dead) (some e1) (.v (.pointer (some ⟨h.next, 0, none⟩)))) { next := h.next + 1, tr := (h.del n0).tr }) :
    Sem P w0 n fn Q (.code (.region id ops false) :: t) fr h := by
  intro m E a w b cs hr0 hf hk
  have hr := hr0.mask mk
  obtain ⟨B, en, cl, b1, b2, b3, b4, b5, b6⟩ := hr.hr.maps n0 es hm
  have hBlt := some_lt b2
  have ho0 : ops[0]? = some o0 := by rw [hops]; rfl
  have ho1 : ops[1]? = some o1 := by rw [hops]; rfl
  have hev : a.eval (.tmp s) = .map (some B) := by
    have := hr.fr.v hs
    show a.tmps.getD s undef = _
    generalize a.tmps.getD s undef = z at this
    cases this with
    | map hh => rw [b1] at hh; simp only [Option.some.injEq, Prod.mk.injEq, and_true] at hh; subst hh; rfl
  have hdl : d < a.tmps.size := by
    have h2 := hr0.fr.len
    have h3 : d < fr.length := Nat.le_of_ble_eq_true hds
    omega
  have hev2 : (a.put (some d) (.map (some B))).eval (.tmp d) = .map (some B) := by
    show (a.put (some d) (.map (some B))).tmps.getD d undef = _
    rw [put_getD, if_pos ⟨rfl, hdl⟩]
  let w2 : World := w.alloc (.mapIter (some B) cl #[] cl)
  have hExt : Ext w w2 := ext_push w _
  have hnewB : w2.heap[w.heap.size]? = some (.mapIter (some B) cl #[] cl) := heap_alloc_new w _
  have hoB : w2.heap[B]? = some (.map en cl) := by rw [hExt.block B hBlt]; exact b2
  have hwp : wpOps P ops (fun ex a' w' => ex = .normal ∧ a' = (a.put (some d) (.map (some B))).put (some e1) (.pointer (some ⟨w.heap.size, 0, none⟩)) ∧ w' = w2) (List.range ops.size) a w := by
    have hrg : List.range ops.size = [0, 1] := by rw [hops]; rfl
    rw [hrg]
    refine wpOps_run ho0 (by simp [Region.wanted, hg0]) (wp_value (v := .map (some B)) (w' := w) ?_ ?_)
    · simp only [execOp, h0, hev]; rfl
    · rw [hd0]
      refine wpOps_run ho1 (by simp [Region.wanted, hg1]) (wp_value (v := .pointer (some ⟨w.heap.size, 0, none⟩)) (w' := w2) ?_ ?_)
      · simp only [execOp, h1, hev2, Sem.run_bind, run_range_map w ty kt et B en cl hty b2, Result.andThen_ok]; rfl
      · rw [hd1]; exact ⟨rfl, rfl, rfl⟩
  obtain ⟨ex, a', w', ⟨rfl, rfl, rfl⟩, harr⟩ := wp_region (id := id) hwp b t cs
  have hfresh := hr.hr.fresh
  have hle : MLe m (mnew m h.next w.heap.size) := mnew_le hfresh
  have hnb : ∀ (i : Nat) (cs : List Value), (maskF mk fr)[i]? ≠ some (.blk cs) := by
    intro i cs hi
    unfold noBlk at hb
    rw [List.all_eq_true] at hb
    have := hb _ (List.mem_of_getElem? hi)
    simp at this
  let X : Nat → Prop := fun i => i = w.heap.size ∨ i = B
  let h2 : AHeap := { next := h.next + 1, tr := (h.del n0).tr }
  have hget : ∀ i, h2.get i = if i = n0 then none else h.get i := fun i => AHeap.get_del h n0 i
  have hH : HRel P w0 (mnew m h.next w.heap.size) (fun i => E i ∨ X i) h2 w2 := by
    have hr' := hr.hr.grow hExt
    refine ⟨hr'.base, fun i hi => .inl (hr.hr.out i hi), ?_, fun g hg => hle _ _ (hr.hr.glob g hg), ?_, ?_, ?_, ?_, ?_, fun b t e => by
      have e : (b, t) ∈ ([] : List (Nat × TypeId)) := e
      simp at e⟩
    · rintro i (hi | rfl | rfl)
      · exact hr'.ext i hi
      · exact some_lt hnewB
      · exact some_lt hoB
    · intro i Bi bs e
      simp only [mnew] at e
      split at e
      · rename_i hi
        simp only [Option.some.injEq, Prod.mk.injEq] at e
        obtain ⟨rfl, rfl⟩ := e
        exact ⟨some_lt hnewB, by rw [hi]; exact Nat.lt_succ_self _⟩
      · have := hr'.lt i Bi bs e
        exact ⟨this.1, Nat.lt_succ_of_lt this.2⟩
    · intro i x e
      rw [hget] at e
      split at e
      · simp at e
      · exact Nat.lt_succ_of_lt (hr.hr.dom i x e)
    · intro i cs rw e
      rw [hget] at e
      split at e
      · simp at e
      · rcases hr'.cells i cs rw e with ⟨g1, g2, g3⟩ | ⟨Bi, bs, C, el, fz, k1, k2, k3, k4, k5⟩
        · refine .inl ⟨g1, g2, ?_⟩
          have := hr.hr.dom i _ e
          simp only [mnew, if_neg (Nat.ne_of_lt this)]; exact g3
        · refine .inr ⟨Bi, bs, C, el, fz, hle _ _ k1, k2, k3.mono hle (fun _ => Nat.le_refl _), fun hh => ⟨?_, (k4 hh).2⟩, k5⟩
          rintro (hx | rfl | rfl)
          · exact (k4 hh).1 hx
          · rw [hnewB] at k2; simp at k2
          · rw [hoB] at k2; simp at k2
    · intro i es' e
      rw [hget] at e
      split at e
      · simp at e
      · rename_i hi
        obtain ⟨Bi, en', cl', k1, k2, k3, k4, k5, k6⟩ := hr'.maps i es' e
        refine ⟨Bi, en', cl', hle _ _ k1, k2, ?_, k4.mono hle (fun _ => Nat.le_refl _), k5.mono hle (fun _ => Nat.le_refl _), k6⟩
        rintro (hx | rfl | rfl)
        · exact k3 hx
        · rw [hnewB] at k2; simp at k2
        · exact hi (hr.hr.inj i n0 _ _ _ _ _ e hm k1 b1 rfl)
    · intro i j x x' Bi bs bs' e e' nn nn' hown
      have hi : i ≠ h.next := by
        rintro rfl
        rw [hget] at e
        split at e
        · simp at e
        · have := hr.hr.dom _ _ e; omega
      have hj : j ≠ h.next := by
        rintro rfl
        rw [hget] at e'
        split at e'
        · simp at e'
        · have := hr.hr.dom _ _ e'; omega
      simp only [mnew, if_neg hi] at nn
      simp only [mnew, if_neg hj] at nn'
      rw [hget] at e e'
      split at e
      · simp at e
      · split at e'
        · simp at e'
        · exact hr.hr.inj i j x x' Bi bs bs' e e' nn nn' hown
  have hR0 : Rel P w0 (mnew m h.next w.heap.size) (fun i => E i ∨ X i) (maskF mk fr) h2 a w2 := by
    refine ⟨hH, hr.fr.defers, hr.fr.len, fun i x e => ?_, fun i j c1 c2 _ e1 => absurd e1 (hnb i c1)⟩
    have := hr.fr.slot i x e
    cases x with
    | v x => exact V.mono hle hExt.len this
    | tup xs => obtain ⟨vs, q1, q2⟩ := this; exact ⟨vs, q1, q2.mono hle hExt.len⟩
    | blk cs => exact absurd e (hnb i cs)
    | ref s off => exact this
    | dead => trivial
  have hR1 := hR0.put (d := some d) (x := .dead) (v := .map (some B)) trivial (by simp)
  have hR2 := hR1.put (d := some e1) (x := .v (.pointer (some ⟨h.next, 0, none⟩))) (v := .pointer (some ⟨w.heap.size, 0, none⟩)) (V.ptr (off := 0) (base := 0) (by simp [mnew])) (by simp)
  have hout : ∀ i, X i → ¬ E i := by
    rintro i (rfl | rfl) hE
    · have := hr.hr.ext _ hE; omega
    · exact b3 hE
  have hJ : It kd h.next L (mnew m h.next w.heap.size) X w2 := by
    refine ⟨w.heap.size, B, #[], en, cl, by simp [mnew], .inl rfl, .inr rfl, by omega, hnewB, hoB, ((MapKept.stamped_iff _ _).1 b6).1, ((MapKept.stamped_iff _ _).1 b6).2.1, ?_, ?_⟩
    · intro x hx
      exact b5.one_all hvals _ (List.mem_map_of_mem (f := (·.val)) hx)
    · have h3 : (leftOf en #[]).toList = en.toList := by
        unfold leftOf; simp
      rw [h3]
      have h4 : en.toList.map (·.key) = L.map (.int kd) := by
        rw [hkeys] at b4
        exact VL.plain 0 b4 (by intro x hx; obtain ⟨q, _, rfl⟩ := List.mem_map.1 hx; rfl)
      rw [h4]
  exact ((k _ E X _ w2 b cs hR2 hr.hr.out hout hJ hf hk).head harr).kept hn (fun i _ x hx => hle i x hx) (hExt.keep hr.hr.ext)

end Go.Agm
