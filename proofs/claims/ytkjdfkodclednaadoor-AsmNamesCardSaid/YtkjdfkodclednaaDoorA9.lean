/- An abstract machine for one goroutine: comparisons, arithmetic, conversions beside the model's. No condition. -/
import Derived.Test.YtkjdfkodclednaaDoorA8
namespace Go.Agm

variable {P : Program} {w0 : World} {m : MapN} {S : Nat → Nat} {w : World}

theorem equal_step (t : TypeId) (x y : Value) : ∃ d, Op.equal t x y = Op.equalIn (d + 1) t x y := ⟨9999, rfl⟩

theorem nilEq_run {t : TypeId} {x y x' y' : Value} {b : Bool} (hx : V m S x x') (hy : V m S y y') (e : nilEq P t x y = some b) (w : World) :
    (Op.equal t x' y').run P w = .ok b w := by
  obtain ⟨d, hd⟩ := equal_step t x' y'
  rw [hd]
  clear hd
  unfold nilEq at e
  split at e
  · -- pointer, nil
    rename_i a
    cases hy
    split at e
    · rename_i el hu
      injection e with e; subst e
      cases hx with
      | pnil => simp [Op.equalIn, run_underlying' hu]
      | ptr h => simp [Op.equalIn, run_underlying' hu]
    · simp at e
  · rename_i b' hb'
    cases hx
    split at e
    · rename_i el hu
      injection e with e; subst e
      cases hy with
      | pnil => simp [Op.equalIn, run_underlying' hu]
      | ptr h => simp [Op.equalIn, run_underlying' hu]
    · simp at e
  · rename_i a1 a2
    split at e
    · rename_i el hu
      split at e
      · rename_i n hn
        cases hx with
        | @ptr b1 o1 B1 bs1 h1 =>
          cases hy with
          | @ptr b2 o2 B2 bs2 h2 =>
            cases hb : (b1 == b2) with
            | false => rw [hb] at e; simp at e
            | true =>
              simp only [hb, Option.isNone_none, Bool.and_self, cond_true, Option.some.injEq] at e
              subst e
              have : b1 = b2 := by simpa using hb
              subst this
              rw [h1] at h2
              injection h2 with h2
              injection h2 with h2 h3
              subst h2 h3
              simp only [Op.equalIn, Sem.run_bind, run_underlying' hu, Result.andThen_ok, run_size hn, ne_eq, Nat.add_one_ne_zero, not_false_eq_true, if_true, sameAddr, beq_self_eq_true]
              show Result.ok _ w = _
              congr 1
              rw [Bool.eq_iff_iff]
              simp
      · simp at e
    · simp at e
  · cases hx; cases hy
    split at e
    · rename_i el hu
      injection e with e; subst e
      simp [Op.equalIn, run_underlying' hu]
    · simp at e
  · cases hx; cases hy
    split at e
    · rename_i el hu
      injection e with e; subst e
      simp [Op.equalIn, run_underlying' hu]
    · simp at e
  · rename_i n c n' c'
    split at e
    · rename_i el hu
      injection e with e; subst e
      cases hy
      cases hx with
      | snil => simp [Op.equalIn, run_underlying' hu]
    · simp at e
  · rename_i a n c n' c'
    split at e
    · rename_i el hu
      cases hcond : (Nat.blt 0 n || Nat.beq c 0) with
      | false => rw [hcond] at e; simp at e
      | true =>
      rw [hcond] at e
      injection e with e; subst e
      cases hy
      cases hx with
      | slice h _ _ _ => simp [Op.equalIn, run_underlying' hu]
      | sempty => simp [Op.equalIn, run_underlying' hu]
      | sghost hz =>
        exfalso
        cases c with
        | zero => omega
        | succ c => simp [Nat.blt] at hcond
    · simp at e
  · rename_i a
    split at e
    · rename_i k el hu
      injection e with e; subst e
      cases hy
      cases hx with
      | mnil => simp [Op.equalIn, run_underlying' hu]
      | map h => simp [Op.equalIn, run_underlying' hu]
    · simp at e
  · cases hy; cases hx
    split at e
    · rename_i el hu
      injection e with e; subst e
      simp [Op.equalIn, run_underlying' hu]
    · simp at e
  · simp at e

theorem nilEq_shape {t : TypeId} {x y x' y' : Value} {b : Bool} (hx : V m S x x') (hy : V m S y y') (e : nilEq P t x y = some b) (op : BinOp) (ho : op = .eql ∨ op = .neq) (ox oy : Operand) :
    eqGuard op t ox oy x' y' = pure () ∧ binOp op t x' y' = (match op with | .eql => (do pure (.bool (← Op.equal t x' y'))) | _ => (do pure (.bool (!(← Op.equal t x' y'))))) := by
  unfold nilEq at e
  split at e <;> first | (simp at e; done) | skip
  all_goals
    (rcases ho with rfl | rfl <;> cases hx <;> cases hy <;> exact ⟨rfl, rfl⟩)

theorem part_one {t : TypeId} {d : TypeDesc} {xs : Array Value} {off : Nat} {v : Value} (hu : P.underlying t = some d) (hd : aggD d = false) (hx : xs[off]? = some v) (w : World) : (part t xs off).run P w = .ok v w := by
  simp only [part, Sem.run_bind, run_isAgg hu, Result.andThen_ok, hd, Bool.false_eq_true, if_false, hx, Sem.run_pure]

def eqBody (xs ys : Array Value) (f : Field) (__s : Option Bool × Unit) : Sem (ForInStep (Option Bool × Unit)) :=
  if f.name ≠ "_" then do
    let a ← part f.type xs f.offset
    let b ← part f.type ys f.offset
    let c ← Op.equalIn 9999 f.type a b
    if (!c) = true then pure (ForInStep.done (some false, ())) else pure (ForInStep.yield (none, ()))
  else pure (ForInStep.yield (none, ()))

theorem eqBody_run {xs ys : Array Value} {f : Field} {d : TypeDesc} {x y : Value} {b : Bool} (hn : (f.name == "_") = false) (hu : P.underlying f.type = some d) (hd : aggD d = false) (hx : xs[f.offset]? = some x) (hy : ys[f.offset]? = some y) (w : World)
    (he : (Op.equalIn 9999 f.type x y).run P w = .ok b w) (s : Option Bool × Unit) : (eqBody xs ys f s).run P w = .ok (if b then .yield (none, ()) else .done (some false, ())) w := by
  have hn' : f.name ≠ "_" := by simpa using hn
  unfold eqBody
  rw [if_pos hn']
  simp only [Sem.run_bind, part_one hu hd hx, part_one hu hd hy, Result.andThen_ok, he]
  cases b <;> rfl

theorem eqLoop {xs ys : Array Value} (w : World) : ∀ (l : List Field) (b : Bool), eqF P l xs ys = some b → (forIn l ((none : Option Bool), ()) (eqBody xs ys)).run P w = .ok (if b then (none, ()) else (some false, ())) w := by
  intro l
  induction l with
  | nil =>
    intro b e
    simp only [eqF, Option.some.injEq] at e
    subst e
    rfl
  | cons f r ih =>
    intro b e
    have key : ∀ (d : TypeDesc) (x y : Value) (c1 : Bool), (f.name == "_") = false → P.underlying f.type = some d → aggD d = false → xs[f.offset]? = some x → ys[f.offset]? = some y → (Op.equalIn 9999 f.type x y).run P w = .ok c1 w →
        (eqF P r xs ys).map (fun c => c1 && c) = some b → (forIn (f :: r) ((none : Option Bool), ()) (eqBody xs ys)).run P w = .ok (if b then (none, ()) else (some false, ())) w := by
      intro d x y c1 hn hu hd hx hy he hm
      rw [Option.map_eq_some_iff] at hm
      obtain ⟨c, hc, rfl⟩ := hm
      rw [List.forIn_cons]
      simp only [Sem.run_bind, eqBody_run hn hu hd hx hy w he, Result.andThen_ok]
      cases c1 with
      | false => rfl
      | true => simp only [if_true, Bool.true_and]; exact ih c hc
    unfold eqF at e
    cases hn : (f.name == "_") with
    | true => rw [hn] at e; simp at e
    | false =>
      rw [hn, cond_false] at e
      split at e
      · rename_i q k a k' b' hu hx hy
        cases hk : (k == k') with
        | false => rw [hk] at e; simp at e
        | true =>
          rw [hk, cond_true] at e
          have hk' : k = k' := by simpa using hk
          subst hk'
          refine key _ _ _ _ hn hu rfl hx hy ?_ e
          rw [show (9999 : Nat) = 9998 + 1 from rfl]
          unfold Op.equalIn
          simp only [Sem.run_bind, run_underlying' hu, Result.andThen_ok, if_true]
          rfl
      · rename_i a b' hu hx hy
        refine key _ _ _ _ hn hu rfl hx hy ?_ e
        rw [show (9999 : Nat) = 9998 + 1 from rfl]
        unfold Op.equalIn
        simp only [Sem.run_bind, run_underlying' hu, Result.andThen_ok]
        rfl
      · rename_i a b' hu hx hy
        refine key _ _ _ _ hn hu rfl hx hy ?_ e
        rw [show (9999 : Nat) = 9998 + 1 from rfl]
        unfold Op.equalIn
        simp only [Sem.run_bind, run_underlying' hu, Result.andThen_ok]
        rfl
      · simp at e

def eqABody (el : TypeId) (n : Nat) (xs ys : Array Value) (i : Nat) (__s : Option Bool × Unit) : Sem (ForInStep (Option Bool × Unit)) := do
  let a ← part el xs (i * n)
  let b ← part el ys (i * n)
  let c ← Op.equalIn 9999 el a b
  if (!c) = true then pure (ForInStep.done (some false, ())) else pure (ForInStep.yield (none, ()))

theorem eqL_loop {el : TypeId} {kd : IntKind} {xs ys : Array Value} (hu : P.underlying el = some (.int kd)) (w : World) : ∀ (xl yl : List Value) (k : Nat) (b : Bool), xs.toList.drop k = xl → ys.toList.drop k = yl → eqL xl yl = some b →
    (forIn (List.range' k xl.length) ((none : Option Bool), ()) (fun i s => eqABody el 1 xs ys i s)).run P w = .ok (if b then (none, ()) else (some false, ())) w := by
  intro xl
  induction xl with
  | nil =>
    intro yl k b h1 h2 e
    cases yl with
    | nil => simp only [eqL, Option.some.injEq] at e; subst e; rfl
    | cons _ _ => simp [eqL] at e
  | cons x xl ih =>
    intro yl k b h1 h2 e
    cases yl with
    | nil => simp [eqL] at e
    | cons y yl =>
      unfold eqL at e
      split at e
      · rename_i h; simp at h
      · rename_i ka a r kb b' s hx hy
        simp only [List.cons.injEq] at hx hy
        obtain ⟨rfl, rfl⟩ := hx
        obtain ⟨rfl, rfl⟩ := hy
        cases hk : (ka == kb) with
        | false => rw [hk] at e; simp at e
        | true =>
          rw [hk, cond_true, Option.map_eq_some_iff] at e
          obtain ⟨c, hc, rfl⟩ := e
          have hk' : ka = kb := by simpa using hk
          subst hk'
          have gx : xs[k * 1]? = some (.int ka a) := by
            have := congrArg (·[0]?) h1
            simpa [List.getElem?_drop] using this
          have gy : ys[k * 1]? = some (.int ka b') := by
            have := congrArg (·[0]?) h2
            simpa [List.getElem?_drop] using this
          have h1' : xs.toList.drop (k + 1) = xl := by
            have := congrArg List.tail h1
            simpa using this
          have h2' : ys.toList.drop (k + 1) = yl := by
            have := congrArg List.tail h2
            simpa using this
          have hq : (Op.equalIn 9999 el (.int ka a) (.int ka b')).run P w = .ok (a == b') w := by
            rw [show (9999 : Nat) = 9998 + 1 from rfl]
            unfold Op.equalIn
            simp only [Sem.run_bind, run_underlying' hu, Result.andThen_ok, if_true]
            rfl
          have hb : (eqABody el 1 xs ys k ((none : Option Bool), ())).run P w = .ok (if (a == b') then .yield (none, ()) else .done (some false, ())) w := by
            unfold eqABody
            simp only [Sem.run_bind, part_one hu rfl gx, part_one hu rfl gy, Result.andThen_ok, hq]
            cases (a == b') <;> rfl
          rw [List.length_cons, List.range'_succ, List.forIn_cons]
          simp only [Sem.run_bind, hb, Result.andThen_ok]
          cases hab : (a == b') with
          | false => rfl
          | true => simp only [if_true, Bool.true_and]; exact ih yl (k + 1) c h1' h2' hc
      · simp at e

theorem eqAr_run {t el : TypeId} {len : Nat} {xs ys : Array Value} {b : Bool} (ht : P.underlying t = some (.array len el)) (hz : sizeT P el = some 1) (e : eqAr P len el xs ys = some b) (w : World) : (Op.equal t (.agg xs) (.agg ys)).run P w = .ok b w := by
  unfold eqAr at e
  split at e
  · rename_i kd hu
    cases hl : (Nat.beq xs.toList.length len && Nat.beq ys.toList.length len) with
    | false => rw [hl] at e; simp at e
    | true =>
      rw [hl, cond_true] at e
      simp only [Bool.and_eq_true] at hl
      have hlen := Nat.eq_of_beq_eq_true hl.1
      unfold Op.equal Op.maxDepth
      rw [show (10000 : Nat) = 9999 + 1 from rfl]
      unfold Op.equalIn
      simp only [Sem.run_bind, run_underlying' ht, Result.andThen_ok, run_size hz]
      have h1 := eqL_loop (xs := xs) (ys := ys) hu w xs.toList ys.toList 0 b rfl rfl e
      rw [hlen] at h1
      rw [Std.Legacy.Range.forIn_eq_forIn_range']
      simp only [Std.Legacy.Range.size, Nat.sub_zero, Nat.add_one_sub_one, Nat.div_one]
      change ((forIn (List.range' 0 len) ((none : Option Bool), ()) (fun i s => eqABody el 1 xs ys i s)).run P w).andThen _ = _
      rw [h1]
      cases b <;> rfl
  · simp at e
theorem eqS_run {t : TypeId} {x y : Value} {b : Bool} (e : eqS P t x y = some b) (w : World) : (Op.equal t x y).run P w = .ok b w := by
  unfold eqS at e
  split at e
  · rename_i xs ys fs hu
    cases hh : (P.stoodInHeld t || P.eqGuardType P.depth t) with
    | true => rw [hh] at e; simp at e
    | false =>
      rw [hh, cond_false] at e
      simp only [Bool.or_eq_false_iff] at hh
      unfold Op.equal Op.maxDepth
      rw [show (10000 : Nat) = 9999 + 1 from rfl]
      unfold Op.equalIn
      have hp : (program : Sem Program).run P w = .ok P w := rfl
      simp only [Sem.run_bind, run_underlying' hu, Result.andThen_ok, hp, hh.1, Bool.false_eq_true, if_false]
      rw [← Array.forIn_toList]
      have h1 := eqLoop (P := P) (xs := xs) (ys := ys) w fs.toList b e
      change ((forIn fs.toList ((none : Option Bool), ()) (eqBody xs ys)).run P w).andThen _ = _
      rw [h1]
      cases b <;> rfl
  · rename_i xs ys len el hu
    cases ho : oneT P el with
    | false => rw [ho] at e; simp at e
    | true =>
      rw [ho, cond_true] at e
      have hz : sizeT P el = some 1 := by
        unfold oneT at ho
        split at ho
        · rename_i n hn
          rw [hn, Nat.eq_of_beq_eq_true ho]
        · simp at ho
      exact eqAr_run hu hz e w
  · simp at e

theorem eqS_bin {t : TypeId} {x y : Value} {b : Bool} (e : eqS P t x y = some b) (w : World) : (binOp .eql t x y).run P w = .ok (.bool b) w ∧ (binOp .neq t x y).run P w = .ok (.bool !b) w := by
  have h1 := eqS_run e w
  unfold eqS at e
  split at e
  · constructor
    · show (do pure (.bool (← Op.equal t _ _)) : Sem Value).run P w = _
      simp only [Sem.run_bind, h1, Result.andThen_ok, Sem.run_pure]
    · show (do pure (.bool (!(← Op.equal t _ _))) : Sem Value).run P w = _
      simp only [Sem.run_bind, h1, Result.andThen_ok, Sem.run_pure]
  · constructor
    · show (do pure (.bool (← Op.equal t _ _)) : Sem Value).run P w = _
      simp only [Sem.run_bind, h1, Result.andThen_ok, Sem.run_pure]
    · show (do pure (.bool (!(← Op.equal t _ _))) : Sem Value).run P w = _
      simp only [Sem.run_bind, h1, Result.andThen_ok, Sem.run_pure]
  · simp at e

theorem binA_run {op : BinOp} {t : TypeId} {ox oy : Operand} {x y z x' y' : Value} (hx : V m S x x') (hy : V m S y y') (e : binA P op t ox oy x y = some z) (w : World) :
    ∃ z', (do eqGuard op t ox oy x' y'; binOp op t x' y').run P w = .ok z' w ∧ V m S z z' := by
  unfold binA at e
  cases hp : (plainD 4 x && plainD 4 y) with
  | true =>
    rw [hp, cond_true] at e
    simp only [Bool.and_eq_true] at hp
    rw [hx.plain 4 hp.1, hy.plain 4 hp.2]
    split at e
    · rename_i b hb
      split at e
      · simp only [Option.bind_eq_some_iff, Option.some.injEq] at e
        obtain ⟨u, h1, rfl⟩ := e
        refine ⟨.bool b, ?_, .bool b⟩
        simp only [Sem.run_bind, run_of_runP h1 w, Result.andThen_ok]
        exact (eqS_bin hb w).1
      · simp only [Option.bind_eq_some_iff, Option.some.injEq] at e
        obtain ⟨u, h1, rfl⟩ := e
        refine ⟨.bool !b, ?_, .bool _⟩
        simp only [Sem.run_bind, run_of_runP h1 w, Result.andThen_ok]
        exact (eqS_bin hb w).2
      · simp at e
    · obtain ⟨e1, e2⟩ := plainOut_some e
      exact ⟨z, run_of_runP e1 w, V.of_plain 5 e2⟩
  | false =>
    rw [hp, cond_false] at e
    split at e
    · rw [Option.bind_eq_some_iff] at e
      obtain ⟨b, hb, e⟩ := e
      injection e with e; subst e
      obtain ⟨h1, h2⟩ := nilEq_shape hx hy hb .eql (Or.inl rfl) ox oy
      refine ⟨.bool b, ?_, .bool b⟩
      rw [h1, h2]
      simp [nilEq_run hx hy hb]
    · rw [Option.bind_eq_some_iff] at e
      obtain ⟨b, hb, e⟩ := e
      injection e with e; subst e
      obtain ⟨h1, h2⟩ := nilEq_shape hx hy hb .neq (Or.inr rfl) ox oy
      refine ⟨.bool !b, ?_, .bool _⟩
      rw [h1, h2]
      simp [nilEq_run hx hy hb]
    · simp at e

theorem divA_run {op : BinOp} {t : TypeId} {ox oy : Operand} {x y x' y' : Value} {p : Bool × Value} (hx : V m S x x') (hy : V m S y y') (e : divA op x y = some p) (h0 : p.1 = false) (w : World) :
    (do eqGuard op t ox oy x' y'; binOp op t x' y').run P w = .ok p.2 w ∧ V m S p.2 p.2 := by
  unfold divA at e
  split at e
  · rename_i k a k' b
    cases hx; cases hy
    cases hk : (k == k') with
    | false => rw [hk] at e; simp at e
    | true =>
      rw [hk, cond_true] at e
      injection e with e; subst e
      have hk' : k = k' := by simpa using hk
      subst hk'
      have hb : b ≠ 0 := by simpa using h0
      refine ⟨?_, .int _ _⟩
      simp [eqGuard, binOp, Op.intDiv, hb]
  · rename_i k a k' b
    cases hx; cases hy
    cases hk : (k == k') with
    | false => rw [hk] at e; simp at e
    | true =>
      rw [hk, cond_true] at e
      injection e with e; subst e
      have hk' : k = k' := by simpa using hk
      subst hk'
      have hb : b ≠ 0 := by simpa using h0
      refine ⟨?_, .int _ _⟩
      simp [eqGuard, binOp, Op.intDiv, hb]
  · simp at e

theorem unA_run {op : UnOp} {x z x' : Value} (hx : V m S x x') (e : unA P op x = some z) (w : World) : ∃ z', (Op.unary op x').run P w = .ok z' w ∧ V m S z z' := by
  unfold unA at e
  cases hp : plainD 0 x with
  | true =>
    rw [hp, cond_true] at e
    obtain ⟨e1, e2⟩ := plainOut_some e
    rw [hx.plain 0 hp]
    exact ⟨z, run_of_runP e1 w, V.of_plain 5 e2⟩
  | false => rw [hp] at e; simp at e

theorem convA_run {src dst : TypeId} {x z x' : Value} (hx : V m S x x') (e : convA P src dst x = some z) (w : World) : ∃ z', (convert src dst x').run P w = .ok z' w ∧ V m S z z' := by
  unfold convA at e
  cases hp : plainD 0 x with
  | true =>
    rw [hp, cond_true] at e
    obtain ⟨e1, e2⟩ := plainOut_some e
    rw [hx.plain 0 hp]
    exact ⟨z, run_of_runP e1 w, V.of_plain 5 e2⟩
  | false => rw [hp] at e; simp at e

theorem mm2_run {mx : Bool} {x y z x' y' : Value} (hx : V m S x x') (hy : V m S y y') (e : mm2 P mx x y = some z) (w : World) :
    (if mx then Builtin.max2 x' y' else Builtin.min2 x' y').run P w = .ok z w ∧ V m S z z := by
  unfold mm2 at e
  cases hp : (plainD 0 x && plainD 0 y) with
  | true =>
    rw [hp, cond_true] at e
    simp only [Bool.and_eq_true] at hp
    obtain ⟨e1, e2⟩ := plainOut_some e
    rw [hx.plain 0 hp.1, hy.plain 0 hp.2]
    have := run_of_runP e1 w
    refine ⟨?_, V.of_plain 5 e2⟩
    cases mx <;> exact this
  | false => rw [hp] at e; simp at e

theorem mmA_run {mx : Bool} : ∀ {ys ys' : List Value} {x z x' : Value}, V m S x x' → VL m S ys ys' → mmA P mx x ys = some z → ∀ w, ∃ z', (ys'.foldlM (if mx then Builtin.max2 else Builtin.min2) x').run P w = .ok z' w ∧ V m S z z' := by
  intro ys
  induction ys with
  | nil =>
    intro ys' x z x' hx hl e w
    cases hl
    simp only [mmA, Option.some.injEq] at e
    subst e
    exact ⟨x', by simp, hx⟩
  | cons y ys ih =>
    intro ys' x z x' hx hl e w
    cases hl with
    | cons hy ht =>
      simp only [mmA, Option.bind_eq_some_iff] at e
      obtain ⟨u, hu, e⟩ := e
      obtain ⟨h1, h2⟩ := mm2_run hx hy hu w
      obtain ⟨z', h3, h4⟩ := ih h2 ht e w
      refine ⟨z', ?_, h4⟩
      cases mx
      · simp only [Bool.false_eq_true, if_false] at h1 h3 ⊢
        simp only [List.foldlM_cons, Sem.run_bind, h1, Result.andThen_ok, h3]
      · simp only [if_true] at h1 h3 ⊢
        simp only [List.foldlM_cons, Sem.run_bind, h1, Result.andThen_ok, h3]

theorem strAt_run {s : ByteArray} {i : Int} {x : Value} (e : strAt s i = some x) : ∃ b, (if 0 ≤ i then s[i.toNat]? else none) = some b ∧ x = .int .u8 b.toNat := by
  unfold strAt at e
  cases hd : decide (0 ≤ i) with
  | false => rw [hd] at e; simp at e
  | true =>
    rw [hd, cond_true, Option.bind_eq_some_iff] at e
    obtain ⟨b, hb, e⟩ := e
    injection e with e
    exact ⟨b, by rw [if_pos (of_decide_eq_true hd)]; exact hb, e.symm⟩

theorem indexA_run {t : TypeId} {x i z x' i' : Value} (hx : V m S x x') (hi : V m S i i') (e : indexA P t x i = some z) (w : World) :
    ∃ z', (Instr.index t x' i').run P w = .ok z' w ∧ V m S z z' := by
  unfold indexA at e
  split at e
  · rename_i s k j hu
    cases hx; cases hi
    obtain ⟨b, hb, e⟩ := strAt_run e
    subst e
    refine ⟨_, ?_, .int _ _⟩
    simp only [Instr.index, asIntOf, Sem.run_bind, Sem.run_pure, Result.andThen_ok, run_underlying' hu, hb]
  · rename_i n el cs k j hu
    rw [Option.bind_eq_some_iff] at e
    obtain ⟨sz, hsz, e⟩ := e
    cases hd : (decide (0 ≤ j) && decide (j < (n : Int))) with
    | false => rw [hd] at e; simp at e
    | true =>
      rw [hd, cond_true] at e
      simp only [Bool.and_eq_true, decide_eq_true_eq] at hd
      cases hi
      cases hx with
      | @agg _ ys hl ho =>
        obtain ⟨y, hy, hv⟩ := run_part (P := P) e hl ho w
        refine ⟨y, ?_, hv⟩
        simp only [Instr.index, asIntOf, Sem.run_bind, Sem.run_pure, Result.andThen_ok, run_underlying' hu, hd, and_self, if_true, run_size hsz]
        simpa using hy
  · simp at e

theorem fieldOff_some {s f : Nat} {p : Nat × TypeId} (e : fieldOff P s f = some p) : ∃ fs x n, P.underlying s = some (.struct fs) ∧ fs[f]? = some x ∧ sizeT P x.type = some (n + 1) ∧ p = (x.offset, x.type) := by
  unfold fieldOff at e
  split at e
  · rename_i fs hu
    split at e
    · rename_i x hx
      split at e
      · rename_i n hn
        injection e with e
        exact ⟨fs, x, n, hu, hx, hn, e.symm⟩
      · simp at e
    · simp at e
  · simp at e

theorem fieldA_run {t : TypeId} {f : Nat} {x z x' : Value} (hx : V m S x x') (e : fieldA P t x f = some z) (w : World) : ∃ z', (Instr.field t x' f).run P w = .ok z' w ∧ V m S z z' := by
  unfold fieldA at e
  split at e
  · rename_i cs
    rw [Option.bind_eq_some_iff] at e
    obtain ⟨p, hp, e⟩ := e
    obtain ⟨fs, fd, n, h1, h2, _, rfl⟩ := fieldOff_some hp
    cases hx with
    | @agg _ ys hl ho =>
      obtain ⟨y, hy, hv⟩ := run_part (P := P) e hl ho w
      refine ⟨y, ?_, hv⟩
      simp only [Instr.field, Sem.run_bind, run_underlying' h1, Result.andThen_ok, h2, asAgg, Sem.run_pure]
      simpa using hy
  · simp at e

/-! Building. -/

theorem foldl_set (xs : List Value) : ∀ (ys : Array Value) (off j : Nat), off + j + xs.length ≤ ys.size →
    (xs.zipIdx j).foldl (fun cs (x : Value × Nat) => cs.setIfInBounds (off + x.2) x.1) ys = (ys.toList.take (off + j) ++ xs ++ ys.toList.drop (off + j + xs.length)).toArray := by
  induction xs with
  | nil => intro ys off j _; simp
  | cons x xs ih =>
    intro ys off j hl
    simp only [List.length_cons] at hl
    simp only [List.zipIdx_cons, List.foldl_cons]
    rw [ih _ off (j + 1) (by simp; omega)]
    congr 1
    have hlt : off + j < ys.toList.length := by simp; omega
    rw [Array.toList_setIfInBounds, List.set_eq_take_append_cons_drop, if_pos hlt]
    have h1 : (ys.toList.take (off + j)).length = off + j := by simp; omega
    rw [show off + (j + 1) = (ys.toList.take (off + j)).length + 1 by rw [h1]; omega, List.take_length_add_append, List.length_cons]
    rw [show (ys.toList.take (off + j)).length + 1 + xs.length = (ys.toList.take (off + j)).length + (1 + xs.length) by omega, List.drop_length_add_append]
    simp only [List.take_succ_cons, List.take_zero, List.append_assoc, List.cons_append, List.nil_append]
    rw [show 1 + xs.length = xs.length + 1 by omega, List.drop_succ_cons, List.drop_drop]
    congr 3
    congr 1
    omega

theorem fillA_run {place : Nat → Option (Nat × Nat)} : ∀ {parts : List (Nat × Value)} {is : List Nat} {xs xs' : List Value} {cs cs' z : List Value}, parts = is.zip xs → is.length = xs.length → VL m S xs xs' → VL m S cs cs' → (∀ x ∈ cs, one x = true) → fillA place cs parts = some z →
    ∃ z', Instr.fill place cs'.toArray (is.zip xs') = some z' ∧ VL m S z z'.toList ∧ (∀ x ∈ z, one x = true) ∧ z.length = cs.length := by
  intro parts
  induction parts with
  | nil =>
    intro is xs xs' cs cs' z hp hl hx hc ho e
    simp only [fillA, Option.some.injEq] at e
    subst e
    have : is.zip xs' = [] := by
      have h1 : (is.zip xs').length = 0 := by
        rw [List.length_zip, hx.length]
        have := congrArg List.length hp
        simp at this
        omega
      exact List.eq_nil_of_length_eq_zero h1
    rw [this]
    exact ⟨cs'.toArray, rfl, hc, ho, rfl⟩
  | cons p parts ih =>
    intro is xs xs' cs cs' z hp hl hx hc ho e
    cases is with
    | nil => simp at hp
    | cons i is =>
      cases xs with
      | nil => simp at hp
      | cons x xs =>
        simp only [List.zip_cons_cons, List.cons.injEq] at hp
        obtain ⟨rfl, rfl⟩ := hp
        cases hx with
        | @cons _ y _ ys hv ht =>
          simp only [fillA] at e
          split at e
          · simp at e
          · rename_i off size hpl
            cases hb : (x.cells.size == size && Nat.ble (off + size) cs.length) with
            | false => rw [hb] at e; simp at e
            | true =>
              rw [hb, cond_true] at e
              simp only [Bool.and_eq_true, beq_iff_eq, Nat.ble_eq] at hb
              have hvc := hv.cells
              have hl' := hc.length
              have hsz := hv.cells_size
              have hnew : VL m S (splice cs off x.cells.toList) (splice cs' off y.cells.toList) := by
                unfold splice
                have : y.cells.toList.length = x.cells.toList.length := hvc.1.length
                rw [this]
                exact ((hc.take off).append hvc.1).append (hc.drop _)
              have hone : ∀ z ∈ splice cs off x.cells.toList, one z = true := by
                intro z hz
                unfold splice at hz
                simp only [List.mem_append] at hz
                rcases hz with (hz | hz) | hz
                · exact ho z (List.mem_of_mem_take hz)
                · exact hvc.2 z hz
                · exact ho z (List.mem_of_mem_drop hz)
              obtain ⟨z', h1, h2, h3, h4⟩ := ih rfl (by simpa using hl) ht hnew hone e
              refine ⟨z', ?_, h2, h3, ?_⟩
              · simp only [List.zip_cons_cons, Instr.fill, hpl]
                rw [if_neg (by simp only [Bool.or_eq_true, decide_eq_true_eq, not_or]; constructor
                               · simp [hsz, hb.1]
                               · simp [hsz]; omega)]
                have hfold : (y.cells.zipIdx.foldl (fun cs (x : Value × Nat) => cs.setIfInBounds (off + x.2) x.1) cs'.toArray) = (splice cs' off y.cells.toList).toArray := by
                  rw [← Array.foldl_toList, Array.toList_zipIdx]
                  have := foldl_set y.cells.toList cs'.toArray off 0 (by simp [hsz]; omega)
                  simpa [splice] using this
                exact (congrArg (fun q => Instr.fill place q (is.zip ys)) hfold).trans h1
              · rw [h4]
                unfold splice
                simp
                omega

end Go.Agm
