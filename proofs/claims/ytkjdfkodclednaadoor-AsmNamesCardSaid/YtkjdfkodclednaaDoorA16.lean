/- An abstract machine for one goroutine: each operation stands for the model's. No condition. -/
import Derived.Test.YtkjdfkodclednaaDoorA15
namespace Go.Agm

variable {P : Program} {w0 : World} {m : MapN} {E : Nat → Prop} {fr : List AV} {h : AHeap} {a : Act} {w : World} {o : Oper} {next : Act → World → Prop} {Q : Exit → Act → World → Prop} {k : AV → AHeap → Option Res} {r : Res} {c : Calls1}

theorem loc_add {l : Loc} {n : Nat} {B bs : Nat} (hv : ∀ b off, l = .main b off → m b = some (B, bs)) (hs : ∀ s off, l = .loc s off → ∀ cs, fr[s]? = some (.blk cs) → bs = 0 ∧ a.tmps.getD s undef = .pointer (some ⟨B, 0, none⟩)) :
    AVR m E h w fr a.tmps (.pointer (some ⟨B, bs + l.off + n, none⟩)) (l.addA n) := by
  cases l with
  | main b off =>
    have := V.ptr (m := m) (S := szB w) (off := off + n) (hv b off rfl)
    rw [← Nat.add_assoc] at this
    exact this
  | loc s off =>
    intro cs hcs
    obtain ⟨h1, h2⟩ := hs s off rfl cs hcs
    subst h1
    exact ⟨B, h2, by simp [Loc.off]⟩

theorem addA_blk {l : Loc} {n : Nat} (cs : List Value) : l.addA n ≠ .blk cs := by cases l <;> simp [Loc.addA]

/-- A place is an address. -/
theorem Rel.locEval (hr : Rel P w0 m E fr h a w) {x : Operand} {l : Loc} (e : locA P fr x = some l) : ∃ B bs, a.eval x = .pointer (some ⟨B, bs + l.off, none⟩) ∧ (∀ b off, l = .main b off → m b = some (B, bs)) ∧ (∀ s off, l = .loc s off → ∀ cs, fr[s]? = some (.blk cs) → bs = 0 ∧ a.tmps.getD s undef = .pointer (some ⟨B, 0, none⟩)) := by
  cases l with
  | main b off =>
    obtain ⟨B, bs, h1, h2⟩ := hr.main e
    exact ⟨B, bs, h2, fun b' off' hh => by injection hh with e1 e2; subst e1; exact h1, fun s off' hh => by simp at hh⟩
  | loc s off =>
    obtain ⟨cs, hg⟩ := locA_blk e
    obtain ⟨B, h1, h2⟩ := hr.locs e hg
    exact ⟨B, 0, by simpa [Loc.off] using h2, fun b off hh => by simp at hh, fun s' off' hh cs' _ => by injection hh with e1 e2; subst e1; exact ⟨rfl, h1⟩⟩

theorem run_fieldAt {s f : Nat} {p : Nat × TypeId} (e : fieldOff P s f = some p) (B o : Nat) (w : World) : (Instr.fieldAt s (.pointer (some ⟨B, o, none⟩)) f).run P w = .ok (.pointer (some ⟨B, o + p.1, none⟩)) w := by
  obtain ⟨fs, x, n, h1, h2, h3, rfl⟩ := fieldOff_some e
  simp only [Instr.fieldAt, Sem.run_bind, run_underlying' h1, Result.andThen_ok, h2, Instr.sureAddr, Sem.run_pure, fieldPlace, run_size h3, Nat.add_one_ne_zero, if_false, addr_add]

theorem isArr_some {t : TypeId} (e : isArr P t = true) : ∃ n el, P.underlying t = some (.array n el) := by
  unfold isArr at e
  split at e
  · exact ⟨_, _, by assumption⟩
  · simp at e

theorem run_elemOff {t : TypeId} {j j' : Value} {n : Nat} (e : elemOff P t j = some n) {S : Nat → Nat} (hj : V m S j j') (B o : Nat) (w : World) : (Instr.indexAt t (.pointer (some ⟨B, o, none⟩)) j').run P w = .ok (.pointer (some ⟨B, o + n, none⟩)) w := by
  unfold elemOff at e
  split at e
  · rename_i len el k i hu
    rw [Option.bind_eq_some_iff] at e
    obtain ⟨size, hs, e⟩ := e
    cases hd : (decide (0 ≤ i) && decide (i < (len : Int))) with
    | false => rw [hd] at e; simp at e
    | true =>
      rw [hd, cond_true] at e
      injection e with e; subst e
      simp only [Bool.and_eq_true, decide_eq_true_eq] at hd
      cases hj
      simp only [Instr.indexAt, asIntOf, Sem.run_bind, Sem.run_pure, Result.andThen_ok, run_underlying' hu, Instr.sureAddr, hd, and_self, if_true, run_size hs, addr_add]
  · simp at e

theorem run_elemAddr {t : TypeId} {x x' j j' y : Value} (e : elemAddr P t x j = some y) {S : Nat → Nat} (hx : V m S x x') (hj : V m S j j') (w : World) : ∃ y', (Instr.indexAt t x' j').run P w = .ok y' w ∧ V m S y y' := by
  unfold elemAddr at e
  split at e
  · rename_i el b off n sz k i hu
    rw [Option.bind_eq_some_iff] at e
    obtain ⟨size, hs, e⟩ := e
    cases hd : (decide (0 ≤ i) && decide (i < (n : Int))) with
    | false => rw [hd] at e; simp at e
    | true =>
      rw [hd, cond_true] at e
      injection e with e; subst e
      simp only [Bool.and_eq_true, decide_eq_true_eq] at hd
      cases hj
      cases hx with
      | sempty => omega
      | sghost _ => omega
      | @slice _ _ _ _ B bs c hm hn hz hc =>
        refine ⟨.pointer (some ⟨B, bs + off + i.toNat * size, none⟩), ?_, ?_⟩
        · simp only [Instr.indexAt, asIntOf, Sem.run_bind, Sem.run_pure, Result.andThen_ok, run_underlying' hu, hd, and_self, if_true, run_size hs, addr_add]
        · rw [Nat.add_assoc]; exact .ptr hm
  · simp at e

theorem run_subArr (hr : HRel P w0 m E h w) {t : TypeId} {b off : Nat} {lo hi lo' hi' : Option Value} {y : Value} (e : subArr P t b off lo hi h = some y) {B bs : Nat} (hm : m b = some (B, bs))
    (hlo : ∀ u, lo = some u → ∃ y, lo' = some y ∧ V m (szB w) u y) (hlo0 : lo = none → lo' = none) (hhi : ∀ u, hi = some u → ∃ y, hi' = some y ∧ V m (szB w) u y) (hhi0 : hi = none → hi' = none) :
    ∃ y', (Instr.sliceAt t (.pointer (some ⟨B, bs + off, none⟩)) lo' hi' none).run P w = .ok y' w ∧ V m (szB w) y y' := by
  unfold subArr at e
  split at e
  · rename_i n el hu
    simp only [Option.bind_eq_some_iff] at e
    obtain ⟨size, hs, p, hp, e⟩ := e
    split at e
    · rename_i cs rw hg
      cases hb : (Nat.ble (off + n * size) cs.length && Nat.blt 0 size) with
      | false => simp [hb] at e
      | true =>
        rw [hb, cond_true] at e
        injection e with e; subst e
        simp only [Bool.and_eq_true, Nat.ble_eq, Nat.blt_eq] at hb
        rw [bound_same hp hlo hlo0, bound_same' hp hhi hhi0]
        obtain ⟨h1, h2, h3⟩ := boundsA_run (P := P) hp (Nat.le_refl _) false w
        obtain ⟨C, el', fz, k2, k3, _⟩ := hr.cellsM hg hm
        refine ⟨.slice (some (if n = p.1 then ⟨B, bs + off, none⟩ else Addr.add ⟨B, bs + off, none⟩ (p.1 * size))) (p.2 - p.1) (n - p.1), ?_, ?_⟩
        · simp only [Instr.sliceAt, Sem.run_bind, run_underlying' hu, Result.andThen_ok, Instr.sureAddr, Sem.run_pure, h1, run_size hs]
        · by_cases hcp : n = p.1
          · rw [if_pos hcp]
            rw [show p.2 - p.1 = 0 by omega, show n - p.1 = 0 by omega]
            exact .sempty
          · rw [if_neg hcp, addr_add, Nat.add_assoc]
            refine .slice hm (by omega) hb.2 ?_
            have hsz : szB w B = C.size := by unfold szB; rw [k2]
            rw [hsz]
            have h4 : p.1 * size + (n - p.1) * size = n * size := by rw [← Nat.add_mul]; congr 1; omega
            have := k3.1
            omega
    · simp at e
  · simp at e

theorem run_lenA {t ty : TypeId} {x x' y : Value} (e : lenA P t x = some y) {S : Nat → Nat} (hx : V m S x x') : (Builtin.len_ #[t] ty #[x']).run P w = .ok y w ∧ V m S y y := by
  unfold lenA at e
  split at e
  · rename_i s hu
    injection e with e; subst e
    cases hx
    exact ⟨by simp [Builtin.len_, run_underlying' hu, goInt], .int _ _⟩
  · rename_i n el hu
    injection e with e; subst e
    exact ⟨by simp [Builtin.len_, run_underlying' hu, goInt], .int _ _⟩
  · rename_i el A n c hu
    injection e with e; subst e
    refine ⟨?_, .int _ _⟩
    cases hx <;> simp [Builtin.len_, run_underlying' hu, goInt]
  · rename_i kt et hu
    injection e with e; subst e
    cases hx
    exact ⟨by simp [Builtin.len_, run_underlying' hu, goInt], .int _ _⟩
  · simp at e

theorem run_len {t ty : TypeId} {x x' y : Value} (e : lenMapA P t x h = some y) (hr : HRel P w0 m E h w) (hx : V m (szB w) x x') : (Builtin.len_ #[t] ty #[x']).run P w = .ok y w ∧ V m (szB w) y y := by
  unfold lenMapA at e
  split at e
  · rename_i kt et b hu
    split at e
    · rename_i es hg
      injection e with e; subst e
      obtain ⟨B, en, cl, h1, h2, _, h4, _⟩ := hr.maps b es hg
      cases hx with
      | map hm =>
        rw [h1] at hm
        injection hm with hm
        injection hm with hm _
        subst hm
        have hl := h4.length
        simp only [List.length_map, Array.length_toList] at hl
        have hgo : (getObj B).run P w = .ok (.map en cl) w := by simp only [getObj, Sem.run, h2]
        refine ⟨?_, .int _ _⟩
        simp [Builtin.len_, run_underlying' hu, hgo, goInt, hl]
    · simp at e
  · exact run_lenA e hx

theorem run_lenArr {t ty : TypeId} {x' y : Value} (ha : isArr P t = true) (e : lenA P t .nilFunc = some y) : (Builtin.len_ #[t] ty #[x']).run P w = .ok y w ∧ V m (szB w) y y := by
  obtain ⟨n, el, hu⟩ := isArr_some ha
  unfold lenA at e
  rw [hu] at e
  simp only [Option.some.injEq] at e
  subst e
  exact ⟨by simp [Builtin.len_, run_underlying' hu, goInt], .int _ _⟩

theorem run_method {t : TypeId} {name : String} {f : FuncId} (e : methodA P t name = some f) (x : Value) (w : World) : (method (P.types.size + Made.depth) t x name).run P w = .ok (f, x) w := by
  unfold methodA at e
  split at e
  · rename_i i hi
    split at e
    · rename_i mt hmt
      cases hp : mt.path.isEmpty with
      | false => rw [hp] at e; simp at e
      | true =>
        rw [hp, cond_true] at e
        have hpath : mt.path.toList = [] := by simpa using hp
        obtain ⟨d, hd⟩ : ∃ d, P.types.size + Made.depth = d + 1 := ⟨P.types.size + 99, rfl⟩
        rw [hd]
        clear hd
        split at e
        · rename_i f' el hf hu
          injection e with e; subst e
          simp [method, run_info hi, hmt, hpath, follow, hf, receiverAt, run_underlying' hu, Place.get]
        · simp at e
        · rename_i f' d hne hf hu
          injection e with e; subst e
          have : (receiverAt t (.val x) false (if mt.path.isEmpty = true then some ((name.splitOn ".").getLastD name) else none)).run P w = .ok x w := by
            simp only [receiverAt, Sem.run_bind, run_underlying' hu, Result.andThen_ok]
            cases d <;> first | rfl | (exact absurd hu (hne _)) | (exact absurd rfl (hne _))
          simp [method, run_info hi, hmt, hpath, follow, hf] at this ⊢
          rw [this]; rfl
        · simp at e
    · simp at e
  · simp at e

end Go.Agm
