/- The document's Step against the machine in plain words: words. No condition. -/
import Derived.Test.YtadaindmgmielaaPi
namespace Go.Proofs.Ytadaindmgmielaa
open Go.Agm
variable {w0 : World}
def sgF (sc : List UInt8) : Nat → Int := fun i => ((sc.getD i 0).toNat : Int)
/-- A machine, as the document's. -/
def dw (wr : Bool) (M : Mc) : Dw := { n := M.l.length, m := M.lo.length, wr := wr, pg := M.pg, ky := M.ky, val := M.val, f := sgF M.sc, g := rg M.rs, pc := M.pc, nx := M.nx, code := M.code, en := M.en, cl := insC M.l, lc := ints (M.lo.map (·.1)), ld := ints (M.lo.map (·.2)) }
def like (R R' : Dw) : Prop := R.n = R'.n ∧ R.m = R'.m ∧ R.wr = R'.wr ∧ R.pg = R'.pg ∧ R.ky = R'.ky ∧ R.val = R'.val ∧ (∀ i, i < 64 → R.f i = R'.f i) ∧ (∀ i, i < 8 → R.g i = R'.g i) ∧ R.pc = R'.pc ∧ R.nx = R'.nx ∧ R.code = R'.code ∧ R.en = R'.en ∧ R.cl = R'.cl ∧ R.lc = R'.lc ∧ R.ld = R'.ld
theorem map_lt {n : Nat} {f f' : Nat → Int} (F : Int → Value) (h : ∀ i, i < n → f i = f' i) : (List.range n).map (fun i => F (f i)) = (List.range n).map fun i => F (f' i) :=
  List.map_congr_left fun i hi => by rw [h i (List.mem_range.1 hi)]
theorem like_bs {R R' : Dw} (h : like R R') : R.bs = R'.bs := by
  obtain ⟨n, m, wr, pg, ky, val, f, g, pc, nx, code, en, cl, lc, ld⟩ := R
  obtain ⟨n', m', wr', pg', ky', val', f', g', pc', nx', code', en', cl', lc', ld'⟩ := R'
  obtain ⟨h1, h2, h3, h4, h5, h6, h7, h8, h9, h10, h11, h12, h13, h14, h15⟩ := h
  simp only at h1 h2 h3 h4 h5 h6 h7 h8 h9 h10 h11 h12 h13 h14 h15
  subst h1 h2 h3 h4 h5 h6 h9 h10 h11 h12 h13 h14 h15
  unfold Dw.bs dK dR
  simp only
  rw [map_lt (Value.int .u8) h7, map_lt I h8]
theorem dw_fit (wr : Bool) (M : Mc) : (dw wr M).fit := by
  unfold dw Dw.fit
  simp only [unIns_insC, unI_ints, List.length_map, and_self]
theorem like_fit {R : Dw} {wr : Bool} {M : Mc} (h : like R (dw wr M)) : R.fit := by
  obtain ⟨h1, h2, _, _, _, _, _, _, _, _, _, _, h13, h14, h15⟩ := h
  unfold Dw.fit
  rw [h1, h2, h13, h14, h15]
  exact dw_fit wr M
theorem like_ok {R : Dw} {wr : Bool} {M : Mc} {K : List Value → AHeap → Prop} {b : Bool} (h : like R (dw wr M)) (hK : K [B b] (heapB G (dw wr M).bs)) : kR K b R :=
  kD_ok (R' := R) (like_fit h) rfl rfl rfl rfl (by rw [like_bs h]; exact hK)
theorem nrm_lt {k : Nat} {f : Nat → Int} {i : Nat} (h : i < k) : nrm k f i = f i := by
  unfold nrm
  rw [List.getD_eq_getElem?_getD, List.getElem?_eq_getElem (by simpa using h)]
  simp
theorem upd_set {rs : List Int} (h : rs.length = 8) {d : Nat} (hd : d < 8) (v : Int) (i : Nat) : upd (rg rs) d v i = rg (rs.set d v) i := by
  rw [rg_set h hd]
  unfold upd
  by_cases e : i = d
  · subst e; rw [if_pos rfl, Nat.beq_refl]; rfl
  · rw [if_neg e, show Nat.beq i d = false from Bool.eq_false_iff.2 fun h => e (Nat.eq_of_beq_eq_true h)]; rfl
theorem upd_nrm {rs : List Int} (h : rs.length = 8) {d : Nat} (hd : d < 8) (v : Int) (i : Nat) (hi : i < 8) : upd (nrm 8 (rg rs)) d v i = rg (rs.set d v) i := by
  rw [← upd_set h hd]
  unfold upd
  rw [nrm_lt hi]
theorem rU23_eq (a : Int) : rU23 a = r28 a := by
  unfold rU23 r28
  by_cases h1 : a < -1099511627776
  · rw [decide_eq_true h1, cond_true]
    repeat' split
    all_goals omega
  · rw [decide_eq_false h1, cond_false]
    by_cases h2 : a > 1099511627776
    · rw [decide_eq_true h2, cond_true]
      repeat' split
      all_goals omega
    · rw [decide_eq_false h2, cond_false]
      repeat' split
      all_goals omega
abbrev SemT (w0 : World) (nt : Nt) (K : List Value → AHeap → Prop) (t : List Item) (fr : List AV) (h : AHeap) : Prop := Agm.Sem Try.prog w0 (Try.prog.globals.size + nt.flags.length) Try.f13 (retT G nt K) t fr h
theorem leaf13_E {K : List Value → AHeap → Prop} : ∀ t fr h, leaf13 (SemT w0 ntE K) t fr h → SemT w0 ntE K t fr h := by
  intro t fr h e
  unfold leaf13 at e
  split at e
  · exact canonT_semN (nt := nt13) rfl e
  · exact canonT_semN (nt := ntF) rfl e
  · exact canonT_semN (nt := nt13) rfl e
  · exact e.elim
theorem leaf13_6 {K : List Value → AHeap → Prop} : ∀ t fr h, leaf13 (SemT w0 ntE6 K) t fr h → SemT w0 ntE6 K t fr h := by
  intro t fr h e
  unfold leaf13 at e
  split at e
  · exact canonT_semN (nt := nt13) rfl e
  · exact canonT_semN (nt := ntF) rfl e
  · exact canonT_semN (nt := nt13) rfl e
  · exact e.elim
theorem ok13 : ∀ c ∈ cs13, c.ok Try.prog w0 := fun c hc => by
  simp only [List.mem_cons, List.not_mem_nil, or_false] at hc
  rcases hc with rfl | rfl | rfl | rfl | rfl | rfl
  · exact conR_ok
  · exact conU23_ok
  · exact conT24_ok
  · exact con25d_ok
  · exact con26d_ok
  · exact con27d_ok
/-- The document's machine with an instruction read. -/
noncomputable abbrev atI (wr : Bool) (M : Mc) (o d s i : Int) : AHeap := heapB G (hpX M.l.length (insC M.l) wr M.pg M.ky (sgF M.sc) (rg M.rs) M.pc M.lo.length (ints (M.lo.map (·.1))) (ints (M.lo.map (·.2))) M.val M.nx M.code M.en o d s i)
/-- What is known of a machine. -/
structure Kn (M : Mc) : Prop where
  inv : Inv M
  ok : Mok M
  bd : Bd M.rs
theorem like_g {wr : Bool} {M M' : Mc} {g : Nat → Int} (e : M' = { M with rs := M'.rs, pc := w (M.pc + 1), st := M'.st }) (hg : ∀ i, i < 8 → g i = rg M'.rs i) :
    like ⟨M.l.length, M.lo.length, wr, M.pg, M.ky, M.val, sgF M.sc, g, w (M.pc + 1), M.nx, M.code, M.en, insC M.l, ints (M.lo.map (·.1)), ints (M.lo.map (·.2))⟩ (dw wr M') := by
  obtain ⟨l, pg, ky, sc, rs, pc, lo, code, val, nx, st, en⟩ := M
  obtain ⟨l', pg', ky', sc', rs', pc', lo', code', val', nx', st', en'⟩ := M'
  simp only [Mc.mk.injEq] at e
  obtain ⟨rfl, rfl, rfl, rfl, _, rfl, rfl, rfl, rfl, rfl, _, rfl⟩ := e
  exact ⟨rfl, rfl, rfl, rfl, rfl, rfl, fun _ _ => rfl, hg, rfl, rfl, rfl, rfl, rfl, rfl, rfl⟩

set_option maxRecDepth 100000 in
set_option maxHeartbeats 4000000 in
theorem num_sem {M : Mc} {wr : Bool} {K : List Value → AHeap → Prop} (hM : Kn M) {op i : Int} {d s : Nat} (hd : d < 8) (_hs : s < 8) (hi : -2147483648 ≤ i ∧ i < 2147483648) (h6 : op = 6 → 0 ≤ i) (hop : op = 0 ∨ op = 1 ∨ op = 2 ∨ op = 3 ∨ op = 4 ∨ op = 5 ∨ op = 6)
    (hK : K [B true] (heapB G (dw wr (nextM (stepX M ⟨op, d, s, i⟩).2 0)).bs)) : SemT w0 ntE K todo13 (fr13 (rg M.rs d) (rg M.rs s)) (atI wr M op d s i) := by
  have h8 := hM.ok.rs
  have hD := hM.bd d hd
  have hT : TTT := ⟨trivial, trivial, trivial⟩
  rcases hop with rfl | rfl | rfl | rfl | rfl | rfl | rfl
  · have ev := d0 M.l.length M.lo.length M.pg M.ky M.val (sgF M.sc) (rg M.rs) M.pc M.nx M.code M.en wr (insC M.l) (ints (M.lo.map (·.1))) (ints (M.lo.map (·.2))) (rg M.rs d) (rg M.rs s) s i K (SemT w0 ntE K) d hd
    refine seg_semI3 (F := ft13) mixed (callsOf_ok ok13) leaf13_E [6, 33, 43] 20 400 (ev.mpr ?_)
    have e : stepX M ⟨0, d, s, i⟩ = (true, { M with rs := M.rs.set d (i) }) := rfl
    rw [e] at hK
    have hl := like_g (wr := wr) (M := M) (M' := nextM { M with rs := M.rs.set d (i) } 0) (g := upd (rg M.rs) d (i)) rfl fun j _ => upd_set h8 hd _ j
    exact like_ok hl hK
  · have ev := d1 M.l.length M.lo.length M.pg M.ky M.val (sgF M.sc) (rg M.rs) M.pc M.nx M.code M.en wr (insC M.l) (ints (M.lo.map (·.1))) (ints (M.lo.map (·.2))) (rg M.rs d) (rg M.rs s) s i K (SemT w0 ntE K) d hd
    refine seg_semI3 (F := ft13) mixed (callsOf_ok ok13) leaf13_E [6, 33, 43] 20 400 (ev.mpr ?_)
    have e : stepX M ⟨1, d, s, i⟩ = (true, { M with rs := M.rs.set d (rg M.rs s) }) := rfl
    rw [e] at hK
    have hl := like_g (wr := wr) (M := M) (M' := nextM { M with rs := M.rs.set d (rg M.rs s) } 0) (g := upd (rg M.rs) d (rg M.rs s)) rfl fun j _ => upd_set h8 hd _ j
    exact like_ok hl hK
  · have ev := d2 M.l.length M.lo.length M.pg M.ky M.val (sgF M.sc) (rg M.rs) M.pc M.nx M.code M.en wr (insC M.l) (ints (M.lo.map (·.1))) (ints (M.lo.map (·.2))) (rg M.rs d) (rg M.rs s) s i K (SemT w0 ntE K) d hd
    refine seg_semI3 (F := ft13) mixed (callsOf_ok ok13) leaf13_E [6, 33, 43] 20 400 (ev.mpr ?_)
    have e : stepX M ⟨2, d, s, i⟩ = (true, { M with rs := M.rs.set d (r28 (w (rg M.rs d + rg M.rs s))) }) := rfl
    rw [e] at hK
    have hl := like_g (wr := wr) (M := M) (M' := nextM { M with rs := M.rs.set d (r28 (w (rg M.rs d + rg M.rs s))) } 0) (g := upd (rg M.rs) d (r28 (w (rg M.rs d + rg M.rs s)))) rfl fun j _ => upd_set h8 hd _ j
    rw [rU23_eq]
    exact ⟨hT, like_ok hl hK⟩
  · have ev := d3 M.l.length M.lo.length M.pg M.ky M.val (sgF M.sc) (rg M.rs) M.pc M.nx M.code M.en wr (insC M.l) (ints (M.lo.map (·.1))) (ints (M.lo.map (·.2))) (rg M.rs d) (rg M.rs s) s i K (SemT w0 ntE K) d hd
    refine seg_semI3 (F := ft13) mixed (callsOf_ok ok13) leaf13_E [6, 33, 43] 20 400 (ev.mpr ?_)
    have e : stepX M ⟨3, d, s, i⟩ = (true, { M with rs := M.rs.set d (r28 (w (rg M.rs d - rg M.rs s))) }) := rfl
    rw [e] at hK
    have hl := like_g (wr := wr) (M := M) (M' := nextM { M with rs := M.rs.set d (r28 (w (rg M.rs d - rg M.rs s))) } 0) (g := upd (rg M.rs) d (r28 (w (rg M.rs d - rg M.rs s)))) rfl fun j _ => upd_set h8 hd _ j
    rw [rU23_eq]
    exact ⟨hT, like_ok hl hK⟩
  · have ev := d4 M.l.length M.lo.length M.pg M.ky M.val (sgF M.sc) (rg M.rs) M.pc M.nx M.code M.en wr (insC M.l) (ints (M.lo.map (·.1))) (ints (M.lo.map (·.2))) (rg M.rs d) (rg M.rs s) s i K (SemT w0 ntE K) d hd
    refine seg_semI3 (F := ft13) mixed (callsOf_ok ok13) leaf13_E [6, 33, 43] 20 400 (ev.mpr ?_)
    have e : stepX M ⟨4, d, s, i⟩ = (true, { M with rs := M.rs.set d (r28 (w (rg M.rs d + i))) }) := rfl
    rw [e] at hK
    have hl := like_g (wr := wr) (M := M) (M' := nextM { M with rs := M.rs.set d (r28 (w (rg M.rs d + i))) } 0) (g := upd (rg M.rs) d (r28 (w (rg M.rs d + i)))) rfl fun j _ => upd_set h8 hd _ j
    rw [rU23_eq]
    exact ⟨hT, like_ok hl hK⟩
  · have ev := d5 M.l.length M.lo.length M.pg M.ky M.val (sgF M.sc) (rg M.rs) M.pc M.nx M.code M.en wr (insC M.l) (ints (M.lo.map (·.1))) (ints (M.lo.map (·.2))) (rg M.rs d) (rg M.rs s) s i K (SemT w0 ntE K) d hd
    refine seg_semI3 (F := ft13) mixed (callsOf_ok ok13) leaf13_E [6, 33, 43] 20 400 (ev.mpr ?_)
    have e : stepX M ⟨5, d, s, i⟩ = (true, { M with rs := M.rs.set d (r77 (rg M.rs d) i) }) := by
      have hv : numV M.rs 5 d s i = r77 (rg M.rs d) i := by
        show r52b (r28 (rg M.rs d)) (r28 (rg M.rs d)) i = _
        rw [r28_id hD]; unfold r52b; split <;> rfl
      rw [← hv]; rfl
    rw [e] at hK
    have hl := like_g (wr := wr) (M := M) (M' := nextM { M with rs := M.rs.set d (r77 (rg M.rs d) i) } 0) (g := upd (rg M.rs) d (r77 (rg M.rs d) i)) rfl fun j _ => upd_set h8 hd _ j
    exact ⟨⟨trivial, trivial, hD, hi⟩, like_ok hl hK⟩
  · have ev := d6 M.l.length M.lo.length M.pg M.ky M.val (sgF M.sc) (rg M.rs) M.pc M.nx M.code M.en wr (insC M.l) (ints (M.lo.map (·.1))) (ints (M.lo.map (·.2))) (rg M.rs d) (rg M.rs s) s i K (SemT w0 ntE K) d hd
    refine seg_semI3 (F := ft13) mixed (callsOf_ok ok13) leaf13_E [6, 33, 43] 20 400 (ev.mpr ?_)
    have e : stepX M ⟨6, d, s, i⟩ = (true, { M with rs := M.rs.set d (r69b (rg M.rs d) 0 i) }) := rfl
    rw [e] at hK
    have hl : ∀ g : Nat → Int, (∀ j, j < 8 → g j = rg (M.rs.set d (r69b (rg M.rs d) 0 i)) j) → like ⟨M.l.length, M.lo.length, wr, M.pg, M.ky, M.val, sgF M.sc, g, w (M.pc + 1), M.nx, M.code, M.en, insC M.l, ints (M.lo.map (·.1)), ints (M.lo.map (·.2))⟩ (dw wr (nextM { M with rs := M.rs.set d (r69b (rg M.rs d) 0 i) } 0)) :=
      fun g hg => like_g (wr := wr) (M := M) (M' := nextM { M with rs := M.rs.set d (r69b (rg M.rs d) 0 i) } 0) rfl hg
    have hset : ∀ v, r69b (rg M.rs d) 0 i = v → ∀ j, j < 8 → upd (rg M.rs) d v j = rg (M.rs.set d (r69b (rg M.rs d) 0 i)) j := fun v e j _ => by rw [e]; exact upd_set h8 hd v j
    have h0 := h6 rfl
    have hr : r69b (rg M.rs d) 0 i = if rg M.rs d < 0 then 0 else if rg M.rs d > i then i else rg M.rs d := by
      unfold r69b
      repeat' split
      all_goals omega
    refine bifP (fun c1 => ?_) (fun c1 => ?_)
    · simp only [decide_eq_true_eq] at c1
      refine bifP (fun c2 => ?_) (fun c2 => ?_)
      · simp only [decide_eq_true_eq] at c2
        exact like_ok (hl _ (hset 0 (by rw [hr, if_pos c2]))) hK
      · simp only [decide_eq_false_iff_not] at c2
        exact like_ok (hl _ (hset i (by rw [hr, if_neg c2, if_pos c1]))) hK
    · simp only [decide_eq_false_iff_not] at c1
      refine bifP (fun c2 => ?_) (fun c2 => ?_)
      · simp only [decide_eq_true_eq] at c2
        exact like_ok (hl _ (hset 0 (by rw [hr, if_pos c2]))) hK
      · simp only [decide_eq_false_iff_not] at c2
        refine like_ok (hl _ fun j hj => ?_) hK
        rw [hr, if_neg c2, if_neg c1, rg_set h8 hd]
        by_cases ej : j = d
        · rw [if_pos ej, ej]; rfl
        · rw [if_neg ej]; rfl

section
variable {M : Mc} {wr : Bool} {K : List Value → AHeap → Prop}
abbrev Rd (wr : Bool) (M : Mc) : Dw := Rn M.l.length M.lo.length M.pg M.ky M.val (sgF M.sc) (rg M.rs) M.pc M.nx M.code M.en wr (insC M.l) (ints (M.lo.map (·.1))) (ints (M.lo.map (·.2)))
theorem Rd_fit : (Rd wr M).fit := by
  unfold Rd Rn Dw.fit
  simp only [unIns_insC, unI_ints, List.length_map, and_self]
theorem Rd_lo : loD (Rd wr M) = M.lo := by
  unfold loD Rd Rn
  simp only [unI_ints]
  exact List.zip_map' .. ▸ by simp
theorem scF_nrm {sc : List UInt8} (h : sc.length = 64) : scF (nrm 64 (sgF sc)) = ⟨sc.toArray⟩ := by
  unfold scF
  congr 2
  apply List.ext_getElem
  · simp [h]
  · intro i h1 h2
    have hi : i < 64 := by simpa using h1
    rw [List.getElem_map, List.getElem_range, nrm_lt hi]
    unfold sgF
    rw [List.getD_eq_getElem?_getD, List.getElem?_eq_getElem h2]
    simp
theorem look_like (hM : Kn M) {op i : Int} {d s : Nat} (hd : d < 8) (hs : s < 8) (hok : (lookM M op d s i).1 = true) :
    (lookD (Rd wr M) op d s i).1 = true ∧ like (nextD (lookD (Rd wr M) op d s i)) (dw wr (nextM (lookM M op d s i).2 0)) := by
  have hsrc : srcD (Rd wr M) op = srcM M op := by
    unfold srcD srcM
    rw [show (Rd wr M).f = nrm 64 (sgF M.sc) from rfl, scF_nrm hM.ok.sc]
  have hg : (Rd wr M).g s = rg M.rs s := nrm_lt hs
  have e2 := lookM_ok hok
  unfold lookM at hok
  unfold lookD
  rw [hsrc, hg]
  cases c : r79b (srcM M op) (w (rg M.rs s + i)) (szM op) with
  | false => rw [c] at hok; cases hok
  | true =>
    refine ⟨rfl, ?_⟩
    rw [e2, cond_true]
    exact ⟨rfl, rfl, rfl, rfl, rfl, rfl, fun j hj => nrm_lt hj, fun j hj => upd_nrm hM.ok.rs hd _ j hj, rfl, rfl, rfl, rfl, rfl, rfl, rfl⟩
theorem call_like (hM : Kn M) {i : Int} (hok : (callM M i).1 = true) :
    (callD (Rd wr M) i).1 = true ∧ like (nextD (callD (Rd wr M) i)) (dw wr (nextM (callM M i).2 0)) := by
  have h2 : (Rd wr M).g 2 = rg M.rs 2 := nrm_lt (k := 8) (i := 2) (by omega)
  have h3 : (Rd wr M).g 3 = rg M.rs 3 := nrm_lt (k := 8) (i := 3) (by omega)
  have base : ∀ {nx : Int} {val : ByteArray} {g : Nat → Int} {rs : List Int}, (∀ j, j < 8 → g j = rg rs j) → like { Rd wr M with nx := nx, val := val, g := g, pc := w (M.pc + 1) } (dw wr (nextM { M with nx := nx, val := val, rs := rs } 0)) :=
    fun hg => ⟨rfl, rfl, rfl, rfl, rfl, rfl, fun j hj => nrm_lt hj, hg, rfl, rfl, rfl, rfl, rfl, rfl, rfl⟩
  have hn : ∀ j, j < 8 → nrm 8 (rg M.rs) j = rg M.rs j := fun j hj => nrm_lt hj
  unfold callM at hok ⊢
  unfold callD
  rw [h2, h3, show (Rd wr M).pg = M.pg from rfl, show (Rd wr M).ky = M.ky from rfl]
  cases c1 : i == 3 with
  | true => exact ⟨rfl, base (nx := rg M.rs 2) (val := M.val) hn⟩
  | false =>
    rw [c1] at hok
    simp only [cond_false] at hok ⊢
    cases c2 : !r79b M.pg (rg M.rs 2) (rg M.rs 3) with
    | true => rw [c2] at hok; cases hok
    | false =>
      rw [c2] at hok
      simp only [cond_false] at hok ⊢
      cases c3 : decide (((r79a M.pg (rg M.rs 2) (rg M.rs 3)).size : Int) > bif i == 2 then 24 else 16) with
      | true => rw [c3] at hok; cases hok
      | false =>
        simp only [cond_false]
        cases c4 : i == 2 with
        | true => exact ⟨rfl, base (nx := M.nx) (val := r79a M.pg (rg M.rs 2) (rg M.rs 3)) hn⟩
        | false => exact ⟨rfl, base (nx := M.nx) (val := M.val) (rs := M.rs.set 0 (cmpS M.ky (r79a M.pg (rg M.rs 2) (rg M.rs 3)))) fun j hj => upd_nrm hM.ok.rs (by omega) _ j hj⟩
theorem jump_like {i : Int} (hok : (jumpM M i).1 = true) :
    (jumpD (Rd wr M) i).1 = true ∧ like (nextD (jumpD (Rd wr M) i)) (dw wr (nextM (jumpM M i).2 0)) := by
  unfold jumpM at hok ⊢
  unfold jumpD
  rw [Rd_lo, show (Rd wr M).pc = M.pc from rfl, show (Rd wr M).n = M.l.length from rfl, show unIns (Rd wr M).cl = M.l from unIns_insC _]
  cases c1 : decide (i ≤ M.pc) with
  | true => rw [c1] at hok; cases hok
  | false =>
    rw [c1] at hok
    simp only [cond_false] at hok ⊢
    cases c2 : decide (i ≥ (M.l.length : Int)) with
    | true => rw [c2] at hok; cases hok
    | false => exact ⟨rfl, rfl, rfl, rfl, rfl, rfl, rfl, fun j hj => nrm_lt hj, fun j hj => nrm_lt hj, rfl, rfl, rfl, rfl, rfl, rfl, rfl⟩
theorem pl_dw (R : Dw) {M' : Mc} (h : like R (dw wr M')) : PL3 R.cl R.lc R.ld := fit_pl (like_fit h)
theorem ask_ok13 {R : Dw} {ok : Prop} {r : Bool × Dw} {M' : Mc} (hR : R.fit) (hok : ok) (h1 : r.1 = true) (h2 : like (nextD r) (dw wr M')) (hK : K [B true] (heapB G (dw wr M').bs)) : askD K R ok r := by
  refine ⟨⟨fit_pl hR, fit_pl (R := nextD r) (like_fit h2), ⟨hR, rfl⟩, hok⟩, ?_⟩
  rw [h1]
  exact like_ok h2 hK
end

section
variable {M : Mc} {wr : Bool} {K : List Value → AHeap → Prop}
theorem store_like (hM : Kn M) {d s : Nat} {i : Int} (hok : (storeM M ⟨11, d, s, i⟩).1 = true) : ∃ k : Nat, k < 64 ∧ w (rg M.rs d + i) = (k : Int) ∧
    like ⟨M.l.length, M.lo.length, wr, M.pg, M.ky, M.val, upd (sgF M.sc) k (IntKind.u8.wrap (rg M.rs s)), rg M.rs, w (M.pc + 1), M.nx, M.code, M.en, insC M.l, ints (M.lo.map (·.1)), ints (M.lo.map (·.2))⟩ (dw wr (nextM (storeM M ⟨11, d, s, i⟩).2 0)) := by
  unfold storeM at hok ⊢
  simp only [Int.toNat_natCast] at hok ⊢
  cases c1 : decide (w (rg M.rs d + i) < 0) with
  | true => rw [c1] at hok; cases hok
  | false =>
    rw [c1] at hok
    simp only [cond_false] at hok ⊢
    cases c2 : decide (w (rg M.rs d + i) ≥ 64) with
    | true => rw [c2] at hok; cases hok
    | false =>
      simp only [decide_eq_false_iff_not] at c1 c2
      obtain ⟨k, hk⟩ := Int.eq_ofNat_of_zero_le (show 0 ≤ w (rg M.rs d + i) by omega)
      have hk64 : k < 64 := by omega
      refine ⟨k, hk64, hk, rfl, rfl, rfl, rfl, rfl, rfl, fun j hj => ?_, fun _ _ => rfl, rfl, rfl, rfl, rfl, rfl, rfl, rfl⟩
      show upd (sgF M.sc) k (IntKind.u8.wrap (rg M.rs s)) j = sgF (M.sc.set (w (rg M.rs d + i)).toNat (UInt8.ofNat (IntKind.u8.wrap (rg M.rs s)).toNat)) j
      rw [hk, Int.toNat_natCast]
      have hu := u8_cell (rg M.rs s)
      have hu2 : IntKind.u8.wrap (rg M.rs s) = ((UInt8.ofNat (IntKind.u8.wrap (rg M.rs s)).toNat).toNat : Int) := by injection hu
      unfold upd sgF
      by_cases e : j = k
      · subst e
        rw [Nat.beq_refl, cond_true, List.getD_eq_getElem?_getD, List.getElem?_set_self (by rw [hM.ok.sc]; omega)]
        exact hu2
      · rw [show Nat.beq j k = false from Bool.eq_false_iff.2 fun h => e (Nat.eq_of_beq_eq_true h), cond_false, List.getD_eq_getElem?_getD, List.getD_eq_getElem?_getD, List.getElem?_set_ne (Ne.symm e)]
theorem okJ_dw (hM : Kn M) : okJ M.l.length M.lo.length M.pc (Rd wr M) := by
  refine ⟨hM.inv.lo3, hM.inv.n, ?_⟩
  rw [Rd_lo]
  exact fun o ho => ⟨(hM.inv.los o ho).1, by have := (hM.inv.los o ho).2; omega⟩
theorem like_pc {M : Mc} : like ⟨M.l.length, M.lo.length, wr, M.pg, M.ky, M.val, sgF M.sc, rg M.rs, w (M.pc + 1), M.nx, M.code, M.en, insC M.l, ints (M.lo.map (·.1)), ints (M.lo.map (·.2))⟩ (dw wr (nextM M 0)) :=
  ⟨rfl, rfl, rfl, rfl, rfl, rfl, fun _ _ => rfl, fun _ _ => rfl, rfl, rfl, rfl, rfl, rfl, rfl, rfl⟩
set_option maxRecDepth 100000 in
set_option maxHeartbeats 4000000 in
theorem oth_sem (hM : Kn M) {op i : Int} {d s : Nat} (hd : d < 8) (hs : s < 8) (h19 : op = 19 → i = 1 ∨ i = 2 ∨ i = 3) (hop : op = 7 ∨ op = 8 ∨ op = 9 ∨ op = 10 ∨ op = 11 ∨ op = 12 ∨ op = 13 ∨ op = 14 ∨ op = 15 ∨ op = 16 ∨ op = 19 ∨ op = 20)
    (hok : (stepX M ⟨op, d, s, i⟩).1 = true) (hK : K [B true] (heapB G (dw wr (nextM (stepX M ⟨op, d, s, i⟩).2 0)).bs)) : SemT w0 ntE K todo13 (fr13 (rg M.rs d) (rg M.rs s)) (atI wr M op d s i) := by
  have hb : (0 ≤ (d : Int) ∧ (d : Int) < 8 ∧ 0 ≤ (s : Int) ∧ (s : Int) < 8) := ⟨by omega, by omega, by omega, by omega⟩
  have hpg : M.pg.size ≤ 1000000000 := hM.inv.pg
  rcases hop with rfl | rfl | rfl | rfl | rfl | rfl | rfl | rfl | rfl | rfl | rfl | rfl
  · have e : stepX M ⟨7, d, s, i⟩ = lookM M 7 d s i := rfl
    rw [e] at hok hK
    obtain ⟨l1, l2⟩ := look_like (wr := wr) hM hd hs hok
    have ev := d7 M.l.length M.lo.length M.pg M.ky M.val (sgF M.sc) (rg M.rs) M.pc M.nx M.code M.en wr (insC M.l) (ints (M.lo.map (·.1))) (ints (M.lo.map (·.2))) (rg M.rs d) (rg M.rs s) d s i K (SemT w0 ntE K)
    refine seg_semI3 (F := ft13) mixed (callsOf_ok ok13) leaf13_E [6, 33, 43] 20 400 (ev.mpr ?_)
    exact ask_ok13 Rd_fit ⟨.inl rfl, hb, hpg, hM.inv.ky⟩ l1 l2 hK
  · have e : stepX M ⟨8, d, s, i⟩ = lookM M 8 d s i := rfl
    rw [e] at hok hK
    obtain ⟨l1, l2⟩ := look_like (wr := wr) hM hd hs hok
    have ev := d8 M.l.length M.lo.length M.pg M.ky M.val (sgF M.sc) (rg M.rs) M.pc M.nx M.code M.en wr (insC M.l) (ints (M.lo.map (·.1))) (ints (M.lo.map (·.2))) (rg M.rs d) (rg M.rs s) d s i K (SemT w0 ntE K)
    refine seg_semI3 (F := ft13) mixed (callsOf_ok ok13) leaf13_E [6, 33, 43] 20 400 (ev.mpr ?_)
    exact ask_ok13 Rd_fit ⟨.inr (.inl rfl), hb, hpg, hM.inv.ky⟩ l1 l2 hK
  · have e : stepX M ⟨9, d, s, i⟩ = lookM M 9 d s i := rfl
    rw [e] at hok hK
    obtain ⟨l1, l2⟩ := look_like (wr := wr) hM hd hs hok
    have ev := d9 M.l.length M.lo.length M.pg M.ky M.val (sgF M.sc) (rg M.rs) M.pc M.nx M.code M.en wr (insC M.l) (ints (M.lo.map (·.1))) (ints (M.lo.map (·.2))) (rg M.rs d) (rg M.rs s) d s i K (SemT w0 ntE K)
    refine seg_semI3 (F := ft13) mixed (callsOf_ok ok13) leaf13_E [6, 33, 43] 20 400 (ev.mpr ?_)
    exact ask_ok13 Rd_fit ⟨.inr (.inr (.inl rfl)), hb, hpg, hM.inv.ky⟩ l1 l2 hK
  · have e : stepX M ⟨10, d, s, i⟩ = lookM M 10 d s i := rfl
    rw [e] at hok hK
    obtain ⟨l1, l2⟩ := look_like (wr := wr) hM hd hs hok
    have ev := d10 M.l.length M.lo.length M.pg M.ky M.val (sgF M.sc) (rg M.rs) M.pc M.nx M.code M.en wr (insC M.l) (ints (M.lo.map (·.1))) (ints (M.lo.map (·.2))) (rg M.rs d) (rg M.rs s) d s i K (SemT w0 ntE K)
    refine seg_semI3 (F := ft13) mixed (callsOf_ok ok13) leaf13_E [6, 33, 43] 20 400 (ev.mpr ?_)
    exact ask_ok13 Rd_fit ⟨.inr (.inr (.inr rfl)), hb, hpg, hM.inv.ky⟩ l1 l2 hK
  · have e : stepX M ⟨11, d, s, i⟩ = storeM M ⟨11, d, s, i⟩ := rfl
    rw [e] at hok hK
    obtain ⟨k, k1, k2, k3⟩ := store_like (wr := wr) hM hok
    have ev := d11 M.l.length M.lo.length M.pg M.ky M.val (sgF M.sc) (rg M.rs) M.pc M.nx M.code M.en wr (insC M.l) (ints (M.lo.map (·.1))) (ints (M.lo.map (·.2))) (rg M.rs d) (rg M.rs s) d s i K (SemT w0 ntE K)
    refine seg_semI3 (F := ft13) mixed (callsOf_ok ok13) leaf13_E [6, 33, 43] 20 400 (ev.mpr ?_)
    rw [k2, decide_eq_true (show (k : Int) ≥ 0 by omega), decide_eq_true (show (k : Int) < 64 by omega)]
    refine ⟨pl_dw _ (like_pc (wr := wr)), ?_⟩
    have ev2 := d33 M.l.length M.lo.length M.pg M.ky M.val (sgF M.sc) (rg M.rs) M.pc M.nx M.code M.en wr (insC M.l) (ints (M.lo.map (·.1))) (ints (M.lo.map (·.2))) (rg M.rs s) true K (SemT w0 ntE K) k k1
    refine seg_semI3 (F := ft13) mixed (callsOf_ok ok13) leaf13_E [6, 33, 43] 20 400 (ev2.mpr ?_)
    exact like_ok k3 hK
  · have e : stepX M ⟨12, d, s, i⟩ = jumpM M i := rfl
    rw [e] at hok hK
    obtain ⟨l1, l2⟩ := jump_like (wr := wr) hok
    have ev := d12 M.l.length M.lo.length M.pg M.ky M.val (sgF M.sc) (rg M.rs) M.pc M.nx M.code M.en wr (insC M.l) (ints (M.lo.map (·.1))) (ints (M.lo.map (·.2))) (rg M.rs d) (rg M.rs s) d s i K (SemT w0 ntE K)
    refine seg_semI3 (F := ft13) mixed (callsOf_ok ok13) leaf13_E [6, 33, 43] 20 400 (ev.mpr ?_)
    exact ask_ok13 Rd_fit (okJ_dw hM) l1 l2 hK
  · have e : stepX M ⟨13, d, s, i⟩ = bif !(rg M.rs d == rg M.rs s) then (true, M) else jumpM M i := by
      show (bif !r54 13 (rg M.rs d) (rg M.rs s) then (true, M) else jumpM M i) = _
      rfl
    rw [e] at hok hK
    have ev := d13 M.l.length M.lo.length M.pg M.ky M.val (sgF M.sc) (rg M.rs) M.pc M.nx M.code M.en wr (insC M.l) (ints (M.lo.map (·.1))) (ints (M.lo.map (·.2))) (rg M.rs d) (rg M.rs s) d s i K (SemT w0 ntE K)
    refine seg_semI3 (F := ft13) mixed (callsOf_ok ok13) leaf13_E [6, 33, 43] 20 400 (ev.mpr ?_)
    refine bifP (fun c => ?_) (fun c => ?_)
    · rw [c] at hok hK
      simp only [Bool.not_true, cond_false] at hok hK
      obtain ⟨l1, l2⟩ := jump_like (wr := wr) hok
      exact ask_ok13 Rd_fit (okJ_dw hM) l1 l2 hK
    · rw [c] at hK
      exact like_ok like_pc hK
  · have e : stepX M ⟨14, d, s, i⟩ = bif !(rg M.rs d != rg M.rs s) then (true, M) else jumpM M i := by
      show (bif !r54 14 (rg M.rs d) (rg M.rs s) then (true, M) else jumpM M i) = _
      rfl
    rw [e] at hok hK
    have ev := d14 M.l.length M.lo.length M.pg M.ky M.val (sgF M.sc) (rg M.rs) M.pc M.nx M.code M.en wr (insC M.l) (ints (M.lo.map (·.1))) (ints (M.lo.map (·.2))) (rg M.rs d) (rg M.rs s) d s i K (SemT w0 ntE K)
    refine seg_semI3 (F := ft13) mixed (callsOf_ok ok13) leaf13_E [6, 33, 43] 20 400 (ev.mpr ?_)
    refine bifP (fun c => ?_) (fun c => ?_)
    · rw [c] at hok hK
      simp only [Bool.not_true, cond_false] at hok hK
      obtain ⟨l1, l2⟩ := jump_like (wr := wr) hok
      exact ask_ok13 Rd_fit (okJ_dw hM) l1 l2 hK
    · rw [c] at hK
      exact like_ok like_pc hK
  · have e : stepX M ⟨15, d, s, i⟩ = bif !(decide (rg M.rs d < rg M.rs s)) then (true, M) else jumpM M i := by
      show (bif !r54 15 (rg M.rs d) (rg M.rs s) then (true, M) else jumpM M i) = _
      rfl
    rw [e] at hok hK
    have ev := d15 M.l.length M.lo.length M.pg M.ky M.val (sgF M.sc) (rg M.rs) M.pc M.nx M.code M.en wr (insC M.l) (ints (M.lo.map (·.1))) (ints (M.lo.map (·.2))) (rg M.rs d) (rg M.rs s) d s i K (SemT w0 ntE K)
    refine seg_semI3 (F := ft13) mixed (callsOf_ok ok13) leaf13_E [6, 33, 43] 20 400 (ev.mpr ?_)
    refine bifP (fun c => ?_) (fun c => ?_)
    · rw [c] at hok hK
      simp only [Bool.not_true, cond_false] at hok hK
      obtain ⟨l1, l2⟩ := jump_like (wr := wr) hok
      exact ask_ok13 Rd_fit (okJ_dw hM) l1 l2 hK
    · rw [c] at hK
      exact like_ok like_pc hK
  · have e : stepX M ⟨16, d, s, i⟩ = bif !(decide (rg M.rs d ≤ rg M.rs s)) then (true, M) else jumpM M i := by
      show (bif !r54 16 (rg M.rs d) (rg M.rs s) then (true, M) else jumpM M i) = _
      rfl
    rw [e] at hok hK
    have ev := d16 M.l.length M.lo.length M.pg M.ky M.val (sgF M.sc) (rg M.rs) M.pc M.nx M.code M.en wr (insC M.l) (ints (M.lo.map (·.1))) (ints (M.lo.map (·.2))) (rg M.rs d) (rg M.rs s) d s i K (SemT w0 ntE K)
    refine seg_semI3 (F := ft13) mixed (callsOf_ok ok13) leaf13_E [6, 33, 43] 20 400 (ev.mpr ?_)
    refine bifP (fun c => ?_) (fun c => ?_)
    · rw [c] at hok hK
      simp only [Bool.not_true, cond_false] at hok hK
      obtain ⟨l1, l2⟩ := jump_like (wr := wr) hok
      exact ask_ok13 Rd_fit (okJ_dw hM) l1 l2 hK
    · rw [c] at hK
      exact like_ok like_pc hK
  · have e : stepX M ⟨19, d, s, i⟩ = callM M i := rfl
    rw [e] at hok hK
    obtain ⟨l1, l2⟩ := call_like (wr := wr) hM hok
    have ev := d19 M.l.length M.lo.length M.pg M.ky M.val (sgF M.sc) (rg M.rs) M.pc M.nx M.code M.en wr (insC M.l) (ints (M.lo.map (·.1))) (ints (M.lo.map (·.2))) (rg M.rs d) (rg M.rs s) d s i K (SemT w0 ntE K)
    refine seg_semI3 (F := ft13) mixed (callsOf_ok ok13) leaf13_E [6, 33, 43] 20 400 (ev.mpr ?_)
    exact ask_ok13 Rd_fit ⟨hpg, h19 rfl⟩ l1 l2 hK
  · have e : stepX M ⟨20, d, s, i⟩ = (true, { M with code := rg M.rs 0, en := true }) := rfl
    rw [e] at hK
    have ev := d20 M.l.length M.lo.length M.pg M.ky M.val (sgF M.sc) (rg M.rs) M.pc M.nx M.code M.en wr (insC M.l) (ints (M.lo.map (·.1))) (ints (M.lo.map (·.2))) (rg M.rs d) (rg M.rs s) d s i K (SemT w0 ntE K)
    refine seg_semI3 (F := ft13) mixed (callsOf_ok ok13) leaf13_E [6, 33, 43] 20 400 (ev.mpr ?_)
    exact like_ok (like_pc (M := { M with code := rg M.rs 0, en := true })) hK
end

section
variable {wr : Bool} {K : List Value → AHeap → Prop}
set_option maxRecDepth 100000 in
set_option maxHeartbeats 400000 in
theorem end_sem {M : Mc} (h3 : M.lo.length ≤ 3) {i : Int} {d s : Nat}
    (hok : (stepX M ⟨18, d, s, i⟩).1 = true) (hK : K [B true] (heapB G (dw wr (nextM (stepX M ⟨18, d, s, i⟩).2 0)).bs)) : SemT w0 ntE K todo13 (fr13 (rg M.rs d) (rg M.rs s)) (atI wr M 18 d s i) := by
  have e : stepX M ⟨18, d, s, i⟩ = endM M := rfl
  rw [e] at hok hK
  obtain ⟨l, pg, ky, sc, rs, pc, lo, code, val, nx, st, en⟩ := M
  simp only at h3
  match lo, h3 with
  | [], _ => exact absurd hok (by intro h; cases h)
  | [(a, a')], _ =>
    have e2 : endM ⟨l, pg, ky, sc, rs, pc, [(a, a')], code, val, nx, st, en⟩ = bif decide (w (a' - 1) > 0) then (true, ⟨l, pg, ky, sc, rs, a, [(a, w (a' - 1))], code, val, nx, st, en⟩) else (true, ⟨l, pg, ky, sc, rs, pc, [], code, val, nx, st, en⟩) := rfl
    rw [e2] at hK
    have ev := d18_1 l.length pg ky val (sgF sc) (rg rs) pc nx code en wr (insC l) (rg rs d) (rg rs s) d s i a a' K (SemT w0 ntE K)
    refine seg_semI3 (F := ft13) mixed (callsOf_ok ok13) leaf13_E [6, 33, 43] 20 400 (ev.mpr ?_)
    refine bifP (fun hc => ?_) (fun hc => ?_)
    · rw [hc] at hK
      exact like_ok (wr := wr) (R := ⟨l.length, 1, wr, pg, ky, val, sgF sc, rg rs, w (a + 1), nx, code, en, insC l, [I a], [I (w (a' - 1))]⟩) (M := nextM ⟨l, pg, ky, sc, rs, a, [(a, w (a' - 1))], code, val, nx, st, en⟩ 0) ⟨rfl, rfl, rfl, rfl, rfl, rfl, fun _ _ => rfl, fun _ _ => rfl, rfl, rfl, rfl, rfl, rfl, rfl, rfl⟩ hK
    · rw [hc] at hK
      exact like_ok (wr := wr) (R := ⟨l.length, 0, wr, pg, ky, val, sgF sc, rg rs, w (pc + 1), nx, code, en, insC l, [], []⟩) (M := nextM ⟨l, pg, ky, sc, rs, pc, [], code, val, nx, st, en⟩ 0) ⟨rfl, rfl, rfl, rfl, rfl, rfl, fun _ _ => rfl, fun _ _ => rfl, rfl, rfl, rfl, rfl, rfl, rfl, rfl⟩ hK
  | [(a, a'), (b, b')], _ =>
    have e2 : endM ⟨l, pg, ky, sc, rs, pc, [(a, a'), (b, b')], code, val, nx, st, en⟩ = bif decide (w (b' - 1) > 0) then (true, ⟨l, pg, ky, sc, rs, b, [(a, a'), (b, w (b' - 1))], code, val, nx, st, en⟩) else (true, ⟨l, pg, ky, sc, rs, pc, [(a, a')], code, val, nx, st, en⟩) := rfl
    rw [e2] at hK
    have ev := d18_2 l.length pg ky val (sgF sc) (rg rs) pc nx code en wr (insC l) (rg rs d) (rg rs s) d s i a b a' b' K (SemT w0 ntE K)
    refine seg_semI3 (F := ft13) mixed (callsOf_ok ok13) leaf13_E [6, 33, 43] 20 400 (ev.mpr ?_)
    refine bifP (fun hc => ?_) (fun hc => ?_)
    · rw [hc] at hK
      exact like_ok (wr := wr) (R := ⟨l.length, 2, wr, pg, ky, val, sgF sc, rg rs, w (b + 1), nx, code, en, insC l, [I a, I b], [I a', I (w (b' - 1))]⟩) (M := nextM ⟨l, pg, ky, sc, rs, b, [(a, a'), (b, w (b' - 1))], code, val, nx, st, en⟩ 0) ⟨rfl, rfl, rfl, rfl, rfl, rfl, fun _ _ => rfl, fun _ _ => rfl, rfl, rfl, rfl, rfl, rfl, rfl, rfl⟩ hK
    · rw [hc] at hK
      exact like_ok (wr := wr) (R := ⟨l.length, 1, wr, pg, ky, val, sgF sc, rg rs, w (pc + 1), nx, code, en, insC l, [I a], [I a']⟩) (M := nextM ⟨l, pg, ky, sc, rs, pc, [(a, a')], code, val, nx, st, en⟩ 0) ⟨rfl, rfl, rfl, rfl, rfl, rfl, fun _ _ => rfl, fun _ _ => rfl, rfl, rfl, rfl, rfl, rfl, rfl, rfl⟩ hK
  | [(a, a'), (b, b'), (c, c')], _ =>
    have e2 : endM ⟨l, pg, ky, sc, rs, pc, [(a, a'), (b, b'), (c, c')], code, val, nx, st, en⟩ = bif decide (w (c' - 1) > 0) then (true, ⟨l, pg, ky, sc, rs, c, [(a, a'), (b, b'), (c, w (c' - 1))], code, val, nx, st, en⟩) else (true, ⟨l, pg, ky, sc, rs, pc, [(a, a'), (b, b')], code, val, nx, st, en⟩) := rfl
    rw [e2] at hK
    have ev := d18_3 l.length pg ky val (sgF sc) (rg rs) pc nx code en wr (insC l) (rg rs d) (rg rs s) d s i a b c a' b' c' K (SemT w0 ntE K)
    refine seg_semI3 (F := ft13) mixed (callsOf_ok ok13) leaf13_E [6, 33, 43] 20 400 (ev.mpr ?_)
    refine bifP (fun hc => ?_) (fun hc => ?_)
    · rw [hc] at hK
      exact like_ok (wr := wr) (R := ⟨l.length, 3, wr, pg, ky, val, sgF sc, rg rs, w (c + 1), nx, code, en, insC l, [I a, I b, I c], [I a', I b', I (w (c' - 1))]⟩) (M := nextM ⟨l, pg, ky, sc, rs, c, [(a, a'), (b, b'), (c, w (c' - 1))], code, val, nx, st, en⟩ 0) ⟨rfl, rfl, rfl, rfl, rfl, rfl, fun _ _ => rfl, fun _ _ => rfl, rfl, rfl, rfl, rfl, rfl, rfl, rfl⟩ hK
    · rw [hc] at hK
      exact like_ok (wr := wr) (R := ⟨l.length, 2, wr, pg, ky, val, sgF sc, rg rs, w (pc + 1), nx, code, en, insC l, [I a, I b], [I a', I b']⟩) (M := nextM ⟨l, pg, ky, sc, rs, pc, [(a, a'), (b, b')], code, val, nx, st, en⟩ 0) ⟨rfl, rfl, rfl, rfl, rfl, rfl, fun _ _ => rfl, fun _ _ => rfl, rfl, rfl, rfl, rfl, rfl, rfl, rfl⟩ hK
  | _ :: _ :: _ :: _ :: _, h => exact absurd h (by simp)
/-- The machine behind a Loop's head, the rows that it had ahead of it beside it. -/
noncomputable def dw6 (wr : Bool) (M' : Mc) (lo : List (Int × Int)) : List (Option ABlk) :=
  [some (.cells (dR6 M'.l.length M'.pg M'.ky (sgF M'.sc) (rg M'.rs) M'.pc M'.lo.length M'.val M'.nx M'.code M'.en) true), some (.cells (insC M'.l) wr), some (.cells (ints (lo.map (·.1))) true), some (.cells (ints (lo.map (·.2))) true), some (.cells (ints (M'.lo.map (·.1))) true), some (.cells (ints (M'.lo.map (·.2))) true)]
theorem via_or {Q S T : Prop} (e : S = (Q ∨ S)) (sem : S → T) (hq : Q) : T := sem (e.mpr (.inl hq))
theorem plain_I1 (a : Int) : PlainL [I a] := plain_ints [a]
set_option maxRecDepth 100000 in
set_option maxHeartbeats 400000 in
theorem loop_sem {M : Mc} (h3 : M.lo.length ≤ 3) {i : Int} {d s : Nat}
    (hok : (stepX M ⟨17, d, s, i⟩).1 = true) (hK : K [B true] (heapB G (dw6 wr (nextM (stepX M ⟨17, d, s, i⟩).2 0) M.lo))) : SemT w0 ntE6 K todo13 (fr13 (rg M.rs d) (rg M.rs s)) (atI wr M 17 d s i) := by
  have e : stepX M ⟨17, d, s, i⟩ = loopM M ⟨17, d, s, i⟩ := rfl
  rw [e] at hok hK
  obtain ⟨l, pg, ky, sc, rs, pc, lo, code, val, nx, st, en⟩ := M
  simp only at h3
  match lo, h3 with
  | [], _ =>
    have e2 : loopM ⟨l, pg, ky, sc, rs, pc, [], code, val, nx, st, en⟩ ⟨17, d, s, i⟩ = (true, ⟨l, pg, ky, sc, rs, pc, [] ++ [(pc, i)], code, val, nx, st, en⟩) := rfl
    rw [e2] at hK
    show SemT w0 ntE6 K todo13 (fr13 (rg rs d) (rg rs s)) (heapB G (hpX l.length (insC l) wr pg ky (sgF sc) (rg rs) pc 0 [] [] val nx code en 17 d s i))
    have ev := d17 l.length 0 pg ky val (sgF sc) (rg rs) pc nx code en wr (insC l) [] [] (rg rs d) (rg rs s) d s i K (SemT w0 ntE6 K) ntE6 rfl
    refine seg_semI3 (F := ft13) mixed (callsOf_ok ok13) leaf13_6 [6, 33, 43] 20 400 (ev.mpr ?_)
    refine ⟨⟨plain_insC _, plain_ints [], plain_ints [], plain4 _ _ _ _, trivial⟩, ?_⟩
    have ev2 := seg43_0 l.length pg ky val (sgF sc) (rg rs) pc nx code en wr true (insC l)   d s i K (SemT w0 ntE6 K)
    have hq : Q43 l.length (insC l) wr pg ky (sgF sc) (rg rs) pc 1 [] [] [I pc] [I i] val nx code en K true := ⟨(⟨plain_insC _, plain_ints [], plain_ints [], plain_ints [pc], plain_ints [i], trivial⟩ : PlainL (insC l) ∧ PlainL [] ∧ PlainL [] ∧ PlainL [I pc] ∧ PlainL [I i] ∧ True), hK⟩
    exact via_or ev2 (seg_semI3 (F := ft13) mixed (callsOf_ok ok13) leaf13_6 [6, 33, 43] 20 400) hq
  | [(a, a')], _ =>
    have e2 : loopM ⟨l, pg, ky, sc, rs, pc, [(a, a')], code, val, nx, st, en⟩ ⟨17, d, s, i⟩ = (true, ⟨l, pg, ky, sc, rs, pc, [(a, a')] ++ [(pc, i)], code, val, nx, st, en⟩) := rfl
    rw [e2] at hK
    show SemT w0 ntE6 K todo13 (fr13 (rg rs d) (rg rs s)) (heapB G (hpX l.length (insC l) wr pg ky (sgF sc) (rg rs) pc 1 [I a] [I a'] val nx code en 17 d s i))
    have ev := d17 l.length 1 pg ky val (sgF sc) (rg rs) pc nx code en wr (insC l) [I a] [I a'] (rg rs d) (rg rs s) d s i K (SemT w0 ntE6 K) ntE6 rfl
    refine seg_semI3 (F := ft13) mixed (callsOf_ok ok13) leaf13_6 [6, 33, 43] 20 400 (ev.mpr ?_)
    refine ⟨⟨plain_insC _, plain_ints [a], plain_ints [a'], plain4 _ _ _ _, trivial⟩, ?_⟩
    have ev2 := seg43_1 l.length pg ky val (sgF sc) (rg rs) pc nx code en wr true (insC l) a a' d s i K (SemT w0 ntE6 K)
    have hq : Q43 l.length (insC l) wr pg ky (sgF sc) (rg rs) pc 2 [I a] [I a'] [I a, I pc] [I a', I i] val nx code en K true := ⟨(⟨plain_insC _, plain_ints [a], plain_ints [a'], plain_ints [a, pc], plain_ints [a', i], trivial⟩ : PlainL (insC l) ∧ PlainL [I a] ∧ PlainL [I a'] ∧ PlainL [I a, I pc] ∧ PlainL [I a', I i] ∧ True), hK⟩
    exact via_or ev2 (seg_semI3 (F := ft13) mixed (callsOf_ok ok13) leaf13_6 [6, 33, 43] 20 400) hq
  | [(a, a'), (b, b')], _ =>
    have e2 : loopM ⟨l, pg, ky, sc, rs, pc, [(a, a'), (b, b')], code, val, nx, st, en⟩ ⟨17, d, s, i⟩ = (true, ⟨l, pg, ky, sc, rs, pc, [(a, a'), (b, b')] ++ [(pc, i)], code, val, nx, st, en⟩) := rfl
    rw [e2] at hK
    show SemT w0 ntE6 K todo13 (fr13 (rg rs d) (rg rs s)) (heapB G (hpX l.length (insC l) wr pg ky (sgF sc) (rg rs) pc 2 [I a, I b] [I a', I b'] val nx code en 17 d s i))
    have ev := d17 l.length 2 pg ky val (sgF sc) (rg rs) pc nx code en wr (insC l) [I a, I b] [I a', I b'] (rg rs d) (rg rs s) d s i K (SemT w0 ntE6 K) ntE6 rfl
    refine seg_semI3 (F := ft13) mixed (callsOf_ok ok13) leaf13_6 [6, 33, 43] 20 400 (ev.mpr ?_)
    refine ⟨⟨plain_insC _, plain_ints [a, b], plain_ints [a', b'], plain4 _ _ _ _, trivial⟩, ?_⟩
    have ev2 := seg43_2 l.length pg ky val (sgF sc) (rg rs) pc nx code en wr true (insC l) a b a' b' d s i K (SemT w0 ntE6 K)
    have hq : Q43 l.length (insC l) wr pg ky (sgF sc) (rg rs) pc 3 [I a, I b] [I a', I b'] [I a, I b, I pc] [I a', I b', I i] val nx code en K true := ⟨(⟨plain_insC _, plain_ints [a, b], plain_ints [a', b'], plain_ints [a, b, pc], plain_ints [a', b', i], trivial⟩ : PlainL (insC l) ∧ PlainL [I a, I b] ∧ PlainL [I a', I b'] ∧ PlainL [I a, I b, I pc] ∧ PlainL [I a', I b', I i] ∧ True), hK⟩
    exact via_or ev2 (seg_semI3 (F := ft13) mixed (callsOf_ok ok13) leaf13_6 [6, 33, 43] 20 400) hq
  | [_, _, _], _ => exact absurd hok (by intro h; cases h)
  | _ :: _ :: _ :: _ :: _, h => exact absurd h (by simp)
end

section
variable (n m : Nat) (pg ky val : ByteArray) (f g : Nat → Int) (pc nx code : Int) (en rw : Bool) (cl lc ld : List Value) (dv sv i : Int) (K : List Value → AHeap → Prop) (L : List Item → List AV → AHeap → Prop)
abbrev mid13 (n m : Nat) (pg ky val : ByteArray) (f g : Nat → Int) (pc nx code : Int) (en rw : Bool) (cl lc ld : List Value) (L : List Item → List AV → AHeap → Prop) : Prop :=
      bif decide (0 ≤ pc) && decide (pc < (n : Int)) then bif okX cl pc then
        (True ∧ True ∧ right ⟨ix cl pc 0, ix cl pc 1, ix cl pc 2, ix cl pc 3⟩ = true) ∧
        bif decide (0 ≤ pc) && decide (pc < (n : Int)) then bif okX cl pc then bif okX cl pc && veq 4 (agX cl pc) (agX cl pc) && (pc == pc && (veq 4 (SL (G + 1) n 4) (SL (G + 1) n 4) && true)) then
        bif decide (0 ≤ ix cl pc 1) && decide (ix cl pc 1 < 8) then bif okI .i64 (dRd n m pg ky val f g pc nx code en (ix cl pc 1)) then
        bif decide (0 ≤ ix cl pc 2) && decide (ix cl pc 2 < 8) then bif okI .i64 (dRd n m pg ky val f g pc nx code en (ix cl pc 2)) then
          PL4 cl lc ld (I4 cl pc) ∧ L todo13 (fr13 (intO (dRd n m pg ky val f g pc nx code en (ix cl pc 1))) (intO (dRd n m pg ky val f g pc nx code en (ix cl pc 2)))) (heapB G (dK n cl rw pg ky f g pc m lc ld val nx code en ++ [some (.cells (I4 cl pc) true)]))
        else False else False else False else False else False else False else False else False else False
theorem start13_E : seg13 cs13 ntE K L [.code (Try.f13.body.getD .skip)] (startF Try.f13 [PT G]) (heapB G (dK n cl rw pg ky f g pc m lc ld val nx code en))
    = (bif decide (pc ≥ (n : Int)) then kD n cl rw pg ky f g pc m lc ld val nx code en K false else mid13 n m pg ky val f g pc nx code en rw cl lc ld L) := start13 ..
theorem start13_6 : seg13 cs13 ntE6 K L [.code (Try.f13.body.getD .skip)] (startF Try.f13 [PT G]) (heapB G (dK n cl rw pg ky f g pc m lc ld val nx code en))
    = (bif decide (pc ≥ (n : Int)) then (PlainL cl ∧ PlainL lc ∧ PlainL ld ∧ PlainL lc ∧ PlainL ld ∧ True) ∧ K [B false] (heapB G [some (.cells (dR6 n pg ky f g pc m val nx code en) true), some (.cells cl rw), none, none, some (.cells lc true), some (.cells ld true)]) else mid13 n m pg ky val f g pc nx code en rw cl lc ld L) := by kernel_rfl
end
section
variable {M : Mc} {wr : Bool} {L : List Item → List AV → AHeap → Prop}
set_option maxRecDepth 100000 in
theorem mid_ok {k : Nat} (hk : M.pc = (k : Int)) (hlt : k < M.l.length) (hr : right M.l[k] = true) {d s : Nat} (hd : M.l[k].d = (d : Int)) (hs : M.l[k].s = (s : Int)) (hd8 : d < 8) (hs8 : s < 8)
    (h : L todo13 (fr13 (rg M.rs d) (rg M.rs s)) (atI wr M M.l[k].op d s M.l[k].imm)) :
    mid13 M.l.length M.lo.length M.pg M.ky M.val (sgF M.sc) (rg M.rs) M.pc M.nx M.code M.en wr (insC M.l) (ints (M.lo.map (·.1))) (ints (M.lo.map (·.2))) L := by
  obtain ⟨e1, ⟨e2, e3, e4, e5⟩, e6, e7, e8, e9⟩ := at_insC hlt
  have hx : okX (insC M.l) (k : Int) = true := by unfold okX; rw [e1, e2, e3, e4, e5]; rfl
  have hag : veq 4 (agX (insC M.l) (k : Int)) (agX (insC M.l) (k : Int)) = true := by simp [veq, veq.go]
  have hsl : veq 4 (SL (G + 1) M.l.length 4) (SL (G + 1) M.l.length 4) = true := by simp [veq]
  have hI4 : I4 (insC M.l) (k : Int) = [I M.l[k].op, I M.l[k].d, I M.l[k].s, I M.l[k].imm] := by
    unfold I4
    rw [e6, e7, e8, e9]; rfl
  obtain ⟨rd1, rd2⟩ := d_rd (n := M.l.length) (m := M.lo.length) (pg := M.pg) (ky := M.ky) (val := M.val) (f := sgF M.sc) (g := rg M.rs) (pc := (k : Int)) (nx := M.nx) (code := M.code) (en := M.en) (d := (d : Int)) (by omega) (by omega)
  obtain ⟨rs1, rs2⟩ := d_rd (n := M.l.length) (m := M.lo.length) (pg := M.pg) (ky := M.ky) (val := M.val) (f := sgF M.sc) (g := rg M.rs) (pc := (k : Int)) (nx := M.nx) (code := M.code) (en := M.en) (d := (s : Int)) (by omega) (by omega)
  rw [Int.toNat_natCast] at rd2 rs2
  unfold mid13
  rw [← hk] at hx hag hI4 rd1 rd2 rs1 rs2 e6 e7 e8 e9
  rw [hI4]
  have hright : right ⟨M.l[k].op, d, s, M.l[k].imm⟩ = true := by rw [← hd, ← hs]; exact hr
  rw [hx, hag, hsl, e6, e7, e8, e9, hd, hs, rd1, rd2, rs1, rs2, decide_eq_true (show (0 : Int) ≤ M.pc by omega), decide_eq_true (show M.pc < (M.l.length : Int) by omega), decide_eq_true (show (0 : Int) ≤ (d : Int) by omega), decide_eq_true (show (d : Int) < 8 by omega), decide_eq_true (show (0 : Int) ≤ (s : Int) by omega), decide_eq_true (show (s : Int) < 8 by omega)]
  simp only [beq_self_eq_true, Bool.and_self, cond_true]
  exact ⟨⟨trivial, trivial, hright⟩, ⟨plain_insC _, plain_ints _, plain_ints _, plain4 _ _ _ _, trivial⟩, h⟩
end
/-- The instruction that is to be done may be done. -/
structure StepOk (M : Mc) : Prop where
  kn : Kn M
  pc0 : 0 ≤ M.pc
  lt : M.pc < (M.l.length : Int)
  hr : right (insN M) = true
  ok : (stepX M (insN M)).1 = true
def nx13 (M : Mc) : Mc := nextM (stepX M (insN M)).2 0
theorem right_19 {x : Ins} (hx : right x = true) (h : x.op = 19) : x.imm = 1 ∨ x.imm = 2 ∨ x.imm = 3 := by
  have h51 := right_r51 hx
  rw [h] at h51
  have e5 : r51 19 x.d x.s x.imm = bif decide (x.imm ≥ 1) then decide (x.imm ≤ 3) else false := rfl
  rw [e5] at h51
  cases c : decide (x.imm ≥ 1) with
  | false => rw [c] at h51; cases h51
  | true => rw [c, cond_true] at h51; simp only [decide_eq_true_eq] at c h51; omega
theorem right_6 {x : Ins} (hx : right x = true) (h : x.op = 6) : 0 ≤ x.imm := by
  have h51 := right_r51 hx
  rw [h] at h51
  have e5 : r51 6 x.d x.s x.imm = decide (x.imm ≥ 0) := rfl
  rw [e5] at h51
  simpa using h51
section
variable {M : Mc} {wr : Bool}
set_option maxRecDepth 100000 in
theorem step_callS (h : StepOk M) (h17 : (insN M).op ≠ 17) : CallS Try.prog w0 13 [PT G] (heapB Try.prog.globals.size (dw wr M).bs) fun rs' h' => rs' = [B true] ∧ h' = heapB Try.prog.globals.size (dw wr (nx13 M)).bs := by
  obtain ⟨k, hk, hlt, hx⟩ := insN_eq h.pc0 h.lt
  have hr := h.hr
  have hok := h.ok
  have hkn := h.kn
  obtain ⟨⟨d0, d1⟩, s0, s1⟩ := right_regs hr
  have hi := right_imm hr
  have h6 := right_6 hr
  have h19 := right_19 hr
  have hop := right_op hr
  unfold nx13
  rw [hx] at hr hok d0 d1 s0 s1 hi h6 h19 hop h17 ⊢
  obtain ⟨d, hd⟩ := Int.eq_ofNat_of_zero_le d0
  obtain ⟨s, hs⟩ := Int.eq_ofNat_of_zero_le s0
  have hd8 : d < 8 := by omega
  have hs8 : s < 8 := by omega
  have hX : M.l[k] = ⟨M.l[k].op, d, s, M.l[k].imm⟩ := by
    rw [← hd, ← hs]
  have hn : (heapB Try.prog.globals.size (dw wr M).bs).next = Try.prog.globals.size + ntE.flags.length := by rw [heapB_next]; rfl
  refine retT_call (nt := ntE) hn (call_sem (cd := Try.f13.body.getD .skip) Try.func13 (by kernel_rfl) ?_)
  rw [hn]
  have ev := start13_E M.l.length M.lo.length M.pg M.ky M.val (sgF M.sc) (rg M.rs) M.pc M.nx M.code M.en wr (insC M.l) (ints (M.lo.map (·.1))) (ints (M.lo.map (·.2)))
    (fun rs' h' => rs' = [B true] ∧ h' = heapB Try.prog.globals.size (dw wr (nextM (stepX M M.l[k]).2 0)).bs) (SemT w0 ntE fun rs' h' => rs' = [B true] ∧ h' = heapB Try.prog.globals.size (dw wr (nextM (stepX M M.l[k]).2 0)).bs)
  rw [decide_eq_false (show ¬ M.pc ≥ (M.l.length : Int) by have := h.lt; omega), cond_false] at ev
  refine seg_semI3 (F := ft13) mixed (callsOf_ok ok13) leaf13_E [6, 33, 43] 20 400 (ev.mpr ?_)
  refine mid_ok hk hlt hr hd hs hd8 hs8 ?_
  generalize hop' : M.l[k].op = op at *
  generalize him : M.l[k].imm = im at *
  rw [hX] at hok ⊢
  have hK : ([B true] : List Value) = [B true] ∧ heapB G (dw wr (nextM (stepX M ⟨op, d, s, im⟩).2 0)).bs = heapB Try.prog.globals.size (dw wr (nextM (stepX M ⟨op, d, s, im⟩).2 0)).bs := ⟨rfl, rfl⟩
  rcases hop with h | h | h | h | h | h | h | h | h | h | h | h | h | h | h | h | h | h | h | h | h
  iterate 7 exact num_sem hkn hd8 hs8 hi h6 (by omega) hK
  iterate 10 exact oth_sem hkn hd8 hs8 h19 (by omega) hok hK
  · exact absurd h h17
  · subst h
    exact end_sem hkn.inv.lo3 hok hK
  iterate 2 exact oth_sem hkn hd8 hs8 h19 (by omega) hok hK
set_option maxRecDepth 100000 in
theorem loop_callS (h : StepOk M) (h17 : (insN M).op = 17) : CallS Try.prog w0 13 [PT G] (heapB Try.prog.globals.size (dw wr M).bs) fun rs' h' => rs' = [B true] ∧ h' = heapB Try.prog.globals.size (dw6 wr (nx13 M) M.lo) := by
  obtain ⟨k, hk, hlt, hx⟩ := insN_eq h.pc0 h.lt
  have hr := h.hr
  have hok := h.ok
  have hkn := h.kn
  obtain ⟨⟨d0, d1⟩, s0, s1⟩ := right_regs hr
  unfold nx13
  rw [hx] at hr hok d0 d1 s0 s1 h17 ⊢
  obtain ⟨d, hd⟩ := Int.eq_ofNat_of_zero_le d0
  obtain ⟨s, hs⟩ := Int.eq_ofNat_of_zero_le s0
  have hd8 : d < 8 := by omega
  have hs8 : s < 8 := by omega
  have hX : M.l[k] = ⟨17, d, s, M.l[k].imm⟩ := by
    rw [← hd, ← hs, ← h17]
  have hn : (heapB Try.prog.globals.size (dw wr M).bs).next = Try.prog.globals.size + ntE6.flags.length := by rw [heapB_next]; rfl
  refine retT_call (nt := ntE6) hn (call_sem (cd := Try.f13.body.getD .skip) Try.func13 (by kernel_rfl) ?_)
  rw [hn]
  have ev := start13_6 M.l.length M.lo.length M.pg M.ky M.val (sgF M.sc) (rg M.rs) M.pc M.nx M.code M.en wr (insC M.l) (ints (M.lo.map (·.1))) (ints (M.lo.map (·.2)))
    (fun rs' h' => rs' = [B true] ∧ h' = heapB Try.prog.globals.size (dw6 wr (nextM (stepX M M.l[k]).2 0) M.lo)) (SemT w0 ntE6 fun rs' h' => rs' = [B true] ∧ h' = heapB Try.prog.globals.size (dw6 wr (nextM (stepX M M.l[k]).2 0) M.lo))
  rw [decide_eq_false (show ¬ M.pc ≥ (M.l.length : Int) by have := h.lt; omega), cond_false] at ev
  refine seg_semI3 (F := ft13) mixed (callsOf_ok ok13) leaf13_6 [6, 33, 43] 20 400 (ev.mpr ?_)
  refine mid_ok hk hlt hr hd hs hd8 hs8 ?_
  generalize him : M.l[k].imm = im at *
  rw [h17]
  rw [hX] at hok ⊢
  exact loop_sem hkn.inv.lo3 hok ⟨rfl, rfl⟩
end

def mcOf (R : Dw) : Mc := { l := unIns R.cl, pg := R.pg, ky := R.ky, sc := (List.range 64).map fun i => UInt8.ofNat (R.f i).toNat, rs := (List.range 8).map R.g, pc := R.pc, lo := loD R, code := R.code, val := R.val, nx := R.nx, st := 0, en := R.en }
def Ok13 (R : Dw) : Prop := like R (dw R.wr (mcOf R)) ∧ StepOk (mcOf R)
noncomputable def con13a : Con := { f := 13, gh := ghD, paths := ptD, spec := fun vs bs => match vs with
  | [p] => match dP bs with
    | some (R, m2) => bif isPtr p 0 then some (m2 = R.m ∧ Ok13 R ∧ (insN (mcOf R)).op ≠ 17, [B true], flD.zip (dw R.wr (nx13 (mcOf R))).bs) else none
    | none => none
  | _ => none }
noncomputable def con13b : Con := { f := 13, gh := ghD, paths := ptD, spec := fun vs bs => match vs with
  | [p] => match dP bs with
    | some (R, m2) => bif isPtr p 0 then some (m2 = R.m ∧ Ok13 R ∧ (insN (mcOf R)).op = 17, [B true], [false, true, true, true, true, true].zip (dw6 R.wr (nx13 (mcOf R)) (loD R))) else none
    | none => none
  | _ => none }
set_option maxRecDepth 100000 in
theorem con13a_ok : con13a.ok Try.prog w0 := by
  intro vs bs p rs o e hp
  simp only [con13a] at e
  split at e <;> first | (simp at e; done) | skip
  rename_i p0
  split at e <;> first | (simp at e; done) | skip
  rename_i R m2 hm
  cases hq : isPtr p0 0 with
  | false => rw [hq] at e; simp at e
  | true =>
    rw [hq] at e
    simp only [cond_true, Option.some.injEq, Prod.mk.injEq] at e
    obtain ⟨rfl, rfl, rfl⟩ := e
    obtain ⟨h1, ⟨h2, h3⟩, h4⟩ := hp
    rw [isPtr_eq hq, dP_eq hm h1, like_bs h2]
    have hz : ∀ R : Dw, (flD.zip R.bs).map (·.2) = R.bs := fun R => zip_snd rfl
    rw [hz]
    exact step_callS h3 h4
set_option maxRecDepth 100000 in
theorem con13b_ok : con13b.ok Try.prog w0 := by
  intro vs bs p rs o e hp
  simp only [con13b] at e
  split at e <;> first | (simp at e; done) | skip
  rename_i p0
  split at e <;> first | (simp at e; done) | skip
  rename_i R m2 hm
  cases hq : isPtr p0 0 with
  | false => rw [hq] at e; simp at e
  | true =>
    rw [hq] at e
    simp only [cond_true, Option.some.injEq, Prod.mk.injEq] at e
    obtain ⟨rfl, rfl, rfl⟩ := e
    obtain ⟨h1, ⟨h2, h3⟩, h4⟩ := hp
    rw [isPtr_eq hq, dP_eq hm h1, like_bs h2]
    have hz : ∀ (wr : Bool) (M : Mc) (lo : List (Int × Int)), (([false, true, true, true, true, true] : List Bool).zip (dw6 wr M lo)).map (·.2) = dw6 wr M lo := fun _ _ _ => zip_snd rfl
    rw [hz]
    exact loop_callS h3 h4
theorem mcOf_rd {M : Mc} {wr : Bool} {f g : Nat → Int} (h : Mok M) (hf : ∀ i, i < 64 → f i = sgF M.sc i) (hg : ∀ i, i < 8 → g i = rg M.rs i) :
    mcOf ⟨M.l.length, M.lo.length, wr, M.pg, M.ky, M.val, f, g, M.pc, M.nx, M.code, M.en, insC M.l, ints (M.lo.map (·.1)), ints (M.lo.map (·.2))⟩ = { M with st := 0 } := by
  have e1 : loD (⟨M.l.length, M.lo.length, wr, M.pg, M.ky, M.val, f, g, M.pc, M.nx, M.code, M.en, insC M.l, ints (M.lo.map (·.1)), ints (M.lo.map (·.2))⟩ : Dw) = M.lo := Rd_lo (wr := wr)
  have e2 : ((List.range 64).map fun i => UInt8.ofNat (f i).toNat) = M.sc := by
    apply List.ext_getElem
    · rw [List.length_map, List.length_range, h.sc]
    · intro i h1 h2
      have hi : i < 64 := by simpa using h1
      rw [List.getElem_map, List.getElem_range, hf i hi]
      unfold sgF
      rw [List.getD_eq_getElem?_getD, List.getElem?_eq_getElem h2]
      simp
  have e3 : ((List.range 8).map g) = M.rs := by
    apply List.ext_getElem
    · rw [List.length_map, List.length_range, h.rs]
    · intro i h1 h2
      have hi : i < 8 := by simpa using h1
      rw [List.getElem_map, List.getElem_range, hg i hi]
      unfold rg
      rw [List.getD_eq_getElem?_getD, List.getElem?_eq_getElem h2]; rfl
  unfold mcOf
  rw [e1, e2, e3, unIns_insC]
end Go.Proofs.Ytadaindmgmielaa
