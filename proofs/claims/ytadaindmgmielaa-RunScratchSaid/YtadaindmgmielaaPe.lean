/- RunScratch's programs: what their run comes to. No condition. -/
import Derived.Test.YtadaindmgmielaaPd
import Derived.Test.YtadaindmgmielaaPc
namespace Go.Proofs.Ytadaindmgmielaa
open Go.Agm
/-- Three instructions that store a byte. -/
def st3 (p : Int × Int) : List Ins := [⟨0, 2, 0, p.1⟩, ⟨0, 3, 0, p.2⟩, ⟨11, 2, 3, 0⟩]
def fin3 (t : Int) : List Ins := [⟨0, 2, 0, t⟩, ⟨10, 0, 2, 0⟩, ⟨20, 0, 0, 0⟩]
def prS (ps : List (Int × Int)) : List Ins := (ps.map st3).flatten
def sc3 (sc : List UInt8) (p : Int × Int) : List UInt8 := sc.set p.1.toNat (UInt8.ofNat (IntKind.u8.wrap p.2).toNat)
def scS (sc : List UInt8) (ps : List (Int × Int)) : List UInt8 := ps.foldl sc3 sc
def OkP (p : Int × Int) : Prop := 0 ≤ p.1 ∧ p.1 < 64 ∧ 0 ≤ p.2 ∧ p.2 < 65536
theorem right_set {d : Int} (hd : d = 2 ∨ d = 3) {a : Int} (h1 : 0 ≤ a) (h2 : a < 65536) : right ⟨0, d, 0, a⟩ = true := by
  have key : ∀ d : Int, d = 2 ∨ d = 3 → right ⟨0, d, 0, a⟩ = bif decide (a < -2147483648) then false else bif decide (a ≥ 2147483648) then false else true := by
    rintro d (rfl | rfl) <;> kernel_rfl
  rw [key d hd, decide_eq_false (by omega), decide_eq_false (by omega)]
  rfl
/-- A machine at work on a straight program. -/
def mS (l : List Ins) (pg ky : ByteArray) (sc : List UInt8) (rs : List Int) (k : Nat) : Mc := { l := l, pg := pg, ky := ky, sc := sc, rs := rs, pc := (k : Int), lo := [], code := 0, val := ⟨#[]⟩, nx := 0, st := (k : Int), en := false }
theorem w_nat {k : Nat} (h : k < 1000000000) : w ((k : Int) + 1) = ((k + 1 : Nat) : Int) := by rw [w_id (by omega) (by omega)]; omega
section
variable {l : List Ins} {pg ky : ByteArray} {sc : List UInt8} {rs : List Int} {k : Nat} {fuel : Int}
theorem run_one {x : Ins} (f : Nat) {M : Mc} (he : M.en = false) (hpc : M.pc = (k : Int)) (hk : M.l[k]? = some x) (hr : right x = true) (hs : (k : Int) < fuel) (hok : (stepX M x).1 = true) (hb : k < 1000000000) :
    runF fuel (f + 1) M (k : Int) = runF fuel f (nextM (stepX M x).2 (k : Int)) ((k + 1 : Nat) : Int) := by
  have hlt : k < M.l.length := (List.getElem?_eq_some_iff.1 hk).1
  have hx : insN M = x := by
    unfold insN
    rw [hpc, Int.toNat_natCast, List.getD_eq_getElem?_getD, hk]; rfl
  have hst : stepM M = stepX M x := by unfold stepM; rw [hx, hr]; rfl
  rw [runF, he, cond_false, decide_eq_false (show ¬ M.pc ≥ (M.l.length : Int) by omega), cond_false, decide_eq_false (show ¬ (k : Int) ≥ fuel by omega), cond_false, hst, hok, cond_true, w_nat hb]
theorem rg_set_eq {i : Nat} {v : Int} (h : i < rs.length) : rg (rs.set i v) i = v := by
  unfold rg
  rw [List.getD_eq_getElem?_getD, List.getElem?_set_self h]; rfl
theorem rg_set_ne {i j : Nat} {v : Int} (h : i ≠ j) : rg (rs.set i v) j = rg rs j := by
  unfold rg
  rw [List.getD_eq_getElem?_getD, List.getD_eq_getElem?_getD, List.getElem?_set_ne h]
theorem run_set {d a : Int} (hd : d = 2 ∨ d = 3) (f : Nat) (hk : l[k]? = some ⟨0, d, 0, a⟩) (h1 : 0 ≤ a) (h2 : a < 65536) (hs : (k : Int) < fuel) (hb : k < 1000000000) :
    runF fuel (f + 1) (mS l pg ky sc rs k) (k : Int) = runF fuel f (mS l pg ky sc (rs.set d.toNat a) (k + 1)) ((k + 1 : Nat) : Int) := by
  rw [run_one (x := ⟨0, d, 0, a⟩) f rfl rfl hk (right_set hd h1 h2) hs rfl hb]
  have e : nextM (stepX (mS l pg ky sc rs k) ⟨0, d, 0, a⟩).2 (k : Int) = mS l pg ky sc (rs.set d.toNat a) (k + 1) := by
    show ({ l := l, pg := pg, ky := ky, sc := sc, rs := rs.set d.toNat a, pc := w ((k : Int) + 1), lo := [], code := 0, val := ⟨#[]⟩, nx := 0, st := w ((k : Int) + 1), en := false } : Mc) = _
    rw [w_nat hb]; rfl
  rw [e]
theorem run_store (f : Nat) (hk : l[k]? = some ⟨11, 2, 3, 0⟩) (hr : 0 ≤ rg rs 2) (hr2 : rg rs 2 < 64) (hs : (k : Int) < fuel) (hb : k < 1000000000) :
    runF fuel (f + 1) (mS l pg ky sc rs k) (k : Int) = runF fuel f (mS l pg ky (sc3 sc (rg rs 2, rg rs 3)) rs (k + 1)) ((k + 1 : Nat) : Int) := by
  have hw : w (rg rs 2 + 0) = rg rs 2 := by rw [w_id (by omega) (by omega)]; omega
  have hst : stepX (mS l pg ky sc rs k) ⟨11, 2, 3, 0⟩ = (true, { mS l pg ky sc rs k with sc := sc3 sc (rg rs 2, rg rs 3) }) := by
    show storeM (mS l pg ky sc rs k) ⟨11, 2, 3, 0⟩ = _
    unfold storeM
    show (bif decide (w (rg rs 2 + 0) < 0) then _ else bif decide (w (rg rs 2 + 0) ≥ 64) then _ else _) = _
    rw [hw, decide_eq_false (show ¬ rg rs 2 < 0 by omega), decide_eq_false (show ¬ rg rs 2 ≥ 64 by omega)]
    show (true, { mS l pg ky sc rs k with sc := sc.set (w (rg rs 2 + 0)).toNat (UInt8.ofNat (IntKind.u8.wrap (rg rs 3)).toNat) }) = _
    rw [hw]; rfl
  rw [run_one (x := ⟨11, 2, 3, 0⟩) f rfl rfl hk (by decide) hs (by rw [hst]) hb, hst]
  have e : nextM ({ mS l pg ky sc rs k with sc := sc3 sc (rg rs 2, rg rs 3) }) (k : Int) = mS l pg ky (sc3 sc (rg rs 2, rg rs 3)) rs (k + 1) := by
    show ({ l := l, pg := pg, ky := ky, sc := sc3 sc (rg rs 2, rg rs 3), rs := rs, pc := w ((k : Int) + 1), lo := [], code := 0, val := ⟨#[]⟩, nx := 0, st := w ((k : Int) + 1), en := false } : Mc) = _
    rw [w_nat hb]; rfl
  rw [e]
theorem run_st3 {p : Int × Int} (hp : OkP p) (f : Nat) (h0 : l[k]? = some ⟨0, 2, 0, p.1⟩) (h1 : l[k + 1]? = some ⟨0, 3, 0, p.2⟩) (h2 : l[k + 2]? = some ⟨11, 2, 3, 0⟩) (hrs : rs.length = 8) (hs : (k : Int) + 2 < fuel) (hb : k + 3 < 1000000000) :
    runF fuel (f + 3) (mS l pg ky sc rs k) (k : Int) = runF fuel f (mS l pg ky (sc3 sc p) ((rs.set 2 p.1).set 3 p.2) (k + 3)) ((k + 3 : Nat) : Int) := by
  obtain ⟨a1, a2, a3, a4⟩ := hp
  rw [run_set (.inl rfl) (f + 2) h0 a1 (by omega) (by omega) (by omega), run_set (.inr rfl) (f + 1) h1 a3 a4 (by omega) (by omega)]
  show runF fuel (f + 1) (mS l pg ky sc ((rs.set 2 p.1).set 3 p.2) (k + 2)) ((k + 2 : Nat) : Int) = _
  have e2 : rg ((rs.set 2 p.1).set 3 p.2) 2 = p.1 := by rw [rg_set_ne (by omega), rg_set_eq (by omega)]
  have e3 : rg ((rs.set 2 p.1).set 3 p.2) 3 = p.2 := rg_set_eq (by rw [List.length_set]; omega)
  rw [run_store f h2 (by rw [e2]; exact a1) (by rw [e2]; exact a2) (by omega) (by omega), e2, e3]
end
theorem prS_len (ps : List (Int × Int)) : (prS ps).length = 3 * ps.length := by
  unfold prS
  induction ps with
  | nil => rfl
  | cons p r ih => rw [List.map_cons, List.flatten_cons, List.length_append, ih]; simp [st3]; omega
theorem get_mid {l1 l2 : List Ins} {x : List Ins} {j : Nat} (h : j < x.length) : (l1 ++ (x ++ l2))[l1.length + j]? = some x[j] := by
  rw [List.getElem?_append_right (by omega), Nat.add_sub_cancel_left, List.getElem?_append_left h, List.getElem?_eq_getElem h]
theorem run_prS {pg ky : ByteArray} {fuel : Int} : ∀ (ps : List (Int × Int)) (l1 l2 : List Ins) (sc : List UInt8) (rs : List Int) (f : Nat), (∀ p ∈ ps, OkP p) → rs.length = 8 → (l1.length : Int) + 3 * ps.length ≤ fuel → l1.length + 3 * ps.length < 1000000000 →
    ∃ rs' : List Int, rs'.length = 8 ∧ runF fuel (f + 3 * ps.length) (mS (l1 ++ (prS ps ++ l2)) pg ky sc rs l1.length) (l1.length : Int) = runF fuel f (mS (l1 ++ (prS ps ++ l2)) pg ky (scS sc ps) rs' (l1.length + 3 * ps.length)) ((l1.length + 3 * ps.length : Nat) : Int) := by
  intro ps
  induction ps with
  | nil => intro l1 l2 sc rs f _ hrs _ _; exact ⟨rs, hrs, rfl⟩
  | cons p r ih =>
    intro l1 l2 sc rs f hp hrs hf hb
    simp only [List.length_cons] at hf hb
    have hl : l1 ++ (prS (p :: r) ++ l2) = (l1 ++ st3 p) ++ (prS r ++ l2) := by
      unfold prS
      rw [List.map_cons, List.flatten_cons]
      simp only [List.append_assoc]
    have hl' : (l1 ++ st3 p) ++ (prS r ++ l2) = l1 ++ (st3 p ++ (prS r ++ l2)) := by rw [List.append_assoc]
    rw [hl]
    have g0 : ((l1 ++ st3 p) ++ (prS r ++ l2))[l1.length]? = some ⟨0, 2, 0, p.1⟩ := by rw [hl']; exact get_mid (x := st3 p) (j := 0) (by simp [st3])
    have g1 : ((l1 ++ st3 p) ++ (prS r ++ l2))[l1.length + 1]? = some ⟨0, 3, 0, p.2⟩ := by rw [hl']; exact get_mid (x := st3 p) (j := 1) (by simp [st3])
    have g2 : ((l1 ++ st3 p) ++ (prS r ++ l2))[l1.length + 2]? = some ⟨11, 2, 3, 0⟩ := by rw [hl']; exact get_mid (x := st3 p) (j := 2) (by simp [st3])
    have e3 : f + 3 * (r.length + 1) = (f + 3 * r.length) + 3 := by omega
    have hlen : (l1 ++ st3 p).length = l1.length + 3 := by simp [st3]
    obtain ⟨rs', h1, h2⟩ := ih (l1 ++ st3 p) l2 (sc3 sc p) ((rs.set 2 p.1).set 3 p.2) f (fun q hq => hp q (List.mem_cons_of_mem _ hq)) (by rw [List.length_set, List.length_set]; exact hrs) (by rw [hlen]; omega) (by rw [hlen]; omega)
    refine ⟨rs', h1, ?_⟩
    rw [List.length_cons, e3, run_st3 (hp p List.mem_cons_self) _ g0 g1 g2 hrs (by omega) (by omega)]
    rw [hlen] at h2
    rw [h2]
    have e4 : l1.length + 3 + 3 * r.length = l1.length + 3 * (r.length + 1) := by omega
    rw [e4]; rfl
theorem raw1_eq (b : UInt8) : raw1 b = (b.toNat : Int) := by
  have hb : b.toNat < 256 := b.toNat_lt
  have h1 : w (b.toNat : Int) = (b.toNat : Int) := w_id (by omega) (by omega)
  unfold raw1
  rw [h1]
  have h2 : (BitVec.ofInt 64 0).or (BitVec.ofInt 64 (b.toNat : Int)) = BitVec.ofInt 64 (b.toNat : Int) := by
    show (BitVec.ofInt 64 0) ||| (BitVec.ofInt 64 (b.toNat : Int)) = _
    simp
  rw [h2]
  have h3 : (BitVec.ofInt 64 (b.toNat : Int)).toNat = b.toNat := by
    rw [BitVec.ofInt_natCast, BitVec.toNat_ofNat]
    omega
  rw [h3, h1]
theorem r80_at {sc : List UInt8} {t : Nat} (h : t < sc.length) (h64 : sc.length = 64) : r79b ⟨sc.toArray⟩ (t : Int) 1 = true ∧ r80 (r79a ⟨sc.toArray⟩ (t : Int) 1) = ((sc.getD t 0).toNat : Int) := by
  have hsz : (ByteArray.mk sc.toArray).size = sc.length := List.size_toArray
  have hb : r79b ⟨sc.toArray⟩ (t : Int) 1 = true := by
    unfold r79b
    rw [hsz, h64, decide_eq_false (show ¬ (t : Int) < 0 by omega), decide_eq_false (show ¬ (1 : Int) < 0 by omega), decide_eq_false (show ¬ (1 : Int) > ((64 : Nat) : Int) by omega)]
    rw [w_id (by omega) (by omega), decide_eq_false (show ¬ (t : Int) > ((64 : Nat) : Int) - 1 by omega)]; rfl
  refine ⟨hb, ?_⟩
  have hw : w ((t : Int) + 1) = ((t + 1 : Nat) : Int) := w_nat (by omega)
  have he : (r79a ⟨sc.toArray⟩ (t : Int) 1).data.toList = [sc[t]] := by
    unfold r79a
    rw [hb, cond_true, hw, Int.toNat_natCast, Int.toNat_natCast, ByteArray.data_extract, Array.toList_extract]
    show List.extract sc t (t + 1) = _
    rw [List.extract_eq_take_drop, show t + 1 - t = 1 by omega, List.drop_eq_getElem_cons h]; rfl
  unfold r80
  rw [he]
  show raw1 sc[t] = _
  rw [raw1_eq, List.getD_eq_getElem?_getD, List.getElem?_eq_getElem h]; rfl
theorem scS_len : ∀ (ps : List (Int × Int)) (sc : List UInt8), (scS sc ps).length = sc.length
  | [], sc => rfl
  | p :: r, sc => by
    have := scS_len r (sc3 sc p)
    unfold scS at this ⊢
    rw [List.foldl_cons, this]
    unfold sc3; rw [List.length_set]
/-- The run of such a program. -/
theorem run_all {pg ky : ByteArray} {sc : List UInt8} {ps : List (Int × Int)} {t : Nat} (hp : ∀ p ∈ ps, OkP p) (ht : t < 64) (hsc : sc.length = 64) (hn : ps.length ≤ 30) :
    endOf (runP (prS ps ++ fin3 t) pg ky sc 200) = { e := none, code := (((scS sc ps).getD t 0).toNat : Int), val := ⟨#[]⟩, nx := 0, st := ((3 * ps.length + 3 : Nat) : Int), sc := scS sc ps } := by
  obtain ⟨rs, hrs, h1⟩ := run_prS (pg := pg) (ky := ky) (fuel := 200) ps [] (fin3 t) sc [0, (ky.size : Int), 0, 0, 0, 0, 0, 0] (201 - 3 * ps.length) hp rfl (by simp; omega) (by simp; omega)
  simp only [List.length_nil, List.nil_append, Nat.zero_add] at h1
  have hlen := scS_len ps sc
  have hk := prS_len ps
  generalize hK : 3 * ps.length = k at h1 hk
  have g : ∀ j, (h : j < 3) → (prS ps ++ fin3 t)[k + j]? = some ((fin3 t)[j]'(by simp [fin3]; omega)) := by
    intro j h
    rw [List.getElem?_append_right (by omega), hk, Nat.add_sub_cancel_left, List.getElem?_eq_getElem]
  have q : runP (prS ps ++ fin3 t) pg ky sc 200 = runF 200 (201 - k) (mS (prS ps ++ fin3 t) pg ky (scS sc ps) rs k) (k : Int) := by
    rw [← h1]
    have : (200 : Int).toNat + 1 = 201 - k + k := by
      have : (200 : Int).toNat = 200 := rfl
      omega
    unfold runP
    rw [this]; rfl
  obtain ⟨f, hf⟩ : ∃ f, 201 - k = f + 4 := ⟨197 - k, by omega⟩
  rw [q, hf]
  have s1 := run_set (l := prS ps ++ fin3 t) (pg := pg) (ky := ky) (sc := scS sc ps) (rs := rs) (k := k) (fuel := 200) (d := 2) (a := (t : Int)) (.inl rfl) (f + 3) (g 0 (by omega)) (by omega) (by omega) (by omega) (by omega)
  rw [s1]
  have hrs2 : rg (rs.set (2 : Int).toNat (t : Int)) 2 = (t : Int) := rg_set_eq (by rw [hrs]; decide)
  generalize hR : rs.set (2 : Int).toNat (t : Int) = rs2 at hrs2
  have hrl : rs2.length = 8 := by rw [← hR, List.length_set]; exact hrs
  obtain ⟨b1, b2⟩ := r80_at (sc := scS sc ps) (t := t) (by rw [hlen, hsc]; exact ht) (by rw [hlen]; exact hsc)
  have hw0 : w ((t : Int) + 0) = (t : Int) := by rw [w_id (by omega) (by omega)]; omega
  have s2 : stepX (mS (prS ps ++ fin3 t) pg ky (scS sc ps) rs2 (k + 1)) ⟨10, 0, 2, 0⟩ = (true, { mS (prS ps ++ fin3 t) pg ky (scS sc ps) rs2 (k + 1) with rs := rs2.set 0 (((scS sc ps).getD t 0).toNat : Int) }) := by
    show lookM (mS (prS ps ++ fin3 t) pg ky (scS sc ps) rs2 (k + 1)) 10 0 2 0 = _
    unfold lookM
    show (bif r79b ⟨(scS sc ps).toArray⟩ (w (rg rs2 2 + 0)) 1 then _ else _) = _
    rw [hrs2, hw0, b1]
    show (true, { mS (prS ps ++ fin3 t) pg ky (scS sc ps) rs2 (k + 1) with rs := rs2.set 0 (r80 (r79a ⟨(scS sc ps).toArray⟩ (w (rg rs2 2 + 0)) 1)) }) = _
    rw [hrs2, hw0, b2]
  rw [run_one (x := ⟨10, 0, 2, 0⟩) (f + 2) rfl rfl (g 1 (by omega)) (by decide) (by omega) (by rw [s2]) (by omega), s2]
  have e2 : nextM ({ mS (prS ps ++ fin3 t) pg ky (scS sc ps) rs2 (k + 1) with rs := rs2.set 0 (((scS sc ps).getD t 0).toNat : Int) }) ((k + 1 : Nat) : Int) = mS (prS ps ++ fin3 t) pg ky (scS sc ps) (rs2.set 0 (((scS sc ps).getD t 0).toNat : Int)) (k + 2) := by
    show ({ l := _, pg := pg, ky := ky, sc := scS sc ps, rs := _, pc := w (((k + 1 : Nat) : Int) + 1), lo := [], code := 0, val := ⟨#[]⟩, nx := 0, st := w (((k + 1 : Nat) : Int) + 1), en := false } : Mc) = _
    rw [w_nat (by omega)]; rfl
  rw [e2]
  generalize hR3 : rs2.set 0 (((scS sc ps).getD t 0).toNat : Int) = rs3
  have hr0 : rg rs3 0 = (((scS sc ps).getD t 0).toNat : Int) := by rw [← hR3]; exact rg_set_eq (by omega)
  rw [run_one (x := ⟨20, 0, 0, 0⟩) (f + 1) rfl rfl (g 2 (by omega)) (by decide) (by omega) rfl (by omega), runF]
  show endOf (0, nextM (stepX (mS (prS ps ++ fin3 t) pg ky (scS sc ps) rs3 (k + 2)) ⟨20, 0, 0, 0⟩).2 ((k + 2 : Nat) : Int), w (((k + 2 : Nat) : Int) + 1)) = _
  show ({ e := none, code := rg rs3 0, val := ⟨#[]⟩, nx := 0, st := w (((k + 2 : Nat) : Int) + 1), sc := scS sc ps } : End) = _
  rw [hr0, w_nat (by omega)]

/-- A straight walk over the rest of a program. -/
def chkL : List Ins → List Value → Bool
  | [], _ => false
  | x :: r, S => boolO (nth S 0) && (r46 S x.op x.d x.s x.imm && (x.op == 20 || chkL r (c46 S x.op x.d x.s x.imm)))
/-- Instructions that neither jump nor begin or end a Loop. -/
def straight (x : Ins) : Bool := !r44 x.op && (!(x.op == 12) && (!(x.op == 17) && !(x.op == 18)))
theorem straight_eq {x : Ins} (h : straight x = true) : r44 x.op = false ∧ (x.op == 12) = false ∧ (x.op == 17) = false ∧ (x.op == 18) = false := by
  unfold straight at h
  simp only [Bool.and_eq_true, Bool.not_eq_true'] at h
  exact h
section
variable {l : List Ins} {lp en : List Int}
theorem walk_nc : ∀ (f i : Nat) (cst : List Value), (∀ k, i ≤ k → k < l.length → boolO (nth cst (k * 25)) = false) → (∀ x ∈ l, straight x = true) → (walkF l lp en f i cst).1 = -1 := by
  intro f
  induction f with
  | zero => intro i cst _ _; rfl
  | succ f ih =>
    intro i cst h hs
    rw [walkF]
    by_cases hi : i < l.length
    · obtain ⟨s1, _, _, _⟩ := straight_eq (hs _ (List.getElem_mem hi))
      have hget : l.getD i insD = l[i] := by rw [List.getD_eq_getElem?_getD, List.getElem?_eq_getElem hi]; rfl
      have e : stepF l lp en i cst = (true, cst) := by
        unfold stepF
        rw [hget]
        unfold bad25
        rw [s1, h i (Nat.le_refl _) hi]; rfl
      rw [decide_eq_true hi, e]
      exact ih (i + 1) cst (fun k hk => h k (by omega)) hs
    · rw [decide_eq_false hi]; rfl
theorem walk_st (hs : ∀ x ∈ l, straight x = true) (hr : ∀ x ∈ l, right x = true) : ∀ (f i : Nat) (cst : List Value), i < l.length → StsOk cst l.length → (∀ k, i < k → k < l.length → boolO (nth cst (k * 25)) = false) →
    chkL (l.drop i) (stAt cst i) = true → (walkF l lp en f i cst).1 = -1 := by
  intro f
  induction f with
  | zero => intro i cst _ _ _ _; rfl
  | succ f ih =>
    intro i cst hi hst hnc hc
    rw [List.drop_eq_getElem_cons hi, chkL] at hc
    simp only [Bool.and_eq_true, Bool.or_eq_true] at hc
    obtain ⟨c0, c1, c2⟩ := hc
    obtain ⟨s1, s2, s3, s4⟩ := straight_eq (hs _ (List.getElem_mem hi))
    obtain ⟨_, _, hS⟩ := sta_eq hst hi
    have hget : l.getD i insD = l[i] := by rw [List.getD_eq_getElem?_getD, List.getElem?_eq_getElem hi]; rfl
    have hcome : boolO (nth cst (i * 25)) = true := by
      have : nth (stAt cst i) 0 = nth cst (i * 25) := by
        unfold stAt
        rw [nth_eq, List.getElem?_take, if_pos (by omega), ← nth_eq, nth_drop, Nat.add_zero]
      rw [← this]; exact c0
    rw [walkF, decide_eq_true hi, cond_true]
    have e : stepF l lp en i cst = fin25 l[i].op l.length i cst (c46 (stAt cst i) l[i].op l[i].d l[i].s l[i].imm) := by
      unfold stepF
      rw [hget]
      unfold bad25 jmp25 wid25
      rw [s1, s3, hcome, c1]; rfl
    cases h20 : l[i].op == 20 with
    | true =>
      have e2 : stepF l lp en i cst = (true, cst) := by rw [e]; unfold fin25; rw [s2, h20]; rfl
      rw [e2]
      exact walk_nc f (i + 1) cst (fun k hk => hnc k (by omega)) hs
    | false =>
      rw [h20] at c2
      have c3 : chkL (l.drop (i + 1)) (c46 (stAt cst i) l[i].op l[i].d l[i].s l[i].imm) = true := by
        rcases c2 with c2 | c2
        · cases c2
        · exact c2
      have hi1 : i + 1 < l.length := by
        rcases Nat.lt_or_ge (i + 1) l.length with h | h
        · exact h
        · rw [List.drop_eq_nil_of_le h, chkL] at c3; cases c3
      have hne : (((i + 1 : Nat) : Int) == (l.length : Int)) = false := beq_eq_false_iff_ne.mpr (by omega)
      have hS' := c46_st (op := l[i].op) (imm := l[i].imm) hS (right_regs (hr _ (List.getElem_mem hi)))
      generalize hs' : c46 (stAt cst i) l[i].op l[i].d l[i].s l[i].imm = S' at c3 hS' e
      have hj : join48 cst ((i + 1) * 25) S' = splice cst ((i + 1) * 25) S' := by
        unfold join48
        rw [hnc (i + 1) (by omega) hi1]; rfl
      have e2 : stepF l lp en i cst = (true, splice cst ((i + 1) * 25) S') := by
        rw [e]; unfold fin25; rw [s2, h20, hne, hj]; rfl
      have hst' := join48_sts hst hi1 hS'
      rw [hj] at hst'
      have hlen : S'.length = 25 := by
        obtain ⟨c, k0, k1, k2, k3, k4, k5, k6, k7, l0, h0, l1, h1, l2, h2, l3, h3, l4, h4, l5, h5, l6, h6, l7, h7, rfl⟩ := isSt_eq hS'
        rfl
      have hl : (i + 1) * 25 + S'.length ≤ cst.length := by rw [hst.len, hlen]; omega
      have hat : stAt (splice cst ((i + 1) * 25) S') (i + 1) = S' := by
        unfold stAt splice
        have h1 : (cst.take ((i + 1) * 25)).length = (i + 1) * 25 := by rw [List.length_take]; omega
        rw [List.append_assoc, List.drop_left' h1, List.take_left' hlen]
      rw [e2]
      refine ih (i + 1) _ hi1 hst' (fun k hk hk2 => ?_) (by rw [hat]; exact c3)
      rw [nth_splice_out hl (.inr (by rw [hlen]; omega))]
      exact hnc k (by omega) hk2
theorem loop_st (hs : ∀ x ∈ l, straight x = true) : ∀ (f i : Nat) (lp en : List Int), l.length - i < f → lp.length = l.length → (loopF l f i [] lp en).1 = -1 ∧ (loopF l f i [] lp en).2.1.length = l.length ∧ ∀ k, k < l.length → (i ≤ k → (loopF l f i [] lp en).2.1.getD k 0 = -1) ∧ (k < i → (loopF l f i [] lp en).2.1.getD k 0 = lp.getD k 0) := by
  intro f
  induction f with
  | zero => intro i lp en h; omega
  | succ f ih =>
    intro i lp en h1 h2
    rw [loopF]
    by_cases hi : i < l.length
    · obtain ⟨_, _, s3, s4⟩ := straight_eq (hs _ (List.getElem_mem hi))
      have hget : l.getD i insD = l[i] := by rw [List.getD_eq_getElem?_getD, List.getElem?_eq_getElem hi]; rfl
      rw [decide_eq_true hi, hget, s3, s4]
      simp only [cond_true, cond_false]
      obtain ⟨q1, q2, q3⟩ := ih (i + 1) (lp.set i (topF [])) en (by omega) (by rw [List.length_set]; exact h2)
      refine ⟨q1, q2, fun k hk => ⟨fun hik => ?_, fun hki => ?_⟩⟩
      · by_cases e : k = i
        · subst e
          rw [(q3 k hk).2 (by omega), List.getD_eq_getElem?_getD, List.getElem?_set_self (by omega)]; rfl
        · exact (q3 k hk).1 (by omega)
      · rw [(q3 k hk).2 (by omega), List.getD_eq_getElem?_getD, List.getElem?_set_ne (by omega), ← List.getD_eq_getElem?_getD]
    · rw [decide_eq_false hi]
      exact ⟨rfl, h2, fun k hk => ⟨fun hik => by omega, fun _ => rfl⟩⟩
end
theorem fuel_all {l : List Ins} {lp : List Int} (hlp : ∀ k, k < l.length → lp.getD k 0 = -1) : ∀ (f i : Nat) (t : Int), l.length - i < f → 0 ≤ t → t + ((l.length - i : Nat) : Int) < 2000000000 → fuelF l lp f i t = t + ((l.length - i : Nat) : Int) := by
  intro f
  induction f with
  | zero => intro i t h; omega
  | succ f ih =>
    intro i t h1 h2 h3
    rw [fuelF]
    by_cases hi : i < l.length
    · have hq : prodF l lp (l.length + 1) (lp.getD i 0) 1 = 1 := by rw [hlp i hi]; rfl
      have hw : w (t + 1) = t + 1 := w_id (by omega) (by omega)
      rw [decide_eq_true hi, hq, hw, cond_true, ih (i + 1) (t + 1) (by omega) (by omega) (by omega)]
      omega
    · rw [decide_eq_false hi]
      show t = _
      omega
/-- A straight program may be run. -/
theorem straight_ok {l : List Ins} (h0 : l ≠ []) (hn : l.length ≤ 4096) (hs : ∀ x ∈ l, straight x = true) (hr : ∀ x ∈ l, right x = true) (hc : chkL l (stAt (st0 l.length) 0) = true) : badAt l = none := by
  have hlen : 0 < l.length := List.length_pos_iff.2 h0
  obtain ⟨q1, q2, q3⟩ := loop_st hs (l.length + 1) 0 (nul l.length) (nul l.length) (by omega) (nul_len _)
  change (lo0 l).1 = -1 at q1
  have hlp : ∀ k, k < l.length → (lo0 l).2.1.getD k 0 = -1 := fun k hk => (q3 k hk).1 (Nat.zero_le _)
  have hst := st0_sts hlen
  have hnc : ∀ k, 0 < k → k < l.length → boolO (nth (st0 l.length) (k * 25)) = false := by
    intro k hk hk2
    have hz := zst_len l.length
    have e1 : (0 : Nat) + 1 + (1 : Int).toNat * 1 = 2 := rfl
    have e2 : (0 : Nat) + 9 + (1 : Int).toNat * 2 = 11 := rfl
    unfold st0 setA
    rw [e1, e2]
    have a1 : (splice (zst l.length) 0 [B true]).length = l.length * 25 := by rw [splice_len (by rw [hz]; simp; omega), hz]
    have a2 : (splice (splice (zst l.length) 0 [B true]) 2 [B true]).length = l.length * 25 := by rw [splice_len (by rw [a1]; simp; omega), a1]
    rw [nth_splice_out (by rw [a2]; simp; omega) (.inr (by simp; omega)), nth_splice_out (by rw [a1]; simp; omega) (.inr (by simp; omega)), nth_splice_out (by rw [hz]; simp; omega) (.inr (by simp; omega))]
    have := zst_nth l.length k 0 hk2 (by omega)
    rw [Nat.add_zero] at this
    rw [this]; rfl
  have hw : (wk l).1 = -1 := walk_st hs hr (l.length + 1) 0 (st0 l.length) hlen hst hnc hc
  have hf : fu l = (l.length : Int) := by
    unfold fu
    rw [fuel_all hlp (l.length + 1) 0 0 (by omega) (by omega) (by omega)]; omega
  have hb : ((l.length : Int) == 0) = false := beq_eq_false_iff_ne.mpr (by omega)
  unfold badAt
  rw [hb, q1, hw, hf, decide_eq_false (show ¬ (l.length : Int) > 4096 by omega)]; rfl

/-- The state ahead of an instruction of these programs. -/
abbrev SS (k2 k3 : Bool) (l2 h2 l3 h3 : Int) : List Value := stL true false true k2 k3 false false false false 0 0 0 16 l2 h2 l3 h3 0 0 0 0 0 0 0 0
theorem r84_in {a : Int} (h1 : 0 ≤ a) (h2 : a < 64) : r84 a a 0 1 64 = true := by
  unfold r84
  have e1 : w (a + 0) = a := by rw [w_id (by omega) (by omega)]; omega
  have e2 : w (a + 1) = a + 1 := w_id (by omega) (by omega)
  change (bif decide (w (a + 0) ≥ 0) then decide (w (w (a + 0) + 1) ≤ 64) else false) = true
  rw [e1, e2, decide_eq_true (show a ≥ 0 by omega), decide_eq_true (show a + 1 ≤ 64 by omega)]; rfl
theorem r14_id {a : Int} (h1 : 0 ≤ a) (h2 : a < 65536) : r14b a = a ∧ r14c a = a := by
  have h : r28 a = a := by
    unfold r28
    repeat' split
    all_goals omega
  exact ⟨h, h⟩
theorem chk_st3 (k2 k3 : Bool) (l2 h2 l3 h3 a n : Int) (r : List Ins) (a1 : 0 ≤ a) (a2 : a < 64) (a3 : 0 ≤ n) (a4 : n < 65536) : chkL (st3 (a, n) ++ r) (SS k2 k3 l2 h2 l3 h3) = (r84 a a 0 1 64 && chkL r (SS true true a a n n)) := by
  obtain ⟨i1, i2⟩ := r14_id (a := a) a1 (by omega)
  obtain ⟨i3, i4⟩ := r14_id (a := n) a3 a4
  have e1 : c46 (SS k2 k3 l2 h2 l3 h3) 0 2 0 a = SS true k3 a a l3 h3 := by
    have : c46 (SS k2 k3 l2 h2 l3 h3) 0 2 0 a = SS true k3 (r14b a) (r14c a) l3 h3 := by kernel_rfl
    rw [this, i1, i2]
  have e2 : c46 (SS true k3 a a l3 h3) 0 3 0 n = SS true true a a n n := by
    have : c46 (SS true k3 a a l3 h3) 0 3 0 n = SS true true a a (r14b n) (r14c n) := by kernel_rfl
    rw [this, i3, i4]
  have e3 : c46 (SS true true a a n n) 11 2 3 0 = SS true true a a n n := by kernel_rfl
  have r1 : r46 (SS k2 k3 l2 h2 l3 h3) 0 2 0 a = true := by kernel_rfl
  have r2 : r46 (SS true k3 a a l3 h3) 0 3 0 n = true := by kernel_rfl
  have r3 : r46 (SS true true a a n n) 11 2 3 0 = r84 a a 0 1 64 := by kernel_rfl
  have b : ∀ (k2 k3 : Bool) (l2 h2 l3 h3 : Int), boolO (nth (SS k2 k3 l2 h2 l3 h3) 0) = true := fun _ _ _ _ _ _ => rfl
  show chkL (⟨0, 2, 0, a⟩ :: ⟨0, 3, 0, n⟩ :: ⟨11, 2, 3, 0⟩ :: r) _ = _
  rw [chkL, chkL, chkL]
  simp only [b, r1, r2, r3, e1, e2, e3]
  rfl
theorem chk_fin3 (k2 k3 : Bool) (l2 h2 l3 h3 t : Int) (t0 : 0 ≤ t) (t1 : t < 64) : chkL (fin3 t) (SS k2 k3 l2 h2 l3 h3) = r84 t t 0 1 64 := by
  obtain ⟨i1, i2⟩ := r14_id (a := t) t0 (by omega)
  have e1 : c46 (SS k2 k3 l2 h2 l3 h3) 0 2 0 t = SS true k3 t t l3 h3 := by
    have : c46 (SS k2 k3 l2 h2 l3 h3) 0 2 0 t = SS true k3 (r14b t) (r14c t) l3 h3 := by kernel_rfl
    rw [this, i1, i2]
  have r1 : r46 (SS k2 k3 l2 h2 l3 h3) 0 2 0 t = true := by kernel_rfl
  have r2 : r46 (SS true k3 t t l3 h3) 10 0 2 0 = r84 t t 0 1 64 := by kernel_rfl
  have b : ∀ (k2 k3 : Bool) (l2 h2 l3 h3 : Int), boolO (nth (SS k2 k3 l2 h2 l3 h3) 0) = true := fun _ _ _ _ _ _ => rfl
  unfold fin3
  rw [chkL, chkL]
  simp only [b, r1, r2, e1]
  cases h : r84 t t 0 1 64 with
  | false => rfl
  | true =>
    have e2 : c46 (SS true k3 t t l3 h3) 10 0 2 0 = bif r84 t t 0 1 64 then stL true true true true k3 false false false false 0 255 0 16 t t l3 h3 0 0 0 0 0 0 0 0 else SS true k3 t t l3 h3 := by kernel_rfl
    rw [e2, h]
    rfl
theorem chk_all : ∀ (ps : List (Int × Int)) (k2 k3 : Bool) (l2 h2 l3 h3 : Int) (t : Int), (∀ p ∈ ps, OkP p) → 0 ≤ t → t < 64 → chkL (prS ps ++ fin3 t) (SS k2 k3 l2 h2 l3 h3) = true
  | [], k2, k3, l2, h2, l3, h3, t, _, t0, t1 => by
    show chkL (fin3 t) _ = true
    rw [chk_fin3 _ _ _ _ _ _ _ t0 t1, r84_in t0 t1]
  | (a, n) :: ps, k2, k3, l2, h2, l3, h3, t, hp, t0, t1 => by
    have e : prS ((a, n) :: ps) ++ fin3 t = st3 (a, n) ++ (prS ps ++ fin3 t) := by
      unfold prS
      rw [List.map_cons, List.flatten_cons, List.append_assoc]
    obtain ⟨a1, a2, a3, a4⟩ := hp (a, n) List.mem_cons_self
    rw [e, chk_st3 _ _ _ _ _ _ _ _ _ a1 a2 a3 a4, r84_in a1 a2, chk_all ps _ _ _ _ _ _ t (fun q hq => hp q (List.mem_cons_of_mem _ hq)) t0 t1]; rfl
theorem mem_prS {ps : List (Int × Int)} {x : Ins} (h : x ∈ prS ps) : ∃ p ∈ ps, x ∈ st3 p := by
  unfold prS at h
  obtain ⟨l, h1, h2⟩ := List.mem_flatten.1 h
  obtain ⟨p, hp, rfl⟩ := List.mem_map.1 h1
  exact ⟨p, hp, h2⟩
theorem st0_at (n : Nat) (hn : 0 < n) : stAt (st0 n) 0 = SS false false 0 0 0 0 := by
  obtain ⟨k, rfl⟩ : ∃ k, n = k + 1 := ⟨n - 1, by omega⟩
  have hz : zst (k + 1) = z25 ++ zst k := by
    unfold zst
    rw [Int.toNat_natCast, Int.toNat_natCast, List.replicate_succ, List.flatten_cons]
  have hl : ∀ (a b : List Value) (i : Nat) (x : List Value), i + x.length ≤ a.length → splice (a ++ b) i x = splice a i x ++ b := by
    intro a b i x h
    unfold splice
    rw [List.take_append_of_le_length (by omega), List.drop_append_of_le_length h]
    simp only [List.append_assoc]
  have e1 : (0 : Nat) + 1 + (1 : Int).toNat * 1 = 2 := rfl
  have e2 : (0 : Nat) + 9 + (1 : Int).toNat * 2 = 11 := rfl
  unfold st0 setA
  rw [e1, e2, hz, hl _ _ 0 _ (by simp), hl _ _ 2 _ (by simp [splice]), hl _ _ 11 _ (by simp [splice])]
  unfold stAt
  rw [Nat.zero_mul, List.drop_zero, List.take_left' (by simp [splice])]
  rfl
theorem prog_right {ps : List (Int × Int)} {t : Int} (hp : ∀ p ∈ ps, OkP p) (t0 : 0 ≤ t) (t1 : t < 64) : ∀ x ∈ prS ps ++ fin3 t, right x = true ∧ straight x = true := by
  intro x hx
  rcases List.mem_append.1 hx with h | h
  · obtain ⟨p, hp', hx'⟩ := mem_prS h
    obtain ⟨a1, a2, a3, a4⟩ := hp p hp'
    simp only [st3, List.mem_cons, List.not_mem_nil, or_false] at hx'
    rcases hx' with rfl | rfl | rfl
    · exact ⟨right_set (.inl rfl) a1 (by omega), rfl⟩
    · exact ⟨right_set (.inr rfl) a3 a4, rfl⟩
    · exact ⟨by decide, rfl⟩
  · simp only [fin3, List.mem_cons, List.not_mem_nil, or_false] at h
    rcases h with rfl | rfl | rfl
    · exact ⟨right_set (.inl rfl) t0 (by omega), rfl⟩
    · exact ⟨by decide, rfl⟩
    · exact ⟨by decide, rfl⟩
/-- Such a program may be run. -/
theorem prog_ok {ps : List (Int × Int)} {t : Int} (hp : ∀ p ∈ ps, OkP p) (t0 : 0 ≤ t) (t1 : t < 64) (hn : ps.length ≤ 30) : badAt (prS ps ++ fin3 t) = none := by
  have hl : (prS ps ++ fin3 t).length = 3 * ps.length + 3 := by rw [List.length_append, prS_len]; rfl
  refine straight_ok (fun e => ?_) (by omega) (fun x hx => (prog_right hp t0 t1 x hx).2) (fun x hx => (prog_right hp t0 t1 x hx).1) ?_
  · rw [e] at hl; simp at hl
  · rw [st0_at _ (by omega)]
    exact chk_all ps _ _ _ _ _ _ t hp t0 t1

variable {w0 : World}
abbrev nt0 : Nt := { gh := [], flags := [], paths := [], tr := [] }
/-! full. -/
def m512 (s : ByteArray) : Int := if 512 < (s.size : Int) then 512 else (s.size : Int)
def z512 (s : ByteArray) : Int := w (512 - m512 s)
def zs512 (s : ByteArray) : List Value := (List.replicate (z512 s).toNat [.int .u8 0]).flatten
def fullS (s : ByteArray) : ByteArray := bif (z512 s).toNat.beq 0 then ⟨((s.extract 0 (m512 s).toNat).data.toList ++ []).toArray⟩ else
  ⟨((s.extract 0 (m512 s).toNat).data.toList ++ (ByteArray.mk ((((zs512 s).drop 0).take (z512 s).toNat).map u8O).toArray).data.toList).toArray⟩
theorem eval17 (s : ByteArray) (r : List Value) : pureSeg [] Try.f8 [.string s] r
    = (bif decide (0 ≤ m512 s) && decide (m512 s ≤ (s.size : Int)) then bif decide (0 ≤ z512 s) && decide (z512 s ≤ z512 s) && decide (z512 s ≤ 1099511627776) && room (z512 s).toNat 1 then bif (s.size : Int) == (s.size : Int) && true then
      bif (z512 s).toNat.beq 0 then bif (s.size : Int) == (s.size : Int) && true then bif ((s.extract 0 (m512 s).toNat).size + (ByteArray.mk #[]).size).ble 1099511627776 then
        True ∧ [.string ⟨((s.extract 0 (m512 s).toNat).data.toList ++ []).toArray⟩] = r else False else False
      else bif (0 + (z512 s).toNat).ble (zs512 s).length && (((zs512 s).drop 0).take (z512 s).toNat).all isU8 then bif (s.size : Int) == (s.size : Int) && true then
        bif ((s.extract 0 (m512 s).toNat).size + (ByteArray.mk ((((zs512 s).drop 0).take (z512 s).toNat).map u8O).toArray).size).ble 1099511627776 then
        True ∧ [.string ⟨((s.extract 0 (m512 s).toNat).data.toList ++ (ByteArray.mk ((((zs512 s).drop 0).take (z512 s).toNat).map u8O).toArray).data.toList).toArray⟩] = r else False else False else False else False else False else False) := by kernel_rfl
theorem m512_in (s : ByteArray) : 0 ≤ m512 s ∧ m512 s ≤ (s.size : Int) ∧ m512 s ≤ 512 ∧ z512 s = 512 - m512 s := by
  have h : 0 ≤ m512 s ∧ m512 s ≤ (s.size : Int) ∧ m512 s ≤ 512 := by unfold m512; split <;> omega
  exact ⟨h.1, h.2.1, h.2.2, w_id (by omega) (by omega)⟩
theorem zs512_len (s : ByteArray) : (zs512 s).length = (z512 s).toNat ∧ ∀ x ∈ zs512 s, x = .int .u8 0 := by
  unfold zs512
  constructor
  · generalize (z512 s).toNat = k
    induction k with
    | zero => rfl
    | succ k ih => rw [List.replicate_succ, List.flatten_cons, List.length_append, ih]; simp; omega
  · intro x hx
    obtain ⟨l, h1, h2⟩ := List.mem_flatten.1 hx
    rw [(List.mem_replicate.1 h1).2] at h2
    simpa using h2
theorem extract_size {s : ByteArray} {k : Nat} (h : k ≤ s.size) : (s.extract 0 k).size = k := by rw [ByteArray.size_extract]; omega
theorem sz_list (b : ByteArray) : b.data.toList.length = b.size := Array.length_toList
theorem size_mk (l : List UInt8) : (ByteArray.mk l.toArray).size = l.length := List.size_toArray
theorem fullS_size (s : ByteArray) : (fullS s).size = 512 := by
  obtain ⟨h1, h2, h3, h4⟩ := m512_in s
  obtain ⟨h5, _⟩ := zs512_len s
  have e1 : (s.extract 0 (m512 s).toNat).size = (m512 s).toNat := extract_size (by omega)
  have e2 : (s.extract 0 (m512 s).toNat).data.toList.length = (m512 s).toNat := by rw [sz_list, e1]
  unfold fullS
  cases hz : (z512 s).toNat.beq 0 with
  | true =>
    have := Nat.eq_of_beq_eq_true hz
    rw [cond_true, size_mk, List.append_nil, e2]; omega
  | false =>
    rw [cond_false, size_mk, List.length_append, e2]
    simp only []
    rw [List.length_map, List.length_take, List.drop_zero, h5]; omega
def F17 : List Value → Option (List Value)
  | [.string s] => some [.string (fullS s)]
  | _ => none
def con17 : Con := pureCon 8 F17
theorem con17_ok : con17.ok Try.prog w0 :=
  pure_ok (cs := []) Try.func8 (by kernel_rfl) (fun c hc => by simp at hc) fun args rs e => by
    unfold F17 at e
    split at e <;> first | (simp at e; done) | skip
    rename_i s
    simp only [Option.some.injEq] at e
    subst e
    rw [eval17]
    obtain ⟨h1, h2, h3, h4⟩ := m512_in s
    obtain ⟨h5, h6⟩ := zs512_len s
    have hr : room (z512 s).toNat 1 = true := Nat.ble_eq_true_of_le (by omega)
    have e1 : (s.extract 0 (m512 s).toNat).size = (m512 s).toNat := extract_size (by omega)
    rw [decide_eq_true h1, decide_eq_true h2, decide_eq_true (show 0 ≤ z512 s by omega), decide_eq_true (Int.le_refl (z512 s)), decide_eq_true (show z512 s ≤ 1099511627776 by omega), hr]
    simp only [beq_self_eq_true, Bool.and_self, cond_true]
    unfold fullS
    refine bifP (fun hz => ?_) (fun hz => ?_)
    · rw [hz, cond_true, e1]
      have : ((m512 s).toNat + (ByteArray.mk #[]).size).ble 1099511627776 = true := Nat.ble_eq_true_of_le (by show (m512 s).toNat + 0 ≤ _; omega)
      rw [this]; exact ⟨trivial, rfl⟩
    · rw [hz, cond_false, e1]
      have ha : (0 + (z512 s).toNat).ble (zs512 s).length = true := Nat.ble_eq_true_of_le (by omega)
      have hb : (((zs512 s).drop 0).take (z512 s).toNat).all isU8 = true := by
        rw [List.all_eq_true]
        intro x hx
        rw [h6 x (List.mem_of_mem_drop (List.mem_of_mem_take hx))]; rfl
      have hc : ((m512 s).toNat + (ByteArray.mk ((((zs512 s).drop 0).take (z512 s).toNat).map u8O).toArray).size).ble 1099511627776 = true := by
        have : (ByteArray.mk ((((zs512 s).drop 0).take (z512 s).toNat).map u8O).toArray).size = ((((zs512 s).drop 0).take (z512 s).toNat).map u8O).length := Array.length_toList
        rw [this, List.length_map, List.length_take]
        exact Nat.ble_eq_true_of_le (by omega)
      rw [ha, hb, hc]; exact ⟨trivial, rfl⟩

/-! filled. -/
def filledL (s : ByteArray) : List UInt8 := (s.data.toList.take (s.size.min 64)) ++ List.replicate (64 - s.size.min 64) 0
abbrev sp64 (s : ByteArray) : List Value := splice (List.replicate 64 (.int .u8 0)) 0 ((bytC s.data.toList).take (s.size.min 64 * 1))
def okRun (cs : List Value) : Nat → Nat → Bool
  | 0, _ => true
  | k + 1, i => okI .u8 (nth cs i) && okRun cs k (i + 1)
theorem eval18 (s : ByteArray) (r : List Value) : pureSeg [] Try.f6 [.string s] r
    = (bif (s.size.min 64 * 1).ble (bytC s.data.toList).length then bif Nat.ble 64 (sp64 s).length && okRun (sp64 s) 64 0 then True ∧ [AG ((List.range 64).map fun i => .int .u8 (intO (nth (sp64 s) i)))] = r else False else False) := by kernel_rfl
theorem filledL_len (s : ByteArray) : (filledL s).length = 64 := by
  unfold filledL
  have : s.data.toList.length = s.size := rfl
  have h : s.size.min 64 ≤ 64 := Nat.min_le_right _ _
  have h' : s.size.min 64 ≤ s.size := Nat.min_le_left _ _
  rw [List.length_append, List.length_take, List.length_replicate, this]
  omega
theorem sp64_eq (s : ByteArray) : sp64 s = bytC (filledL s) := by
  have h0 : s.data.toList.length = s.size := rfl
  have h : s.size.min 64 ≤ 64 := Nat.min_le_right _ _
  have h' : s.size.min 64 ≤ s.size := Nat.min_le_left _ _
  have hl : ((bytC s.data.toList).take (s.size.min 64 * 1)).length = s.size.min 64 := by rw [List.length_take, bytC_len, h0]; omega
  unfold sp64 splice filledL
  rw [hl, List.take_zero, List.nil_append, Nat.zero_add]
  unfold bytC
  rw [List.map_append, Nat.mul_one, List.map_take, List.drop_replicate]
  congr 1
  generalize 64 - s.size.min 64 = k
  induction k with
  | zero => rfl
  | succ k ih => rw [List.replicate_succ, List.replicate_succ, List.map_cons, ih]; rfl
theorem okRun_bytC (sc : List UInt8) : ∀ k i, i + k ≤ sc.length → okRun (bytC sc) k i = true
  | 0, i, _ => rfl
  | k + 1, i, h => by
    have hi : i < sc.length := by omega
    have : nth (bytC sc) i = some (.int .u8 (sc[i].toNat : Int)) := by
      rw [nth_eq]; unfold bytC; rw [List.getElem?_map, List.getElem?_eq_getElem hi]; rfl
    rw [okRun, this, okRun_bytC sc k (i + 1) (by omega)]; rfl
theorem lit_of (sc : List UInt8) (h : sc.length = 64) : ((List.range 64).map fun i => (Value.int .u8 (intO (nth (bytC sc) i)))) = lit64 sc := by
  unfold lit64
  refine List.map_congr_left fun i hi => ?_
  have hi : i < sc.length := by rw [h]; exact List.mem_range.1 hi
  have : nth (bytC sc) i = some (.int .u8 (sc[i].toNat : Int)) := by
    rw [nth_eq]; unfold bytC; rw [List.getElem?_map, List.getElem?_eq_getElem hi]; rfl
  rw [this, List.getD_eq_getElem?_getD, List.getElem?_eq_getElem hi]; rfl
def F18 : List Value → Option (List Value)
  | [.string s] => some [AG (lit64 (filledL s))]
  | _ => none
def con18 : Con := pureCon 6 F18
theorem con18_ok : con18.ok Try.prog w0 :=
  pure_ok (cs := []) Try.func6 (by kernel_rfl) (fun c hc => by simp at hc) fun args rs e => by
    unfold F18 at e
    split at e <;> first | (simp at e; done) | skip
    rename_i s
    simp only [Option.some.injEq] at e
    subst e
    rw [eval18]
    have hl := filledL_len s
    have h' : s.size.min 64 ≤ s.size := Nat.min_le_left _ _
    have a1 : (s.size.min 64 * 1).ble (bytC s.data.toList).length = true := by
      rw [bytC_len]
      exact Nat.ble_eq_true_of_le (by show s.size.min 64 * 1 ≤ s.size; omega)
    have a2 : Nat.ble 64 (bytC (filledL s)).length = true := Nat.ble_eq_true_of_le (by rw [bytC_len, hl]; exact Nat.le_refl _)
    have a3 := okRun_bytC (filledL s) 64 0 (by omega)
    rw [a1, sp64_eq, a2, a3, lit_of _ hl]
    exact ⟨trivial, rfl⟩
noncomputable def con15 : Con := { f := 5, gh := [], paths := [], spec := fun args bs => match args, bs with
  | [], [] => some (True, [B true], [])
  | _, _ => none }
abbrev z64 : List UInt8 := List.replicate 64 0
abbrev Z2 : List Ins := [⟨0, 0, 0, 2⟩, ⟨20, 0, 0, 0⟩]
/-- run.Program is asked. -/
abbrev ask19 (n : Nat) (pg ky : ByteArray) (fuel : Int) (cl cs : List Value) (E : End) : Prop :=
  (PlainL cl ∧ PlainL cs ∧ True) ∧ (PlainL cl ∧ PlainL (lit64 E.sc) ∧ True) ∧ (cl = insC (unIns cl) ∧ (unIns cl).length = n ∧ n < 1000000000 ∧ pg.size = 512 ∧ 0 < ky.size ∧ ky.size ≤ 16 ∧ fuel < 1000000000) ∧ (cs = bytC (unB cs) ∧ (unB cs).length = 64) ∧ endOf (runP (unIns cl) pg ky (unB cs) fuel) = E
theorem eval15 (c nx st : Int) (v : ByteArray) (sc : List UInt8) (K : List Value → AHeap → Prop) : evSeg Try.f5 [con17, con19 ⟨none, c, v, nx, st, sc⟩] nt0 [] [] K
    = (TTT ∧ ask19 2 (fullS ⟨#[]⟩) ⟨#[107]⟩ 9 (insC Z2) (bytC z64) ⟨none, c, v, nx, st, sc⟩ ∧ bif c == 2 then True ∧ K [B (st == 2)] (heapB G []) else True ∧ K [B false] (heapB G [])) := by kernel_rfl
theorem run15 : endOf (runP Z2 (fullS ⟨#[]⟩) ⟨#[107]⟩ z64 9) = ⟨none, 2, ⟨#[]⟩, 0, 2, z64⟩ := by kernel_rfl
theorem plain_lit (sc : List UInt8) : PlainL (lit64 sc) := by
  intro x hx
  obtain ⟨i, _, rfl⟩ := List.mem_map.1 hx
  rfl
set_option maxRecDepth 100000 in
theorem con15_ok : con15.ok Try.prog w0 := by
  intro args bs p rs out e _
  simp only [con15] at e
  split at e <;> first | (simp at e; done) | skip
  simp only [Option.some.injEq, Prod.mk.injEq] at e
  obtain ⟨rfl, rfl, rfl⟩ := e
  change CallS Try.prog w0 5 [] (heapB Try.prog.globals.size []) fun rs' h' => rs' = [B true] ∧ h' = heapB Try.prog.globals.size []
  refine ev_callS (nt := nt0) (cs := [con17, con19 ⟨none, 2, ⟨#[]⟩, 0, 2, z64⟩]) (f := 5) (bs := []) Try.func5 (by kernel_rfl) (fun c hc => by
    simp only [List.mem_cons, List.not_mem_nil, or_false] at hc
    rcases hc with rfl | rfl
    · exact con17_ok
    · exact con19_ok) rfl ((eval15 2 0 2 ⟨#[]⟩ z64 _).mpr ?_)
  have hz : (unB (bytC z64)) = z64 := unB_bytC _
  refine ⟨⟨trivial, trivial, trivial⟩, ⟨⟨plain_insC _, plain_bytC _, trivial⟩, ⟨plain_insC _, plain_lit _, trivial⟩, ⟨by rw [unIns_insC], by rw [unIns_insC]; rfl, by omega, fullS_size _, by decide, by decide, by omega⟩, ⟨by rw [hz], by rw [hz]; exact List.length_replicate⟩, ?_⟩, ?_⟩
  · rw [hz, unIns_insC]; exact run15
  · exact ⟨trivial, rfl, rfl⟩

noncomputable def ft3 : FT := { loc := fun _ => false, mask := fun id => bif Nat.beq id 7 then live 104 [0, 1, 4, 5, 6, 7, 8] else bif Nat.beq id 15 then live 104 [4, 5, 6, 7, 11] else [] }
noncomputable def todo3 : List Item := todoOf Try.f3 7
noncomputable def todo3b : List Item := todoOf Try.f3 15
abbrev nt3 : Nt := { gh := [⟨5, none, 4⟩], flags := [true], paths := [⟨5, [], true⟩, ⟨6, [], true⟩], tr := [(5, [])] }
abbrev nt3b : Nt := { gh := [⟨5, none, 4⟩], flags := [true], paths := [⟨5, [], true⟩, ⟨6, [], true⟩, ⟨11, [], true⟩], tr := [(5, [])] }
abbrev nt3e : Nt := { gh := [], flags := [true], paths := [], tr := [] }
noncomputable def fr3 (n : Nat) (first : ByteArray) (k : Nat) (t i : Int) : List AV := frm 104 [(0, .v (SL G n 2)), (1, .v (.string first)), (4, .v (B false)), (5, .v (SL (G + 1) k 4)), (6, .v (PT (G + 2))), (7, .v (I t)), (8, .v (I i))]
noncomputable def fr3b (k : Nat) (t : Int) : List AV := frm 104 [(4, .v (B false)), (5, .v (SL (G + 1) k 4)), (6, .v (PT (G + 2))), (7, .v (I t)), (11, .v (PT (G + 3)))]
abbrev seg3 (cs : List Con) (K : List Value → AHeap → Prop) (L : List Item → List AV → AHeap → Prop) (t : List Item) (fr : List AV) (h : AHeap) : Prop :=
  segK3 Try.prog ft3 (semI Try.prog (fun _ => ft0) (callsOf G cs) 400 20 (retT G nt3e K)) Try.f3 [7, 15] 400 t fr (fun t fr h => match t with
  | .code (.region 7 _ _) :: _ => canonT G nt3 (L t) fr h
  | .code (.region 15 _ _) :: _ => canonT G nt3b (L t) fr h
  | _ => False) h

abbrev an (x m : Int) : Int := w (((BitVec.ofInt 64 x).and (BitVec.ofInt 64 m)).toNat : Int)
section
variable (n k : Nat) (rw : Bool) (cl cp cw : List Value) (first : ByteArray) (t i c nx st : Int) (v : ByteArray) (sc s0 s2 : List UInt8) (K : List Value → AHeap → Prop) (L : List Item → List AV → AHeap → Prop)
abbrev Z64 : List Value := List.replicate 64 (.int .u8 0)
abbrev s64 (first : ByteArray) : List Value := splice Z64 0 (lit64 (filledL first))
theorem start3 : seg3 [con15, con18] K L [.code (Try.f3.body.getD .skip)] (startF Try.f3 [SL G n 2, .string first]) (heapB G [some (.cells cl rw)])
    = (TTT ∧ TTT ∧ (PlainL cl ∧ PlainL [] ∧ PlainL (s64 first) ∧ True) ∧ L todo3 (fr3 n first 0 0 0) (heapB G [some (.cells cl rw), some (.cells [] true), some (.cells (s64 first) true)])) := by kernel_rfl
abbrev xa (cl : List Value) (i : Int) : Int := an (intO (nth cl (0 + i.toNat * 2 + 0))) 63
abbrev xn (cl : List Value) (i : Int) : Int := an (intO (nth cl (0 + i.toNat * 2 + 1))) 65535
abbrev ap3 (k : Nat) (cp : List Value) (a n : Int) : List Value := List.take ((k + 3) * 4) (List.take (k * 4) (List.drop 0 cp) ++ [I 0, I 2, I 0, I a, I 0, I 3, I 0, I n, I 11, I 2, I 3, I 0])
abbrev ap3e (k : Nat) (cp : List Value) (t : Int) : List Value := List.take ((k + 3) * 4) (List.take (k * 4) (List.drop 0 cp) ++ [I 0, I 2, I 0, I t, I 10, I 0, I 2, I 0, I 20, I 0, I 0, I 0])
abbrev out3 (k : Nat) (rw : Bool) (cl cp cw : List Value) (first : ByteArray) (t : Int) (L : List Item → List AV → AHeap → Prop) : Prop :=
  bif room (k + 3) 32 then bif (0 + k * 4).ble cp.length then TTT ∧ (PlainL cl ∧ PlainL (ap3e k cp t) ∧ PlainL cw ∧ PlainL (s64 first) ∧ True) ∧
    L todo3b (fr3b (k + 3) t) (heapB G [some (.cells cl rw), some (.cells (ap3e k cp t) true), some (.cells cw true), some (.cells (s64 first) true)]) else False else False
abbrev wr3 (cw : List Value) (a n : Int) : List Value := splice cw (0 + a.toNat * 1) [.int .u8 (IntKind.u8.wrap n)]
theorem head3 : seg3 [con18] K L todo3 (fr3 n first k t i) (heapB G [some (.cells cl rw), some (.cells cp true), some (.cells cw true)])
    = (bif decide (i < (n : Int)) then bif decide (i < 30) then bif decide (0 ≤ i) && decide (i < (n : Int)) then bif okI .i64 (nth cl (0 + i.toNat * 2 + 0)) then bif decide (0 ≤ i) && decide (i < (n : Int)) then bif okI .i64 (nth cl (0 + i.toNat * 2 + 1)) then
      bif room (k + 3) 32 then bif (0 + k * 4).ble cp.length then bif decide (0 ≤ xa cl i) && decide (xa cl i < 64) then bif (1 : Nat) == 1 && (0 + (xa cl i).toNat * 1 + 1).ble cw.length then
        (PlainL cl ∧ PlainL (ap3 k cp (xa cl i) (xn cl i)) ∧ PlainL (wr3 cw (xa cl i) (xn cl i)) ∧ True) ∧ L todo3 (fr3 n first (k + 3) (xa cl i) (w (i + 1))) (heapB G [some (.cells cl rw), some (.cells (ap3 k cp (xa cl i) (xn cl i)) true), some (.cells (wr3 cw (xa cl i) (xn cl i)) true)])
      else False else False else False else False else False else False else False else False
      else out3 k rw cl cp cw first t L else out3 k rw cl cp cw first t L) := by kernel_rfl
abbrev ret3 (cl : List Value) (rw : Bool) (K : List Value → AHeap → Prop) (b : Bool) : Prop := (PlainL cl ∧ True) ∧ K [B b] (heapB G [some (.cells cl rw)])
def eqB (a b : List UInt8) : Nat → Nat → Bool
  | 0, _ => true
  | k + 1, i => (((a.getD i 0).toNat : Int) == ((b.getD i 0).toNat : Int)) && eqB a b k (i + 1)
theorem tail3 : seg3 [con17, con19 ⟨none, c, v, nx, st, s2⟩, con10] K L todo3b (fr3b k t) (heapB G [some (.cells cl rw), some (.cells cp true), some (.cells (lit64 sc) true), some (.cells (lit64 s0) true)])
    = (TTT ∧ ask19 k (fullS ⟨#[]⟩) ⟨#[107]⟩ 200 cp (lit64 s0) ⟨none, c, v, nx, st, s2⟩ ∧
      ((PlainL cp ∧ True) ∧ (PlainL cp ∧ PlainL (knR (wk (unIns cp)).2 (unIns cp).length 0) ∧ PlainL (spR (wk (unIns cp)).2 (unIns cp).length 0) ∧ True) ∧ cp = insC (unIns cp) ∧ (unIns cp).length = k ∧ k ≤ 128 ∧ (unIns cp).all right = true ∧ badAt (unIns cp) = none) ∧
      bif eqB s2 sc 64 0 then bif decide (0 ≤ t) && decide (t < 64) then bif okI .u8 (nth (lit64 sc) (0 + t.toNat * 1)) then bif c == w (intO (nth (lit64 sc) (0 + t.toNat * 1))) then ret3 cl rw K (st == (k : Int)) else ret3 cl rw K false else False else False else ret3 cl rw K false) := by kernel_rfl
end
theorem eqB_self (a : List UInt8) : ∀ k i, eqB a a k i = true
  | 0, _ => rfl
  | k + 1, i => by rw [eqB, eqB_self a k (i + 1)]; simp
theorem an_in (x : Int) {m : Nat} (hm : m < 100000) : 0 ≤ an x (m : Int) ∧ an x (m : Int) ≤ (m : Int) := by
  have h : ((BitVec.ofInt 64 x).and (BitVec.ofInt 64 (m : Int))).toNat ≤ m := by
    show ((BitVec.ofInt 64 x) &&& (BitVec.ofInt 64 (m : Int))).toNat ≤ m
    rw [BitVec.toNat_and]
    refine Nat.le_trans Nat.and_le_right ?_
    rw [BitVec.ofInt_natCast, BitVec.toNat_ofNat]
    exact Nat.mod_le _ _
  unfold an
  generalize ((BitVec.ofInt 64 x).and (BitVec.ofInt 64 (m : Int))).toNat = k at h
  rw [w_id (n := (k : Int)) (by omega) (by omega)]
  omega
/-- What the law makes of a pair. -/
def qP (p : Int × Int) : Int × Int := (an p.1 63, an p.2 65535)
theorem qP_ok (p : Int × Int) : OkP (qP p) := by
  have h1 := an_in p.1 (m := 63) (by omega)
  have h2 := an_in p.2 (m := 65535) (by omega)
  unfold OkP qP
  simp only
  have e1 : ((63 : Nat) : Int) = 63 := rfl
  have e2 : ((65535 : Nat) : Int) = 65535 := rfl
  rw [e1] at h1; rw [e2] at h2
  omega
theorem prS_push (ps : List (Int × Int)) (p : Int × Int) : prS (ps ++ [p]) = prS ps ++ st3 p := by
  unfold prS
  rw [List.map_append, List.flatten_append]
  simp
theorem scS_push (sc : List UInt8) (ps : List (Int × Int)) (p : Int × Int) : scS sc (ps ++ [p]) = sc3 (scS sc ps) p := by
  unfold scS
  rw [List.foldl_append]; rfl
theorem insC_app : ∀ (l r : List Ins), insC (l ++ r) = insC l ++ insC r
  | [], r => rfl
  | x :: l, r => by
    have := insC_app l r
    simp only [insC, List.cons_append] at this ⊢
    simp [this]
def lastQ (ps : List (Int × Int)) : Int := match ps.getLast? with
  | some p => p.1
  | none => 0
theorem lastQ_in {ps : List (Int × Int)} (h : ∀ p ∈ ps, OkP p) : 0 ≤ lastQ ps ∧ lastQ ps < 64 := by
  unfold lastQ
  split
  · rename_i p hp
    have := h p (List.mem_of_getLast? hp)
    exact ⟨this.1, this.2.1⟩
  · omega
abbrev SemS (w0 : World) (K : List Value → AHeap → Prop) (t : List Item) (fr : List AV) (h : AHeap) : Prop := Agm.Sem Try.prog w0 (Try.prog.globals.size + nt3e.flags.length) Try.f3 (retT G nt3e K) t fr h
theorem leaf3 {K : List Value → AHeap → Prop} : ∀ t fr h, (match t with
    | .code (.region 7 _ _) :: _ => canonT G nt3 (SemS w0 K t) fr h
    | .code (.region 15 _ _) :: _ => canonT G nt3b (SemS w0 K t) fr h
    | _ => False) → SemS w0 K t fr h := by
  intro t fr h e
  split at e
  · exact canonT_semN (nt := nt3) rfl e
  · exact canonT_semN (nt := nt3b) rfl e
  · exact e.elim
theorem okA : ∀ c ∈ [con15, con18], c.ok Try.prog w0 := fun c hc => by
  simp only [List.mem_cons, List.not_mem_nil, or_false] at hc
  rcases hc with rfl | rfl
  · exact con15_ok
  · exact con18_ok
theorem okB : ∀ c ∈ [con18], c.ok Try.prog w0 := fun c hc => by
  simp only [List.mem_cons, List.not_mem_nil, or_false] at hc
  subst hc
  exact con18_ok
theorem okC (E : End) : ∀ c ∈ [con17, con19 E, con10], c.ok Try.prog w0 := fun c hc => by
  simp only [List.mem_cons, List.not_mem_nil, or_false] at hc
  rcases hc with rfl | rfl | rfl
  · exact con17_ok
  · exact con19_ok
  · exact con10_ok
abbrev KT : List Value → AHeap → Prop := fun rs' _ => rs' = [B true]
theorem s64_eq (first : ByteArray) : s64 first = lit64 (filledL first) := by
  have h1 : (lit64 (filledL first)).length = 64 := by unfold lit64; simp
  show splice Z64 0 (lit64 (filledL first)) = _
  unfold splice
  rw [h1, List.take_zero, List.nil_append, List.drop_eq_nil_of_le (by simp), List.append_nil]
theorem ask_ok {l : List Ins} {pg ky : ByteArray} {sc0 : List UInt8} (h1 : l.length < 1000000000) (h2 : pg.size = 512) (h3 : 0 < ky.size) (h3' : ky.size ≤ 16) (h4 : sc0.length = 64) {f : Int} (h5 : f < 1000000000) {E : End} (hE : endOf (runP l pg ky sc0 f) = E) : ask19 l.length pg ky f (insC l) (lit64 sc0) E := by
  have e : unB (lit64 sc0) = sc0 := by rw [lit64_eq h4, unB_bytC]
  refine ⟨⟨plain_insC _, plain_lit _, trivial⟩, ⟨plain_insC _, plain_lit _, trivial⟩, ⟨by rw [unIns_insC], by rw [unIns_insC], h1, h2, h3, h3', h5⟩, ⟨by rw [e]; exact lit64_eq h4, by rw [e]; exact h4⟩, ?_⟩
  rw [unIns_insC, e]; exact hE
theorem plain_knR (cst : List Value) : ∀ k i, PlainL (knR cst k i)
  | 0, _ => by intro x hx; simp [knR] at hx
  | k + 1, i => plain_app (plain_kr cst i) (plain_knR cst k (i + 1))
theorem plain_spR (cst : List Value) : ∀ k i, PlainL (spR cst k i)
  | 0, _ => by intro x hx; simp [spR] at hx
  | k + 1, i => plain_app (plain_sr cst i) (plain_spR cst k (i + 1))
set_option maxRecDepth 100000 in
set_option maxHeartbeats 8000000 in
theorem tail_ok {cl : List Value} (hcl : PlainL cl) {rw : Bool} {ps : List (Int × Int)} (hp : ∀ p ∈ ps, OkP p) (hn : ps.length ≤ 30) (first : ByteArray) :
    SemS w0 KT todo3b (fr3b (prS ps ++ fin3 (lastQ ps)).length (lastQ ps)) (heapB G [some (.cells cl rw), some (.cells (insC (prS ps ++ fin3 (lastQ ps))) true), some (.cells (lit64 (scS (filledL first) ps)) true), some (.cells (lit64 (filledL first)) true)]) := by
  obtain ⟨t0, t1⟩ := lastQ_in hp
  obtain ⟨t, ht⟩ := Int.eq_ofNat_of_zero_le t0
  rw [ht] at t0 t1 ⊢
  have hfl := filledL_len first
  have hsl : (scS (filledL first) ps).length = 64 := by rw [scS_len]; exact hfl
  have hlen : (prS ps ++ fin3 (t : Int)).length = 3 * ps.length + 3 := by rw [List.length_append, prS_len]; rfl
  have hrun := run_all (pg := fullS ⟨#[]⟩) (ky := ⟨#[107]⟩) (sc := filledL first) (ps := ps) (t := t) hp (by omega) hfl hn
  have hbad := prog_ok hp t0 t1 hn
  refine seg_semI3 (F := ft3) mixed (callsOf_ok (okC _)) leaf3 [7, 15] 20 400 ((tail3 (prS ps ++ fin3 (t : Int)).length rw cl (insC (prS ps ++ fin3 (t : Int))) (t : Int) _ _ _ _ (scS (filledL first) ps) (filledL first) _ _ _).mpr ⟨⟨trivial, trivial, trivial⟩, ask_ok (by omega) (fullS_size _) (by decide) (by decide) hfl (by omega) hrun, ?_⟩)
  rw [unIns_insC]
  have hall : (prS ps ++ fin3 (t : Int)).all right = true := List.all_eq_true.2 fun x hx => (prog_right hp t0 t1 x hx).1
  refine ⟨⟨⟨plain_insC _, trivial⟩, ⟨plain_insC _, plain_knR _ _ _, plain_spR _ _ _, trivial⟩, rfl, rfl, by omega, hall, hbad⟩, ?_⟩
  have hk : nth (lit64 (scS (filledL first) ps)) (0 + (t : Int).toNat * 1) = some (.int .u8 (((scS (filledL first) ps).getD t 0).toNat : Int)) := by
    rw [Int.toNat_natCast, nth_eq, show 0 + t * 1 = t by omega]
    unfold lit64
    rw [List.getElem?_map, List.getElem?_range (by omega)]; rfl
  have hb : ((scS (filledL first) ps).getD t 0).toNat < 256 := UInt8.toNat_lt _
  have o1 : okI .u8 (some (.int .u8 (((scS (filledL first) ps).getD t 0).toNat : Int))) = true := rfl
  have o2 : intO (some (.int .u8 (((scS (filledL first) ps).getD t 0).toNat : Int))) = (((scS (filledL first) ps).getD t 0).toNat : Int) := rfl
  rw [eqB_self, decide_eq_true t0, decide_eq_true t1, hk, o1, o2, w_id (by omega) (by omega)]
  simp only [Bool.and_self, cond_true, beq_self_eq_true]
  refine ⟨⟨hcl, trivial⟩, ?_⟩
  rw [hlen]
  simp
set_option maxRecDepth 100000 in
set_option maxHeartbeats 4000000 in
theorem loop3 {rw : Bool} {l : List (Int × Int)} {first : ByteArray} : ∀ (f i : Nat), 30 - i < f → i ≤ 30 → i ≤ l.length →
    SemS w0 KT todo3 (fr3 l.length first (3 * i) (lastQ ((l.take i).map qP)) i) (heapB G [some (.cells (loC l) rw), some (.cells (insC (prS ((l.take i).map qP))) true), some (.cells (lit64 (scS (filledL first) ((l.take i).map qP))) true)]) := by
  intro f
  induction f with
  | zero => intro i h; omega
  | succ f ih =>
    intro i h1 h2 h3
    refine seg_semI3 (F := ft3) mixed (callsOf_ok okB) leaf3 [7, 15] 20 400 ((head3 l.length (3 * i) rw (loC l) (insC (prS ((l.take i).map qP))) (lit64 (scS (filledL first) ((l.take i).map qP))) first _ i KT _).mpr ?_)
    have hps : ∀ p ∈ (l.take i).map qP, OkP p := fun p hp => by
      obtain ⟨q, _, rfl⟩ := List.mem_map.1 hp
      exact qP_ok q
    have hpl : ((l.take i).map qP).length = i := by rw [List.length_map, List.length_take]; omega
    have hcl : (insC (prS ((l.take i).map qP))).length = 3 * i * 4 := by rw [insC_len, prS_len, hpl]
    have hr : room (3 * i + 3) 32 = true := Nat.ble_eq_true_of_le (by omega)
    have hb : (0 + 3 * i * 4).ble (insC (prS ((l.take i).map qP))).length = true := Nat.ble_eq_true_of_le (by omega)
    have hall : List.take (3 * i * 4) (List.drop 0 (insC (prS ((l.take i).map qP)))) = insC (prS ((l.take i).map qP)) := by rw [List.drop_zero, List.take_of_length_le (by omega)]
    have hsl : (scS (filledL first) ((l.take i).map qP)).length = 64 := by rw [scS_len]; exact filledL_len _
    have fin : out3 (3 * i) rw (loC l) (insC (prS ((l.take i).map qP))) (lit64 (scS (filledL first) ((l.take i).map qP))) first (lastQ ((l.take i).map qP)) (SemS w0 KT) := by
      have e : ap3e (3 * i) (insC (prS ((l.take i).map qP))) (lastQ ((l.take i).map qP)) = insC (prS ((l.take i).map qP) ++ fin3 (lastQ ((l.take i).map qP))) := by
        show List.take ((3 * i + 3) * 4) (List.take (3 * i * 4) (List.drop 0 _) ++ _) = _
        rw [hall, List.take_of_length_le (by rw [List.length_append, hcl]; simp; omega), insC_app]; rfl
      have hl : 3 * i + 3 = (prS ((l.take i).map qP) ++ fin3 (lastQ ((l.take i).map qP))).length := by rw [List.length_append, prS_len, hpl]; rfl
      unfold out3
      rw [hr, hb, e, s64_eq]
      refine ⟨⟨trivial, trivial, trivial⟩, ⟨plain_loC _, plain_insC _, plain_lit _, plain_lit _, trivial⟩, ?_⟩
      have := tail_ok (w0 := w0) (plain_loC l) (rw := rw) hps (by omega) first
      rw [← hl] at this
      exact this
    refine bifP (fun c1 => ?_) (fun c1 => fin)
    refine bifP (fun c2 => ?_) (fun c2 => fin)
    simp only [decide_eq_true_eq] at c1 c2
    have hi : i < l.length := by omega
    obtain ⟨n1, n2⟩ := nth_loC l i hi
    have z1 : 0 + (i : Int).toNat * 2 + 0 = 2 * i := by omega
    have z2 : 0 + (i : Int).toNat * 2 + 1 = 2 * i + 1 := by omega
    have ea : xa (loC l) (i : Int) = (qP l[i]).1 := by
      show an (intO (nth (loC l) (0 + (i : Int).toNat * 2 + 0))) 63 = _
      rw [z1, n1]; rfl
    have en : xn (loC l) (i : Int) = (qP l[i]).2 := by
      show an (intO (nth (loC l) (0 + (i : Int).toNat * 2 + 1))) 65535 = _
      rw [z2, n2]; rfl
    obtain ⟨k1, k2, k3, k4⟩ := qP_ok l[i]
    have o1 : okI .i64 (nth (loC l) (0 + (i : Int).toNat * 2 + 0)) = true := by rw [z1, n1]; rfl
    have o2 : okI .i64 (nth (loC l) (0 + (i : Int).toNat * 2 + 1)) = true := by rw [z2, n2]; rfl
    have hw : w ((i : Int) + 1) = ((i + 1 : Nat) : Int) := by rw [w_id (by omega) (by omega)]; omega
    have htk : (l.take (i + 1)).map qP = (l.take i).map qP ++ [qP l[i]] := by rw [List.take_succ_eq_append_getElem hi, List.map_append]; rfl
    have hap : ap3 (3 * i) (insC (prS ((l.take i).map qP))) (qP l[i]).1 (qP l[i]).2 = insC (prS ((l.take (i + 1)).map qP)) := by
      show List.take ((3 * i + 3) * 4) (List.take (3 * i * 4) (List.drop 0 _) ++ _) = _
      rw [hall, List.take_of_length_le (by rw [List.length_append, hcl]; simp; omega), htk, prS_push, insC_app]; rfl
    have hb2 : ((1 : Nat) == 1 && (0 + (qP l[i]).1.toNat * 1 + 1).ble (lit64 (scS (filledL first) ((l.take i).map qP))).length) = true := by
      rw [lit64_eq hsl, bytC_len, hsl]
      exact Nat.ble_eq_true_of_le (by omega)
    have hwr : wr3 (lit64 (scS (filledL first) ((l.take i).map qP))) (qP l[i]).1 (qP l[i]).2 = lit64 (scS (filledL first) ((l.take (i + 1)).map qP)) := by
      have hs2 : (scS (filledL first) ((l.take (i + 1)).map qP)).length = 64 := by rw [scS_len]; exact filledL_len _
      rw [lit64_eq hs2, htk, scS_push, lit64_eq hsl]
      show splice (bytC _) (0 + (qP l[i]).1.toNat * 1) [.int .u8 (IntKind.u8.wrap (qP l[i]).2)] = _
      rw [u8_cell, show 0 + (qP l[i]).1.toNat * 1 = (qP l[i]).1.toNat by omega, bytC_set _ _ _ (by omega)]; rfl
    have hla : lastQ ((l.take (i + 1)).map qP) = (qP l[i]).1 := by
      unfold lastQ
      rw [htk, List.getLast?_append]; rfl
    rw [o1, o2, ea, en, decide_eq_true (show (0 : Int) ≤ (i : Int) by omega), decide_eq_true (show (i : Int) < (l.length : Int) by omega), hr, hb, decide_eq_true k1, decide_eq_true k2, hb2, hap, hwr, hw]
    refine ⟨⟨plain_loC _, plain_insC _, plain_lit _, trivial⟩, ?_⟩
    have := ih (i + 1) (by omega) (by omega) (by omega)
    rw [hla] at this
    exact this
set_option maxRecDepth 100000 in
theorem call3 (l : List (Int × Int)) (rw : Bool) (first : ByteArray) :
    CallS Try.prog w0 3 [SL G l.length 2, .string first] (heapB Try.prog.globals.size [some (.cells (loC l) rw)]) KT := by
  have hn : (heapB Try.prog.globals.size [some (.cells (loC l) rw)]).next = Try.prog.globals.size + nt3e.flags.length := by rw [heapB_next]; rfl
  refine retT_call (nt := nt3e) hn (call_sem (cd := Try.f3.body.getD .skip) Try.func3 (by kernel_rfl) ?_)
  rw [hn]
  refine seg_semI3 (F := ft3) mixed (callsOf_ok okA) leaf3 [7, 15] 20 400 ((start3 l.length rw (loC l) first KT _).mpr ?_)
  rw [s64_eq]
  refine ⟨⟨trivial, trivial, trivial⟩, ⟨trivial, trivial, trivial⟩, ⟨plain_loC _, fun x hx => by simp at hx, plain_lit _, trivial⟩, ?_⟩
  exact loop3 (l := l) (first := first) 31 0 (by omega) (by omega) (by omega)
end Go.Proofs.Ytadaindmgmielaa
