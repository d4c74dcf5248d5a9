/- The law RunSame: three scratches are filled, in whatever order. No condition. -/
import Derived.Test.YtadaindmgmielaaDoorRc
namespace Go.Proofs.YtadaindmgmielaaDoor
open Go.Agm
variable {w0 : World}
/-- The operations of a region. -/
noncomputable def opsOf (t : List Item) : Array Oper := match t with
  | .code (.region _ ops _) :: _ => ops
  | _ => #[]
noncomputable def ops66 : Array Oper := opsOf todo6a
abbrev lo66 : Nat → Bool := fun _ => false
noncomputable def ord66 : List (List Nat) := linA (Region.before ops66) ops66.size (actsA Tryd.prog lo66 ops66)
abbrev leaf6 (L : List Item → List AV → AHeap → Prop) : List Item → List AV → AHeap → Prop := fun t fr h => match t with
  | .code (.region 6 _ _) :: _ => canonT G nt6a (L t) fr h
  | .code (.region 7 _ _) :: _ => canonT G nt6b (L t) fr h
  | .code (.region 9 _ _) :: _ => canonT G nt6c (L t) fr h
  | _ => False
noncomputable abbrev M66 (K : List Value → AHeap → Prop) : Mach Prop := semI Tryd.prog (fun _ => ft0) (callsOf G [con18]) 400 20 (retT G nt1p K)
/-- What comes behind the region. -/
noncomputable def kc66 (K : List Value → AHeap → Prop) (L : List Item → List AV → AHeap → Prop) (fr : List AV) (h : AHeap) : Prop :=
  match todo6a.tail with
  | .code (.region id ops d) :: t => bif [6, 7, 9].contains id then leaf6 L (.code (.region id ops d) :: t) (maskF (ft6.mask id) fr) h else segK3 Tryd.prog ft6 (M66 K) Tryd.f6 [6, 7, 9] 399 (.code (.region id ops d) :: t) fr (leaf6 L) h
  | t => segK3 Tryd.prog ft6 (M66 K) Tryd.f6 [6, 7, 9] 399 t fr (leaf6 L) h
noncomputable def P66 (K : List Value → AHeap → Prop) (L : List Item → List AV → AHeap → Prop) (fr : List AV) (h : AHeap) (σ : List Nat) : Prop :=
  bif memOk Tryd.prog lo66 ops66 σ then opsC2 Tryd.prog lo66 (M66 K) ops66 (preS Tryd.prog lo66 ops66 σ) [] (orderS Tryd.prog lo66 ops66 σ) fr (kc66 K L) h else False
theorem drawL_of {P : Program} {loc : Nat → Bool} {M : Mach Prop} {ops : Array Oper} {fr : List AV} {k : List AV → AHeap → Prop} {h : AHeap} : ∀ {l : List (List Nat)}, (∀ σ ∈ l, bif memOk P loc ops σ then opsC2 P loc M ops (preS P loc ops σ) [] (orderS P loc ops σ) fr k h else False) → drawL P loc M ops fr k h l
  | [], _ => trivial
  | σ :: r, e => by
    cases r with
    | nil => exact e σ (List.mem_singleton.2 rfl)
    | cons τ r => exact ⟨e σ List.mem_cons_self, drawL_of fun q hq => e q (List.mem_cons_of_mem _ hq)⟩
theorem todo66 : todo6a = .code (.region 6 ops66 true) :: todo6a.tail := by kernel_rfl
theorem ok66 (fuel : Int) (k : Nat) (pg ky : ByteArray) :
    (regionOk Tryd.prog lo66 ops66 (Region.before ops66) (orderA Tryd.prog lo66 ops66) && ops66.toList.all (freshA (fr6a fuel k pg ky))) = false ∧
    (noBB (fr6a fuel k pg ky) && ops66.toList.all (nlA lo66) && ops66.toList.all (freshA (fr6a fuel k pg ky)) && !ord66.isEmpty) = true := ⟨by kernel_rfl, by kernel_rfl⟩
theorem seg66 {K : List Value → AHeap → Prop} {L : List Item → List AV → AHeap → Prop} {fuel : Int} {k : Nat} {pg ky : ByteArray} {h : AHeap} (hp : ∀ σ ∈ ord66, P66 K L (fr6a fuel k pg ky) h σ) :
    seg6 [con18] K L todo6a (fr6a fuel k pg ky) h := by
  have key : ∀ (t : List Item) (r : List Item), t = .code (.region 6 ops66 true) :: r → todo6a.tail = r → seg6 [con18] K L t (fr6a fuel k pg ky) h = drawK3 Tryd.prog lo66 (M66 K) ops66 (fr6a fuel k pg ky) (kc66 K L) h := by
    rintro t r rfl hr
    unfold kc66
    rw [hr]
    rfl
  rw [key _ _ todo66 rfl]
  obtain ⟨c1, c2⟩ := ok66 fuel k pg ky
  unfold drawK3
  rw [c1, cond_false]
  change bif (noBB (fr6a fuel k pg ky) && ops66.toList.all (nlA lo66) && ops66.toList.all (freshA (fr6a fuel k pg ky)) && !ord66.isEmpty) then drawL Tryd.prog lo66 (M66 K) ops66 (fr6a fuel k pg ky) (kc66 K L) h ord66 else False
  rw [c2, cond_true]
  exact drawL_of hp
def cnd66 (v : Bool) (p : Nat) : Bool := (p.testBit 7 || v) && ((p.testBit 4 || v) && ((p.testBit 1 || v) && true))
/-- What one order comes to. -/
def one66 (v : Bool) (Q : Prop) (pre : Array Nat) : List Nat → Prop
  | [] => Q
  | i :: r => bif Nat.beq i 2 || (Nat.beq i 5 || Nat.beq i 8) then TTT ∧ (bif cnd66 v (pre.getD i 0) then one66 v Q pre r else False) else bif cnd66 v (pre.getD i 0) then one66 v Q pre r else False
theorem one66_ok {Q : Prop} (hq : Q) (pre : Array Nat) : ∀ σ, one66 true Q pre σ
  | [] => hq
  | i :: r => by
    have hc : cnd66 true (pre.getD i 0) = true := by unfold cnd66; simp
    have := one66_ok hq pre r
    unfold one66
    rw [hc]
    cases (Nat.beq i 2 || (Nat.beq i 5 || Nat.beq i 8)) with
    | true => exact ⟨⟨trivial, trivial, trivial⟩, this⟩
    | false => exact this
/-- For all of a list. -/
def allP (P : List Nat → Prop) : List (List Nat) → Prop
  | [] => True
  | σ :: r => P σ ∧ allP P r
theorem allP_mem {P : List Nat → Prop} : ∀ {l : List (List Nat)}, allP P l → ∀ σ ∈ l, P σ
  | [], _, σ, h => by simp at h
  | τ :: r, e, σ, h => by
    rcases List.mem_cons.1 h with rfl | h
    · exact e.1
    · exact allP_mem e.2 σ h
theorem allP_of {P : List Nat → Prop} (h : ∀ σ, P σ) : ∀ l, allP P l
  | [] => trivial
  | σ :: r => ⟨h σ, allP_of h r⟩
noncomputable abbrev ch66 (i : Nat) : List (List Nat) := (ord66.drop (10 * i)).take 10
abbrev PL6 (cl ca c1 c2 c3 : List Value) : Prop := PlainL cl ∧ PlainL ca ∧ PlainL c1 ∧ PlainL c2 ∧ PlainL c3 ∧ True
section
variable (k : Nat) (rw : Bool) (cl ca : List Value) (pg ky t0 t1 t2 : ByteArray) (fuel : Int) (K : List Value → AHeap → Prop) (L : List Item → List AV → AHeap → Prop)
abbrev Q66 (k : Nat) (rw : Bool) (cl ca : List Value) (pg ky t2 : ByteArray) (fuel : Int) (L : List Item → List AV → AHeap → Prop) : Prop :=
  PL6 cl ca (lit64 (filledL t2)) (lit64 (filledL t2)) (lit64 (filledL t2)) ∧ L todo6b (fr6b fuel k pg ky) (heapB G (hp6b cl rw ca (lit64 (filledL t2)) (lit64 (filledL t2)) (lit64 (filledL t2))))
theorem c66_0 : allP (P66 K L (fr6a fuel k pg ky) (heapB G (hp6a cl rw ca t0 t1 t2))) (ch66 0)
    = allP (fun σ => one66 (veq 4 (.string t2) (.string t2)) (Q66 k rw cl ca pg ky t2 fuel L) (preS Tryd.prog lo66 ops66 σ) σ) (ch66 0) := by kernel_rfl
theorem c66_1 : allP (P66 K L (fr6a fuel k pg ky) (heapB G (hp6a cl rw ca t0 t1 t2))) (ch66 1)
    = allP (fun σ => one66 (veq 4 (.string t2) (.string t2)) (Q66 k rw cl ca pg ky t2 fuel L) (preS Tryd.prog lo66 ops66 σ) σ) (ch66 1) := by kernel_rfl
theorem c66_2 : allP (P66 K L (fr6a fuel k pg ky) (heapB G (hp6a cl rw ca t0 t1 t2))) (ch66 2)
    = allP (fun σ => one66 (veq 4 (.string t2) (.string t2)) (Q66 k rw cl ca pg ky t2 fuel L) (preS Tryd.prog lo66 ops66 σ) σ) (ch66 2) := by kernel_rfl
theorem c66_3 : allP (P66 K L (fr6a fuel k pg ky) (heapB G (hp6a cl rw ca t0 t1 t2))) (ch66 3)
    = allP (fun σ => one66 (veq 4 (.string t2) (.string t2)) (Q66 k rw cl ca pg ky t2 fuel L) (preS Tryd.prog lo66 ops66 σ) σ) (ch66 3) := by kernel_rfl
theorem c66_4 : allP (P66 K L (fr6a fuel k pg ky) (heapB G (hp6a cl rw ca t0 t1 t2))) (ch66 4)
    = allP (fun σ => one66 (veq 4 (.string t2) (.string t2)) (Q66 k rw cl ca pg ky t2 fuel L) (preS Tryd.prog lo66 ops66 σ) σ) (ch66 4) := by kernel_rfl
theorem c66_5 : allP (P66 K L (fr6a fuel k pg ky) (heapB G (hp6a cl rw ca t0 t1 t2))) (ch66 5)
    = allP (fun σ => one66 (veq 4 (.string t2) (.string t2)) (Q66 k rw cl ca pg ky t2 fuel L) (preS Tryd.prog lo66 ops66 σ) σ) (ch66 5) := by kernel_rfl
theorem c66_6 : allP (P66 K L (fr6a fuel k pg ky) (heapB G (hp6a cl rw ca t0 t1 t2))) (ch66 6)
    = allP (fun σ => one66 (veq 4 (.string t2) (.string t2)) (Q66 k rw cl ca pg ky t2 fuel L) (preS Tryd.prog lo66 ops66 σ) σ) (ch66 6) := by kernel_rfl
theorem c66_7 : allP (P66 K L (fr6a fuel k pg ky) (heapB G (hp6a cl rw ca t0 t1 t2))) (ch66 7)
    = allP (fun σ => one66 (veq 4 (.string t2) (.string t2)) (Q66 k rw cl ca pg ky t2 fuel L) (preS Tryd.prog lo66 ops66 σ) σ) (ch66 7) := by kernel_rfl
theorem c66_8 : allP (P66 K L (fr6a fuel k pg ky) (heapB G (hp6a cl rw ca t0 t1 t2))) (ch66 8)
    = allP (fun σ => one66 (veq 4 (.string t2) (.string t2)) (Q66 k rw cl ca pg ky t2 fuel L) (preS Tryd.prog lo66 ops66 σ) σ) (ch66 8) := by kernel_rfl
theorem c66_9 : allP (P66 K L (fr6a fuel k pg ky) (heapB G (hp6a cl rw ca t0 t1 t2))) (ch66 9)
    = allP (fun σ => one66 (veq 4 (.string t2) (.string t2)) (Q66 k rw cl ca pg ky t2 fuel L) (preS Tryd.prog lo66 ops66 σ) σ) (ch66 9) := by kernel_rfl
theorem c66_10 : allP (P66 K L (fr6a fuel k pg ky) (heapB G (hp6a cl rw ca t0 t1 t2))) (ch66 10)
    = allP (fun σ => one66 (veq 4 (.string t2) (.string t2)) (Q66 k rw cl ca pg ky t2 fuel L) (preS Tryd.prog lo66 ops66 σ) σ) (ch66 10) := by kernel_rfl
theorem c66_11 : allP (P66 K L (fr6a fuel k pg ky) (heapB G (hp6a cl rw ca t0 t1 t2))) (ch66 11)
    = allP (fun σ => one66 (veq 4 (.string t2) (.string t2)) (Q66 k rw cl ca pg ky t2 fuel L) (preS Tryd.prog lo66 ops66 σ) σ) (ch66 11) := by kernel_rfl
end
theorem ord66_len : ord66.length = 120 := by kernel_rfl
theorem chunks_mem {P : List Nat → Prop} {l : List (List Nat)} (hl : l.length = 120) (h : ∀ i, i < 12 → allP P ((l.drop (10 * i)).take 10)) : ∀ σ ∈ l, P σ := by
  intro σ hσ
  obtain ⟨j, hj, rfl⟩ := List.getElem_of_mem hσ
  refine allP_mem (h (j / 10) (by omega)) _ ?_
  refine List.mem_take_iff_getElem.2 ⟨j % 10, by rw [List.length_drop]; omega, ?_⟩
  rw [List.getElem_drop]
  congr 1
  omega
set_option maxHeartbeats 2000000 in
theorem p2 {k : Nat} {rw : Bool} {cl ca : List Value} {pg ky t0 t1 t2 : ByteArray} {fuel : Int} {K : List Value → AHeap → Prop} {L : List Item → List AV → AHeap → Prop} (hq : Q66 k rw cl ca pg ky t2 fuel L) :
    seg6 [con18] K L todo6a (fr6a fuel k pg ky) (heapB G (hp6a cl rw ca t0 t1 t2)) := by
  have hv : veq 4 (.string t2) (.string t2) = true := by simp [veq]
  have all : ∀ l, allP (fun σ => one66 (veq 4 (.string t2) (.string t2)) (Q66 k rw cl ca pg ky t2 fuel L) (preS Tryd.prog lo66 ops66 σ) σ) l := by
    rw [hv]
    exact allP_of fun σ => one66_ok hq _ σ
  refine seg66 (chunks_mem ord66_len fun i hi => ?_)
  have : i = 0 ∨ i = 1 ∨ i = 2 ∨ i = 3 ∨ i = 4 ∨ i = 5 ∨ i = 6 ∨ i = 7 ∨ i = 8 ∨ i = 9 ∨ i = 10 ∨ i = 11 := by omega
  rcases this with rfl | rfl | rfl | rfl | rfl | rfl | rfl | rfl | rfl | rfl | rfl | rfl
  · exact (c66_0 k rw cl ca pg ky t0 t1 t2 fuel K L).mpr (all (ch66 0))
  · exact (c66_1 k rw cl ca pg ky t0 t1 t2 fuel K L).mpr (all (ch66 1))
  · exact (c66_2 k rw cl ca pg ky t0 t1 t2 fuel K L).mpr (all (ch66 2))
  · exact (c66_3 k rw cl ca pg ky t0 t1 t2 fuel K L).mpr (all (ch66 3))
  · exact (c66_4 k rw cl ca pg ky t0 t1 t2 fuel K L).mpr (all (ch66 4))
  · exact (c66_5 k rw cl ca pg ky t0 t1 t2 fuel K L).mpr (all (ch66 5))
  · exact (c66_6 k rw cl ca pg ky t0 t1 t2 fuel K L).mpr (all (ch66 6))
  · exact (c66_7 k rw cl ca pg ky t0 t1 t2 fuel K L).mpr (all (ch66 7))
  · exact (c66_8 k rw cl ca pg ky t0 t1 t2 fuel K L).mpr (all (ch66 8))
  · exact (c66_9 k rw cl ca pg ky t0 t1 t2 fuel K L).mpr (all (ch66 9))
  · exact (c66_10 k rw cl ca pg ky t0 t1 t2 fuel K L).mpr (all (ch66 10))
  · exact (c66_11 k rw cl ca pg ky t0 t1 t2 fuel K L).mpr (all (ch66 11))
end Go.Proofs.YtadaindmgmielaaDoor
