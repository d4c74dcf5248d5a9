/- The document's split: words. No condition. -/
import Derived.Test.YtkjdfkodclednaaGreatDoorZm
namespace Go.Proofs.YtkjdfkodclednaaGreatDoor
section
open Go.Agm
variable {w0 : World}
noncomputable def ft66 : FT := { loc := fun _ => false, mask := fun id => bif Nat.beq id 4 then live 31 [0, 3, 4, 5] else [] }
abbrev nt66A : Nt := { gh := [⟨3, none, 1⟩], flags := [], paths := [⟨3, [], true⟩], tr := [] }
abbrev nt66 : Nt := { gh := [⟨0, none, 1⟩], flags := [], paths := [⟨0, [], true⟩], tr := [] }
noncomputable def todo66 : List Item := todoOf Tryz.f66 4
abbrev seg66 (K : List Value → AHeap → Prop) (L : List Item → List AV → AHeap → Prop) (t : List Item) (fr : List AV) (h : AHeap) : Prop :=
  segK3 Tryz.prog ft66 (semI Tryz.prog (fun _ => ft0) (callsOf G []) 400 20 (retT G nt66 K)) Tryz.f66 [4] 100 t fr (fun t fr h => match t with
  | .code (.region 4 _ _) :: _ => canonT G nt66A (L t) fr h
  | _ => False) h
noncomputable def fr66 (s : ByteArray) (n : Nat) (wd : ByteArray) (i : Int) : List AV := frm 31 [(0, .v (ST s)), (3, .v (SL G n 1)), (4, .v (ST wd)), (5, .v (I i))]
/-- The document's Name, and number. -/
noncomputable def ft35 : FT := { loc := fun _ => false, mask := fun id => bif Nat.beq id 4 then live 49 [0, 3] else [] }
noncomputable def todo35 : List Item := todoOf Tryz.f35 4
abbrev seg35 (K : List Value → AHeap → Prop) (L : List Item → List AV → AHeap → Prop) (t : List Item) (fr : List AV) (h : AHeap) : Prop :=
  segK3 Tryz.prog ft35 (semI Tryz.prog (fun _ => ft0) (callsOf G []) 400 20 (retT G nt65 K)) Tryz.f35 [4] 100 t fr (fun t fr h => match t with
  | .code (.region 4 _ _) :: _ => canonT G nt65 (L t) fr h
  | _ => False) h
noncomputable def fr35 (s : ByteArray) (i : Int) : List AV := frm 49 [(0, .v (ST s)), (3, .v (I i))]
end
section
open Go.Agm
variable {w0 : World}
abbrev slOk (s : ByteArray) (a b : Int) : Bool := decide (0 ≤ b) && decide (b ≤ (s.size : Int)) && decide (0 ≤ a) && decide (a ≤ b)
theorem start66 (s : ByteArray) (K : List Value → AHeap → Prop) (L : List Item → List AV → AHeap → Prop) : seg66 K L [.code (Tryz.f66.body.getD .skip)] (startF Tryz.f66 [.string s]) (heapB G [])
    = ((PlainL [] ∧ True) ∧ L todo66 (fr66 s 0 noS 0) (heapB G [some (.cells [] true)])) := by kernel_rfl
abbrev app66 (n : Nat) (oc : List Value) (wd : ByteArray) : List Value := (oc.drop 0).take (n * 1) ++ [ST wd]
theorem head66 (s : ByteArray) (n : Nat) (wd : ByteArray) (i : Int) (oc : List Value) (K : List Value → AHeap → Prop) (L : List Item → List AV → AHeap → Prop) : seg66 K L todo66 (fr66 s n wd i) (heapB G [some (.cells oc true)])
    = (bif decide (i < (s.size : Int)) then
      bif decide (0 ≤ i) && decide (i < (s.size : Int)) then
      bif bt s i.toNat == 32 then
        bif room (n + 1) 16 then bif (0 + n * 1).ble oc.length then
          (PlainL (app66 n oc wd) ∧ True) ∧ L todo66 (fr66 s (n + 1) noS (w (i + 1))) (heapB G [some (.cells (app66 n oc wd) true)])
        else False else False
      else bif slOk s i (w (i + 1)) then
        bif (wd.size + (s.extract i.toNat (w (i + 1)).toNat).size).ble 1099511627776 then
          (PlainL oc ∧ True) ∧ L todo66 (fr66 s n ⟨⟨wd.data.toList ++ (s.extract i.toNat (w (i + 1)).toNat).data.toList⟩⟩ (w (i + 1))) (heapB G [some (.cells oc true)])
        else False else False
      else False
    else bif room (n + 1) 16 then bif (0 + n * 1).ble oc.length then
          (PlainL (app66 n oc wd) ∧ True) ∧ K [SL G (n + 1) 1] (heapB G [some (.cells (app66 n oc wd) true)])
        else False else False) := by kernel_rfl
def splitL : List UInt8 → List ByteArray → List UInt8 → List ByteArray
  | [], out, wd => out ++ [⟨⟨wd⟩⟩]
  | c :: r, out, wd => if c = 32 then splitL r (out ++ [⟨⟨wd⟩⟩]) [] else splitL r out (wd ++ [c])
abbrev Sem66 (w0 : World) (K : List Value → AHeap → Prop) (t : List Item) (fr : List AV) (h : AHeap) : Prop := Agm.Sem Tryz.prog w0 (Tryz.prog.globals.size + nt66.flags.length) Tryz.f66 (retT Tryz.prog.globals.size nt66 K) t fr h
theorem leaf66 {K : List Value → AHeap → Prop} : ∀ t fr h, (match t with
    | .code (.region 4 _ _) :: _ => canonT G nt66A (Sem66 w0 K t) fr h
    | _ => False) → Sem66 w0 K t fr h := by
  intro t fr h e
  split at e
  · exact canonT_semN (nt := nt66A) rfl e
  · exact e.elim
theorem via66 {K : List Value → AHeap → Prop} {t : List Item} {fr : List AV} {h : AHeap} {R : Prop} (ev : seg66 K (Sem66 w0 K) t fr h = R) (r : R) : Sem66 w0 K t fr h :=
  seg_semI3 (F := ft66) mixed (callsOf_ok okNo) leaf66 [4] 20 100 (ev.mpr r)
theorem app66_ws (l : List ByteArray) (x : ByteArray) : app66 l.length (wsC l) x = wsC (l ++ [x]) := by
  simp only [app66, List.drop_zero, Nat.mul_one, wsC, List.map_append, List.map_cons, List.map_nil]
  rw [List.take_of_length_le (by simp)]
theorem wsC_len (l : List ByteArray) : (wsC l).length = l.length := List.length_map _
theorem bt_byte {s : ByteArray} {i : Nat} {c : UInt8} {r : List UInt8} (h : s.data.toList.drop i = c :: r) : i < s.size ∧ bt s i = c.toNat ∧ (s.extract i (i + 1)).data.toList = [c] ∧ s.data.toList.drop (i + 1) = r := by
  have hlt : i < s.data.toList.length := by
    apply Classical.byContradiction
    intro hh
    rw [List.drop_of_length_le (by omega)] at h
    simp at h
  have hc : s.data.toList[i]? = some c := by rw [← List.head?_drop, h]; rfl
  refine ⟨by rw [Lib.size_eq]; exact hlt, ?_, ?_, ?_⟩
  · unfold bt; rw [List.getD_eq_getElem?_getD, hc]; rfl
  · obtain ⟨⟨l⟩⟩ := s
    rw [ByteArray.extract_mk]
    simp only []
    rw [h, show i + 1 - i = 1 by omega]; rfl
  · rw [← List.drop_drop, h]; rfl
theorem byte_eq (c : UInt8) (n : Nat) (hn : n < 256) : (((c.toNat : Int)) == (n : Int)) = decide (c = UInt8.ofNat n) := by
  rw [Bool.eq_iff_iff, beq_iff_eq, decide_eq_true_eq]
  constructor
  · intro h
    have : c.toNat = n := by omega
    rw [← this]; exact (UInt8.ofNat_toNat).symm
  · rintro rfl
    rw [UInt8.toNat_ofNat_of_lt' hn]
theorem loop66 {K : List Value → AHeap → Prop} {s : ByteArray} (hs : s.size ≤ 1000000) : ∀ (b : List UInt8) (i : Nat) (out : List ByteArray) (wd : List UInt8), s.data.toList.drop i = b → out.length ≤ i → wd.length ≤ i → i ≤ s.size →
    K [SL G (splitL b out wd).length 1] (heapB G [some (.cells (wsC (splitL b out wd)) true)]) → Sem66 w0 K todo66 (fr66 s out.length ⟨⟨wd⟩⟩ i) (heapB G [some (.cells (wsC out) true)]) := by
  intro b
  induction b with
  | nil =>
    intro i out wd hb ho hw hi hK
    refine via66 (head66 s out.length ⟨⟨wd⟩⟩ i (wsC out) K (Sem66 w0 K)) ?_
    have hge : s.size ≤ i := by
      rw [Lib.size_eq]
      have := congrArg List.length hb
      simp only [List.length_drop, List.length_nil] at this
      omega
    rw [decide_eq_false (show ¬ (i : Int) < (s.size : Int) by omega), cond_false, show room (out.length + 1) 16 = true from Nat.ble_eq_true_of_le (by omega),
      Nat.ble_eq_true_of_le (show 0 + out.length * 1 ≤ (wsC out).length by rw [wsC_len]; omega), app66_ws]
    refine ⟨⟨plain_ws _, trivial⟩, ?_⟩
    simp only [splitL, List.length_append, List.length_singleton] at hK
    exact hK
  | cons c r ih =>
    intro i out wd hb ho hw hi hK
    refine via66 (head66 s out.length ⟨⟨wd⟩⟩ i (wsC out) K (Sem66 w0 K)) ?_
    obtain ⟨h1, h2, h3, h4⟩ := bt_byte hb
    have hw1 : w ((i : Int) + 1) = ((i + 1 : Nat) : Int) := by rw [w_id (by omega) (by omega)]; omega
    rw [decide_eq_true (show (i : Int) < (s.size : Int) by omega), decide_eq_true (show (0 : Int) ≤ (i : Int) by omega), Int.toNat_natCast, h2, hw1, Int.toNat_natCast, h3]
    have e32 : ((c.toNat : Int) == 32) = decide (c = 32) := byte_eq c 32 (by decide)
    rw [e32]
    by_cases hc : c = 32
    · rw [decide_eq_true hc]
      simp only [splitL, hc, if_true] at hK
      rw [show room (out.length + 1) 16 = true from Nat.ble_eq_true_of_le (by omega), Nat.ble_eq_true_of_le (show 0 + out.length * 1 ≤ (wsC out).length by rw [wsC_len]; omega), app66_ws]
      refine ⟨⟨plain_ws _, trivial⟩, ?_⟩
      have := ih (i + 1) (out ++ [⟨⟨wd⟩⟩]) [] h4 (by simp; omega) (by simp) (by omega) hK
      rw [List.length_append, List.length_singleton] at this
      exact this
    · rw [decide_eq_false hc]
      simp only [splitL, hc, if_false] at hK
      rw [show slOk s i ((i + 1 : Nat) : Int) = true by
        simp only [slOk, Bool.and_eq_true, decide_eq_true_eq]; omega]
      have hsz : (s.extract i (i + 1)).size = 1 := by rw [Lib.size_eq, h3]; rfl
      rw [Nat.ble_eq_true_of_le (show (ByteArray.mk ⟨wd⟩).size + (s.extract i (i + 1)).size ≤ 1099511627776 by rw [hsz, show (ByteArray.mk ⟨wd⟩).size = wd.length from rfl]; omega)]
      exact ⟨⟨plain_ws _, trivial⟩, ih (i + 1) out (wd ++ [c]) h4 (by omega) (by simp; omega) (by omega) hK⟩
end
section
open Go.Agm
variable {w0 : World}
def splitR (s : ByteArray) : List ByteArray := splitL s.data.toList [] []
noncomputable def con66 (ws : List ByteArray) : Con := { f := 66, gh := [], paths := [], spec := fun args bs => match args, bs with
  | [.string s], [] => some (s.size ≤ 1000000 ∧ splitR s = ws, [SL G ws.length 1], [(true, some (.cells (wsC ws) true))])
  | _, _ => none }
theorem con66_ok (ws : List ByteArray) : (con66 ws).ok Tryz.prog w0 := by
  intro args bs p rs out e hp
  simp only [con66] at e
  split at e <;> first | (simp at e; done) | skip
  rename_i s
  simp only [Option.some.injEq, Prod.mk.injEq] at e
  obtain ⟨rfl, rfl, rfl⟩ := e
  obtain ⟨hs, rfl⟩ := hp
  change CallS Tryz.prog w0 66 [.string s] (heapB Tryz.prog.globals.size []) fun rs' h' => rs' = [SL G (splitR s).length 1] ∧ h' = heapB Tryz.prog.globals.size [some (.cells (wsC (splitR s)) true)]
  have hn : (heapB Tryz.prog.globals.size []).next = Tryz.prog.globals.size + nt66.flags.length := by rw [heapB_next]; rfl
  refine retT_call (nt := nt66) hn (call_sem (cd := Tryz.f66.body.getD .skip) Tryz.func66 (by kernel_rfl) ?_)
  rw [hn]
  refine via66 (start66 s _ (Sem66 w0 _)) ⟨⟨plain_ws [], trivial⟩, ?_⟩
  exact loop66 (out := []) (wd := []) hs s.data.toList 0 rfl (Nat.le_refl _) (Nat.le_refl _) (Nat.zero_le _) ⟨rfl, rfl⟩
theorem start35 (s : ByteArray) (K : List Value → AHeap → Prop) (L : List Item → List AV → AHeap → Prop) : seg35 K L [.code (Tryz.f35.body.getD .skip)] (startF Tryz.f35 [.string s]) (heapB G [])
    = (bif eqS s noS then True ∧ K [B false] (heapB G [])
    else bif decide ((s.size : Int) > 8) then True ∧ K [B false] (heapB G [])
    else True ∧ L todo35 (fr35 s 0) (heapB G [])) := by kernel_rfl
abbrev inB (s : ByteArray) (i : Int) : Bool := decide (0 ≤ i) && decide (i < (s.size : Int))
theorem head35 (s : ByteArray) (i : Int) (K : List Value → AHeap → Prop) (L : List Item → List AV → AHeap → Prop) : seg35 K L todo35 (fr35 s i) (heapB G [])
    = (bif decide (i < (s.size : Int)) then
      bif inB s i then
      bif decide (bt s i.toNat ≥ 97) then
        bif inB s i then bif inB s i then
        bif decide (bt s i.toNat ≥ 48) then
          bif inB s i then
          bif !decide (bt s i.toNat ≤ 122) then
            bif decide (bt s i.toNat ≤ 57) then
              bif !decide (i > 0) then True ∧ K [B false] (heapB G []) else True ∧ L todo35 (fr35 s (w (i + 1))) (heapB G [])
            else True ∧ K [B false] (heapB G [])
          else True ∧ L todo35 (fr35 s (w (i + 1))) (heapB G [])
          else False
        else bif !decide (bt s i.toNat ≤ 122) then True ∧ K [B false] (heapB G []) else True ∧ L todo35 (fr35 s (w (i + 1))) (heapB G [])
        else False else False
      else bif inB s i then
        bif decide (bt s i.toNat ≥ 48) then
          bif inB s i then
          bif decide (bt s i.toNat ≤ 57) then
            bif !decide (i > 0) then True ∧ K [B false] (heapB G []) else True ∧ L todo35 (fr35 s (w (i + 1))) (heapB G [])
          else True ∧ K [B false] (heapB G [])
          else False
        else True ∧ K [B false] (heapB G [])
        else False
      else False
    else True ∧ K [B true] (heapB G [])) := by kernel_rfl
/-- May a byte stand in a name? -/
def nmC (first : Bool) (c : UInt8) : Bool := (decide (97 ≤ c.toNat) && decide (c.toNat ≤ 122)) || (decide (48 ≤ c.toNat) && decide (c.toNat ≤ 57) && !first)
def nameL : Bool → List UInt8 → Bool
  | _, [] => true
  | f, c :: r => nmC f c && nameL false r
def nameR (s : ByteArray) : Bool := bif eqS s noS then false else bif decide ((s.size : Int) > 8) then false else nameL true s.data.toList
abbrev Sem35 (w0 : World) (K : List Value → AHeap → Prop) (t : List Item) (fr : List AV) (h : AHeap) : Prop := Agm.Sem Tryz.prog w0 (Tryz.prog.globals.size + nt65.flags.length) Tryz.f35 (retT Tryz.prog.globals.size nt65 K) t fr h
theorem leaf35 {K : List Value → AHeap → Prop} : ∀ t fr h, (match t with
    | .code (.region 4 _ _) :: _ => canonT G nt65 (Sem35 w0 K t) fr h
    | _ => False) → Sem35 w0 K t fr h := by
  intro t fr h e
  split at e
  · exact canonT_semN (nt := nt65) rfl e
  · exact e.elim
theorem via35 {K : List Value → AHeap → Prop} {t : List Item} {fr : List AV} {h : AHeap} {R : Prop} (ev : seg35 K (Sem35 w0 K) t fr h = R) (r : R) : Sem35 w0 K t fr h :=
  seg_semI3 (F := ft35) mixed (callsOf_ok okNo) leaf35 [4] 20 100 (ev.mpr r)
theorem loop35 {K : List Value → AHeap → Prop} {s : ByteArray} (hs : s.size ≤ 8) : ∀ (b : List UInt8) (i : Nat), s.data.toList.drop i = b → i ≤ s.size → K [B (nameL (decide (i = 0)) b)] (heapB G []) → Sem35 w0 K todo35 (fr35 s i) (heapB G []) := by
  intro b
  induction b with
  | nil =>
    intro i hb hi hK
    refine via35 (head35 s i K (Sem35 w0 K)) ?_
    have hge : s.size ≤ i := by
      rw [Lib.size_eq]
      have := congrArg List.length hb
      simp only [List.length_drop, List.length_nil] at this
      omega
    rw [decide_eq_false (show ¬ (i : Int) < (s.size : Int) by omega), cond_false]
    exact ⟨trivial, hK⟩
  | cons c r ih =>
    intro i hb hi hK
    refine via35 (head35 s i K (Sem35 w0 K)) ?_
    obtain ⟨h1, h2, h3, h4⟩ := bt_byte hb
    have hw1 : w ((i : Int) + 1) = ((i + 1 : Nat) : Int) := by rw [w_id (by omega) (by omega)]; omega
    have next : nmC (decide (i = 0)) c = true → Sem35 w0 K todo35 (fr35 s ((i + 1 : Nat) : Int)) (heapB G []) := fun hc => by
      refine ih (i + 1) h4 (by omega) ?_
      rw [nameL, hc, Bool.true_and] at hK
      rw [show decide (i + 1 = 0) = false from rfl]
      exact hK
    have stop : nmC (decide (i = 0)) c = false → K [B false] (heapB G []) := fun hc => by
      rw [nameL, hc, Bool.false_and] at hK
      exact hK
    have g1 : decide (bt s i ≥ 97) = decide (97 ≤ c.toNat) := by rw [h2]; apply decide_eq_decide.2; omega
    have g2 : decide (bt s i ≤ 122) = decide (c.toNat ≤ 122) := by rw [h2]; apply decide_eq_decide.2; omega
    have g3 : decide (bt s i ≥ 48) = decide (48 ≤ c.toNat) := by rw [h2]; apply decide_eq_decide.2; omega
    have g4 : decide (bt s i ≤ 57) = decide (c.toNat ≤ 57) := by rw [h2]; apply decide_eq_decide.2; omega
    have g5 : decide ((i : Int) > 0) = !decide (i = 0) := by
      by_cases h : i = 0
      · subst h; rfl
      · rw [decide_eq_false h, decide_eq_true (show (i : Int) > 0 by omega)]; rfl
    simp only [inB, decide_eq_true (show (i : Int) < (s.size : Int) by omega), decide_eq_true (show (0 : Int) ≤ (i : Int) by omega), Int.toNat_natCast, hw1, g1, g2, g3, g4, g5, Bool.true_and, cond_true]
    unfold nmC at next stop
    cases e1 : decide (97 ≤ c.toNat) <;> cases e2 : decide (c.toNat ≤ 122) <;> cases e3 : decide (48 ≤ c.toNat) <;> cases e4 : decide (c.toNat ≤ 57) <;> cases e5 : decide (i = 0) <;>
      simp only [e1, e2, e3, e4, e5, Bool.and_true, Bool.and_false, Bool.or_false, Bool.false_or, Bool.true_or, Bool.not_true, Bool.not_false, cond_true, cond_false, true_and, forall_const, Bool.true_eq_false, Bool.false_eq_true, false_implies] at next stop ⊢ <;> assumption
noncomputable def con35n : Con := { f := 35, gh := [], paths := [], spec := fun args bs => match args, bs with
  | [.string s], [] => some (True, [B (nameR s)], [])
  | _, _ => none }
theorem con35n_ok : con35n.ok Tryz.prog w0 := by
  intro args bs p rs out e hp
  simp only [con35n] at e
  split at e <;> first | (simp at e; done) | skip
  rename_i s
  simp only [Option.some.injEq, Prod.mk.injEq] at e
  obtain ⟨rfl, rfl, rfl⟩ := e
  change CallS Tryz.prog w0 35 [.string s] (heapB Tryz.prog.globals.size []) fun rs' h' => rs' = [B (nameR s)] ∧ h' = heapB Tryz.prog.globals.size []
  have hn : (heapB Tryz.prog.globals.size []).next = Tryz.prog.globals.size + nt65.flags.length := by rw [heapB_next]; rfl
  refine retT_call (nt := nt65) hn (call_sem (cd := Tryz.f35.body.getD .skip) Tryz.func35 (by kernel_rfl) ?_)
  rw [hn]
  refine via35 (start35 s _ (Sem35 w0 _)) ?_
  cases h1 : eqS s noS with
  | true => exact ⟨trivial, by simp only [nameR, h1, cond_true], rfl⟩
  | false =>
    cases h2 : decide ((s.size : Int) > 8) with
    | true => exact ⟨trivial, by simp only [nameR, h1, h2, cond_true, cond_false], rfl⟩
    | false =>
      refine ⟨trivial, loop35 (by have := of_decide_eq_false h2; omega) s.data.toList 0 rfl (Nat.zero_le _) ⟨?_, rfl⟩⟩
      simp only [nameR, h1, h2, cond_false]; rfl
end
section
open Go.Agm
variable {w0 : World}
noncomputable def ft67 : FT := { loc := fun _ => false, mask := fun id => bif Nat.beq id 9 then live 74 [4, 5, 6, 7] else [] }
noncomputable def todo67 : List Item := todoOf Tryz.f67 9
abbrev seg67 (K : List Value → AHeap → Prop) (L : List Item → List AV → AHeap → Prop) (t : List Item) (fr : List AV) (h : AHeap) : Prop :=
  segK3 Tryz.prog ft67 (semI Tryz.prog (fun _ => ft0) (callsOf G []) 400 20 (retT G nt65 K)) Tryz.f67 [9] 100 t fr (fun t fr h => match t with
  | .code (.region 9 _ _) :: _ => canonT G nt65 (L t) fr h
  | _ => False) h
noncomputable def fr67 (neg : Bool) (t : ByteArray) (n i : Int) : List AV := frm 74 [(4, .v (B neg)), (5, .v (ST t)), (6, .v (I n)), (7, .v (I i))]
end
section
open Go.Agm
variable {w0 : World}
abbrev no67 (K : List Value → AHeap → Prop) : Prop := True ∧ K [I 0, B false] (heapB G [])
abbrev go67 (K : List Value → AHeap → Prop) (L : List Item → List AV → AHeap → Prop) (neg : Bool) (t : ByteArray) : Prop :=
  bif eqS t noS then no67 K else bif decide ((t.size : Int) > 16) then no67 K else True ∧ L todo67 (fr67 neg t 0 0) (heapB G [])
theorem start67 (s : ByteArray) (K : List Value → AHeap → Prop) (L : List Item → List AV → AHeap → Prop) : seg67 K L [.code (Tryz.f67.body.getD .skip)] (startF Tryz.f67 [.string s]) (heapB G [])
    = (bif decide ((s.size : Int) > 0) then
      bif decide (0 < (s.size : Int)) then
        bif bt s 0 == 45 then
          bif decide (1 ≤ (s.size : Int)) then go67 K L (bt s 0 == 45) (s.extract 1 s.size) else False
        else go67 K L (bt s 0 == 45) s
      else False
    else go67 K L false s) := by kernel_rfl
abbrev fin67 (K : List Value → AHeap → Prop) (neg : Bool) (n : Int) : Prop :=
  bif neg then
    bif n == 0 then no67 K else bif neg then True ∧ K [I (w (0 - n)), B true] (heapB G []) else True ∧ K [I n, B true] (heapB G [])
  else bif neg then True ∧ K [I (w (0 - n)), B true] (heapB G []) else True ∧ K [I n, B true] (heapB G [])
theorem head67 (neg : Bool) (t : ByteArray) (n i : Int) (K : List Value → AHeap → Prop) (L : List Item → List AV → AHeap → Prop) : seg67 K L todo67 (fr67 neg t n i) (heapB G [])
    = (bif decide (i < (t.size : Int)) then
      bif inB t i then
      bif decide (bt t i.toNat < 48) then no67 K
      else bif inB t i then
      bif decide (bt t i.toNat > 57) then no67 K
      else bif inB t i then True ∧ L todo67 (fr67 neg t (w (w (10 * n) + w (IntKind.u8.wrap (bt t i.toNat - 48)))) (w (i + 1))) (heapB G [])
      else False
      else False
      else False
    else bif decide (n > 9007199254740992) then no67 K
    else bif decide (0 < (t.size : Int)) then
      bif bt t 0 == 48 then
        bif decide ((t.size : Int) > 1) then no67 K else fin67 K neg n
      else fin67 K neg n
    else False) := by kernel_rfl
/-- The number that digits tell. -/
def magL : List UInt8 → Int → Option Int
  | [], n => some n
  | c :: r, n => if c.toNat < 48 ∨ 57 < c.toNat then none else magL r (10 * n + (c.toNat - 48))
def magR (neg : Bool) (t : ByteArray) : Option Int → Int × Bool
  | none => (0, false)
  | some n => if n > 9007199254740992 ∨ (bt t 0 = 48 ∧ t.size > 1) ∨ (neg = true ∧ n = 0) then (0, false) else (bif neg then -n else n, true)
def numT (neg : Bool) (t : ByteArray) : Int × Bool := bif eqS t noS then (0, false) else bif decide ((t.size : Int) > 16) then (0, false) else magR neg t (magL t.data.toList 0)
def numR (s : ByteArray) : Int × Bool := bif decide ((s.size : Int) > 0) && bt s 0 == 45 then numT true (s.extract 1 s.size) else numT false s
abbrev Sem67 (w0 : World) (K : List Value → AHeap → Prop) (t : List Item) (fr : List AV) (h : AHeap) : Prop := Agm.Sem Tryz.prog w0 (Tryz.prog.globals.size + nt65.flags.length) Tryz.f67 (retT Tryz.prog.globals.size nt65 K) t fr h
theorem leaf67 {K : List Value → AHeap → Prop} : ∀ t fr h, (match t with
    | .code (.region 9 _ _) :: _ => canonT G nt65 (Sem67 w0 K t) fr h
    | _ => False) → Sem67 w0 K t fr h := by
  intro t fr h e
  split at e
  · exact canonT_semN (nt := nt65) rfl e
  · exact e.elim
theorem via67 {K : List Value → AHeap → Prop} {t : List Item} {fr : List AV} {h : AHeap} {R : Prop} (ev : seg67 K (Sem67 w0 K) t fr h = R) (r : R) : Sem67 w0 K t fr h :=
  seg_semI3 (F := ft67) mixed (callsOf_ok okNo) leaf67 [9] 20 100 (ev.mpr r)
theorem loop67 {K : List Value → AHeap → Prop} {neg : Bool} {t : ByteArray} (ht : t.size ≤ 16) (h0 : t.size ≠ 0) : ∀ (b : List UInt8) (i : Nat) (n : Int), t.data.toList.drop i = b → i ≤ t.size → 0 ≤ n → n < 10 ^ i → K [I (magR neg t (magL b n)).1, B (magR neg t (magL b n)).2] (heapB G []) → Sem67 w0 K todo67 (fr67 neg t n i) (heapB G []) := by
  intro b
  induction b with
  | nil =>
    intro i n hb hi hn hn2 hK
    refine via67 (head67 neg t n i K (Sem67 w0 K)) ?_
    have hge : t.size ≤ i := by
      rw [Lib.size_eq]
      have := congrArg List.length hb
      simp only [List.length_drop, List.length_nil] at this
      omega
    have hb16 : n < 10 ^ 16 := Int.lt_of_lt_of_le hn2 (by exact_mod_cast Nat.pow_le_pow_right (by decide) (show i ≤ 16 by omega))
    rw [decide_eq_false (show ¬ (i : Int) < (t.size : Int) by omega), cond_false]
    simp only [magL, magR] at hK
    by_cases c1 : n > 9007199254740992
    · rw [decide_eq_true c1]
      rw [if_pos (.inl c1)] at hK
      exact ⟨trivial, hK⟩
    · rw [decide_eq_false c1, decide_eq_true (show (0 : Int) < (t.size : Int) by omega)]
      have hneg : w (0 - n) = -n := by rw [w_id (by omega) (by omega)]; omega
      have fin : ¬ (bt t 0 = 48 ∧ t.size > 1) → fin67 K neg n := fun hz => by
        cases neg with
        | true =>
          by_cases c3 : n = 0
          · rw [if_pos (.inr (.inr ⟨rfl, c3⟩))] at hK
            simp only [fin67, c3, cond_true, beq_self_eq_true]
            exact ⟨trivial, hK⟩
          · rw [if_neg (fun h => h.elim c1 fun h => h.elim hz fun h => c3 h.2)] at hK
            have : (n == 0) = false := by rw [beq_eq_false_iff_ne]; exact c3
            simp only [fin67, cond_true, cond_false, this, hneg]
            exact ⟨trivial, hK⟩
        | false =>
          rw [if_neg (fun h => h.elim c1 fun h => h.elim hz fun h => absurd h.1 (by simp))] at hK
          simp only [fin67, cond_false]
          exact ⟨trivial, hK⟩
      simp only [cond_false, cond_true]
      by_cases c2 : bt t 0 = 48
      · rw [show (bt t 0 == 48) = true by rw [beq_iff_eq]; exact c2, cond_true]
        by_cases c3 : t.size > 1
        · rw [decide_eq_true (show (t.size : Int) > 1 by omega)]
          rw [if_pos (.inr (.inl ⟨c2, c3⟩))] at hK
          exact ⟨trivial, hK⟩
        · rw [decide_eq_false (show ¬ (t.size : Int) > 1 by omega)]
          exact fin fun h => c3 h.2
      · rw [show (bt t 0 == 48) = false by rw [beq_eq_false_iff_ne]; exact c2, cond_false]
        exact fin fun h => c2 h.1
  | cons c r ih =>
    intro i n hb hi hn hn2 hK
    refine via67 (head67 neg t n i K (Sem67 w0 K)) ?_
    obtain ⟨h1, h2, h3, h4⟩ := bt_byte hb
    have hw1 : w ((i : Int) + 1) = ((i + 1 : Nat) : Int) := by rw [w_id (by omega) (by omega)]; omega
    simp only [inB, decide_eq_true (show (i : Int) < (t.size : Int) by omega), decide_eq_true (show (0 : Int) ≤ (i : Int) by omega), Int.toNat_natCast, hw1, h2, Bool.true_and, cond_true]
    have hb15 : n < 10 ^ 15 := Int.lt_of_lt_of_le hn2 (by exact_mod_cast Nat.pow_le_pow_right (by decide) (show i ≤ 15 by omega))
    simp only [magL] at hK
    by_cases c1 : c.toNat < 48
    · rw [decide_eq_true (show (c.toNat : Int) < 48 by omega)]
      rw [if_pos (.inl c1)] at hK
      exact ⟨trivial, hK⟩
    · rw [decide_eq_false (show ¬ (c.toNat : Int) < 48 by omega), cond_false]
      by_cases c2 : 57 < c.toNat
      · rw [decide_eq_true (show (c.toNat : Int) > 57 by omega)]
        rw [if_pos (.inr c2)] at hK
        exact ⟨trivial, hK⟩
      · rw [decide_eq_false (show ¬ (c.toNat : Int) > 57 by omega), cond_false]
        rw [if_neg (by omega)] at hK
        have hu : IntKind.u8.wrap ((c.toNat : Int) - 48) = (c.toNat : Int) - 48 := by
          simp [IntKind.wrap, IntKind.bits, IntKind.signed]; omega
        have e : w (w (10 * n) + w (IntKind.u8.wrap ((c.toNat : Int) - 48))) = 10 * n + (c.toNat - 48) := by
          rw [hu, w_id (n := 10 * n) (by omega) (by omega), w_id (n := (c.toNat : Int) - 48) (by omega) (by omega), w_id (by omega) (by omega)]
        rw [e]
        refine ⟨trivial, ih (i + 1) _ h4 (by omega) (by omega) ?_ hK⟩
        have : (10 : Int) ^ (i + 1) = 10 * 10 ^ i := by rw [Int.pow_succ]; omega
        omega
noncomputable def con67 : Con := { f := 67, gh := [], paths := [], spec := fun args bs => match args, bs with
  | [.string s], [] => some (True, [I (numR s).1, B (numR s).2], [])
  | _, _ => none }
theorem eqS_no {s : ByteArray} : eqS s noS = decide (s.size = 0) := by
  rw [Bool.eq_iff_iff, eqS_iff, decide_eq_true_eq]
  constructor
  · rintro rfl; rfl
  · intro h
    obtain ⟨⟨l⟩⟩ := s
    cases l with
    | nil => rfl
    | cons a l => simp [ByteArray.size] at h
theorem go67_ok {K : List Value → AHeap → Prop} {neg : Bool} {t : ByteArray} (hK : K [I (numT neg t).1, B (numT neg t).2] (heapB G [])) : go67 K (Sem67 w0 K) neg t := by
  unfold numT at hK
  simp only [go67]
  cases h1 : eqS t noS with
  | true =>
    rw [h1] at hK
    exact ⟨trivial, hK⟩
  | false =>
    rw [h1] at hK
    rw [eqS_no, decide_eq_false_iff_not] at h1
    cases h2 : decide ((t.size : Int) > 16) with
    | true =>
      rw [h2] at hK
      exact ⟨trivial, hK⟩
    | false =>
      rw [h2] at hK
      have h3 := of_decide_eq_false h2
      exact ⟨trivial, loop67 (by omega) h1 t.data.toList 0 0 rfl (Nat.zero_le _) (Int.le_refl _) (by decide) hK⟩
theorem con67_ok : con67.ok Tryz.prog w0 := by
  intro args bs p rs out e hp
  simp only [con67] at e
  split at e <;> first | (simp at e; done) | skip
  rename_i s
  simp only [Option.some.injEq, Prod.mk.injEq] at e
  obtain ⟨rfl, rfl, rfl⟩ := e
  change CallS Tryz.prog w0 67 [.string s] (heapB Tryz.prog.globals.size []) fun rs' h' => rs' = [I (numR s).1, B (numR s).2] ∧ h' = heapB Tryz.prog.globals.size []
  have hn : (heapB Tryz.prog.globals.size []).next = Tryz.prog.globals.size + nt65.flags.length := by rw [heapB_next]; rfl
  refine retT_call (nt := nt65) hn (call_sem (cd := Tryz.f67.body.getD .skip) Tryz.func67 (by kernel_rfl) ?_)
  rw [hn]
  generalize hK : (fun rs' h' => rs' = [I (numR s).1, B (numR s).2] ∧ h' = heapB Tryz.prog.globals.size [] : List Value → AHeap → Prop) = K
  have hKK : K [I (numR s).1, B (numR s).2] (heapB G []) := by rw [← hK]; exact ⟨rfl, rfl⟩
  clear hK
  refine via67 (start67 s K (Sem67 w0 K)) ?_
  unfold numR at hKK
  by_cases h0 : s.size = 0
  · have e : decide ((s.size : Int) > 0) = false := decide_eq_false (by omega)
    rw [e] at hKK ⊢
    exact go67_ok hKK
  · have e : decide ((s.size : Int) > 0) = true := decide_eq_true (by omega)
    rw [e] at hKK ⊢
    rw [decide_eq_true (show (1 : Int) ≤ (s.size : Int) by omega)]
    cases hc : bt s 0 == 45 with
    | true =>
      rw [hc] at hKK
      exact go67_ok hKK
    | false =>
      rw [hc] at hKK
      exact go67_ok hKK
end
section
open Go.Agm
variable {w0 : World}
noncomputable def ft36 : FT := { loc := fun _ => false, mask := fun id => bif Nat.beq id 6 then live 165 [2, 5, 6, 7, 8, 9] else bif Nat.beq id 10 then live 165 [2, 5, 6, 7] else [] }
abbrev nt36A : Nt := { gh := [], flags := [], paths := [⟨2, [], true⟩, ⟨5, [], true⟩, ⟨6, [], true⟩, ⟨8, [], true⟩], tr := [] }
abbrev nt36B : Nt := { gh := [], flags := [], paths := [⟨2, [], true⟩, ⟨5, [], true⟩, ⟨6, [], true⟩], tr := [] }
noncomputable def todo36a : List Item := todoOf Tryz.f36 6
noncomputable def todo36b : List Item := todoOf Tryz.f36 10
abbrev seg36 (cs : List Con) (K : List Value → AHeap → Prop) (L : List Item → List AV → AHeap → Prop) (t : List Item) (fr : List AV) (h : AHeap) : Prop :=
  segK3 Tryz.prog ft36 (semI Tryz.prog (fun _ => ft0) (callsOf G cs) 400 20 (retT G nt65 K)) Tryz.f36 [6, 10] 200 t fr (fun t fr h => match t with
  | .code (.region 6 _ _) :: _ => canonT G nt36A (L t) fr h
  | .code (.region 10 _ _) :: _ => canonT G nt36B (L t) fr h
  | _ => False) h
noncomputable def fr36a (n : Nat) (op : Int) (k : Nat) (i : Int) : List AV := frm 165 [(2, .v (PT G)), (5, .v (SL (G + 1) n 1)), (6, .v (PT (G + 2))), (7, .v (I op)), (8, .v (SL (G + 3) k 1)), (9, .v (I i))]
noncomputable def fr36b (n : Nat) (op : Int) : List AV := frm 165 [(2, .v (PT G)), (5, .v (SL (G + 1) n 1)), (6, .v (PT (G + 2))), (7, .v (I op))]
abbrev z4 : List Value := [I 0, I 0, I 0, I 0]
noncomputable def hp36a (ws wc : List Value) : AHeap := heapB G [some (.cells z4 true), some (.cells ws true), some (.cells z4 true), some (.cells wc true)]
noncomputable def hp36b (ws : List Value) : AHeap := heapB G [some (.cells z4 true), some (.cells ws true), some (.cells z4 true)]
def hasR (op : Int) : Bool × Bool × Bool := (decide (op ≤ 11) || (decide (op ≥ 13) && decide (op ≤ 16)), (decide (op ≥ 1) && decide (op ≤ 3)) || (decide (op ≥ 7) && decide (op ≤ 11)) || (decide (op ≥ 13) && decide (op ≤ 16)), (op == 0) || (decide (op ≥ 4) && decide (op ≤ 17)) || (op == 19))
noncomputable def con59k (d s m : Bool) : Con := { f := 59, gh := [], paths := [], spec := fun args bs => match args, bs with
  | [v], [] => match intV v with
    | some a => some (hasR a = (d, s, m), [B d, B s, B m], [])
    | none => none
  | _, _ => none }
end
section
open Go.Agm
variable {w0 : World}
abbrev rgV (t : ByteArray) : Int := w (IntKind.u8.wrap (bt t 1 - 48))
abbrev okV (K : List Value → AHeap → Prop) (op d s m : Int) (to : ByteArray) (ok : Bool) : Prop := True ∧ K [AG [I op, I d, I s, I m], ST to, B ok] (heapB G [])
abbrev noV (K : List Value → AHeap → Prop) : Prop := okV K 0 0 0 0 noS false
abbrev regE (t : ByteArray) (F T : Prop) : Prop := bif (t.size : Int) != 2 then F else bif decide (0 < (t.size : Int)) then bif bt t 0 != 114 then F else bif decide (1 < (t.size : Int)) then bif decide (bt t 1 < 48) then F else bif decide (1 < (t.size : Int)) then bif decide (bt t 1 > 55) then F else bif decide (1 < (t.size : Int)) then T else False else False else False else False
abbrev lt36 (i : Int) (n : Nat) (X : Prop) : Prop := bif decide (i < (n : Int)) then X else False
abbrev regM (i : Int) (n : Nat) (t : ByteArray) (F T : Prop) : Prop := lt36 i n (bif (t.size : Int) != 2 then F else lt36 i n (bif decide (0 < (t.size : Int)) then bif bt t 0 != 114 then F else lt36 i n (bif decide (1 < (t.size : Int)) then bif decide (bt t 1 < 48) then F else lt36 i n (bif decide (1 < (t.size : Int)) then bif decide (bt t 1 > 55) then F else lt36 i n (bif decide (1 < (t.size : Int)) then T else False) else False) else False) else False))
abbrev jmpW (op : Nat) (A X : Prop) : Prop := bif decide ((op : Int) ≥ 12) then bif decide ((op : Int) ≤ 16) then A else X else X

theorem t36A1 (a : ByteArray) (op : Nat) (K : List Value → AHeap → Prop) (L : List Item → List AV → AHeap → Prop) : seg36 [con59k true false true, con35n, con67] K L todo36b (fr36b 1 op) (hp36b ([.string a]))
    = ((True ∧ True ∧ hasR op = (true, false, true)) ∧ noV K) := by kernel_rfl

theorem t36A2 (a b : ByteArray) (op : Nat) (K : List Value → AHeap → Prop) (L : List Item → List AV → AHeap → Prop) : seg36 [con59k true false true, con35n, con67] K L todo36b (fr36b 2 op) (hp36b ([.string a, .string b]))
    = ((True ∧ True ∧ hasR op = (true, false, true)) ∧ regE b (noV K) (noV K)) := by kernel_rfl

theorem t36A3 (a b c : ByteArray) (op : Nat) (K : List Value → AHeap → Prop) (L : List Item → List AV → AHeap → Prop) : seg36 [con59k true false true, con35n, con67] K L todo36b (fr36b 3 op) (hp36b ([.string a, .string b, .string c]))
    = ((True ∧ True ∧ hasR op = (true, false, true)) ∧ regE b (noV K) (jmpW op ((True ∧ True ∧ True) ∧ bif !nameR c then noV K else okV K op (rgV b) 0 0 c true) ((True ∧ True ∧ True) ∧ bif !(numR c).2 then noV K else okV K op (rgV b) 0 (numR c).1 noS true))) := by kernel_rfl

theorem t36A4 (x : ByteArray) (rr : List ByteArray) (a b c : ByteArray) (op : Nat) (K : List Value → AHeap → Prop) (L : List Item → List AV → AHeap → Prop) : seg36 [con59k true false true, con35n, con67] K L todo36b (fr36b (rr.length + 4) op) (hp36b (.string a :: .string b :: .string c :: .string x :: wsC rr))
    = ((True ∧ True ∧ hasR op = (true, false, true)) ∧ regM 1 (rr.length + 4) b (noV K) (jmpW op (lt36 2 (rr.length + 4) ((True ∧ True ∧ True) ∧ bif !nameR c then noV K else okV K op (rgV b) 0 0 c ((3 : Int) == ((rr.length + 4) : Nat)))) (lt36 2 (rr.length + 4) ((True ∧ True ∧ True) ∧ bif !(numR c).2 then noV K else okV K op (rgV b) 0 (numR c).1 noS ((3 : Int) == ((rr.length + 4) : Nat)))))) := by kernel_rfl

theorem t36B1 (a : ByteArray) (op : Nat) (K : List Value → AHeap → Prop) (L : List Item → List AV → AHeap → Prop) : seg36 [con59k true true false, con35n, con67] K L todo36b (fr36b 1 op) (hp36b ([.string a]))
    = ((True ∧ True ∧ hasR op = (true, true, false)) ∧ noV K) := by kernel_rfl

theorem t36B2 (a b : ByteArray) (op : Nat) (K : List Value → AHeap → Prop) (L : List Item → List AV → AHeap → Prop) : seg36 [con59k true true false, con35n, con67] K L todo36b (fr36b 2 op) (hp36b ([.string a, .string b]))
    = ((True ∧ True ∧ hasR op = (true, true, false)) ∧ regE b (noV K) (noV K)) := by kernel_rfl

theorem t36B3 (a b c : ByteArray) (op : Nat) (K : List Value → AHeap → Prop) (L : List Item → List AV → AHeap → Prop) : seg36 [con59k true true false, con35n, con67] K L todo36b (fr36b 3 op) (hp36b ([.string a, .string b, .string c]))
    = ((True ∧ True ∧ hasR op = (true, true, false)) ∧ regE b (noV K) (regE c (noV K) (okV K op (rgV b) (rgV c) 0 noS true))) := by kernel_rfl

theorem t36B4 (x : ByteArray) (rr : List ByteArray) (a b c : ByteArray) (op : Nat) (K : List Value → AHeap → Prop) (L : List Item → List AV → AHeap → Prop) : seg36 [con59k true true false, con35n, con67] K L todo36b (fr36b (rr.length + 4) op) (hp36b (.string a :: .string b :: .string c :: .string x :: wsC rr))
    = ((True ∧ True ∧ hasR op = (true, true, false)) ∧ regM 1 (rr.length + 4) b (noV K) (regM 2 (rr.length + 4) c (noV K) (okV K op (rgV b) (rgV c) 0 noS ((3 : Int) == ((rr.length + 4) : Nat))))) := by kernel_rfl

theorem t36C1 (a : ByteArray) (op : Nat) (K : List Value → AHeap → Prop) (L : List Item → List AV → AHeap → Prop) : seg36 [con59k true true true, con35n, con67] K L todo36b (fr36b 1 op) (hp36b ([.string a]))
    = ((True ∧ True ∧ hasR op = (true, true, true)) ∧ noV K) := by kernel_rfl

theorem t36C2 (a b : ByteArray) (op : Nat) (K : List Value → AHeap → Prop) (L : List Item → List AV → AHeap → Prop) : seg36 [con59k true true true, con35n, con67] K L todo36b (fr36b 2 op) (hp36b ([.string a, .string b]))
    = ((True ∧ True ∧ hasR op = (true, true, true)) ∧ regE b (noV K) (noV K)) := by kernel_rfl

theorem t36C3 (a b c : ByteArray) (op : Nat) (K : List Value → AHeap → Prop) (L : List Item → List AV → AHeap → Prop) : seg36 [con59k true true true, con35n, con67] K L todo36b (fr36b 3 op) (hp36b ([.string a, .string b, .string c]))
    = ((True ∧ True ∧ hasR op = (true, true, true)) ∧ regE b (noV K) (regE c (noV K) (noV K))) := by kernel_rfl

theorem t36C4 (a b c d : ByteArray) (op : Nat) (K : List Value → AHeap → Prop) (L : List Item → List AV → AHeap → Prop) : seg36 [con59k true true true, con35n, con67] K L todo36b (fr36b 4 op) (hp36b ([.string a, .string b, .string c, .string d]))
    = ((True ∧ True ∧ hasR op = (true, true, true)) ∧ regE b (noV K) (regE c (noV K) (jmpW op ((True ∧ True ∧ True) ∧ bif !nameR d then noV K else okV K op (rgV b) (rgV c) 0 d true) ((True ∧ True ∧ True) ∧ bif !(numR d).2 then noV K else okV K op (rgV b) (rgV c) (numR d).1 noS true)))) := by kernel_rfl

theorem t36C5 (x : ByteArray) (rr : List ByteArray) (a b c d : ByteArray) (op : Nat) (K : List Value → AHeap → Prop) (L : List Item → List AV → AHeap → Prop) : seg36 [con59k true true true, con35n, con67] K L todo36b (fr36b (rr.length + 5) op) (hp36b (.string a :: .string b :: .string c :: .string d :: .string x :: wsC rr))
    = ((True ∧ True ∧ hasR op = (true, true, true)) ∧ regM 1 (rr.length + 5) b (noV K) (regM 2 (rr.length + 5) c (noV K) (jmpW op (lt36 3 (rr.length + 5) ((True ∧ True ∧ True) ∧ bif !nameR d then noV K else okV K op (rgV b) (rgV c) 0 d ((4 : Int) == ((rr.length + 5) : Nat)))) (lt36 3 (rr.length + 5) ((True ∧ True ∧ True) ∧ bif !(numR d).2 then noV K else okV K op (rgV b) (rgV c) (numR d).1 noS ((4 : Int) == ((rr.length + 5) : Nat))))))) := by kernel_rfl

theorem t36F1 (a : ByteArray) (op : Nat) (K : List Value → AHeap → Prop) (L : List Item → List AV → AHeap → Prop) : seg36 [con59k false false true, con35n, con67] K L todo36b (fr36b 1 op) (hp36b ([.string a]))
    = ((True ∧ True ∧ hasR op = (false, false, true)) ∧ noV K) := by kernel_rfl

theorem t36F2 (a b : ByteArray) (op : Nat) (K : List Value → AHeap → Prop) (L : List Item → List AV → AHeap → Prop) : seg36 [con59k false false true, con35n, con67] K L todo36b (fr36b 2 op) (hp36b ([.string a, .string b]))
    = ((True ∧ True ∧ hasR op = (false, false, true)) ∧ jmpW op ((True ∧ True ∧ True) ∧ bif !nameR b then noV K else okV K op 0 0 0 b true) ((True ∧ True ∧ True) ∧ bif !(numR b).2 then noV K else okV K op 0 0 (numR b).1 noS true)) := by kernel_rfl

theorem t36F3 (x : ByteArray) (rr : List ByteArray) (a b : ByteArray) (op : Nat) (K : List Value → AHeap → Prop) (L : List Item → List AV → AHeap → Prop) : seg36 [con59k false false true, con35n, con67] K L todo36b (fr36b (rr.length + 3) op) (hp36b (.string a :: .string b :: .string x :: wsC rr))
    = ((True ∧ True ∧ hasR op = (false, false, true)) ∧ jmpW op (lt36 1 (rr.length + 3) ((True ∧ True ∧ True) ∧ bif !nameR b then noV K else okV K op 0 0 0 b ((2 : Int) == ((rr.length + 3) : Nat)))) (lt36 1 (rr.length + 3) ((True ∧ True ∧ True) ∧ bif !(numR b).2 then noV K else okV K op 0 0 (numR b).1 noS ((2 : Int) == ((rr.length + 3) : Nat))))) := by kernel_rfl

theorem t36Z1 (a : ByteArray) (op : Nat) (K : List Value → AHeap → Prop) (L : List Item → List AV → AHeap → Prop) : seg36 [con59k false false false, con35n, con67] K L todo36b (fr36b 1 op) (hp36b ([.string a]))
    = ((True ∧ True ∧ hasR op = (false, false, false)) ∧ okV K op 0 0 0 noS true) := by kernel_rfl

theorem t36Z2 (x : ByteArray) (rr : List ByteArray) (a : ByteArray) (op : Nat) (K : List Value → AHeap → Prop) (L : List Item → List AV → AHeap → Prop) : seg36 [con59k false false false, con35n, con67] K L todo36b (fr36b (rr.length + 2) op) (hp36b (.string a :: .string x :: wsC rr))
    = ((True ∧ True ∧ hasR op = (false, false, false)) ∧ okV K op 0 0 0 noS ((1 : Int) == ((rr.length + 2) : Nat))) := by kernel_rfl
end
section
open Go.Agm
variable {w0 : World}
/-- What the words behind an operation's come to, by the document. -/
def rdX (op : Int) (d s j u : Bool) (l : List ByteArray) : InsR :=
  let l1 := bif d then l.tail else l
  let l2 := bif s then l1.tail else l1
  let l3 := bif j then l2.tail else l2
  bif (bif d then regO (hdW l) else true) && (bif s then regO (hdW l1) else true) && (bif j then (bif u then nameR (hdW l2) else (numR (hdW l2)).2) else true) then
    { x := ⟨op, bif d then regN (hdW l) else 0, bif s then regN (hdW l1) else 0, bif j then (bif u then 0 else (numR (hdW l2)).1) else 0⟩
      to := bif j then (bif u then hdW l2 else noS) else noS
      ok := l3.isEmpty }
  else ⟨⟨0, 0, 0, 0⟩, noS, false⟩
theorem rg_of {t : ByteArray} (h : regO t = true) : rgV t = regN t := by unfold regN; rw [h]; rfl
theorem regE_ok {t : ByteArray} {F T : Prop} (hF : regO t = false → F) (hT : regO t = true → T) : regE t F T := by
  unfold regO at hF hT
  simp only [regE]
  cases h1 : (t.size : Int) != 2 with
  | true => exact hF (by rw [h1]; rfl)
  | false =>
    rw [h1] at hF hT
    simp only [bne_eq_false_iff_eq] at h1
    rw [h1]
    simp only [show decide ((0 : Int) < 2) = true from rfl, show decide ((1 : Int) < 2) = true from rfl, cond_true, cond_false] at hF hT ⊢
    cases h2 : bt t 0 != 114 with
    | true => exact hF (by rw [h2]; rfl)
    | false => cases h3 : decide (bt t 1 < 48) with
      | true => exact hF (by rw [h2, h3]; rfl)
      | false => cases h4 : decide (bt t 1 > 55) with
        | true => exact hF (by rw [h2, h3, h4]; rfl)
        | false => exact hT (by rw [h2, h3, h4]; rfl)
theorem lt_ok {i : Int} {n : Nat} {X : Prop} (h : i < (n : Int)) (hx : X) : lt36 i n X := by
  simp only [lt36]; rw [decide_eq_true h]; exact hx
theorem regM_ok {i : Int} {n : Nat} {t : ByteArray} {F T : Prop} (h : i < (n : Int)) (hF : regO t = false → F) (hT : regO t = true → T) : regM i n t F T := by
  simp only [regM, lt36]; rw [decide_eq_true h]; exact regE_ok hF hT
theorem jmpW_ok {op : Nat} {A X : Prop} (hA : r44 op = true → A) (hX : r44 op = false → X) : jmpW op A X := by
  unfold r44 at hA hX
  simp only [jmpW]
  cases h1 : decide ((op : Int) ≥ 12) with
  | false => exact hX (by rw [h1]; rfl)
  | true => cases h2 : decide ((op : Int) ≤ 16) with
    | true => exact hA (by rw [h1, h2]; rfl)
    | false => exact hX (by rw [h1, h2]; rfl)
theorem bifN {c : Bool} {A X : Prop} (hA : c = false → A) (hX : c = true → X) : bif !c then A else X := by
  cases c with
  | false => exact hA rfl
  | true => exact hX rfl
noncomputable abbrev cs36 (d s j : Bool) : List Con := [con59k d s j, con35n, con67]
theorem len_ne (n k : Nat) (j : Int) (h : j ≤ k) : (j == ((n + (k + 1) : Nat) : Int)) = false := by rw [beq_eq_false_iff_ne]; omega
theorem rd_nil : nameR noS = false ∧ numR noS = (0, false) ∧ regO noS = false := ⟨by simp [nameR, show eqS noS noS = true from eqS_iff.2 rfl], by simp [numR, numT, show noS.size = 0 from rfl, show eqS noS noS = true from eqS_iff.2 rfl], rfl⟩

set_option maxRecDepth 100000 in
theorem rdTA {K : List Value → AHeap → Prop} {L : List Item → List AV → AHeap → Prop} {op : Nat} (hh : hasR op = (true, false, true)) : ∀ {ws : List ByteArray}, ws ≠ [] → K (resI (rdX op true false true (r44 op) ws.tail)) (heapB G []) →
    seg36 (cs36 true false true) K L todo36b (fr36b ws.length op) (hp36b (wsC ws))
  | [], h, _ => absurd rfl h
  | [a], _, hK => by
    refine (t36A1 a op K L).mpr ⟨⟨trivial, trivial, hh⟩, ?_⟩
    cases hu : r44 op <;> exact ⟨trivial, by simpa [rdX, hdW, okV, noV, rd_nil, show (⟨⟨[]⟩⟩ : ByteArray) = noS from rfl, hu] using hK⟩
  | [a, b], _, hK => by
    refine (t36A2 a b op K L).mpr ⟨⟨trivial, trivial, hh⟩, ?_⟩
    refine regE_ok (fun hb => ?_) (fun hb => ?_)
    · exact ⟨trivial, by simpa [rdX, hdW, okV, noV, rd_nil, show (⟨⟨[]⟩⟩ : ByteArray) = noS from rfl, hb] using hK⟩
    cases hu : r44 op <;> exact ⟨trivial, by simpa [rdX, hdW, okV, noV, rd_nil, show (⟨⟨[]⟩⟩ : ByteArray) = noS from rfl, hb, rg_of hb, hu] using hK⟩
  | [a, b, c], _, hK => by
    refine (t36A3 a b c op K L).mpr ⟨⟨trivial, trivial, hh⟩, ?_⟩
    refine regE_ok (fun hb => ?_) (fun hb => ?_)
    · exact ⟨trivial, by simpa [rdX, hdW, okV, noV, rd_nil, show (⟨⟨[]⟩⟩ : ByteArray) = noS from rfl, hb] using hK⟩
    refine jmpW_ok (fun hu => ?_) (fun hu => ?_)
    · skip
      refine ⟨⟨trivial, trivial, trivial⟩, bifN (fun hq => ?_) (fun hq => ?_)⟩
      · exact ⟨trivial, by simpa [rdX, hdW, okV, noV, rd_nil, show (⟨⟨[]⟩⟩ : ByteArray) = noS from rfl, hb, rg_of hb, hu, hq] using hK⟩
      · exact ⟨trivial, by simpa [rdX, hdW, okV, noV, rd_nil, show (⟨⟨[]⟩⟩ : ByteArray) = noS from rfl, hb, rg_of hb, hu, hq] using hK⟩
    · skip
      refine ⟨⟨trivial, trivial, trivial⟩, bifN (fun hq => ?_) (fun hq => ?_)⟩
      · exact ⟨trivial, by simpa [rdX, hdW, okV, noV, rd_nil, show (⟨⟨[]⟩⟩ : ByteArray) = noS from rfl, hb, rg_of hb, hu, hq] using hK⟩
      · exact ⟨trivial, by simpa [rdX, hdW, okV, noV, rd_nil, show (⟨⟨[]⟩⟩ : ByteArray) = noS from rfl, hb, rg_of hb, hu, hq] using hK⟩
  | a :: b :: c :: x :: rr, _, hK => by
    refine (t36A4 x rr a b c op K L).mpr ⟨⟨trivial, trivial, hh⟩, ?_⟩
    refine regM_ok (by omega) (fun hb => ?_) (fun hb => ?_)
    · exact ⟨trivial, by simpa [rdX, hdW, okV, noV, rd_nil, show (⟨⟨[]⟩⟩ : ByteArray) = noS from rfl, hb] using hK⟩
    refine jmpW_ok (fun hu => ?_) (fun hu => ?_)
    · refine lt_ok (by omega) ?_
      refine ⟨⟨trivial, trivial, trivial⟩, bifN (fun hq => ?_) (fun hq => ?_)⟩
      · exact ⟨trivial, by simpa [rdX, hdW, okV, noV, rd_nil, show (⟨⟨[]⟩⟩ : ByteArray) = noS from rfl, hb, rg_of hb, hu, hq] using hK⟩
      · rw [len_ne _ _ _ (by omega)]
        exact ⟨trivial, by simpa [rdX, hdW, okV, noV, rd_nil, show (⟨⟨[]⟩⟩ : ByteArray) = noS from rfl, hb, rg_of hb, hu, hq] using hK⟩
    · refine lt_ok (by omega) ?_
      refine ⟨⟨trivial, trivial, trivial⟩, bifN (fun hq => ?_) (fun hq => ?_)⟩
      · exact ⟨trivial, by simpa [rdX, hdW, okV, noV, rd_nil, show (⟨⟨[]⟩⟩ : ByteArray) = noS from rfl, hb, rg_of hb, hu, hq] using hK⟩
      · rw [len_ne _ _ _ (by omega)]
        exact ⟨trivial, by simpa [rdX, hdW, okV, noV, rd_nil, show (⟨⟨[]⟩⟩ : ByteArray) = noS from rfl, hb, rg_of hb, hu, hq] using hK⟩

set_option maxRecDepth 100000 in
theorem rdTB {K : List Value → AHeap → Prop} {L : List Item → List AV → AHeap → Prop} {op : Nat} (hh : hasR op = (true, true, false)) : ∀ {ws : List ByteArray}, ws ≠ [] → K (resI (rdX op true true false (r44 op) ws.tail)) (heapB G []) →
    seg36 (cs36 true true false) K L todo36b (fr36b ws.length op) (hp36b (wsC ws))
  | [], h, _ => absurd rfl h
  | [a], _, hK => by
    refine (t36B1 a op K L).mpr ⟨⟨trivial, trivial, hh⟩, ?_⟩
    exact ⟨trivial, by simpa [rdX, hdW, okV, noV, rd_nil, show (⟨⟨[]⟩⟩ : ByteArray) = noS from rfl] using hK⟩
  | [a, b], _, hK => by
    refine (t36B2 a b op K L).mpr ⟨⟨trivial, trivial, hh⟩, ?_⟩
    refine regE_ok (fun hb => ?_) (fun hb => ?_)
    · exact ⟨trivial, by simpa [rdX, hdW, okV, noV, rd_nil, show (⟨⟨[]⟩⟩ : ByteArray) = noS from rfl, hb] using hK⟩
    exact ⟨trivial, by simpa [rdX, hdW, okV, noV, rd_nil, show (⟨⟨[]⟩⟩ : ByteArray) = noS from rfl, hb, rg_of hb] using hK⟩
  | [a, b, c], _, hK => by
    refine (t36B3 a b c op K L).mpr ⟨⟨trivial, trivial, hh⟩, ?_⟩
    refine regE_ok (fun hb => ?_) (fun hb => ?_)
    · exact ⟨trivial, by simpa [rdX, hdW, okV, noV, rd_nil, show (⟨⟨[]⟩⟩ : ByteArray) = noS from rfl, hb] using hK⟩
    refine regE_ok (fun hc => ?_) (fun hc => ?_)
    · exact ⟨trivial, by simpa [rdX, hdW, okV, noV, rd_nil, show (⟨⟨[]⟩⟩ : ByteArray) = noS from rfl, hb, rg_of hb, hc] using hK⟩
    exact ⟨trivial, by simpa [rdX, hdW, okV, noV, rd_nil, show (⟨⟨[]⟩⟩ : ByteArray) = noS from rfl, hb, rg_of hb, hc, rg_of hc] using hK⟩
  | a :: b :: c :: x :: rr, _, hK => by
    refine (t36B4 x rr a b c op K L).mpr ⟨⟨trivial, trivial, hh⟩, ?_⟩
    refine regM_ok (by omega) (fun hb => ?_) (fun hb => ?_)
    · exact ⟨trivial, by simpa [rdX, hdW, okV, noV, rd_nil, show (⟨⟨[]⟩⟩ : ByteArray) = noS from rfl, hb] using hK⟩
    refine regM_ok (by omega) (fun hc => ?_) (fun hc => ?_)
    · exact ⟨trivial, by simpa [rdX, hdW, okV, noV, rd_nil, show (⟨⟨[]⟩⟩ : ByteArray) = noS from rfl, hb, rg_of hb, hc] using hK⟩
    rw [len_ne _ _ _ (by omega)]
    exact ⟨trivial, by simpa [rdX, hdW, okV, noV, rd_nil, show (⟨⟨[]⟩⟩ : ByteArray) = noS from rfl, hb, rg_of hb, hc, rg_of hc] using hK⟩

set_option maxRecDepth 100000 in
theorem rdTC {K : List Value → AHeap → Prop} {L : List Item → List AV → AHeap → Prop} {op : Nat} (hh : hasR op = (true, true, true)) : ∀ {ws : List ByteArray}, ws ≠ [] → K (resI (rdX op true true true (r44 op) ws.tail)) (heapB G []) →
    seg36 (cs36 true true true) K L todo36b (fr36b ws.length op) (hp36b (wsC ws))
  | [], h, _ => absurd rfl h
  | [a], _, hK => by
    refine (t36C1 a op K L).mpr ⟨⟨trivial, trivial, hh⟩, ?_⟩
    cases hu : r44 op <;> exact ⟨trivial, by simpa [rdX, hdW, okV, noV, rd_nil, show (⟨⟨[]⟩⟩ : ByteArray) = noS from rfl, hu] using hK⟩
  | [a, b], _, hK => by
    refine (t36C2 a b op K L).mpr ⟨⟨trivial, trivial, hh⟩, ?_⟩
    refine regE_ok (fun hb => ?_) (fun hb => ?_)
    · exact ⟨trivial, by simpa [rdX, hdW, okV, noV, rd_nil, show (⟨⟨[]⟩⟩ : ByteArray) = noS from rfl, hb] using hK⟩
    cases hu : r44 op <;> exact ⟨trivial, by simpa [rdX, hdW, okV, noV, rd_nil, show (⟨⟨[]⟩⟩ : ByteArray) = noS from rfl, hb, rg_of hb, hu] using hK⟩
  | [a, b, c], _, hK => by
    refine (t36C3 a b c op K L).mpr ⟨⟨trivial, trivial, hh⟩, ?_⟩
    refine regE_ok (fun hb => ?_) (fun hb => ?_)
    · exact ⟨trivial, by simpa [rdX, hdW, okV, noV, rd_nil, show (⟨⟨[]⟩⟩ : ByteArray) = noS from rfl, hb] using hK⟩
    refine regE_ok (fun hc => ?_) (fun hc => ?_)
    · exact ⟨trivial, by simpa [rdX, hdW, okV, noV, rd_nil, show (⟨⟨[]⟩⟩ : ByteArray) = noS from rfl, hb, rg_of hb, hc] using hK⟩
    cases hu : r44 op <;> exact ⟨trivial, by simpa [rdX, hdW, okV, noV, rd_nil, show (⟨⟨[]⟩⟩ : ByteArray) = noS from rfl, hb, rg_of hb, hc, rg_of hc, hu] using hK⟩
  | [a, b, c, d], _, hK => by
    refine (t36C4 a b c d op K L).mpr ⟨⟨trivial, trivial, hh⟩, ?_⟩
    refine regE_ok (fun hb => ?_) (fun hb => ?_)
    · exact ⟨trivial, by simpa [rdX, hdW, okV, noV, rd_nil, show (⟨⟨[]⟩⟩ : ByteArray) = noS from rfl, hb] using hK⟩
    refine regE_ok (fun hc => ?_) (fun hc => ?_)
    · exact ⟨trivial, by simpa [rdX, hdW, okV, noV, rd_nil, show (⟨⟨[]⟩⟩ : ByteArray) = noS from rfl, hb, rg_of hb, hc] using hK⟩
    refine jmpW_ok (fun hu => ?_) (fun hu => ?_)
    · skip
      refine ⟨⟨trivial, trivial, trivial⟩, bifN (fun hq => ?_) (fun hq => ?_)⟩
      · exact ⟨trivial, by simpa [rdX, hdW, okV, noV, rd_nil, show (⟨⟨[]⟩⟩ : ByteArray) = noS from rfl, hb, rg_of hb, hc, rg_of hc, hu, hq] using hK⟩
      · exact ⟨trivial, by simpa [rdX, hdW, okV, noV, rd_nil, show (⟨⟨[]⟩⟩ : ByteArray) = noS from rfl, hb, rg_of hb, hc, rg_of hc, hu, hq] using hK⟩
    · skip
      refine ⟨⟨trivial, trivial, trivial⟩, bifN (fun hq => ?_) (fun hq => ?_)⟩
      · exact ⟨trivial, by simpa [rdX, hdW, okV, noV, rd_nil, show (⟨⟨[]⟩⟩ : ByteArray) = noS from rfl, hb, rg_of hb, hc, rg_of hc, hu, hq] using hK⟩
      · exact ⟨trivial, by simpa [rdX, hdW, okV, noV, rd_nil, show (⟨⟨[]⟩⟩ : ByteArray) = noS from rfl, hb, rg_of hb, hc, rg_of hc, hu, hq] using hK⟩
  | a :: b :: c :: d :: x :: rr, _, hK => by
    refine (t36C5 x rr a b c d op K L).mpr ⟨⟨trivial, trivial, hh⟩, ?_⟩
    refine regM_ok (by omega) (fun hb => ?_) (fun hb => ?_)
    · exact ⟨trivial, by simpa [rdX, hdW, okV, noV, rd_nil, show (⟨⟨[]⟩⟩ : ByteArray) = noS from rfl, hb] using hK⟩
    refine regM_ok (by omega) (fun hc => ?_) (fun hc => ?_)
    · exact ⟨trivial, by simpa [rdX, hdW, okV, noV, rd_nil, show (⟨⟨[]⟩⟩ : ByteArray) = noS from rfl, hb, rg_of hb, hc] using hK⟩
    refine jmpW_ok (fun hu => ?_) (fun hu => ?_)
    · refine lt_ok (by omega) ?_
      refine ⟨⟨trivial, trivial, trivial⟩, bifN (fun hq => ?_) (fun hq => ?_)⟩
      · exact ⟨trivial, by simpa [rdX, hdW, okV, noV, rd_nil, show (⟨⟨[]⟩⟩ : ByteArray) = noS from rfl, hb, rg_of hb, hc, rg_of hc, hu, hq] using hK⟩
      · rw [len_ne _ _ _ (by omega)]
        exact ⟨trivial, by simpa [rdX, hdW, okV, noV, rd_nil, show (⟨⟨[]⟩⟩ : ByteArray) = noS from rfl, hb, rg_of hb, hc, rg_of hc, hu, hq] using hK⟩
    · refine lt_ok (by omega) ?_
      refine ⟨⟨trivial, trivial, trivial⟩, bifN (fun hq => ?_) (fun hq => ?_)⟩
      · exact ⟨trivial, by simpa [rdX, hdW, okV, noV, rd_nil, show (⟨⟨[]⟩⟩ : ByteArray) = noS from rfl, hb, rg_of hb, hc, rg_of hc, hu, hq] using hK⟩
      · rw [len_ne _ _ _ (by omega)]
        exact ⟨trivial, by simpa [rdX, hdW, okV, noV, rd_nil, show (⟨⟨[]⟩⟩ : ByteArray) = noS from rfl, hb, rg_of hb, hc, rg_of hc, hu, hq] using hK⟩

set_option maxRecDepth 100000 in
theorem rdTF {K : List Value → AHeap → Prop} {L : List Item → List AV → AHeap → Prop} {op : Nat} (hh : hasR op = (false, false, true)) : ∀ {ws : List ByteArray}, ws ≠ [] → K (resI (rdX op false false true (r44 op) ws.tail)) (heapB G []) →
    seg36 (cs36 false false true) K L todo36b (fr36b ws.length op) (hp36b (wsC ws))
  | [], h, _ => absurd rfl h
  | [a], _, hK => by
    refine (t36F1 a op K L).mpr ⟨⟨trivial, trivial, hh⟩, ?_⟩
    cases hu : r44 op <;> exact ⟨trivial, by simpa [rdX, hdW, okV, noV, rd_nil, show (⟨⟨[]⟩⟩ : ByteArray) = noS from rfl, hu] using hK⟩
  | [a, b], _, hK => by
    refine (t36F2 a b op K L).mpr ⟨⟨trivial, trivial, hh⟩, ?_⟩
    refine jmpW_ok (fun hu => ?_) (fun hu => ?_)
    · skip
      refine ⟨⟨trivial, trivial, trivial⟩, bifN (fun hq => ?_) (fun hq => ?_)⟩
      · exact ⟨trivial, by simpa [rdX, hdW, okV, noV, rd_nil, show (⟨⟨[]⟩⟩ : ByteArray) = noS from rfl, hu, hq] using hK⟩
      · exact ⟨trivial, by simpa [rdX, hdW, okV, noV, rd_nil, show (⟨⟨[]⟩⟩ : ByteArray) = noS from rfl, hu, hq] using hK⟩
    · skip
      refine ⟨⟨trivial, trivial, trivial⟩, bifN (fun hq => ?_) (fun hq => ?_)⟩
      · exact ⟨trivial, by simpa [rdX, hdW, okV, noV, rd_nil, show (⟨⟨[]⟩⟩ : ByteArray) = noS from rfl, hu, hq] using hK⟩
      · exact ⟨trivial, by simpa [rdX, hdW, okV, noV, rd_nil, show (⟨⟨[]⟩⟩ : ByteArray) = noS from rfl, hu, hq] using hK⟩
  | a :: b :: x :: rr, _, hK => by
    refine (t36F3 x rr a b op K L).mpr ⟨⟨trivial, trivial, hh⟩, ?_⟩
    refine jmpW_ok (fun hu => ?_) (fun hu => ?_)
    · refine lt_ok (by omega) ?_
      refine ⟨⟨trivial, trivial, trivial⟩, bifN (fun hq => ?_) (fun hq => ?_)⟩
      · exact ⟨trivial, by simpa [rdX, hdW, okV, noV, rd_nil, show (⟨⟨[]⟩⟩ : ByteArray) = noS from rfl, hu, hq] using hK⟩
      · rw [len_ne _ _ _ (by omega)]
        exact ⟨trivial, by simpa [rdX, hdW, okV, noV, rd_nil, show (⟨⟨[]⟩⟩ : ByteArray) = noS from rfl, hu, hq] using hK⟩
    · refine lt_ok (by omega) ?_
      refine ⟨⟨trivial, trivial, trivial⟩, bifN (fun hq => ?_) (fun hq => ?_)⟩
      · exact ⟨trivial, by simpa [rdX, hdW, okV, noV, rd_nil, show (⟨⟨[]⟩⟩ : ByteArray) = noS from rfl, hu, hq] using hK⟩
      · rw [len_ne _ _ _ (by omega)]
        exact ⟨trivial, by simpa [rdX, hdW, okV, noV, rd_nil, show (⟨⟨[]⟩⟩ : ByteArray) = noS from rfl, hu, hq] using hK⟩

set_option maxRecDepth 100000 in
theorem rdTZ {K : List Value → AHeap → Prop} {L : List Item → List AV → AHeap → Prop} {op : Nat} (hh : hasR op = (false, false, false)) : ∀ {ws : List ByteArray}, ws ≠ [] → K (resI (rdX op false false false (r44 op) ws.tail)) (heapB G []) →
    seg36 (cs36 false false false) K L todo36b (fr36b ws.length op) (hp36b (wsC ws))
  | [], h, _ => absurd rfl h
  | [a], _, hK => by
    refine (t36Z1 a op K L).mpr ⟨⟨trivial, trivial, hh⟩, ?_⟩
    exact ⟨trivial, by simpa [rdX, hdW, okV, noV, rd_nil, show (⟨⟨[]⟩⟩ : ByteArray) = noS from rfl] using hK⟩
  | a :: x :: rr, _, hK => by
    refine (t36Z2 x rr a op K L).mpr ⟨⟨trivial, trivial, hh⟩, ?_⟩
    rw [len_ne _ _ _ (by omega)]
    exact ⟨trivial, by simpa [rdX, hdW, okV, noV, rd_nil, show (⟨⟨[]⟩⟩ : ByteArray) = noS from rfl] using hK⟩
end
section
open Go.Agm
variable {w0 : World}
def wordC : List ByteArray := forms.map fun f => ⟨⟨f.1⟩⟩
abbrev PLA (ws wc : List Value) : Prop := PlainL z4 ∧ PlainL ws ∧ PlainL z4 ∧ PlainL wc ∧ True
abbrev PLB (ws : List Value) : Prop := PlainL z4 ∧ PlainL ws ∧ PlainL z4 ∧ True
theorem start36 (s a : ByteArray) (r : List ByteArray) (K : List Value → AHeap → Prop) (L : List Item → List AV → AHeap → Prop) : seg36 [con66 (a :: r)] K L [.code (Tryz.f36.body.getD .skip)] (startF Tryz.f36 [.string s]) (heapB G [])
    = ((True ∧ (PlainL (wsC (a :: r)) ∧ True) ∧ s.size ≤ 1000000 ∧ splitR s = a :: r) ∧ PLA (wsC (a :: r)) (wsC wordC) ∧ L todo36a (fr36a (a :: r).length (-1) wordC.length 0) (hp36a (wsC (a :: r)) (wsC wordC))) := by kernel_rfl
theorem head36 (n k : Nat) (op i : Int) (ws wc : List Value) (K : List Value → AHeap → Prop) (L : List Item → List AV → AHeap → Prop) : seg36 [] K L todo36a (fr36a n op k i) (hp36a ws wc)
    = (bif decide (i < (k : Int)) then
      bif decide (0 ≤ i) && decide (i < (k : Int)) then
      bif okS (nth wc (0 + i.toNat * 1)) then
      bif decide (0 < (n : Int)) then
      bif okS (nth ws 0) then
      bif eqS (Agm.strO (nth wc (0 + i.toNat * 1))) (Agm.strO (nth ws 0)) then
        PLA ws wc ∧ L todo36a (fr36a n i k (w (i + 1))) (hp36a ws wc)
      else PLA ws wc ∧ L todo36a (fr36a n op k (w (i + 1))) (hp36a ws wc)
      else False
      else False
      else False
      else False
    else PLB ws ∧ L todo36b (fr36b n op) (hp36b ws)) := by kernel_rfl
theorem none36 (n : Nat) (ws : List Value) (K : List Value → AHeap → Prop) (L : List Item → List AV → AHeap → Prop) : seg36 [] K L todo36b (fr36b n (-1)) (hp36b ws)
    = (True ∧ K [AG [I 0, I 0, I 0, I 0], ST noS, B false] (heapB G [])) := by kernel_rfl
abbrev Sem36 (w0 : World) (K : List Value → AHeap → Prop) (t : List Item) (fr : List AV) (h : AHeap) : Prop := Agm.Sem Tryz.prog w0 (Tryz.prog.globals.size + nt65.flags.length) Tryz.f36 (retT Tryz.prog.globals.size nt65 K) t fr h
theorem leaf36 {K : List Value → AHeap → Prop} : ∀ t fr h, (match t with
    | .code (.region 6 _ _) :: _ => canonT G nt36A (Sem36 w0 K t) fr h
    | .code (.region 10 _ _) :: _ => canonT G nt36B (Sem36 w0 K t) fr h
    | _ => False) → Sem36 w0 K t fr h := by
  intro t fr h e
  split at e
  · exact canonT_semN (nt := nt36A) rfl e
  · exact canonT_semN (nt := nt36B) rfl e
  · exact e.elim
theorem via36 {cs : List Con} (hc : ∀ c ∈ cs, c.ok Tryz.prog w0) {K : List Value → AHeap → Prop} {t : List Item} {fr : List AV} {h : AHeap} {R : Prop} (ev : seg36 cs K (Sem36 w0 K) t fr h = R) (r : R) : Sem36 w0 K t fr h :=
  seg_semI3 (F := ft36) mixed (callsOf_ok hc) leaf36 [6, 10] 20 200 (ev.mpr r)
theorem via36' {cs : List Con} (hc : ∀ c ∈ cs, c.ok Tryz.prog w0) {K : List Value → AHeap → Prop} {t : List Item} {fr : List AV} {h : AHeap} (ev : seg36 cs K (Sem36 w0 K) t fr h) : Sem36 w0 K t fr h :=
  seg_semI3 (F := ft36) mixed (callsOf_ok hc) leaf36 [6, 10] 20 200 ev
abbrev kD (a : Int) (k : Bool → Prop) : Prop := bif decide (a ≤ 11) then k true else bif decide (a ≥ 13) then k (decide (a ≤ 16)) else k false
abbrev kS3 (a : Int) (k : Bool → Prop) (t : Bool) : Prop := bif t then k true else bif decide (a ≥ 13) then k (decide (a ≤ 16)) else k false
abbrev kS2 (a : Int) (k : Bool → Prop) (t : Bool) : Prop := bif t then kS3 a k true else bif decide (a ≥ 7) then kS3 a k (decide (a ≤ 11)) else kS3 a k false
abbrev kS (a : Int) (k : Bool → Prop) : Prop := bif decide (a ≥ 1) then kS2 a k (decide (a ≤ 3)) else kS2 a k false
abbrev kM2 (a : Int) (k : Bool → Prop) (t : Bool) : Prop := bif t then k true else k (a == 19)
abbrev kM (a : Int) (k : Bool → Prop) : Prop := bif a == 0 then kM2 a k true else bif decide (a ≥ 4) then kM2 a k (decide (a ≤ 17)) else kM2 a k false
theorem eval59a (a : Int) (r : List Value) : pureSeg [] Tryz.f59 [I a] r = (kD a fun d => kS a fun s => kM a fun m => True ∧ [B d, B s, B m] = r) := by kernel_rfl
theorem kD_ok {a : Int} {k : Bool → Prop} (h : k (decide (a ≤ 11) || (decide (a ≥ 13) && decide (a ≤ 16)))) : kD a k := by
  simp only [kD]; cases h1 : decide (a ≤ 11) <;> cases h2 : decide (a ≥ 13) <;> (rw [h1, h2] at h; exact h)
theorem kS3_ok {a : Int} {k : Bool → Prop} {t : Bool} (h : k (t || (decide (a ≥ 13) && decide (a ≤ 16)))) : kS3 a k t := by
  simp only [kS3]; cases t <;> cases h2 : decide (a ≥ 13) <;> (rw [h2] at h; exact h)
theorem kS2_ok {a : Int} {k : Bool → Prop} {t : Bool} (h : k ((t || (decide (a ≥ 7) && decide (a ≤ 11))) || (decide (a ≥ 13) && decide (a ≤ 16)))) : kS2 a k t := by
  cases t with
  | true => exact kS3_ok h
  | false =>
    show bif decide (a ≥ 7) then kS3 a k (decide (a ≤ 11)) else kS3 a k false
    cases h2 : decide (a ≥ 7) <;> (rw [h2] at h; exact kS3_ok h)
theorem kS_ok {a : Int} {k : Bool → Prop} (h : k (((decide (a ≥ 1) && decide (a ≤ 3)) || (decide (a ≥ 7) && decide (a ≤ 11))) || (decide (a ≥ 13) && decide (a ≤ 16)))) : kS a k := by
  show bif decide (a ≥ 1) then kS2 a k (decide (a ≤ 3)) else kS2 a k false
  cases h2 : decide (a ≥ 1) <;> (rw [h2] at h; exact kS2_ok h)
theorem kM2_ok {a : Int} {k : Bool → Prop} {t : Bool} (h : k (t || (a == 19))) : kM2 a k t := by
  cases t <;> exact h
theorem kM_ok {a : Int} {k : Bool → Prop} (h : k (((a == 0) || (decide (a ≥ 4) && decide (a ≤ 17))) || (a == 19))) : kM a k := by
  show bif a == 0 then kM2 a k true else bif decide (a ≥ 4) then kM2 a k (decide (a ≤ 17)) else kM2 a k false
  cases h1 : a == 0 <;> cases h2 : decide (a ≥ 4) <;> (rw [h1, h2] at h; exact kM2_ok h)
theorem eval59 (a : Int) (d s m : Bool) (h : hasR a = (d, s, m)) : pureSeg [] Tryz.f59 [I a] [B d, B s, B m] := by
  rw [eval59a]
  simp only [hasR, Prod.mk.injEq] at h
  obtain ⟨rfl, rfl, rfl⟩ := h
  exact kD_ok (kS_ok (kM_ok ⟨trivial, rfl⟩))
theorem con59k_ok (d s m : Bool) : (con59k d s m).ok Tryz.prog w0 := by
  intro args bs p rs out e hp
  simp only [con59k] at e
  split at e <;> first | (simp at e; done) | skip
  split at e <;> first | (simp at e; done) | skip
  rename_i v _ a ha
  simp only [Option.some.injEq, Prod.mk.injEq] at e
  obtain ⟨rfl, rfl, rfl⟩ := e
  rw [intV_eq ha]
  exact pureS (cs := []) Tryz.func59 (by kernel_rfl) (fun c hc => by simp at hc) (eval59 a d s m hp)
theorem ok36 (d s j : Bool) : ∀ c ∈ cs36 d s j, c.ok Tryz.prog w0 := fun c hc => by
  simp only [List.mem_cons, List.not_mem_nil, or_false] at hc
  rcases hc with rfl | rfl | rfl
  · exact con59k_ok d s j
  · exact con35n_ok
  · exact con67_ok
/-- The operation of a word: the last that is alike. -/
def opR (a : ByteArray) : List ByteArray → Int → Int → Int
  | [], _, o => o
  | f :: r, i, o => opR a r (i + 1) (bif eqS f a then i else o)
def readR (ws : List ByteArray) : InsR := bif decide (opR (hdW ws) wordC 0 (-1) < 0) then ⟨⟨0, 0, 0, 0⟩, noS, false⟩
  else rdX (opR (hdW ws) wordC 0 (-1)) (hasR (opR (hdW ws) wordC 0 (-1))).1 (hasR (opR (hdW ws) wordC 0 (-1))).2.1 (hasR (opR (hdW ws) wordC 0 (-1))).2.2 (r44 (opR (hdW ws) wordC 0 (-1))) ws.tail
set_option maxRecDepth 100000 in
theorem tail36 {K : List Value → AHeap → Prop} {k : Nat} (hk : k < 21) {ws : List ByteArray} (hne : ws ≠ []) (hK : K (resI (rdX k (hasR k).1 (hasR k).2.1 (hasR k).2.2 (r44 k) ws.tail)) (heapB G [])) : Sem36 w0 K todo36b (fr36b ws.length k) (hp36b (wsC ws)) := by
  rcases k with _ | _ | _ | _ | _ | _ | _ | _ | _ | _ | _ | _ | _ | _ | _ | _ | _ | _ | _ | _ | _ | k
  case succ.succ.succ.succ.succ.succ.succ.succ.succ.succ.succ.succ.succ.succ.succ.succ.succ.succ.succ.succ.succ => omega
  · exact via36' (ok36 true false true) (rdTA rfl hne hK)
  · exact via36' (ok36 true true false) (rdTB rfl hne hK)
  · exact via36' (ok36 true true false) (rdTB rfl hne hK)
  · exact via36' (ok36 true true false) (rdTB rfl hne hK)
  · exact via36' (ok36 true false true) (rdTA rfl hne hK)
  · exact via36' (ok36 true false true) (rdTA rfl hne hK)
  · exact via36' (ok36 true false true) (rdTA rfl hne hK)
  · exact via36' (ok36 true true true) (rdTC rfl hne hK)
  · exact via36' (ok36 true true true) (rdTC rfl hne hK)
  · exact via36' (ok36 true true true) (rdTC rfl hne hK)
  · exact via36' (ok36 true true true) (rdTC rfl hne hK)
  · exact via36' (ok36 true true true) (rdTC rfl hne hK)
  · exact via36' (ok36 false false true) (rdTF rfl hne hK)
  · exact via36' (ok36 true true true) (rdTC rfl hne hK)
  · exact via36' (ok36 true true true) (rdTC rfl hne hK)
  · exact via36' (ok36 true true true) (rdTC rfl hne hK)
  · exact via36' (ok36 true true true) (rdTC rfl hne hK)
  · exact via36' (ok36 false false true) (rdTF rfl hne hK)
  · exact via36' (ok36 false false false) (rdTZ rfl hne hK)
  · exact via36' (ok36 false false true) (rdTF rfl hne hK)
  · exact via36' (ok36 false false false) (rdTZ rfl hne hK)
end
section
open Go.Agm
variable {w0 : World}
theorem pla (ws wc : List ByteArray) : PLA (wsC ws) (wsC wc) := ⟨plain_i4 _ _ _ _, plain_ws _, plain_i4 _ _ _ _, plain_ws _, trivial⟩
theorem plb (ws : List ByteArray) : PLB (wsC ws) := ⟨plain_i4 _ _ _ _, plain_ws _, plain_i4 _ _ _ _, trivial⟩
theorem nth_ws {l : List ByteArray} {i : Nat} (h : i < l.length) : nth (wsC l) i = some (ST l[i]) := by
  rw [nth_eq, wsC, List.getElem?_map, List.getElem?_eq_getElem h]; rfl
theorem loop36 {K : List Value → AHeap → Prop} {a : ByteArray} {r : List ByteArray} {wc : List ByteArray} (hk : wc.length ≤ 1000) : ∀ (b : List ByteArray) (i : Nat) (op : Int), wc.drop i = b → i ≤ wc.length →
    Sem36 w0 K todo36b (fr36b (a :: r).length (opR a b i op)) (hp36b (wsC (a :: r))) → Sem36 w0 K todo36a (fr36a (a :: r).length op wc.length i) (hp36a (wsC (a :: r)) (wsC wc)) := by
  intro b
  induction b with
  | nil =>
    intro i op hb hi hK
    refine via36 okNo (head36 _ _ op i _ _ K (Sem36 w0 K)) ?_
    have := congrArg List.length hb
    simp only [List.length_drop, List.length_nil] at this
    rw [decide_eq_false (show ¬ (i : Int) < (wc.length : Int) by omega), cond_false]
    exact ⟨plb _, hK⟩
  | cons f rest ih =>
    intro i op hb hi hK
    refine via36 okNo (head36 _ _ op i _ _ K (Sem36 w0 K)) ?_
    have hlt : i < wc.length := by
      have := congrArg List.length hb
      simp only [List.length_drop, List.length_cons] at this
      omega
    have hf : wc[i] = f ∧ wc.drop (i + 1) = rest := by
      rw [List.drop_eq_getElem_cons hlt] at hb
      injection hb with h1 h2
      exact ⟨h1, h2⟩
    have hw1 : w ((i : Int) + 1) = ((i + 1 : Nat) : Int) := by rw [w_id (by omega) (by omega)]; omega
    have hn : decide (0 < (((a :: r).length : Nat) : Int)) = true := by rw [decide_eq_true_eq]; simp only [List.length_cons]; omega
    rw [decide_eq_true (show (i : Int) < (wc.length : Int) by omega), decide_eq_true (show (0 : Int) ≤ (i : Int) by omega), Int.toNat_natCast, hn]
    rw [show 0 + i * 1 = i by omega, nth_ws hlt, hf.1, hw1]
    rw [show nth (wsC (a :: r)) 0 = some (ST a) from rfl]
    rw [show okS (some (ST f)) = true from rfl, show okS (some (ST a)) = true from rfl, show Agm.strO (some (ST f)) = f from rfl, show Agm.strO (some (ST a)) = a from rfl]
    simp only [opR, show ((i : Int) + 1) = ((i + 1 : Nat) : Int) by omega] at hK
    simp only [Bool.true_and, cond_true]
    cases h : eqS f a with
    | true =>
      rw [h] at hK
      exact ⟨pla _ _, ih (i + 1) i hf.2 (by omega) hK⟩
    | false =>
      rw [h] at hK
      exact ⟨pla _ _, ih (i + 1) op hf.2 (by omega) hK⟩
theorem opR_range (a : ByteArray) : ∀ (l : List ByteArray) (i : Nat) (o : Int), (o = -1 ∨ ∃ k : Nat, o = k ∧ k < i) → opR a l i o = -1 ∨ ∃ k : Nat, opR a l i o = k ∧ k < i + l.length
  | [], i, o, h => by simpa [opR] using h
  | f :: r, i, o, h => by
    simp only [opR]
    have := opR_range a r (i + 1) (bif eqS f a then (i : Int) else o) (by
      cases eqS f a with
      | true => exact .inr ⟨i, rfl, by omega⟩
      | false =>
        rcases h with h | ⟨k, h1, h2⟩
        · exact .inl h
        · exact .inr ⟨k, h1, by omega⟩)
    rw [show ((i : Int) + 1) = ((i + 1 : Nat) : Int) by omega]
    rcases this with h | ⟨k, h1, h2⟩
    · exact .inl h
    · exact .inr ⟨k, h1, by simp only [List.length_cons]; omega⟩
noncomputable def con36r : Con := { f := 36, gh := [], paths := [], spec := fun args bs => match args, bs with
  | [.string s], [] => some (s.size ≤ 1000000, resI (readR (splitR s)), [])
  | _, _ => none }
theorem splitL_ne : ∀ (b : List UInt8) (out : List ByteArray) (wd : List UInt8), splitL b out wd ≠ []
  | [], out, wd => by simp [splitL]
  | c :: r, out, wd => by
    simp only [splitL]
    split
    · exact splitL_ne r _ _
    · exact splitL_ne r _ _
theorem con36r_ok : con36r.ok Tryz.prog w0 := by
  intro args bs p rs out e hp
  simp only [con36r] at e
  split at e <;> first | (simp at e; done) | skip
  rename_i s
  simp only [Option.some.injEq, Prod.mk.injEq] at e
  obtain ⟨rfl, rfl, rfl⟩ := e
  change CallS Tryz.prog w0 36 [.string s] (heapB Tryz.prog.globals.size []) fun rs' h' => rs' = resI (readR (splitR s)) ∧ h' = heapB Tryz.prog.globals.size []
  have hn : (heapB Tryz.prog.globals.size []).next = Tryz.prog.globals.size + nt65.flags.length := by rw [heapB_next]; rfl
  refine retT_call (nt := nt65) hn (call_sem (cd := Tryz.f36.body.getD .skip) Tryz.func36 (by kernel_rfl) ?_)
  rw [hn]
  generalize hK : (fun rs' h' => rs' = resI (readR (splitR s)) ∧ h' = heapB Tryz.prog.globals.size [] : List Value → AHeap → Prop) = K
  have hKK : K (resI (readR (splitR s))) (heapB G []) := by rw [← hK]; exact ⟨rfl, rfl⟩
  clear hK
  obtain ⟨a, r, hw⟩ : ∃ a r, splitR s = a :: r := by
    cases h : splitR s with
    | nil => exact absurd h (splitL_ne _ _ _)
    | cons a r => exact ⟨a, r, rfl⟩
  rw [hw] at hKK
  have hc1 : ∀ c ∈ [con66 (a :: r)], c.ok Tryz.prog w0 := fun c hc => by
    simp only [List.mem_cons, List.not_mem_nil, or_false] at hc
    subst hc
    exact con66_ok _
  refine via36 hc1 (start36 s a r K (Sem36 w0 K)) ⟨⟨trivial, ⟨plain_ws _, trivial⟩, hp, hw⟩, pla _ _, ?_⟩
  refine loop36 (by decide) wordC 0 (-1) rfl (Nat.zero_le _) ?_
  rcases opR_range a wordC 0 (-1) (.inl rfl) with h | ⟨k, h1, h2⟩
  · have h' : opR a wordC 0 (-1) = -1 := h
    rw [h]
    refine via36 okNo (none36 _ _ K (Sem36 w0 K)) ⟨trivial, ?_⟩
    have : readR (a :: r) = ⟨⟨0, 0, 0, 0⟩, noS, false⟩ := by
      simp only [readR, hdW, h']; rfl
    rw [this] at hKK
    exact hKK
  · have h' : opR a wordC 0 (-1) = (k : Int) := h1
    rw [h1]
    refine tail36 (by have : wordC.length = 21 := rfl; omega) (by simp) ?_
    have hk : decide ((k : Int) < 0) = false := by simp
    simp only [readR, hdW, h', hk, cond_false] at hKK
    exact hKK
end
section
open Go.Agm
variable {w0 : World}
theorem evR0 (d s imm : Int) (r : List Value) :
    pureSeg [] Tryz.f37 [AG [I 0, I d, I s, I imm]] r
    = (bif decide (d < (0 : Int)) then True ∧ [Value.bool false] = r
else
  bif decide (d > (7 : Int)) then True ∧ [Value.bool false] = r
  else
    bif decide (s < (0 : Int)) then True ∧ [Value.bool false] = r
    else
      bif decide (s > (7 : Int)) then True ∧ [Value.bool false] = r
      else bif decide (imm < (-2147483648 : Int)) then True ∧ [Value.bool false] = r else bif decide (imm > (2147483647 : Int)) then True ∧ [Value.bool false] = r else bif s != (0 : Int) then True ∧ [Value.bool false] = r else True ∧ [Value.bool true] = r) := by kernel_rfl
theorem evR1 (d s imm : Int) (r : List Value) :
    pureSeg [] Tryz.f37 [AG [I 1, I d, I s, I imm]] r
    = (bif decide (d < (0 : Int)) then True ∧ [Value.bool false] = r
else
  bif decide (d > (7 : Int)) then True ∧ [Value.bool false] = r
  else
    bif decide (s < (0 : Int)) then True ∧ [Value.bool false] = r
    else
      bif decide (s > (7 : Int)) then True ∧ [Value.bool false] = r
      else bif decide (imm < (-2147483648 : Int)) then True ∧ [Value.bool false] = r else bif decide (imm > (2147483647 : Int)) then True ∧ [Value.bool false] = r else bif imm != (0 : Int) then True ∧ [Value.bool false] = r else True ∧ [Value.bool true] = r) := by kernel_rfl
theorem evR2 (d s imm : Int) (r : List Value) :
    pureSeg [] Tryz.f37 [AG [I 2, I d, I s, I imm]] r
    = (bif decide (d < (0 : Int)) then True ∧ [Value.bool false] = r
else
  bif decide (d > (7 : Int)) then True ∧ [Value.bool false] = r
  else
    bif decide (s < (0 : Int)) then True ∧ [Value.bool false] = r
    else
      bif decide (s > (7 : Int)) then True ∧ [Value.bool false] = r
      else bif decide (imm < (-2147483648 : Int)) then True ∧ [Value.bool false] = r else bif decide (imm > (2147483647 : Int)) then True ∧ [Value.bool false] = r else bif imm != (0 : Int) then True ∧ [Value.bool false] = r else True ∧ [Value.bool true] = r) := by kernel_rfl
theorem evR3 (d s imm : Int) (r : List Value) :
    pureSeg [] Tryz.f37 [AG [I 3, I d, I s, I imm]] r
    = (bif decide (d < (0 : Int)) then True ∧ [Value.bool false] = r
else
  bif decide (d > (7 : Int)) then True ∧ [Value.bool false] = r
  else
    bif decide (s < (0 : Int)) then True ∧ [Value.bool false] = r
    else
      bif decide (s > (7 : Int)) then True ∧ [Value.bool false] = r
      else bif decide (imm < (-2147483648 : Int)) then True ∧ [Value.bool false] = r else bif decide (imm > (2147483647 : Int)) then True ∧ [Value.bool false] = r else bif imm != (0 : Int) then True ∧ [Value.bool false] = r else True ∧ [Value.bool true] = r) := by kernel_rfl
theorem evR4 (d s imm : Int) (r : List Value) :
    pureSeg [] Tryz.f37 [AG [I 4, I d, I s, I imm]] r
    = (bif decide (d < (0 : Int)) then True ∧ [Value.bool false] = r
else
  bif decide (d > (7 : Int)) then True ∧ [Value.bool false] = r
  else
    bif decide (s < (0 : Int)) then True ∧ [Value.bool false] = r
    else
      bif decide (s > (7 : Int)) then True ∧ [Value.bool false] = r
      else bif decide (imm < (-2147483648 : Int)) then True ∧ [Value.bool false] = r else bif decide (imm > (2147483647 : Int)) then True ∧ [Value.bool false] = r else bif s != (0 : Int) then True ∧ [Value.bool false] = r else True ∧ [Value.bool true] = r) := by kernel_rfl
theorem evR5 (d s imm : Int) (r : List Value) :
    pureSeg [] Tryz.f37 [AG [I 5, I d, I s, I imm]] r
    = (bif decide (d < (0 : Int)) then True ∧ [Value.bool false] = r
else
  bif decide (d > (7 : Int)) then True ∧ [Value.bool false] = r
  else
    bif decide (s < (0 : Int)) then True ∧ [Value.bool false] = r
    else
      bif decide (s > (7 : Int)) then True ∧ [Value.bool false] = r
      else bif decide (imm < (-2147483648 : Int)) then True ∧ [Value.bool false] = r else bif decide (imm > (2147483647 : Int)) then True ∧ [Value.bool false] = r else bif s != (0 : Int) then True ∧ [Value.bool false] = r else True ∧ [Value.bool true] = r) := by kernel_rfl
theorem evR6 (d s imm : Int) (r : List Value) :
    pureSeg [] Tryz.f37 [AG [I 6, I d, I s, I imm]] r
    = (bif decide (d < (0 : Int)) then True ∧ [Value.bool false] = r
else
  bif decide (d > (7 : Int)) then True ∧ [Value.bool false] = r
  else
    bif decide (s < (0 : Int)) then True ∧ [Value.bool false] = r
    else
      bif decide (s > (7 : Int)) then True ∧ [Value.bool false] = r
      else
        bif decide (imm < (-2147483648 : Int)) then True ∧ [Value.bool false] = r
        else bif decide (imm > (2147483647 : Int)) then True ∧ [Value.bool false] = r else bif s != (0 : Int) then True ∧ [Value.bool false] = r else bif decide (imm < (0 : Int)) then True ∧ [Value.bool false] = r else True ∧ [Value.bool true] = r) := by kernel_rfl
theorem evR7 (d s imm : Int) (r : List Value) :
    pureSeg [] Tryz.f37 [AG [I 7, I d, I s, I imm]] r
    = (bif decide (d < (0 : Int)) then True ∧ [Value.bool false] = r
else
  bif decide (d > (7 : Int)) then True ∧ [Value.bool false] = r
  else
    bif decide (s < (0 : Int)) then True ∧ [Value.bool false] = r
    else bif decide (s > (7 : Int)) then True ∧ [Value.bool false] = r else bif decide (imm < (-2147483648 : Int)) then True ∧ [Value.bool false] = r else bif decide (imm > (2147483647 : Int)) then True ∧ [Value.bool false] = r else True ∧ [Value.bool true] = r) := by kernel_rfl
theorem evR8 (d s imm : Int) (r : List Value) :
    pureSeg [] Tryz.f37 [AG [I 8, I d, I s, I imm]] r
    = (bif decide (d < (0 : Int)) then True ∧ [Value.bool false] = r
else
  bif decide (d > (7 : Int)) then True ∧ [Value.bool false] = r
  else
    bif decide (s < (0 : Int)) then True ∧ [Value.bool false] = r
    else bif decide (s > (7 : Int)) then True ∧ [Value.bool false] = r else bif decide (imm < (-2147483648 : Int)) then True ∧ [Value.bool false] = r else bif decide (imm > (2147483647 : Int)) then True ∧ [Value.bool false] = r else True ∧ [Value.bool true] = r) := by kernel_rfl
theorem evR9 (d s imm : Int) (r : List Value) :
    pureSeg [] Tryz.f37 [AG [I 9, I d, I s, I imm]] r
    = (bif decide (d < (0 : Int)) then True ∧ [Value.bool false] = r
else
  bif decide (d > (7 : Int)) then True ∧ [Value.bool false] = r
  else
    bif decide (s < (0 : Int)) then True ∧ [Value.bool false] = r
    else bif decide (s > (7 : Int)) then True ∧ [Value.bool false] = r else bif decide (imm < (-2147483648 : Int)) then True ∧ [Value.bool false] = r else bif decide (imm > (2147483647 : Int)) then True ∧ [Value.bool false] = r else True ∧ [Value.bool true] = r) := by kernel_rfl
theorem evR10 (d s imm : Int) (r : List Value) :
    pureSeg [] Tryz.f37 [AG [I 10, I d, I s, I imm]] r
    = (bif decide (d < (0 : Int)) then True ∧ [Value.bool false] = r
else
  bif decide (d > (7 : Int)) then True ∧ [Value.bool false] = r
  else
    bif decide (s < (0 : Int)) then True ∧ [Value.bool false] = r
    else bif decide (s > (7 : Int)) then True ∧ [Value.bool false] = r else bif decide (imm < (-2147483648 : Int)) then True ∧ [Value.bool false] = r else bif decide (imm > (2147483647 : Int)) then True ∧ [Value.bool false] = r else True ∧ [Value.bool true] = r) := by kernel_rfl
theorem evR11 (d s imm : Int) (r : List Value) :
    pureSeg [] Tryz.f37 [AG [I 11, I d, I s, I imm]] r
    = (bif decide (d < (0 : Int)) then True ∧ [Value.bool false] = r
else
  bif decide (d > (7 : Int)) then True ∧ [Value.bool false] = r
  else
    bif decide (s < (0 : Int)) then True ∧ [Value.bool false] = r
    else bif decide (s > (7 : Int)) then True ∧ [Value.bool false] = r else bif decide (imm < (-2147483648 : Int)) then True ∧ [Value.bool false] = r else bif decide (imm > (2147483647 : Int)) then True ∧ [Value.bool false] = r else True ∧ [Value.bool true] = r) := by kernel_rfl
theorem evR12 (d s imm : Int) (r : List Value) :
    pureSeg [] Tryz.f37 [AG [I 12, I d, I s, I imm]] r
    = (bif decide (d < (0 : Int)) then True ∧ [Value.bool false] = r
else
  bif decide (d > (7 : Int)) then True ∧ [Value.bool false] = r
  else
    bif decide (s < (0 : Int)) then True ∧ [Value.bool false] = r
    else
      bif decide (s > (7 : Int)) then True ∧ [Value.bool false] = r
      else
        bif decide (imm < (-2147483648 : Int)) then True ∧ [Value.bool false] = r
        else
          bif decide (imm > (2147483647 : Int)) then True ∧ [Value.bool false] = r
          else
            bif d != (0 : Int) then True ∧ [Value.bool false] = r else bif s != (0 : Int) then True ∧ [Value.bool false] = r else bif decide (imm < (0 : Int)) then True ∧ [Value.bool false] = r else bif decide (imm > (127 : Int)) then True ∧ [Value.bool false] = r else True ∧ [Value.bool true] = r) := by kernel_rfl
theorem evR13 (d s imm : Int) (r : List Value) :
    pureSeg [] Tryz.f37 [AG [I 13, I d, I s, I imm]] r
    = (bif decide (d < (0 : Int)) then True ∧ [Value.bool false] = r
else
  bif decide (d > (7 : Int)) then True ∧ [Value.bool false] = r
  else
    bif decide (s < (0 : Int)) then True ∧ [Value.bool false] = r
    else
      bif decide (s > (7 : Int)) then True ∧ [Value.bool false] = r
      else
        bif decide (imm < (-2147483648 : Int)) then True ∧ [Value.bool false] = r
        else bif decide (imm > (2147483647 : Int)) then True ∧ [Value.bool false] = r else bif decide (imm < (0 : Int)) then True ∧ [Value.bool false] = r else bif decide (imm > (127 : Int)) then True ∧ [Value.bool false] = r else True ∧ [Value.bool true] = r) := by kernel_rfl
theorem evR14 (d s imm : Int) (r : List Value) :
    pureSeg [] Tryz.f37 [AG [I 14, I d, I s, I imm]] r
    = (bif decide (d < (0 : Int)) then True ∧ [Value.bool false] = r
else
  bif decide (d > (7 : Int)) then True ∧ [Value.bool false] = r
  else
    bif decide (s < (0 : Int)) then True ∧ [Value.bool false] = r
    else
      bif decide (s > (7 : Int)) then True ∧ [Value.bool false] = r
      else
        bif decide (imm < (-2147483648 : Int)) then True ∧ [Value.bool false] = r
        else bif decide (imm > (2147483647 : Int)) then True ∧ [Value.bool false] = r else bif decide (imm < (0 : Int)) then True ∧ [Value.bool false] = r else bif decide (imm > (127 : Int)) then True ∧ [Value.bool false] = r else True ∧ [Value.bool true] = r) := by kernel_rfl
theorem evR15 (d s imm : Int) (r : List Value) :
    pureSeg [] Tryz.f37 [AG [I 15, I d, I s, I imm]] r
    = (bif decide (d < (0 : Int)) then True ∧ [Value.bool false] = r
else
  bif decide (d > (7 : Int)) then True ∧ [Value.bool false] = r
  else
    bif decide (s < (0 : Int)) then True ∧ [Value.bool false] = r
    else
      bif decide (s > (7 : Int)) then True ∧ [Value.bool false] = r
      else
        bif decide (imm < (-2147483648 : Int)) then True ∧ [Value.bool false] = r
        else bif decide (imm > (2147483647 : Int)) then True ∧ [Value.bool false] = r else bif decide (imm < (0 : Int)) then True ∧ [Value.bool false] = r else bif decide (imm > (127 : Int)) then True ∧ [Value.bool false] = r else True ∧ [Value.bool true] = r) := by kernel_rfl
theorem evR16 (d s imm : Int) (r : List Value) :
    pureSeg [] Tryz.f37 [AG [I 16, I d, I s, I imm]] r
    = (bif decide (d < (0 : Int)) then True ∧ [Value.bool false] = r
else
  bif decide (d > (7 : Int)) then True ∧ [Value.bool false] = r
  else
    bif decide (s < (0 : Int)) then True ∧ [Value.bool false] = r
    else
      bif decide (s > (7 : Int)) then True ∧ [Value.bool false] = r
      else
        bif decide (imm < (-2147483648 : Int)) then True ∧ [Value.bool false] = r
        else bif decide (imm > (2147483647 : Int)) then True ∧ [Value.bool false] = r else bif decide (imm < (0 : Int)) then True ∧ [Value.bool false] = r else bif decide (imm > (127 : Int)) then True ∧ [Value.bool false] = r else True ∧ [Value.bool true] = r) := by kernel_rfl
theorem evR17 (d s imm : Int) (r : List Value) :
    pureSeg [] Tryz.f37 [AG [I 17, I d, I s, I imm]] r
    = (bif decide (d < (0 : Int)) then True ∧ [Value.bool false] = r
else
  bif decide (d > (7 : Int)) then True ∧ [Value.bool false] = r
  else
    bif decide (s < (0 : Int)) then True ∧ [Value.bool false] = r
    else
      bif decide (s > (7 : Int)) then True ∧ [Value.bool false] = r
      else
        bif decide (imm < (-2147483648 : Int)) then True ∧ [Value.bool false] = r
        else
          bif decide (imm > (2147483647 : Int)) then True ∧ [Value.bool false] = r
          else bif d != (0 : Int) then True ∧ [Value.bool false] = r else bif s != (0 : Int) then True ∧ [Value.bool false] = r else bif decide (imm ≥ (1 : Int)) then True ∧ [Value.bool (decide (imm ≤ (64 : Int)))] = r else True ∧ [Value.bool false] = r) := by kernel_rfl
theorem evR18 (d s imm : Int) (r : List Value) :
    pureSeg [] Tryz.f37 [AG [I 18, I d, I s, I imm]] r
    = (bif decide (d < (0 : Int)) then True ∧ [Value.bool false] = r
else
  bif decide (d > (7 : Int)) then True ∧ [Value.bool false] = r
  else
    bif decide (s < (0 : Int)) then True ∧ [Value.bool false] = r
    else
      bif decide (s > (7 : Int)) then True ∧ [Value.bool false] = r
      else
        bif decide (imm < (-2147483648 : Int)) then True ∧ [Value.bool false] = r
        else bif decide (imm > (2147483647 : Int)) then True ∧ [Value.bool false] = r else bif d == (0 : Int) then bif s == (0 : Int) then True ∧ [Value.bool (imm == (0 : Int))] = r else True ∧ [Value.bool false] = r else True ∧ [Value.bool false] = r) := by kernel_rfl
theorem evR19 (d s imm : Int) (r : List Value) :
    pureSeg [] Tryz.f37 [AG [I 19, I d, I s, I imm]] r
    = (bif decide (d < (0 : Int)) then True ∧ [Value.bool false] = r
else
  bif decide (d > (7 : Int)) then True ∧ [Value.bool false] = r
  else
    bif decide (s < (0 : Int)) then True ∧ [Value.bool false] = r
    else
      bif decide (s > (7 : Int)) then True ∧ [Value.bool false] = r
      else
        bif decide (imm < (-2147483648 : Int)) then True ∧ [Value.bool false] = r
        else
          bif decide (imm > (2147483647 : Int)) then True ∧ [Value.bool false] = r
          else bif d == (0 : Int) then bif s == (0 : Int) then bif decide (imm ≥ (1 : Int)) then True ∧ [Value.bool (decide (imm ≤ (3 : Int)))] = r else True ∧ [Value.bool false] = r else True ∧ [Value.bool false] = r else True ∧ [Value.bool false] = r) := by kernel_rfl
theorem evR20 (d s imm : Int) (r : List Value) :
    pureSeg [] Tryz.f37 [AG [I 20, I d, I s, I imm]] r
    = (bif decide (d < (0 : Int)) then True ∧ [Value.bool false] = r
else
  bif decide (d > (7 : Int)) then True ∧ [Value.bool false] = r
  else
    bif decide (s < (0 : Int)) then True ∧ [Value.bool false] = r
    else
      bif decide (s > (7 : Int)) then True ∧ [Value.bool false] = r
      else
        bif decide (imm < (-2147483648 : Int)) then True ∧ [Value.bool false] = r
        else bif decide (imm > (2147483647 : Int)) then True ∧ [Value.bool false] = r else bif d == (0 : Int) then bif s == (0 : Int) then True ∧ [Value.bool (imm == (0 : Int))] = r else True ∧ [Value.bool false] = r else True ∧ [Value.bool false] = r) := by kernel_rfl
end
section
open Go.Agm
variable {w0 : World}
structure Rt (o d s i : Int) : Prop where
  un : pureSeg [] Tryz.f37 [AG [I o, I d, I s, I i]] [B (right ⟨o, d, s, i⟩)]
theorem rt0 {d s imm : Int} : Rt 0 d s imm := by
  constructor
  rw [evR0]
  have e : right ⟨0, d, s, imm⟩ = right ⟨0, d, s, imm⟩ := rfl
  conv at e => rhs; simp [right, r29, r50, r51]
  rw [e]
  repeat' (refine bifP (fun c => ?_) (fun c => ?_))
  all_goals
    refine ⟨trivial, ?_⟩
    simp at *
    omega
theorem rt1 {d s imm : Int} : Rt 1 d s imm := by
  constructor
  rw [evR1]
  have e : right ⟨1, d, s, imm⟩ = right ⟨1, d, s, imm⟩ := rfl
  conv at e => rhs; simp [right, r29, r50, r51]
  rw [e]
  repeat' (refine bifP (fun c => ?_) (fun c => ?_))
  all_goals
    refine ⟨trivial, ?_⟩
    simp at *
    omega
theorem rt2 {d s imm : Int} : Rt 2 d s imm := by
  constructor
  rw [evR2]
  have e : right ⟨2, d, s, imm⟩ = right ⟨2, d, s, imm⟩ := rfl
  conv at e => rhs; simp [right, r29, r50, r51]
  rw [e]
  repeat' (refine bifP (fun c => ?_) (fun c => ?_))
  all_goals
    refine ⟨trivial, ?_⟩
    simp at *
    omega
theorem rt3 {d s imm : Int} : Rt 3 d s imm := by
  constructor
  rw [evR3]
  have e : right ⟨3, d, s, imm⟩ = right ⟨3, d, s, imm⟩ := rfl
  conv at e => rhs; simp [right, r29, r50, r51]
  rw [e]
  repeat' (refine bifP (fun c => ?_) (fun c => ?_))
  all_goals
    refine ⟨trivial, ?_⟩
    simp at *
    omega
theorem rt4 {d s imm : Int} : Rt 4 d s imm := by
  constructor
  rw [evR4]
  have e : right ⟨4, d, s, imm⟩ = right ⟨4, d, s, imm⟩ := rfl
  conv at e => rhs; simp [right, r29, r50, r51]
  rw [e]
  repeat' (refine bifP (fun c => ?_) (fun c => ?_))
  all_goals
    refine ⟨trivial, ?_⟩
    simp at *
    omega
theorem rt5 {d s imm : Int} : Rt 5 d s imm := by
  constructor
  rw [evR5]
  have e : right ⟨5, d, s, imm⟩ = right ⟨5, d, s, imm⟩ := rfl
  conv at e => rhs; simp [right, r29, r50, r51]
  rw [e]
  repeat' (refine bifP (fun c => ?_) (fun c => ?_))
  all_goals
    refine ⟨trivial, ?_⟩
    simp at *
    omega
theorem rt6 {d s imm : Int} : Rt 6 d s imm := by
  constructor
  rw [evR6]
  have e : right ⟨6, d, s, imm⟩ = right ⟨6, d, s, imm⟩ := rfl
  conv at e => rhs; simp [right, r29, r50, r51]
  rw [e]
  repeat' (refine bifP (fun c => ?_) (fun c => ?_))
  all_goals
    refine ⟨trivial, ?_⟩
    simp at *
    omega
theorem rt7 {d s imm : Int} : Rt 7 d s imm := by
  constructor
  rw [evR7]
  have e : right ⟨7, d, s, imm⟩ = right ⟨7, d, s, imm⟩ := rfl
  conv at e => rhs; simp [right, r29, r50, r51]
  rw [e]
  repeat' (refine bifP (fun c => ?_) (fun c => ?_))
  all_goals
    refine ⟨trivial, ?_⟩
    simp at *
    omega
theorem rt8 {d s imm : Int} : Rt 8 d s imm := by
  constructor
  rw [evR8]
  have e : right ⟨8, d, s, imm⟩ = right ⟨8, d, s, imm⟩ := rfl
  conv at e => rhs; simp [right, r29, r50, r51]
  rw [e]
  repeat' (refine bifP (fun c => ?_) (fun c => ?_))
  all_goals
    refine ⟨trivial, ?_⟩
    simp at *
    omega
theorem rt9 {d s imm : Int} : Rt 9 d s imm := by
  constructor
  rw [evR9]
  have e : right ⟨9, d, s, imm⟩ = right ⟨9, d, s, imm⟩ := rfl
  conv at e => rhs; simp [right, r29, r50, r51]
  rw [e]
  repeat' (refine bifP (fun c => ?_) (fun c => ?_))
  all_goals
    refine ⟨trivial, ?_⟩
    simp at *
    omega
theorem rt10 {d s imm : Int} : Rt 10 d s imm := by
  constructor
  rw [evR10]
  have e : right ⟨10, d, s, imm⟩ = right ⟨10, d, s, imm⟩ := rfl
  conv at e => rhs; simp [right, r29, r50, r51]
  rw [e]
  repeat' (refine bifP (fun c => ?_) (fun c => ?_))
  all_goals
    refine ⟨trivial, ?_⟩
    simp at *
    omega
theorem rt11 {d s imm : Int} : Rt 11 d s imm := by
  constructor
  rw [evR11]
  have e : right ⟨11, d, s, imm⟩ = right ⟨11, d, s, imm⟩ := rfl
  conv at e => rhs; simp [right, r29, r50, r51]
  rw [e]
  repeat' (refine bifP (fun c => ?_) (fun c => ?_))
  all_goals
    refine ⟨trivial, ?_⟩
    simp at *
    omega
theorem rt12 {d s imm : Int} : Rt 12 d s imm := by
  constructor
  rw [evR12]
  have e : right ⟨12, d, s, imm⟩ = right ⟨12, d, s, imm⟩ := rfl
  conv at e => rhs; simp [right, r29, r50, r51]
  rw [e]
  repeat' (refine bifP (fun c => ?_) (fun c => ?_))
  all_goals
    refine ⟨trivial, ?_⟩
    simp at *
    omega
theorem rt13 {d s imm : Int} : Rt 13 d s imm := by
  constructor
  rw [evR13]
  have e : right ⟨13, d, s, imm⟩ = right ⟨13, d, s, imm⟩ := rfl
  conv at e => rhs; simp [right, r29, r50, r51]
  rw [e]
  repeat' (refine bifP (fun c => ?_) (fun c => ?_))
  all_goals
    refine ⟨trivial, ?_⟩
    simp at *
    omega
theorem rt14 {d s imm : Int} : Rt 14 d s imm := by
  constructor
  rw [evR14]
  have e : right ⟨14, d, s, imm⟩ = right ⟨14, d, s, imm⟩ := rfl
  conv at e => rhs; simp [right, r29, r50, r51]
  rw [e]
  repeat' (refine bifP (fun c => ?_) (fun c => ?_))
  all_goals
    refine ⟨trivial, ?_⟩
    simp at *
    omega
theorem rt15 {d s imm : Int} : Rt 15 d s imm := by
  constructor
  rw [evR15]
  have e : right ⟨15, d, s, imm⟩ = right ⟨15, d, s, imm⟩ := rfl
  conv at e => rhs; simp [right, r29, r50, r51]
  rw [e]
  repeat' (refine bifP (fun c => ?_) (fun c => ?_))
  all_goals
    refine ⟨trivial, ?_⟩
    simp at *
    omega
theorem rt16 {d s imm : Int} : Rt 16 d s imm := by
  constructor
  rw [evR16]
  have e : right ⟨16, d, s, imm⟩ = right ⟨16, d, s, imm⟩ := rfl
  conv at e => rhs; simp [right, r29, r50, r51]
  rw [e]
  repeat' (refine bifP (fun c => ?_) (fun c => ?_))
  all_goals
    refine ⟨trivial, ?_⟩
    simp at *
    omega
theorem rt17 {d s imm : Int} : Rt 17 d s imm := by
  constructor
  rw [evR17]
  have e : right ⟨17, d, s, imm⟩ = right ⟨17, d, s, imm⟩ := rfl
  conv at e => rhs; simp [right, r29, r50, r51]
  rw [e]
  repeat' (refine bifP (fun c => ?_) (fun c => ?_))
  all_goals
    refine ⟨trivial, ?_⟩
    simp at *
    first | omega | grind
theorem rt18 {d s imm : Int} : Rt 18 d s imm := by
  constructor
  rw [evR18]
  have e : right ⟨18, d, s, imm⟩ = right ⟨18, d, s, imm⟩ := rfl
  conv at e => rhs; simp [right, r29, r50, r51]
  rw [e]
  repeat' (refine bifP (fun c => ?_) (fun c => ?_))
  all_goals
    refine ⟨trivial, ?_⟩
    simp at *
    first | omega | grind
theorem rt19 {d s imm : Int} : Rt 19 d s imm := by
  constructor
  rw [evR19]
  have e : right ⟨19, d, s, imm⟩ = right ⟨19, d, s, imm⟩ := rfl
  conv at e => rhs; simp [right, r29, r50, r51]
  rw [e]
  repeat' (refine bifP (fun c => ?_) (fun c => ?_))
  all_goals
    refine ⟨trivial, ?_⟩
    simp at *
    first | omega | grind
theorem rt20 {d s imm : Int} : Rt 20 d s imm := by
  constructor
  rw [evR20]
  have e : right ⟨20, d, s, imm⟩ = right ⟨20, d, s, imm⟩ := rfl
  conv at e => rhs; simp [right, r29, r50, r51]
  rw [e]
  repeat' (refine bifP (fun c => ?_) (fun c => ?_))
  all_goals
    refine ⟨trivial, ?_⟩
    simp at *
    first | omega | grind
end
section
open Go.Agm
variable {w0 : World}
abbrev pureSegC (cuts : List Nat) (cs : List Con) (fn : Func) (args : List Value) (rs : List Value) : Prop :=
  segK2 Tryz.prog ft0 (semI Tryz.prog (fun _ => ft0) (callsOf G cs) 400 20 (retT G ntP fun rs' _ => rs' = rs)) fn cuts 400 [.code (fn.body.getD .skip)] (startF fn args) noLeaf (heapB G [])
theorem pureSC {w0 : World} {f : Nat} {fn : Func} {cs : List Con} {args rs : List Value} {cuts : List Nat} (hfn : Tryz.prog.funcs[f]? = some fn) (hcd : fn.body = some (fn.body.getD .skip)) (hcs : ∀ c ∈ cs, c.ok Tryz.prog w0)
    (hs : pureSegC cuts cs fn args rs) : CallS Tryz.prog w0 f args (heapB Tryz.prog.globals.size []) fun rs' h' => rs' = rs ∧ h' = heapB Tryz.prog.globals.size [] := by
  refine con_body (nt := ntP) (out := []) (bs := []) hfn hcd rfl ?_
  refine (seg_semI (F := ft0) (leaf := noLeaf) mixed (callsOf_ok hcs) (fun _ _ _ hh => hh.elim) cuts 20 400 hs).mono ?_
  intro rs2 h2 hh
  simp only [retT, canonT, canonQ, nmL, pathsG, Option.map_some, ghosts, trims] at hh ⊢
  generalize tysOk h2 (List.map (fun x => x.fst) (headN G [] ++ [])) [] = b at hh
  cases b with
  | false => exact hh.elim
  | true =>
    refine ⟨hh.1, ?_⟩
    have h3 := hh.2
    generalize valsF (List.map (invA G (List.map (fun x => x.fst) (headN G [] ++ []))) (List.map AV.v rs2)) = o at h3
    cases o with
    | none => exact h3.elim
    | some rs3 => exact ⟨h3, rfl⟩
theorem evRo (o d s imm : Int) (r : List Value) :
    pureSegC [6] [] Tryz.f37 [AG [I o, I d, I s, I imm]] r
    = (bif decide (o < (0 : Int)) then True ∧ [B false] = r else bif decide (o > (20 : Int)) then True ∧ [B false] = r else
      bif decide (d < (0 : Int)) then True ∧ [B false] = r else bif decide (d > (7 : Int)) then True ∧ [B false] = r else
      bif decide (s < (0 : Int)) then True ∧ [B false] = r else bif decide (s > (7 : Int)) then True ∧ [B false] = r else
      bif decide (imm < (-2147483648 : Int)) then True ∧ [B false] = r else bif decide (imm > (2147483647 : Int)) then True ∧ [B false] = r else False) := by kernel_rfl
theorem right_out {o d s imm : Int} (h : o < 0 ∨ 20 < o) : right ⟨o, d, s, imm⟩ = false := by
  have hk : ∀ k : Int, 0 ≤ k → k ≤ 20 → (o == k) = false := fun k _ _ => beq_eq_false_iff_ne.mpr (by omega)
  show r29 o d s imm = false
  unfold r29
  rw [hk 0 (by decide) (by decide), hk 1 (by decide) (by decide), hk 2 (by decide) (by decide), hk 3 (by decide) (by decide), hk 4 (by decide) (by decide), hk 5 (by decide) (by decide), hk 6 (by decide) (by decide), hk 7 (by decide) (by decide), hk 8 (by decide) (by decide), hk 9 (by decide) (by decide), hk 10 (by decide) (by decide), hk 11 (by decide) (by decide), hk 12 (by decide) (by decide), hk 13 (by decide) (by decide), hk 14 (by decide) (by decide), hk 15 (by decide) (by decide), hk 16 (by decide) (by decide), hk 17 (by decide) (by decide), hk 18 (by decide) (by decide), hk 19 (by decide) (by decide), hk 20 (by decide) (by decide)]
  simp only [cond_false]
  cases !r50 d <;> cases !r50 s <;> cases decide (imm < -2147483648) <;> cases decide (imm ≥ 2147483648) <;> cases !r51 o d s imm <;> rfl
def F37r : List Value → Option (List Value)
  | [v0] => match aggV v0 with
    | some [a, b, c, d] => some [B (right ⟨a, b, c, d⟩)]
    | _ => none
  | _ => none
theorem F37r_eq {args rs : List Value} (e : F37r args = some rs) : ∃ a b c d : Int, args = [AG [I a, I b, I c, I d]] ∧ rs = [B (right ⟨a, b, c, d⟩)] := by
  unfold F37r at e
  split at e
  · rename_i v0
    split at e
    · rename_i a b c d h0
      simp only [Option.some.injEq] at e
      exact ⟨a, b, c, d, by rw [aggV_eq h0]; rfl, e.symm⟩
    · simp at e
  · simp at e
def con37r : Con := pureCon 37 F37r
set_option maxRecDepth 100000 in
theorem call37r {o d s i : Int} : CallS Tryz.prog w0 37 [AG [I o, I d, I s, I i]] (heapB Tryz.prog.globals.size []) fun rs' h' => rs' = [B (right ⟨o, d, s, i⟩)] ∧ h' = heapB Tryz.prog.globals.size [] := by
  have hq : ∀ c ∈ ([] : List Con), c.ok Tryz.prog w0 := fun c hc => by simp at hc
  by_cases ho : o < 0 ∨ 20 < o
  · refine pureSC (cuts := [6]) (cs := []) Tryz.func37 (by kernel_rfl) hq ?_
    rw [evRo, right_out ho]
    rcases ho with h | h
    · rw [decide_eq_true h]; exact ⟨trivial, rfl⟩
    · rw [decide_eq_false (show ¬ o < 0 by omega), decide_eq_true (show o > 20 by omega)]; exact ⟨trivial, rfl⟩
  · have key : Rt o d s i → CallS Tryz.prog w0 37 [AG [I o, I d, I s, I i]] (heapB Tryz.prog.globals.size []) fun rs' h' => rs' = [B (right ⟨o, d, s, i⟩)] ∧ h' = heapB Tryz.prog.globals.size [] := fun h =>
      pureS (cs := []) Tryz.func37 (by kernel_rfl) hq h.un
    refine key ?_
    have : o = 0 ∨ o = 1 ∨ o = 2 ∨ o = 3 ∨ o = 4 ∨ o = 5 ∨ o = 6 ∨ o = 7 ∨ o = 8 ∨ o = 9 ∨ o = 10 ∨ o = 11 ∨ o = 12 ∨ o = 13 ∨ o = 14 ∨ o = 15 ∨ o = 16 ∨ o = 17 ∨ o = 18 ∨ o = 19 ∨ o = 20 := by omega
    rcases this with rfl | rfl | rfl | rfl | rfl | rfl | rfl | rfl | rfl | rfl | rfl | rfl | rfl | rfl | rfl | rfl | rfl | rfl | rfl | rfl | rfl
    · exact rt0
    · exact rt1
    · exact rt2
    · exact rt3
    · exact rt4
    · exact rt5
    · exact rt6
    · exact rt7
    · exact rt8
    · exact rt9
    · exact rt10
    · exact rt11
    · exact rt12
    · exact rt13
    · exact rt14
    · exact rt15
    · exact rt16
    · exact rt17
    · exact rt18
    · exact rt19
    · exact rt20
set_option maxRecDepth 100000 in
theorem con37r_ok : con37r.ok Tryz.prog w0 := by
  intro args bs p rs out e _
  simp only [con37r, pureCon] at e
  split at e
  · split at e
    · rename_i rs' h1
      simp only [Option.some.injEq, Prod.mk.injEq] at e
      obtain ⟨_, h3, h4⟩ := e
      subst h3 h4
      obtain ⟨a, b, c, d, rfl, rfl⟩ := F37r_eq h1
      exact call37r
    · simp at e
  · simp at e
end
section
open Go.Agm
variable {w0 : World}
noncomputable def ft13 : FT := { loc := fun _ => false, mask := fun id => bif Nat.beq id 6 then live 190 [0, 5, 6, 7, 8, 9, 10, 11] else bif Nat.beq id 9 then live 190 [0, 5, 6, 7, 8, 9, 10, 11, 12] else bif Nat.beq id 17 then live 190 [0, 5, 6, 7, 8, 9, 10, 11, 13, 14] else bif Nat.beq id 22 then live 190 [0, 5, 6, 7, 8, 9, 10, 11, 13] else bif Nat.beq id 31 then live 190 [5, 6, 7, 8, 9, 18] else bif Nat.beq id 34 then live 190 [5, 6, 7, 8, 9, 18, 19] else bif Nat.beq id 39 then live 190 [5, 6, 7, 8, 9, 18, 19, 20, 21] else bif Nat.beq id 43 then live 190 [5, 6, 7, 8, 9, 18, 19, 20] else [] }
abbrev nt13A : Nt := { gh := [⟨5, none, 4⟩, ⟨6, none, 1⟩, ⟨7, none, 1⟩, ⟨8, none, 1⟩, ⟨9, none, 1⟩], flags := [], paths := [⟨5, [], true⟩, ⟨6, [], true⟩, ⟨7, [], true⟩, ⟨8, [], true⟩, ⟨9, [], true⟩], tr := [] }
abbrev nt13 : Nt := nt12
abbrev cut13 : List Nat := [6, 9, 17, 22, 31, 34, 39, 43]
noncomputable def t13_6 : List Item := todoOf Tryz.f13 6
noncomputable def t13_9 : List Item := todoOf Tryz.f13 9
noncomputable def t13_17 : List Item := todoOf Tryz.f13 17
noncomputable def t13_22 : List Item := todoOf Tryz.f13 22
noncomputable def t13_31 : List Item := todoOf Tryz.f13 31
noncomputable def t13_34 : List Item := todoOf Tryz.f13 34
noncomputable def t13_39 : List Item := todoOf Tryz.f13 39
noncomputable def t13_43 : List Item := todoOf Tryz.f13 43
abbrev seg13 (cs : List Con) (K : List Value → AHeap → Prop) (L : List Item → List AV → AHeap → Prop) (t : List Item) (fr : List AV) (h : AHeap) : Prop :=
  segK3 Tryz.prog ft13 (semI Tryz.prog (fun _ => ft0) (callsOf G cs) 400 20 (retT G nt13 K)) Tryz.f13 cut13 200 t fr (fun t fr h => match t with
  | .code (.region _ _ _) :: _ => canonT G nt13A (L t) fr h
  | _ => False) h
noncomputable abbrev sl5 (no nn nt np nl : Nat) : List (Nat × AV) := [(5, .v (SL G no 4)), (6, .v (SL (G + 1) nn 1)), (7, .v (SL (G + 2) nt 1)), (8, .v (SL (G + 3) np 1)), (9, .v (SL (G + 4) nl 1))]
noncomputable def f13a (s : ByteArray) (no nn nt np nl : Nat) (x n : Int) : List AV := frm 190 ((0, .v (ST s)) :: sl5 no nn nt np nl ++ [(10, .v (I x)), (11, .v (I n))])
noncomputable def f13b (s : ByteArray) (no nn nt np nl : Nat) (x n e : Int) : List AV := frm 190 ((0, .v (ST s)) :: sl5 no nn nt np nl ++ [(10, .v (I x)), (11, .v (I n)), (12, .v (I e))])
noncomputable def f13c (s : ByteArray) (no nn nt np nl : Nat) (x n : Int) (l : ByteArray) (i : Int) : List AV := frm 190 ((0, .v (ST s)) :: sl5 no nn nt np nl ++ [(10, .v (I x)), (11, .v (I n)), (13, .v (ST l)), (14, .v (I i))])
noncomputable def f13d (s : ByteArray) (no nn nt np nl : Nat) (x n : Int) (l : ByteArray) : List AV := frm 190 ((0, .v (ST s)) :: sl5 no nn nt np nl ++ [(10, .v (I x)), (11, .v (I n)), (13, .v (ST l))])
noncomputable def f13e (no nn nt np nl : Nat) (tu : Int) : List AV := frm 190 (sl5 no nn nt np nl ++ [(18, .v (I tu))])
noncomputable def f13f (no nn nt np nl : Nat) (tu i : Int) : List AV := frm 190 (sl5 no nn nt np nl ++ [(18, .v (I tu)), (19, .v (I i))])
noncomputable def f13g (no nn nt np nl : Nat) (tu i p k : Int) : List AV := frm 190 (sl5 no nn nt np nl ++ [(18, .v (I tu)), (19, .v (I i)), (20, .v (I p)), (21, .v (I k))])
noncomputable def f13h (no nn nt np nl : Nat) (tu i p : Int) : List AV := frm 190 (sl5 no nn nt np nl ++ [(18, .v (I tu)), (19, .v (I i)), (20, .v (I p))])
noncomputable def h13 (oc nc tc pc lc : List Value) : AHeap := heapB G [some (.cells oc true), some (.cells nc true), some (.cells tc true), some (.cells pc true), some (.cells lc true)]
end
section
open Go.Agm
variable {w0 : World}
abbrev P5 (oc nc tc pc lc : List Value) : Prop := PlainL oc ∧ PlainL nc ∧ PlainL tc ∧ PlainL pc ∧ PlainL lc ∧ True
abbrev er13 (K : List Value → AHeap → Prop) (n e : Int) : Prop := (PlainL [] ∧ True) ∧ K [SL G 0 4, I n, I e] (heapB G [some (.cells [] true)])
theorem start13 (s : ByteArray) (K : List Value → AHeap → Prop) (L : List Item → List AV → AHeap → Prop) : seg13 [] K L [.code (Tryz.f13.body.getD .skip)] (startF Tryz.f13 [.string s]) (heapB G [])
    = (P5 [] [] [] [] [] ∧ L t13_6 (f13a s 0 0 0 0 0 0 1) (h13 [] [] [] [] [])) := by kernel_rfl
theorem h13_6 (s : ByteArray) (no nn nt np nl : Nat) (x n : Int) (oc nc tc pc lc : List Value) (K : List Value → AHeap → Prop) (L : List Item → List AV → AHeap → Prop) : seg13 [] K L t13_6 (f13a s no nn nt np nl x n) (h13 oc nc tc pc lc)
    = (bif decide (x < (s.size : Int)) then P5 oc nc tc pc lc ∧ L t13_9 (f13b s no nn nt np nl x n x) (h13 oc nc tc pc lc)
    else P5 oc nc tc pc lc ∧ L t13_31 (f13e no nn nt np nl 0) (h13 oc nc tc pc lc)) := by kernel_rfl
abbrev lnE (l : ByteArray) : Int := w ((l.size : Int) - 1)
abbrev go22 (L : List Item → List AV → AHeap → Prop) (s : ByteArray) (no nn nt np nl : Nat) (n e : Int) (l : ByteArray) (oc nc tc pc lc : List Value) : Prop :=
  P5 oc nc tc pc lc ∧ L t13_22 (f13d s no nn nt np nl (w (e + 1)) n l) (h13 oc nc tc pc lc)
abbrev fin9 (K : List Value → AHeap → Prop) (L : List Item → List AV → AHeap → Prop) (s : ByteArray) (no nn nt np nl : Nat) (x n e : Int) (l : ByteArray) (oc nc tc pc lc : List Value) : Prop :=
  bif e == (s.size : Int) then er13 K n 4
  else bif slOk s x e then
    bif decide ((l.size : Int) > 1) then
      bif inB l (lnE l) then
        bif bt l (lnE l).toNat == 58 then
          bif decide (0 ≤ lnE l) && decide (lnE l ≤ (l.size : Int)) then
            (True ∧ True ∧ True) ∧
            bif nameR (l.extract 0 (lnE l).toNat) then P5 oc nc tc pc lc ∧ L t13_17 (f13c s no nn nt np nl (w (e + 1)) n l 0) (h13 oc nc tc pc lc)
            else go22 L s no nn nt np nl n e l oc nc tc pc lc
          else False
        else go22 L s no nn nt np nl n e l oc nc tc pc lc
      else False
    else go22 L s no nn nt np nl n e l oc nc tc pc lc
  else False
theorem h13_9 (s : ByteArray) (no nn nt np nl : Nat) (x n e : Int) (oc nc tc pc lc : List Value) (K : List Value → AHeap → Prop) (L : List Item → List AV → AHeap → Prop) : seg13 [con35n] K L t13_9 (f13b s no nn nt np nl x n e) (h13 oc nc tc pc lc)
    = (bif decide (e < (s.size : Int)) then
      bif inB s e then
        bif bt s e.toNat != 10 then P5 oc nc tc pc lc ∧ L t13_9 (f13b s no nn nt np nl x n (w (e + 1))) (h13 oc nc tc pc lc)
        else fin9 K L s no nn nt np nl x n e (s.extract x.toNat e.toNat) oc nc tc pc lc
      else False
    else fin9 K L s no nn nt np nl x n e (s.extract x.toNat e.toNat) oc nc tc pc lc) := by kernel_rfl
abbrev nmS (nn : Nat) (nc : List Value) (l : ByteArray) : List Value := (nc.drop 0).take (nn * 1) ++ [ST (l.extract 0 (lnE l).toNat)]
abbrev plS (no np : Nat) (pc : List Value) : List Value := (pc.drop 0).take (np * 1) ++ [I (no : Int)]
theorem h13_17 (s : ByteArray) (no nn nt np nl : Nat) (x n i : Int) (l : ByteArray) (oc nc tc pc lc : List Value) (K : List Value → AHeap → Prop) (L : List Item → List AV → AHeap → Prop) : seg13 [] K L t13_17 (f13c s no nn nt np nl x n l i) (h13 oc nc tc pc lc)
    = (bif decide (i < (nn : Int)) then
      bif decide (0 ≤ i) && decide (i < (nn : Int)) then
      bif okS (nth nc (0 + i.toNat * 1)) then
      bif decide (0 ≤ lnE l) && decide (lnE l ≤ (l.size : Int)) then
      bif eqS (Agm.strO (nth nc (0 + i.toNat * 1))) (l.extract 0 (lnE l).toNat) then er13 K n 9
      else P5 oc nc tc pc lc ∧ L t13_17 (f13c s no nn nt np nl x n l (w (i + 1))) (h13 oc nc tc pc lc)
      else False
      else False
      else False
    else bif decide (0 ≤ lnE l) && decide (lnE l ≤ (l.size : Int)) then
      bif room (nn + 1) 16 then
      bif (0 + nn * 1).ble nc.length then
      bif room (np + 1) 8 then
      bif (0 + np * 1).ble pc.length then
        P5 oc (nmS nn nc l) tc (plS no np pc) lc ∧ L t13_6 (f13a s no (nn + 1) nt (np + 1) nl x (w (n + 1))) (h13 oc (nmS nn nc l) tc (plS no np pc) lc)
      else False
      else False
      else False
      else False
      else False) := by kernel_rfl
abbrev outS (no : Nat) (oc : List Value) (r : InsR) : List Value := (oc.drop 0).take (no * 4) ++ insC [r.x]
abbrev toS (nt : Nat) (tc : List Value) (r : InsR) : List Value := (tc.drop 0).take (nt * 1) ++ [ST r.to]
abbrev liS (nl : Nat) (lc : List Value) (n : Int) : List Value := (lc.drop 0).take (nl * 1) ++ [I n]
theorem h13_22 (s : ByteArray) (no nn nt np nl : Nat) (x n : Int) (l : ByteArray) (oc nc tc pc lc : List Value) (K : List Value → AHeap → Prop) (L : List Item → List AV → AHeap → Prop) : seg13 [con36r, con37r] K L t13_22 (f13d s no nn nt np nl x n l) (h13 oc nc tc pc lc)
    = ((True ∧ True ∧ l.size ≤ 1000000) ∧
      bif !(readR (splitR l)).ok then er13 K n 4
      else (True ∧ True ∧ True) ∧
      bif !right (readR (splitR l)).x then er13 K n 11
      else bif (no : Int) == 128 then er13 K n 10
      else bif room (no + 1) 32 then
      bif (0 + no * 4).ble oc.length then
      bif room (nt + 1) 16 then
      bif (0 + nt * 1).ble tc.length then
      bif room (nl + 1) 8 then
      bif (0 + nl * 1).ble lc.length then
        P5 (outS no oc (readR (splitR l))) nc (toS nt tc (readR (splitR l))) pc (liS nl lc n) ∧ L t13_6 (f13a s (no + 1) nn (nt + 1) np (nl + 1) x (w (n + 1))) (h13 (outS no oc (readR (splitR l))) nc (toS nt tc (readR (splitR l))) pc (liS nl lc n))
      else False
      else False
      else False
      else False
      else False
      else False) := by kernel_rfl
theorem h13_31 (no nn nt np nl : Nat) (tu : Int) (oc nc tc pc lc : List Value) (K : List Value → AHeap → Prop) (L : List Item → List AV → AHeap → Prop) : seg13 [] K L t13_31 (f13e no nn nt np nl tu) (h13 oc nc tc pc lc)
    = (bif decide (tu < 2) then P5 oc nc tc pc lc ∧ L t13_34 (f13f no nn nt np nl tu 0) (h13 oc nc tc pc lc)
    else (PlainL oc ∧ True) ∧ K [SL G no 4, I 0, I 0] (heapB G [some (.cells oc true)])) := by kernel_rfl
theorem h13_34 (no nn nt np nl : Nat) (tu i : Int) (oc nc tc pc lc : List Value) (K : List Value → AHeap → Prop) (L : List Item → List AV → AHeap → Prop) : seg13 [] K L t13_34 (f13f no nn nt np nl tu i) (h13 oc nc tc pc lc)
    = (bif decide (i < (no : Int)) then
      bif decide (0 ≤ i) && decide (i < (nt : Int)) then
      bif okS (nth tc (0 + i.toNat * 1)) then
      bif eqS (Agm.strO (nth tc (0 + i.toNat * 1))) noS then P5 oc nc tc pc lc ∧ L t13_34 (f13f no nn nt np nl tu (w (i + 1))) (h13 oc nc tc pc lc)
      else P5 oc nc tc pc lc ∧ L t13_39 (f13g no nn nt np nl tu i (-1) 0) (h13 oc nc tc pc lc)
      else False
      else False
    else P5 oc nc tc pc lc ∧ L t13_31 (f13e no nn nt np nl (w (tu + 1))) (h13 oc nc tc pc lc)) := by kernel_rfl
theorem h13_39 (no nn nt np nl : Nat) (tu i p k : Int) (oc nc tc pc lc : List Value) (K : List Value → AHeap → Prop) (L : List Item → List AV → AHeap → Prop) : seg13 [] K L t13_39 (f13g no nn nt np nl tu i p k) (h13 oc nc tc pc lc)
    = (bif decide (k < (nn : Int)) then
      bif decide (0 ≤ k) && decide (k < (nn : Int)) then
      bif okS (nth nc (0 + k.toNat * 1)) then
      bif decide (0 ≤ i) && decide (i < (nt : Int)) then
      bif okS (nth tc (0 + i.toNat * 1)) then
      bif eqS (Agm.strO (nth nc (0 + k.toNat * 1))) (Agm.strO (nth tc (0 + i.toNat * 1))) then
        bif decide (0 ≤ k) && decide (k < (np : Int)) then
        bif okI .i64 (nth pc (0 + k.toNat * 1)) then
          P5 oc nc tc pc lc ∧ L t13_39 (f13g no nn nt np nl tu i (intO (nth pc (0 + k.toNat * 1))) (w (k + 1))) (h13 oc nc tc pc lc)
        else False
        else False
      else P5 oc nc tc pc lc ∧ L t13_39 (f13g no nn nt np nl tu i p (w (k + 1))) (h13 oc nc tc pc lc)
      else False
      else False
      else False
      else False
    else P5 oc nc tc pc lc ∧ L t13_43 (f13h no nn nt np nl tu i p) (h13 oc nc tc pc lc)) := by kernel_rfl
abbrev set13 (oc : List Value) (i p : Int) : List Value := splice oc (at4 i 3) [I p]
theorem h13_43 (no nn nt np nl : Nat) (tu i p : Int) (oc nc tc pc lc : List Value) (K : List Value → AHeap → Prop) (L : List Item → List AV → AHeap → Prop) : seg13 [con37r] K L t13_43 (f13h no nn nt np nl tu i p) (h13 oc nc tc pc lc)
    = (bif decide (p < 0) then
      bif decide (0 ≤ i) && decide (i < (nl : Int)) then
      bif okI .i64 (nth lc (0 + i.toNat * 1)) then er13 K (intO (nth lc (0 + i.toNat * 1))) 8
      else False
      else False
    else bif decide (0 ≤ i) && decide (i < (no : Int)) then
      bif (at4 i 3 + 1).ble oc.length then
      bif tu == 1 then
        bif decide (0 ≤ i) && decide (i < (no : Int)) then
        bif ok4 (set13 oc i p) i then
          (True ∧ True ∧ True) ∧
          bif !r4 (set13 oc i p) i then
            bif decide (0 ≤ i) && decide (i < (nl : Int)) then
            bif okI .i64 (nth lc (0 + i.toNat * 1)) then er13 K (intO (nth lc (0 + i.toNat * 1))) 11
            else False
            else False
          else P5 (set13 oc i p) nc tc pc lc ∧ L t13_34 (f13f no nn nt np nl tu (w (i + 1))) (h13 (set13 oc i p) nc tc pc lc)
        else False
        else False
      else P5 (set13 oc i p) nc tc pc lc ∧ L t13_34 (f13f no nn nt np nl tu (w (i + 1))) (h13 (set13 oc i p) nc tc pc lc)
      else False
      else False) := by kernel_rfl
end
section
open Go.Agm
variable {w0 : World}
def inC (l : List Int) : List Value := l.map I
theorem inC_len (l : List Int) : (inC l).length = l.length := List.length_map _
theorem plain_inC (l : List Int) : PlainL (inC l) := by
  intro x hx
  obtain ⟨y, _, rfl⟩ := List.mem_map.1 hx
  rfl
theorem nth_in {l : List Int} {i : Nat} (h : i < l.length) : nth (inC l) i = some (I l[i]) := by
  rw [nth_eq, inC, List.getElem?_map, List.getElem?_eq_getElem h]; rfl
/-- What the document's Parse has read. -/
structure Ds where
  out : List Ins
  names : List ByteArray
  to : List ByteArray
  places : List Int
  lines : List Int
structure DsOk (d : Ds) (n : Nat) : Prop where
  len : d.out.length ≤ 128
  to' : d.to.length = d.out.length
  li : d.lines.length = d.out.length
  pl : d.places.length = d.names.length
  nm : d.names.length ≤ n
abbrev nm13 (l : ByteArray) : ByteArray := l.extract 0 (l.size - 1)
/-- Is a line a name? -/
def isN13 (l : ByteArray) : Bool := decide (1 < l.size) && (bt l (l.size - 1) == 58) && nameR (nm13 l)
def lineR (d : Ds) (n : Int) (l : ByteArray) : Except Int Ds :=
  bif isN13 l then
    bif d.names.any (eqS · (nm13 l)) then .error 9 else .ok { d with names := d.names ++ [nm13 l], places := d.places ++ [(d.out.length : Int)] }
  else bif !(readR (splitR l)).ok then .error 4
  else bif !right (readR (splitR l)).x then .error 11
  else bif (d.out.length : Int) == 128 then .error 10
  else .ok { d with out := d.out ++ [(readR (splitR l)).x], to := d.to ++ [(readR (splitR l)).to], lines := d.lines ++ [n] }
/-- The last place of a name. -/
def plR : List ByteArray → List Int → ByteArray → Int → Int
  | a :: r, p :: q, t, v => plR r q t (bif eqS a t then p else v)
  | _, _, _, v => v
/-- A round over the jumps. -/
def rndR (pl : ByteArray → Int) (u : Bool) : List (Ins × ByteArray × Int) → Except (Int × Int) (List Ins)
  | [] => .ok []
  | (x, t, l) :: r => bif eqS t noS then (match rndR pl u r with
      | .ok o => .ok (x :: o)
      | .error e => .error e)
    else bif decide (pl t < 0) then .error (l, 8)
    else bif u && !right { x with imm := pl t } then .error (l, 11)
    else match rndR pl u r with
      | .ok o => .ok ({ x with imm := pl t } :: o)
      | .error e => .error e
def zip3 : List Ins → List ByteArray → List Int → List (Ins × ByteArray × Int)
  | x :: r, t :: q, l :: k => (x, t, l) :: zip3 r q k
  | _, _, _ => []
abbrev plD (d : Ds) (t : ByteArray) : Int := plR d.names d.places t (-1)
def resR (d : Ds) : Option (Int × Int) × List Ins := match rndR (plD d) false (zip3 d.out d.to d.lines) with
  | .error e => (some e, [])
  | .ok o => match rndR (plD d) true (zip3 o d.to d.lines) with
    | .error e => (some e, [])
    | .ok o2 => (none, o2)
def cutL : List UInt8 → Option (List UInt8 × List UInt8)
  | [] => none
  | c :: r => if c = 10 then some ([], r) else match cutL r with
    | some p => some (c :: p.1, p.2)
    | none => none
def parR : Nat → Ds → Nat → List UInt8 → Option (Int × Int) × List Ins
  | 0, _, _, _ => (none, [])
  | m + 1, d, n, b => match b with
    | [] => resR d
    | c :: r => match cutL (c :: r) with
      | none => (some ((n : Int), 4), [])
      | some p => match lineR d n ⟨⟨p.1⟩⟩ with
        | .error e => (some ((n : Int), e), [])
        | .ok d' => parR m d' (n + 1) p.2
def parseR (s : ByteArray) : Option (Int × Int) × List Ins := parR (s.size + 1) ⟨[], [], [], [], []⟩ 1 s.data.toList
abbrev Sem13 (w0 : World) (K : List Value → AHeap → Prop) (t : List Item) (fr : List AV) (h : AHeap) : Prop := Agm.Sem Tryz.prog w0 (Tryz.prog.globals.size + nt13.flags.length) Tryz.f13 (retT Tryz.prog.globals.size nt13 K) t fr h
theorem leaf13 {K : List Value → AHeap → Prop} : ∀ t fr h, (match t with
    | .code (.region _ _ _) :: _ => canonT G nt13A (Sem13 w0 K t) fr h
    | _ => False) → Sem13 w0 K t fr h := by
  intro t fr h e
  split at e
  · exact canonT_semN (nt := nt13A) rfl e
  · exact e.elim
theorem via13 {cs : List Con} (hc : ∀ c ∈ cs, c.ok Tryz.prog w0) {K : List Value → AHeap → Prop} {t : List Item} {fr : List AV} {h : AHeap} {R : Prop} (ev : seg13 cs K (Sem13 w0 K) t fr h = R) (r : R) : Sem13 w0 K t fr h :=
  seg_semI3 (F := ft13) mixed (callsOf_ok hc) leaf13 cut13 20 200 (ev.mpr r)
noncomputable abbrev hD (d : Ds) : AHeap := h13 (insC d.out) (wsC d.names) (wsC d.to) (inC d.places) (inC d.lines)
theorem p5 (o : List Ins) (n t : List ByteArray) (p l : List Int) : P5 (insC o) (wsC n) (wsC t) (inC p) (inC l) := ⟨plain_insC o, plain_ws n, plain_ws t, plain_inC p, plain_inC l, trivial⟩
abbrev KE (K : List Value → AHeap → Prop) (n e : Int) : Prop := K [SL G 0 4, I n, I e] (heapB G [some (.cells [] true)])
theorem er_ok {K : List Value → AHeap → Prop} {n e : Int} (h : KE K n e) : er13 K n e := ⟨⟨plain_insC [], trivial⟩, h⟩
section
variable {K : List Value → AHeap → Prop} {s : ByteArray}
noncomputable abbrev S6 (w0 : World) (K : List Value → AHeap → Prop) (s : ByteArray) (d : Ds) (x n : Nat) : Prop :=
  Sem13 w0 K t13_6 (f13a s d.out.length d.names.length d.to.length d.places.length d.lines.length x n) (hD d)
theorem take_ws (l : List ByteArray) : ((wsC l).drop 0).take (l.length * 1) = wsC l := by rw [List.drop_zero, List.take_of_length_le (by rw [wsC_len]; omega)]
theorem take_in (l : List Int) : ((inC l).drop 0).take (l.length * 1) = inC l := by rw [List.drop_zero, List.take_of_length_le (by rw [inC_len]; omega)]
theorem wsC_app (l : List ByteArray) (x : ByteArray) : wsC l ++ [ST x] = wsC (l ++ [x]) := by simp [wsC]
theorem inC_app (l : List Int) (x : Int) : inC l ++ [I x] = inC (l ++ [x]) := by simp [inC]
theorem ws_read {l : List ByteArray} {i : Nat} (h : i < l.length) : okS (nth (wsC l) (0 + i * 1)) = true ∧ Agm.strO (nth (wsC l) (0 + i * 1)) = l[i] := by
  rw [Nat.zero_add, Nat.mul_one, nth_ws h]; exact ⟨rfl, rfl⟩
theorem in_read {l : List Int} {i : Nat} (h : i < l.length) : okI .i64 (nth (inC l) (0 + i * 1)) = true ∧ intO (nth (inC l) (0 + i * 1)) = l[i] := by
  rw [Nat.zero_add, Nat.mul_one, nth_in h]; exact ⟨rfl, rfl⟩
theorem w_succ {i : Nat} (h : i ≤ 1000000) : w ((i : Int) + 1) = ((i + 1 : Nat) : Int) := by rw [w_id (by omega) (by omega)]; omega
theorem lnE_of {l : ByteArray} (h : 1 ≤ l.size) (h2 : l.size ≤ 1000000) : lnE l = ((l.size - 1 : Nat) : Int) := by
  simp only [lnE]; rw [w_id (by omega) (by omega)]; omega
/-- A name that is told again, or a new one. -/
theorem loop17 {d : Ds} {x n : Nat} {l : ByteArray} (hd : DsOk d n) (hn : n ≤ 1000000) (h1 : 1 ≤ l.size) (h2 : l.size ≤ 1000000) : ∀ (b : List ByteArray) (i : Nat), d.names.drop i = b → i ≤ d.names.length →
    (b.any (eqS · (nm13 l)) = true → KE K n 9) → (b.any (eqS · (nm13 l)) = false → S6 w0 K s { d with names := d.names ++ [nm13 l], places := d.places ++ [(d.out.length : Int)] } x (n + 1)) →
    Sem13 w0 K t13_17 (f13c s d.out.length d.names.length d.to.length d.places.length d.lines.length x n l i) (hD d) := by
  have hE := lnE_of h1 h2
  have hnm := hd.nm
  have hpl := hd.pl
  have hq : (decide (0 ≤ lnE l) && decide (lnE l ≤ (l.size : Int))) = true := by
    rw [hE, Bool.and_eq_true, decide_eq_true_eq, decide_eq_true_eq]; omega
  intro b
  induction b with
  | nil =>
    intro i hb hi hK hS
    refine via13 okNo (h13_17 _ _ _ _ _ _ _ _ i l _ _ _ _ _ K (Sem13 w0 K)) ?_
    have hge : d.names.length ≤ i := by
      have := congrArg List.length hb
      simp only [List.length_drop, List.length_nil] at this
      omega
    rw [decide_eq_false (show ¬ (i : Int) < (d.names.length : Int) by omega), cond_false, hq, cond_true]
    rw [show room (d.names.length + 1) 16 = true from Nat.ble_eq_true_of_le (by omega), Nat.ble_eq_true_of_le (show 0 + d.names.length * 1 ≤ (wsC d.names).length by rw [wsC_len]; omega),
      show room (d.places.length + 1) 8 = true from Nat.ble_eq_true_of_le (by omega), Nat.ble_eq_true_of_le (show 0 + d.places.length * 1 ≤ (inC d.places).length by rw [inC_len]; omega)]
    have e1 : nmS d.names.length (wsC d.names) l = wsC (d.names ++ [nm13 l]) := by
      simp only [nmS]; rw [take_ws, hE, Int.toNat_natCast, wsC_app]
    have e2 : plS d.out.length d.places.length (inC d.places) = inC (d.places ++ [(d.out.length : Int)]) := by
      simp only [plS]; rw [take_in, inC_app]
    rw [e1, e2, w_succ (by omega)]
    have := hS (by simp)
    simp only [S6, List.length_append, List.length_singleton] at this
    exact ⟨p5 _ _ _ _ _, this⟩
  | cons a r ih =>
    intro i hb hi hK hS
    refine via13 okNo (h13_17 _ _ _ _ _ _ _ _ i l _ _ _ _ _ K (Sem13 w0 K)) ?_
    have hlt : i < d.names.length := by
      have := congrArg List.length hb
      simp only [List.length_drop, List.length_cons] at this
      omega
    have hf : d.names[i] = a ∧ d.names.drop (i + 1) = r := by
      rw [List.drop_eq_getElem_cons hlt] at hb
      injection hb with h1 h2
      exact ⟨h1, h2⟩
    obtain ⟨g1, g2⟩ := ws_read hlt
    rw [decide_eq_true (show (i : Int) < (d.names.length : Int) by omega), decide_eq_true (show (0 : Int) ≤ (i : Int) by omega), Int.toNat_natCast, g1, g2, hq, hf.1, hE, Int.toNat_natCast, w_succ (by omega)]
    simp only [Bool.true_and, cond_true]
    simp only [List.any_cons] at hK hS
    cases h : eqS a (nm13 l) with
    | true =>
      rw [h] at hK
      exact er_ok (hK rfl)
    | false =>
      rw [h] at hK hS
      exact ⟨p5 _ _ _ _ _, ih (i + 1) hf.2 (by omega) hK hS⟩
theorem ok22r : ∀ c ∈ [con36r, con37r], c.ok Tryz.prog w0 := fun c hc => by
  simp only [List.mem_cons, List.not_mem_nil, or_false] at hc
  rcases hc with rfl | rfl
  · exact con36r_ok
  · exact con37r_ok
theorem ok35 : ∀ c ∈ [con35n], c.ok Tryz.prog w0 := fun c hc => by
  simp only [List.mem_cons, List.not_mem_nil, or_false] at hc
  subst hc
  exact con35n_ok
/-- A line that is no name. -/
theorem ins22 {d : Ds} {x n : Nat} {l : ByteArray} (hd : DsOk d n) (hn : n ≤ 1000000) (h2 : l.size ≤ 1000000) (hN : isN13 l = false) (hK : ∀ e, lineR d n l = .error e → KE K n e) (hS : ∀ d', lineR d n l = .ok d' → S6 w0 K s d' x (n + 1)) :
    Sem13 w0 K t13_22 (f13d s d.out.length d.names.length d.to.length d.places.length d.lines.length x n l) (hD d) := by
  refine via13 ok22r (h13_22 _ _ _ _ _ _ _ _ l _ _ _ _ _ K (Sem13 w0 K)) ⟨⟨trivial, trivial, h2⟩, ?_⟩
  unfold lineR at hK hS
  rw [hN] at hK hS
  simp only [cond_false] at hK hS
  have hlen := hd.len
  have hto := hd.to'
  have hli := hd.li
  cases h1 : (readR (splitR l)).ok with
  | false =>
    rw [h1] at hK
    simp only [Bool.not_false, cond_true] at hK ⊢
    exact er_ok (hK 4 rfl)
  | true =>
    rw [h1] at hK hS
    simp only [Bool.not_true, cond_false] at hK hS ⊢
    refine ⟨⟨trivial, trivial, trivial⟩, ?_⟩
    cases h3 : right (readR (splitR l)).x with
    | false =>
      rw [h3] at hK
      simp only [Bool.not_false, cond_true] at hK ⊢
      exact er_ok (hK 11 rfl)
    | true =>
      rw [h3] at hK hS
      simp only [Bool.not_true, cond_false] at hK hS ⊢
      cases h4 : (d.out.length : Int) == 128 with
      | true =>
        rw [h4] at hK
        exact er_ok (hK 10 rfl)
      | false =>
        rw [h4] at hS
        have := hS _ rfl
        simp only [S6, List.length_append, List.length_singleton] at this
        rw [room_ok (show d.out.length + 1 ≤ 1000 by omega), Nat.ble_eq_true_of_le (show 0 + d.out.length * 4 ≤ (insC d.out).length by rw [insC_len]; omega),
          show room (d.to.length + 1) 16 = true from Nat.ble_eq_true_of_le (by omega), Nat.ble_eq_true_of_le (show 0 + d.to.length * 1 ≤ (wsC d.to).length by rw [wsC_len]; omega),
          show room (d.lines.length + 1) 8 = true from Nat.ble_eq_true_of_le (by omega), Nat.ble_eq_true_of_le (show 0 + d.lines.length * 1 ≤ (inC d.lines).length by rw [inC_len]; omega)]
        have e1 : outS d.out.length (insC d.out) (readR (splitR l)) = insC (d.out ++ [(readR (splitR l)).x]) := by simp only [outS]; rw [take_insC, insC_app]
        have e2 : toS d.to.length (wsC d.to) (readR (splitR l)) = wsC (d.to ++ [(readR (splitR l)).to]) := by simp only [toS]; rw [take_ws, wsC_app]
        have e3 : liS d.lines.length (inC d.lines) (n : Int) = inC (d.lines ++ [(n : Int)]) := by simp only [liS]; rw [take_in, inC_app]
        rw [e1, e2, e3, w_succ (by omega)]
        exact ⟨p5 _ _ _ _ _, this⟩
end
end
section
open Go.Agm
variable {w0 : World}
section
variable {K : List Value → AHeap → Prop} {s : ByteArray}
theorem ba_eq' {a b : ByteArray} (h : a.data.toList = b.data.toList) : a = b := ByteArray.ext (Array.toList_inj.1 h)
theorem cutL_some : ∀ {b a r : List UInt8}, cutL b = some (a, r) → b = a ++ 10 :: r
  | [], _, _, h => by simp [cutL] at h
  | c :: q, a, r, h => by
    unfold cutL at h
    split at h
    · rename_i hc
      injection h with h
      injection h with h1 h2
      subst h1 h2
      rw [hc]; rfl
    · split at h
      · rename_i p hp
        injection h with h
        injection h with h1 h2
        subst h1 h2
        rw [cutL_some (a := p.1) (r := p.2) hp]; rfl
      · simp at h
theorem line_of {x : Nat} {a r : List UInt8} (h : s.data.toList.drop x = a ++ r) : s.extract x (x + a.length) = ⟨⟨a⟩⟩ := by
  refine ba_eq' ?_
  rw [Lib.extract_data, h, show x + a.length - x = a.length by omega, List.take_left]
theorem isN_parts {l : ByteArray} (h1 : 1 < l.size) (h2 : l.size ≤ 1000000) : inB l (lnE l) = true ∧ bt l (lnE l).toNat = bt l (l.size - 1) ∧ (decide (0 ≤ lnE l) && decide (lnE l ≤ (l.size : Int))) = true ∧ l.extract 0 (lnE l).toNat = nm13 l := by
  have hE := lnE_of (l := l) (by omega) h2
  rw [hE]
  refine ⟨?_, by rw [Int.toNat_natCast], ?_, by rw [Int.toNat_natCast]⟩
  · simp only [inB, Bool.and_eq_true, decide_eq_true_eq]; omega
  · rw [Bool.and_eq_true, decide_eq_true_eq, decide_eq_true_eq]; omega
/-- A line's end. -/
theorem fin9_ok {d : Ds} {x n e : Nat} {l : ByteArray} (hd : DsOk d n) (hn : n ≤ 1000000) (hs : s.size ≤ 1000000) (hl : s.extract x e = l) (hx : x ≤ e) (he : e < s.size)
    (hK : ∀ er, lineR d n l = .error er → KE K n er) (hS : ∀ d', lineR d n l = .ok d' → S6 w0 K s d' (e + 1) (n + 1)) :
    fin9 K (Sem13 w0 K) s d.out.length d.names.length d.to.length d.places.length d.lines.length x n e (s.extract (x : Int).toNat (e : Int).toNat) (insC d.out) (wsC d.names) (wsC d.to) (inC d.places) (inC d.lines) := by
  rw [Int.toNat_natCast, Int.toNat_natCast, hl]
  have hls : l.size ≤ 1000000 := by rw [← hl, ByteArray.size_extract]; omega
  simp only [fin9, go22]
  rw [show ((e : Int) == (s.size : Int)) = false by rw [beq_eq_false_iff_ne]; omega, show slOk s (x : Int) (e : Int) = true by
    simp only [slOk, Bool.and_eq_true, decide_eq_true_eq]; omega, w_succ (by omega)]
  simp only [cond_false, cond_true]
  have no : isN13 l = false → P5 (insC d.out) (wsC d.names) (wsC d.to) (inC d.places) (inC d.lines) ∧ Sem13 w0 K t13_22 (f13d s d.out.length d.names.length d.to.length d.places.length d.lines.length ((e + 1 : Nat) : Int) n l) (hD d) :=
    fun h => ⟨p5 _ _ _ _ _, ins22 hd hn hls h hK hS⟩
  by_cases h1 : 1 < l.size
  · rw [decide_eq_true (show (l.size : Int) > 1 by omega)]
    obtain ⟨g1, g2, g3, g4⟩ := isN_parts h1 hls
    rw [g1, g2, g3, g4]
    simp only [cond_true]
    cases h2 : bt l (l.size - 1) == 58 with
    | false => exact no (by simp only [isN13, h2, Bool.and_false, Bool.false_and])
    | true =>
      refine ⟨⟨trivial, trivial, trivial⟩, ?_⟩
      cases h3 : nameR (nm13 l) with
      | false => exact no (by simp only [isN13, h3, Bool.and_false])
      | true =>
        have hN : isN13 l = true := by simp only [isN13, h2, h3, decide_eq_true h1, Bool.and_true]
        refine ⟨p5 _ _ _ _ _, loop17 hd hn (by omega) hls d.names 0 rfl (Nat.zero_le _) (fun h => hK 9 ?_) (fun h => hS _ ?_)⟩
        · unfold lineR; rw [hN, h]; rfl
        · unfold lineR; rw [hN, h]; rfl
  · rw [decide_eq_false (show ¬ (l.size : Int) > 1 by omega)]
    exact no (by simp only [isN13, decide_eq_false h1, Bool.false_and])
theorem loop9 {d : Ds} {x n : Nat} (hs : s.size ≤ 1000000) : ∀ (b : List UInt8) (e : Nat), s.data.toList.drop e = b → x ≤ e → e ≤ s.size →
    (cutL b = none → KE K n 4) → (∀ a r, cutL b = some (a, r) → e + a.length < s.size → fin9 K (Sem13 w0 K) s d.out.length d.names.length d.to.length d.places.length d.lines.length x n ((e + a.length : Nat) : Int) (s.extract (x : Int).toNat ((e + a.length : Nat) : Int).toNat) (insC d.out) (wsC d.names) (wsC d.to) (inC d.places) (inC d.lines)) →
    Sem13 w0 K t13_9 (f13b s d.out.length d.names.length d.to.length d.places.length d.lines.length x n e) (hD d) := by
  intro b
  induction b with
  | nil =>
    intro e hb hx he hK hS
    refine via13 ok35 (h13_9 _ _ _ _ _ _ _ _ e _ _ _ _ _ K (Sem13 w0 K)) ?_
    have hge : s.size ≤ e := by
      rw [Lib.size_eq]
      have := congrArg List.length hb
      simp only [List.length_drop, List.length_nil] at this
      omega
    rw [decide_eq_false (show ¬ (e : Int) < (s.size : Int) by omega), cond_false]
    simp only [fin9]
    rw [show ((e : Int) == (s.size : Int)) = true by rw [beq_iff_eq]; omega]
    exact er_ok (hK rfl)
  | cons c r ih =>
    intro e hb hx he hK hS
    refine via13 ok35 (h13_9 _ _ _ _ _ _ _ _ e _ _ _ _ _ K (Sem13 w0 K)) ?_
    obtain ⟨h1, h2, h3, h4⟩ := bt_byte hb
    rw [decide_eq_true (show (e : Int) < (s.size : Int) by omega), show inB s e = true by simp only [inB, Bool.and_eq_true, decide_eq_true_eq]; omega, cond_true, cond_true]
    rw [show bt s (e : Int).toNat = (c.toNat : Int) by rw [Int.toNat_natCast]; exact h2]
    have e10 : ((c.toNat : Int) == 10) = decide (c = 10) := byte_eq c 10 (by decide)
    by_cases hc : c = 10
    · rw [bne, e10, decide_eq_true hc, Bool.not_true, cond_false]
      have := hS [] r (by simp [cutL, hc]) (by simpa using h1)
      simpa using this
    · rw [bne, e10, decide_eq_false hc, Bool.not_false, cond_true, w_succ (by omega)]
      refine ⟨p5 _ _ _ _ _, ih (e + 1) h4 (by omega) (by omega) (fun h => hK ?_) (fun a q h hq => ?_)⟩
      · simp [cutL, hc, h]
      · have := hS (c :: a) q (by simp [cutL, hc, h]) (by simp only [List.length_cons]; omega)
        rw [show e + (c :: a).length = e + 1 + a.length by simp only [List.length_cons]; omega] at this
        exact this
theorem any_name {d d' : Ds} {n : Nat} {l : ByteArray} (hd : DsOk d n) (h : lineR d n l = .ok d') : DsOk d' (n + 1) := by
  unfold lineR at h
  have h0 := hd.len
  have h1 := hd.to'
  have h2 := hd.li
  have h3 := hd.pl
  have h4 := hd.nm
  cases hN : isN13 l with
  | true =>
    rw [hN, cond_true] at h
    cases ha : d.names.any (eqS · (nm13 l)) with
    | true => rw [ha] at h; simp at h
    | false =>
      rw [ha, cond_false] at h
      injection h with h
      subst h
      exact ⟨h0, h1, h2, by simp only [List.length_append, List.length_singleton]; omega, by simp only [List.length_append, List.length_singleton]; omega⟩
  | false =>
    rw [hN, cond_false] at h
    cases q1 : (readR (splitR l)).ok with
    | false => rw [q1] at h; simp at h
    | true => cases q2 : right (readR (splitR l)).x with
      | false => rw [q1, q2] at h; simp at h
      | true => cases q3 : (d.out.length : Int) == 128 with
        | true => rw [q1, q2, q3] at h; simp at h
        | false =>
          rw [q1, q2, q3] at h
          simp only [Bool.not_true, cond_false] at h
          injection h with h
          subst h
          rw [beq_eq_false_iff_ne] at q3
          refine ⟨?_, ?_, ?_, h3, show d.names.length ≤ n + 1 by omega⟩ <;> simp only [List.length_append, List.length_singleton] <;> omega
abbrev KP13 (K : List Value → AHeap → Prop) (r : Option (Int × Int) × List Ins) : Prop := K [SL G r.2.length 4, I (r.1.getD (0, 0)).1, I (r.1.getD (0, 0)).2] (heapB G [some (.cells (insC r.2) true)])
noncomputable abbrev S31 (w0 : World) (K : List Value → AHeap → Prop) (d : Ds) (tu : Nat) : Prop :=
  Sem13 w0 K t13_31 (f13e d.out.length d.names.length d.to.length d.places.length d.lines.length tu) (hD d)
theorem loop6 (hs : s.size ≤ 100000) (hR : ∀ d n, DsOk d n → n ≤ 1000000 → KP13 K (resR d) → S31 w0 K d 0) : ∀ (m : Nat) (b : List UInt8) (x n : Nat) (d : Ds), s.data.toList.drop x = b → b.length < m → x ≤ s.size → DsOk d n → n ≤ x + 1 → KP13 K (parR m d n b) → S6 w0 K s d x n := by
  intro m
  induction m with
  | zero => intro b x n d _ h; omega
  | succ m ih =>
    intro b x n d hb hm hx hd hn hK
    refine via13 okNo (h13_6 _ _ _ _ _ _ x n _ _ _ _ _ K (Sem13 w0 K)) ?_
    have hlen : b.length = s.size - x := by rw [← hb, List.length_drop, ← Lib.size_eq]
    unfold parR at hK
    match b, hb, hm, hlen, hK with
    | [], hb, hm, hlen, hK =>
      simp only [List.length_nil] at hlen
      rw [decide_eq_false (show ¬ (x : Int) < (s.size : Int) by omega), cond_false]
      exact ⟨p5 _ _ _ _ _, hR d n hd (by omega) hK⟩
    | c :: r, hb, hm, hlen, hK =>
      simp only [List.length_cons] at hlen hm
      rw [decide_eq_true (show (x : Int) < (s.size : Int) by omega), cond_true]
      refine ⟨p5 _ _ _ _ _, loop9 (by omega) (c :: r) x hb (Nat.le_refl _) hx (fun h => ?_) (fun a q h hq => ?_)⟩
      · simp only [h] at hK
        exact hK
      · have hsp := cutL_some h
        simp only [h] at hK
        refine fin9_ok hd (by omega) (by omega) (line_of (r := 10 :: q) (by rw [hb, hsp])) (by omega) hq (fun er he => ?_) (fun d' he => ?_)
        · rw [he] at hK
          exact hK
        · rw [he] at hK
          have hq2 : s.data.toList.drop (x + a.length + 1) = q := by
            rw [Nat.add_assoc, ← List.drop_drop, hb, hsp, ← List.drop_drop, List.drop_left]; rfl
          have hl2 := congrArg List.length hsp
          simp only [List.length_cons, List.length_append] at hl2
          exact ih q (x + a.length + 1) (n + 1) d' hq2 (by omega) (by omega) (any_name hd he) (by omega) hK
end
end
section
open Go.Agm
variable {w0 : World}
theorem setI_at : ∀ (pre : List Ins) (x : Ins) (post : List Ins) (v : Int), setI (pre ++ x :: post) pre.length v = pre ++ { x with imm := v } :: post
  | [], _, _, _ => rfl
  | y :: r, x, post, v => by
    simp only [List.cons_append, List.length_cons, setI]
    rw [setI_at r x post v]
theorem zip3_1 : ∀ {a : List Ins} {b : List ByteArray} {c : List Int}, b.length = a.length → c.length = a.length → (zip3 a b c).map (·.1) = a ∧ (zip3 a b c).map (·.2.1) = b ∧ (zip3 a b c).map (·.2.2) = c
  | [], [], [], _, _ => ⟨rfl, rfl, rfl⟩
  | x :: a, y :: b, z :: c, h1, h2 => by
    obtain ⟨g1, g2, g3⟩ := zip3_1 (a := a) (b := b) (c := c) (by simpa using h1) (by simpa using h2)
    simp only [zip3, List.map_cons, g1, g2, g3]
    exact ⟨trivial, trivial, trivial⟩
theorem rnd_len {pl : ByteArray → Int} {u : Bool} : ∀ {tr : List (Ins × ByteArray × Int)} {o : List Ins}, rndR pl u tr = .ok o → o.length = tr.length
  | [], o, h => by
    simp only [rndR] at h
    injection h with h
    subst h; rfl
  | (x, t, l) :: r, o, h => by
    simp only [rndR] at h
    cases h1 : eqS t noS with
    | true =>
      rw [h1, cond_true] at h
      cases h2 : rndR pl u r with
      | error e => rw [h2] at h; simp at h
      | ok o' =>
        rw [h2] at h
        injection h with h
        subst h
        simp [rnd_len h2]
    | false =>
      rw [h1, cond_false] at h
      cases h3 : decide (pl t < 0) with
      | true => rw [h3] at h; simp at h
      | false =>
        rw [h3, cond_false] at h
        cases h4 : u && !right { x with imm := pl t } with
        | true => rw [h4] at h; simp at h
        | false =>
          rw [h4, cond_false] at h
          cases h2 : rndR pl u r with
          | error e => rw [h2] at h; simp at h
          | ok o' =>
            rw [h2] at h
            injection h with h
            subst h
            simp [rnd_len h2]
section
variable {K : List Value → AHeap → Prop}
theorem loop39 {d : Ds} {tu i : Nat} (hi : i < d.to.length) (hk : d.names.length ≤ 1000000) (hp : d.places.length = d.names.length) : ∀ (ns : List ByteArray) (ps : List Int) (k : Nat) (v : Int), d.names.drop k = ns → d.places.drop k = ps → k ≤ d.names.length →
    Sem13 w0 K t13_43 (f13h d.out.length d.names.length d.to.length d.places.length d.lines.length tu i (plR ns ps d.to[i] v)) (hD d) →
    Sem13 w0 K t13_39 (f13g d.out.length d.names.length d.to.length d.places.length d.lines.length tu i v k) (hD d) := by
  intro ns
  induction ns with
  | nil =>
    intro ps k v hn hps hkk hS
    refine via13 okNo (h13_39 _ _ _ _ _ tu i v k _ _ _ _ _ K (Sem13 w0 K)) ?_
    have := congrArg List.length hn
    simp only [List.length_drop, List.length_nil] at this
    rw [decide_eq_false (show ¬ (k : Int) < (d.names.length : Int) by omega), cond_false]
    exact ⟨p5 _ _ _ _ _, by simpa [plR] using hS⟩
  | cons a r ih =>
    intro ps k v hn hps hkk hS
    refine via13 okNo (h13_39 _ _ _ _ _ tu i v k _ _ _ _ _ K (Sem13 w0 K)) ?_
    have hlt : k < d.names.length := by
      have := congrArg List.length hn
      simp only [List.length_drop, List.length_cons] at this
      omega
    have hlt2 : k < d.places.length := by omega
    rw [List.drop_eq_getElem_cons hlt] at hn
    rw [List.drop_eq_getElem_cons hlt2] at hps
    injection hn with hn1 hn2
    subst hps
    obtain ⟨g1, g2⟩ := ws_read hlt
    obtain ⟨g3, g4⟩ := ws_read hi
    obtain ⟨g5, g6⟩ := in_read hlt2
    rw [decide_eq_true (show (k : Int) < (d.names.length : Int) by omega), decide_eq_true (show (0 : Int) ≤ (k : Int) by omega), decide_eq_true (show (0 : Int) ≤ (i : Int) by omega), decide_eq_true (show (i : Int) < (d.to.length : Int) by omega),
      decide_eq_true (show (k : Int) < (d.places.length : Int) by omega), Int.toNat_natCast, Int.toNat_natCast, g1, g2, g3, g4, g5, g6, hn1, w_succ (by omega)]
    simp only [Bool.true_and, cond_true]
    simp only [plR] at hS
    cases h : eqS a d.to[i] with
    | true =>
      rw [h, cond_true] at hS
      exact ⟨p5 _ _ _ _ _, ih _ (k + 1) _ hn2 rfl (by omega) hS⟩
    | false =>
      rw [h, cond_false] at hS
      exact ⟨p5 _ _ _ _ _, ih _ (k + 1) _ hn2 rfl (by omega) hS⟩
theorem ok37 : ∀ c ∈ [con37r], c.ok Tryz.prog w0 := fun c hc => by
  simp only [List.mem_cons, List.not_mem_nil, or_false] at hc
  subst hc
  exact con37r_ok
theorem loop34 {n tu : Nat} (hn : n ≤ 1000000) : ∀ (tr : List (Ins × ByteArray × Int)) (pre : List Ins) (d : Ds), DsOk d n → d.out = pre ++ tr.map (·.1) → d.to.drop pre.length = tr.map (·.2.1) → d.lines.drop pre.length = tr.map (·.2.2) →
    (match rndR (plD d) ((tu : Int) == 1) tr with
      | .error e => KE K e.1 e.2
      | .ok o => S31 w0 K { d with out := pre ++ o } (tu + 1)) → tu ≤ 5 →
    Sem13 w0 K t13_34 (f13f d.out.length d.names.length d.to.length d.places.length d.lines.length tu pre.length) (hD d) := by
  intro tr
  induction tr with
  | nil =>
    intro pre d hd h1 h2 h3 hK htu
    refine via13 okNo (h13_34 _ _ _ _ _ tu pre.length _ _ _ _ _ K (Sem13 w0 K)) ?_
    simp only [List.map_nil, List.append_nil] at h1
    rw [decide_eq_false (show ¬ (pre.length : Int) < (d.out.length : Int) by rw [h1]; omega), cond_false, w_succ (by omega)]
    simp only [rndR, List.append_nil] at hK
    obtain ⟨o, a, b, c, e⟩ := d
    simp only at h1
    subst h1
    exact ⟨p5 _ _ _ _ _, hK⟩
  | cons x r ih =>
    obtain ⟨x, t, l⟩ := x
    intro pre d hd h1 h2 h3 hK htu
    refine via13 okNo (h13_34 _ _ _ _ _ tu pre.length _ _ _ _ _ K (Sem13 w0 K)) ?_
    simp only [List.map_cons] at h1 h2 h3
    have ho : pre.length < d.out.length := by rw [h1]; simp
    have hlen := hd.len
    have ht : pre.length < d.to.length := by rw [hd.to']; exact ho
    have hl : pre.length < d.lines.length := by rw [hd.li]; exact ho
    rw [List.drop_eq_getElem_cons ht] at h2
    rw [List.drop_eq_getElem_cons hl] at h3
    injection h2 with t1 t2
    injection h3 with l1 l2
    obtain ⟨g1, g2⟩ := ws_read ht
    rw [decide_eq_true (show (pre.length : Int) < (d.out.length : Int) by omega), decide_eq_true (show (0 : Int) ≤ (pre.length : Int) by omega), decide_eq_true (show (pre.length : Int) < (d.to.length : Int) by omega), Int.toNat_natCast, g1, g2, t1, w_succ (by omega)]
    simp only [Bool.true_and, cond_true]
    simp only [rndR] at hK
    have happ : (pre ++ [x]).length = pre.length + 1 := by simp
    cases he : eqS t noS with
    | true =>
      rw [he, cond_true] at hK
      have := ih (pre ++ [x]) d hd (by rw [h1]; simp) (by rw [happ]; exact t2) (by rw [happ]; exact l2) (by
        cases hq : rndR (plD d) ((tu : Int) == 1) r with
        | error e => rw [hq] at hK; exact hK
        | ok o => rw [hq] at hK; simpa using hK) htu
      rw [happ] at this
      exact ⟨p5 _ _ _ _ _, this⟩
    | false =>
      rw [he, cond_false] at hK
      refine ⟨p5 _ _ _ _ _, loop39 (i := pre.length) ht (by have := hd.nm; omega) hd.pl d.names d.places 0 (-1) rfl rfl (Nat.zero_le _) ?_⟩
      rw [t1]
      refine via13 ok37 (h13_43 _ _ _ _ _ tu pre.length (plD d t) _ _ _ _ _ K (Sem13 w0 K)) ?_
      obtain ⟨g3, g4⟩ := in_read hl
      rw [decide_eq_true (show (0 : Int) ≤ (pre.length : Int) by omega), decide_eq_true (show (pre.length : Int) < (d.lines.length : Int) by omega), decide_eq_true (show (pre.length : Int) < (d.out.length : Int) by omega), Int.toNat_natCast, g3, g4, l1, w_succ (by omega)]
      simp only [Bool.true_and, cond_true]
      cases hp : decide (plD d t < 0) with
      | true =>
        rw [hp, cond_true] at hK
        exact er_ok hK
      | false =>
        rw [hp, cond_false] at hK
        simp only [cond_false]
        rw [Nat.ble_eq_true_of_le (show at4 (pre.length : Int) 3 + 1 ≤ (insC d.out).length by rw [at4, Int.toNat_natCast, insC_len]; omega), cond_true]
        have hset : set13 (insC d.out) pre.length (plD d t) = insC (setI d.out pre.length (plD d t)) := by
          simp only [set13, at4, Int.toNat_natCast, Nat.zero_add]
          exact splice_insC ho
        have hsl : pre.length < (setI d.out pre.length (plD d t)).length := by rw [setI_len]; exact ho
        obtain ⟨k1, k2⟩ := ok_insC hsl
        have hval : setI d.out pre.length (plD d t) = pre ++ { x with imm := plD d t } :: r.map (·.1) := by rw [h1]; exact setI_at _ _ _ _
        have hget : (setI d.out pre.length (plD d t))[pre.length] = { x with imm := plD d t } := by simp [hval]
        rw [hset, k1, k2, hget]
        simp only [cond_true]
        have next : (match rndR (plD d) ((tu : Int) == 1) r with
            | .error e => KE K e.1 e.2
            | .ok o => S31 w0 K { d with out := pre ++ { x with imm := plD d t } :: o } (tu + 1)) →
            Sem13 w0 K t13_34 (f13f d.out.length d.names.length d.to.length d.places.length d.lines.length tu ((pre.length + 1 : Nat) : Int)) (h13 (insC (setI d.out pre.length (plD d t))) (wsC d.names) (wsC d.to) (inC d.places) (inC d.lines)) := fun hh => by
          have happ2 : (pre ++ [{ x with imm := plD d t }]).length = pre.length + 1 := by simp
          have := ih (pre ++ [{ x with imm := plD d t }]) { d with out := setI d.out pre.length (plD d t) } ⟨by rw [setI_len]; exact hd.len, by rw [setI_len]; exact hd.to', by rw [setI_len]; exact hd.li, hd.pl, hd.nm⟩
            (by rw [hval]; simp) (by rw [happ2]; exact t2) (by rw [happ2]; exact l2) (by
              cases hq : rndR (plD d) ((tu : Int) == 1) r with
              | error e => rw [hq] at hh; exact hh
              | ok o => rw [hq] at hh; simpa using hh) htu
          rw [happ2] at this
          simp only [setI_len] at this
          exact this
        cases hu : ((tu : Int) == 1) with
        | false =>
          rw [hu, Bool.false_and, cond_false] at hK
          rw [hu] at next
          exact ⟨p5 _ _ _ _ _, next (by
            cases hq : rndR (plD d) false r with
            | error e => rw [hq] at hK; exact hK
            | ok o => rw [hq] at hK; exact hK)⟩
        | true =>
          rw [hu, Bool.true_and] at hK
          rw [hu] at next
          refine ⟨⟨trivial, trivial, trivial⟩, ?_⟩
          cases hr : right { x with imm := plD d t } with
          | false =>
            rw [hr, Bool.not_false, cond_true] at hK
            exact er_ok hK
          | true =>
            rw [hr, Bool.not_true, cond_false] at hK
            exact ⟨p5 _ _ _ _ _, next (by
              cases hq : rndR (plD d) true r with
              | error e => rw [hq] at hK; exact hK
              | ok o => rw [hq] at hK; exact hK)⟩
theorem turns {d : Ds} {n : Nat} (hd : DsOk d n) (hn : n ≤ 1000000) (hK : KP13 K (resR d)) : S31 w0 K d 0 := by
  have step : ∀ (d : Ds) (tu : Nat), DsOk d n → tu < 2 → (match rndR (plD d) ((tu : Int) == 1) (zip3 d.out d.to d.lines) with
      | .error e => KE K e.1 e.2
      | .ok o => S31 w0 K { d with out := o } (tu + 1)) → S31 w0 K d tu := fun d tu hd htu hh => by
    refine via13 okNo (h13_31 _ _ _ _ _ tu _ _ _ _ _ K (Sem13 w0 K)) ?_
    rw [decide_eq_true (show (tu : Int) < 2 by omega), cond_true]
    obtain ⟨z1, z2, z3⟩ := zip3_1 (a := d.out) (b := d.to) (c := d.lines) hd.to' hd.li
    exact ⟨p5 _ _ _ _ _, loop34 hn (zip3 d.out d.to d.lines) [] d hd (by rw [z1]; rfl) (by rw [z2]; rfl) (by rw [z3]; rfl) hh (by omega)⟩
  unfold resR at hK
  refine step d 0 hd (by omega) ?_
  rw [show (((0 : Nat) : Int) == 1) = false from rfl]
  cases h1 : rndR (plD d) false (zip3 d.out d.to d.lines) with
  | error e =>
    rw [h1] at hK
    exact hK
  | ok o =>
    rw [h1] at hK
    dsimp only at hK
    have hlo : o.length = d.out.length := by
      have := rnd_len h1
      obtain ⟨z1, _⟩ := zip3_1 (a := d.out) (b := d.to) (c := d.lines) hd.to' hd.li
      rw [this, ← List.length_map (f := fun x : Ins × ByteArray × Int => x.1), z1]
    have hd1 : DsOk { d with out := o } n := ⟨by rw [hlo]; exact hd.len, by rw [hlo]; exact hd.to', by rw [hlo]; exact hd.li, hd.pl, hd.nm⟩
    refine step { d with out := o } 1 hd1 (by omega) ?_
    rw [show (((1 : Nat) : Int) == 1) = true from rfl]
    cases h2 : rndR (plD d) true (zip3 o d.to d.lines) with
    | error e =>
      rw [h2] at hK
      exact hK
    | ok o2 =>
      rw [h2] at hK
      refine via13 okNo (h13_31 _ _ _ _ _ ((1 + 1 : Nat) : Int) _ _ _ _ _ K (Sem13 w0 K)) ?_
      rw [show decide (((1 + 1 : Nat) : Int) < 2) = false from rfl, cond_false]
      exact ⟨⟨plain_insC _, trivial⟩, hK⟩
end
theorem all13 (s : ByteArray) {K : List Value → AHeap → Prop} (fin : Sem13 w0 K t13_6 (f13a s 0 0 0 0 0 0 1) (h13 [] [] [] [] [])) : Sem13 w0 K [.code (Tryz.f13.body.getD .skip)] (startF Tryz.f13 [.string s]) (heapB G []) :=
  via13 okNo (start13 s K (Sem13 w0 K)) ⟨p5 [] [] [] [] [], fin⟩
noncomputable def con13p (o : List Ins) (ln e : Int) : Con := { f := 13, gh := [], paths := [], spec := fun args bs => match args, bs with
  | [.string s], [] => some (s.size ≤ 100000 ∧ (parseR s).2 = o ∧ (parseR s).1.getD (0, 0) = (ln, e), [SL G o.length 4, I ln, I e], [(true, some (.cells (insC o) true))])
  | _, _ => none }
set_option maxRecDepth 100000 in
theorem con13p_ok (o : List Ins) (ln er : Int) : (con13p o ln er).ok Tryz.prog w0 := by
  intro args bs p rs out e hp
  simp only [con13p] at e
  split at e <;> first | (simp at e; done) | skip
  rename_i s
  simp only [Option.some.injEq, Prod.mk.injEq] at e
  obtain ⟨rfl, rfl, rfl⟩ := e
  obtain ⟨hs, rfl, hle⟩ := hp
  change CallS Tryz.prog w0 13 [.string s] (heapB Tryz.prog.globals.size []) fun rs' h' => rs' = [SL G (parseR s).2.length 4, I ln, I er] ∧ h' = heapB Tryz.prog.globals.size [some (.cells (insC (parseR s).2) true)]
  have hn : (heapB Tryz.prog.globals.size []).next = Tryz.prog.globals.size + nt13.flags.length := by rw [heapB_next]; rfl
  refine retT_call (nt := nt13) hn (call_sem (cd := Tryz.f13.body.getD .skip) Tryz.func13 (by kernel_rfl) ?_)
  rw [hn]
  generalize hK : (fun rs' h' => rs' = [SL G (parseR s).2.length 4, I ln, I er] ∧ h' = heapB Tryz.prog.globals.size [some (.cells (insC (parseR s).2) true)] : List Value → AHeap → Prop) = K
  have hKK : KP13 K (parseR s) := by rw [← hK]; simp only [KP13, hle]; exact ⟨trivial, trivial⟩
  clear hK
  have hd0 : DsOk ⟨[], [], [], [], []⟩ 1 := ⟨Nat.zero_le _, rfl, rfl, rfl, Nat.zero_le _⟩
  have fin := loop6 (w0 := w0) (K := K) hs (fun d n hd hn hk => turns hd hn hk) (s.size + 1) s.data.toList 0 1 ⟨[], [], [], [], []⟩ rfl (by rw [← Lib.size_eq]; omega) (Nat.zero_le _) hd0 (by omega) hKK
  exact all13 s fin
end
end Go.Proofs.YtkjdfkodclednaaGreatDoor
