/- Parts of the proof, merged. -/
import Derived.Test.YtpijbbobejeemaaGreatDoorHp1
import Derived.Lib.OthersKept
import Derived.Test.YtpijbbobejeemaaGreatDoorEngClosed
import Derived.Test.YtpijbbobejeemaaGreatDoorMem
import Derived.Deep.Slices
import Derived.SizedLaws
import Derived.Test.YtpijbbobejeemaaGreatDoorRows
import Derived.ProofKit
import Derived.OpenShut
import Derived.Deep.Fields
import Derived.ChangeSame
import Derived.Deep.DeepHandedRow
import Derived.Lay
/- Http: strings.ContainsAny of two bytes at "+-_". -/
set_option linter.unusedVariables false
set_option linter.unusedSimpArgs false
set_option maxRecDepth 100000
namespace Go.Proofs.YtpijbbobejeemaaGreatDoor.Htp
open Go Go.RowKit
def caB (s : ByteArray) : Bool := s.data.toList.any fun c => c == 43 || c == 45 || c == 95
theorem get_bang (s : ByteArray) (i : Nat) (h : i < s.size) : s.get! i = s[i]'h := by
  simp [ByteArray.get!, ByteArray.getElem_eq_getElem_data, Array.getElem!_eq_getD, h]
theorem dec2 (s : ByteArray) (hs : s.size = 2) (i : Nat) (hi : i < s.size) (hx : 128 ≤ (s[i]'hi).toNat) :
    Utf8.decode s i = (65533, 1) ∨ ∃ r : Nat, Utf8.decode s i = (r, 2) ∧ 128 ≤ r ∧ r ≤ 2047 ∧ ∃ h1 : i + 1 < s.size, 128 ≤ (s[i + 1]'h1).toNat := by
  have hb := (s[i]'hi).toNat_lt
  have h0 : (s.get! (i + 0)).toNat = (s[i]'hi).toNat := by rw [Nat.add_zero, get_bang s i hi]
  unfold Utf8.decode
  simp only [h0]
  rw [if_neg (by omega)]
  by_cases h1 : i + 1 < s.size
  · have h2 : (s.get! (i + 1)).toNat = (s[i + 1]'h1).toNat := by rw [get_bang s _ h1]
    have n2 : ¬ (i + 2 < s.size) := by omega
    have n3 : ¬ (i + 3 < s.size) := by omega
    have hb2 := (s[i + 1]'h1).toNat_lt
    simp only [h2, n2, n3, h1, decide_true, decide_false, Bool.true_and, Bool.false_and, Bool.and_false, Bool.false_eq_true, if_false]
    split
    · rename_i hc
      simp only [Bool.and_eq_true, beq_iff_eq] at hc
      split
      · rename_i hge
        refine .inr ⟨_, rfl, hge, ?_, trivial, ?_⟩
        · omega
        · omega
      · exact .inl rfl
    · exact .inl rfl
  · have n1 : ¬ (i + 1 < s.size) := h1
    have n2 : ¬ (i + 2 < s.size) := by omega
    have n3 : ¬ (i + 3 < s.size) := by omega
    simp only [n1, n2, n3, decide_false, Bool.false_and, Bool.and_false, Bool.false_eq_true, if_false]
    exact .inl rfl
theorem enc2 (r : Nat) (h0 : 128 ≤ r) (h1 : r ≤ 2047) : ∃ x y : UInt8, Utf8.encode (r : Int) = ⟨#[y, x]⟩ ∧ 128 ≤ x.toNat := by
  have hv : Utf8.valid (r : Int) = true := by
    unfold Utf8.valid
    simp only [Bool.or_eq_true, Bool.and_eq_true, decide_eq_true_eq]
    left; omega
  unfold Utf8.encode
  simp only [hv, if_true]
  have e : ((r : Int)).toNat = r := by simp
  rw [e, if_neg (by omega), if_pos (by omega)]
  refine ⟨_, _, rfl, ?_⟩
  rw [UInt8.toNat_ofNat']
  omega
end Go.Proofs.YtpijbbobejeemaaGreatDoor.Htp

/- Http: strings.ContainsAny of two bytes at "+-_": the walk. -/
set_option linter.unusedVariables false
set_option linter.unusedSimpArgs false
set_option maxRecDepth 100000
namespace Go.Proofs.YtpijbbobejeemaaGreatDoor.Htp
open Go Go.RowKit
def inSet (c : UInt8) : Bool := c == 43 || c == 45 || c == 95
set_option maxHeartbeats 1000000 in
theorem su_calls (n : Int) (w : World) : Calls Tryz.prog 134 #[.int .i64 n] w fun e w' => e = .returned (.bool (decide ((8 : Int) < n))) ∧ w' = w := by
  go_enter Tryz.func134, Tryz.ntmps134
  go_wp2
  go_ret
  exact ⟨rfl, rfl⟩
theorem in_idx (x : UInt8) : decide ((0 : Int) ≤ Lib.indexByte pmu.data.toList x) = inSet x := by
  have key : ∀ c : Fin 256, decide ((0 : Int) ≤ Lib.indexByte [43, 45, 95] (UInt8.ofNat c.1)) = inSet (UInt8.ofNat c.1) := by decide +kernel
  have := key ⟨x.toNat, x.toNat_lt⟩
  simp only [UInt8.ofNat_toNat] at this
  exact this
theorem in_high {x : UInt8} (h : 128 ≤ x.toNat) : inSet x = false := by
  have key : ∀ c : Fin 256, 128 ≤ c.1 → inSet (UInt8.ofNat c.1) = false := by decide +kernel
  have := key ⟨x.toNat, x.toNat_lt⟩ h
  simp only [UInt8.ofNat_toNat] at this
  exact this
theorem take_any (s : ByteArray) (i : Nat) (hi : i < s.size) : (s.data.toList.take (i + 1)).any inSet = ((s.data.toList.take i).any inSet || inSet (s[i]'hi)) := by
  have hl : i < s.data.toList.length := hi
  rw [List.take_succ_eq_append_getElem hl, List.any_append]
  have : s.data.toList[i] = s[i]'hi := by simp [ByteArray.getElem_eq_getElem_data]
  rw [this]; simp
theorem ca_take (s : ByteArray) : caB s = (s.data.toList.take s.size).any inSet := by
  have hl : s.data.toList.length = s.size := rfl
  rw [List.take_of_length_le (by omega)]; rfl
theorem ca_mem {s : ByteArray} {i : Nat} (hi : i < s.size) (h : inSet (s[i]'hi) = true) : caB s = true := by
  unfold caB
  rw [List.any_eq_true]
  refine ⟨s[i]'hi, ?_, h⟩
  have : s.data.toList[i]'hi = s[i]'hi := by simp [ByteArray.getElem_eq_getElem_data]
  rw [← this]
  exact List.getElem_mem _
set_option maxHeartbeats 8000000 in
set_option maxRecDepth 1000000 in
theorem ia_calls (s : ByteArray) (hs : s.size = 2) (w : World) : Calls Tryz.prog 104 #[.string s, .string pmu] w fun e w' => ∃ j : Int, e = .returned (.int .i64 j) ∧ decide ((0 : Int) ≤ j) = caB s ∧ Below w.heap.size w w' := by
  have hemp : pmu.toList.isEmpty = false := by rw [ByteArray.toList_eq]; rfl
  have hp : pmu.size = 3 := rfl
  have hn1 : ((pmu.size : Int) == 1) = false := rfl
  have h8z : decide ((8 : Int) < (s.size : Int)) = false := decide_eq_false (by omega)
  go_enter Tryz.func104, Tryz.ntmps104
  go_wp2_with (go_at_call 134; refine (su_calls _ _).mono ?_; rintro e w' ⟨rfl, hw⟩; rw [hw])
  go_loopg [9, 10] 2 (fun g _ _ wx => ∃ i : Nat, i + g = 2 ∧ wx.heap[w.heap.size]? = some (.stringIter s i) ∧ Below w.heap.size w wx ∧ (s.data.toList.take i).any inSet = false)
  case atStart => exact ⟨0, rfl, World.iter_heap w s 0, (Below.refl _ w).alloc (Nat.le_refl _) _, rfl⟩
  case round =>
    obtain ⟨i, hig, hit, hbw, hno⟩ := hrel
    cases gk with
    | zero =>
      obtain rfl : i = 2 := by omega
      have hnx := fun ty => Lib.run_next_end_at (P := Tryz.prog) wr w.heap.size s 2 ty hit (by omega)
      go_wp2
      go_ret
      exact ⟨-1, rfl, by rw [ca_take, hs, hno]; rfl, hbw⟩
    | succ g =>
      have hi : i < s.size := by omega
      have hta := take_any s i hi
      rw [hno, Bool.false_or] at hta
      by_cases hx : (s[i]'hi).toNat < 128
      · have hnx := fun ty => Lib.run_next_ascii_at (P := Tryz.prog) wr w.heap.size s i ty hit hi hx
        have hit2 := Lib.iterAt_heap wr w.heap.size s i (i + 1) hit
        have hbw2 := Lib.below_iterAt hbw (k := w.heap.size) (Nat.le_refl _) s (i + 1)
        have hmem := ca_mem hi
        generalize s[i]'hi = x at *
        have hin := in_idx x
        have hback : ((x.toNat : Int)).toNat.toUInt8 = x := by simp
        cases hh : inSet x with
        | false =>
          rw [hh] at hin hta
          have hlt : ¬ ((0 : Int) ≤ Lib.indexByte pmu.data.toList x) := of_decide_eq_false hin
          go_wp2_with (go_at_call 133; refine (Tryz.strings_IndexRune_ascii _ _ _ (by omega) (by omega)).mono ?_; rintro e w1 ⟨rfl, hw1⟩; rw [hw1, hback])
          go_roundg g
          case measure => omega
          case rel => exact ⟨i + 1, by omega, hit2, hbw2, hta⟩
        | true =>
          rw [hh] at hin
          have hge : (0 : Int) ≤ Lib.indexByte pmu.data.toList x := of_decide_eq_true hin
          go_wp2_with (go_at_call 133; refine (Tryz.strings_IndexRune_ascii _ _ _ (by omega) (by omega)).mono ?_; rintro e w1 ⟨rfl, hw1⟩; rw [hw1, hback])
          go_ret
          exact ⟨i, rfl, by rw [hmem hh]; exact decide_eq_true (by omega), hbw2⟩
      · have hx : 128 ≤ (s[i]'hi).toNat := by omega
        have hhi := in_high hx
        rw [hhi] at hta
        rcases dec2 s hs i hi hx with hd | ⟨r, hd, r0, r1, h1, hx1⟩
        · have hnx := fun ty => Lib.run_next_any_at (P := Tryz.prog) wr w.heap.size s i ty hit hi
          simp only [hd] at hnx
          have hit2 := Lib.iterAt_heap wr w.heap.size s i (i + 1) hit
          have hbw2 := Lib.below_iterAt hbw (k := w.heap.size) (Nat.le_refl _) s (i + 1)
          have hsz : w.heap.size < (wr.iterAt w.heap.size s (i + 1)).heap.size := (Array.getElem?_eq_some_iff.1 hit2).1
          go_wp2_with (go_at_call 133; refine (ir_err _).mono ?_; rintro e w1 ⟨rfl, hb1⟩)
          go_roundg g
          case measure => omega
          case rel => exact ⟨i + 1, by omega, by rw [hb1.block _ hsz]; exact hit2, hbw2.trans (hb1.mono (Nat.le_of_lt hsz)), hta⟩
        · obtain ⟨x, y, he, hx2⟩ := enc2 r r0 r1
          have hta2 := take_any s (i + 1) h1
          rw [hta, in_high hx1] at hta2
          have hnx := fun ty => Lib.run_next_any_at (P := Tryz.prog) wr w.heap.size s i ty hit hi
          simp only [hd] at hnx
          have hit2 := Lib.iterAt_heap wr w.heap.size s i (i + 2) hit
          have hbw2 := Lib.below_iterAt hbw (k := w.heap.size) (Nat.le_refl _) s (i + 2)
          have hsz : w.heap.size < (wr.iterAt w.heap.size s (i + 2)).heap.size := (Array.getElem?_eq_some_iff.1 hit2).1
          have q0 : (128 : Int) ≤ (r : Int) := by omega
          have q1 : (r : Int) ≤ 2047 := by omega
          go_wp2_with (go_at_call 133; refine (ir_two _ q0 q1 _ _ he x y rfl hx2).mono ?_; rintro e w1 ⟨rfl, hb1⟩)
          go_roundg 0
          case measure => omega
          case rel => exact ⟨i + 2, by omega, by rw [hb1.block _ hsz]; exact hit2, hbw2.trans (hb1.mono (Nat.le_of_lt hsz)), hta2⟩
set_option maxHeartbeats 1000000 in
theorem ca_calls (s : ByteArray) (hs : s.size = 2) (w : World) : Calls Tryz.prog 73 #[.string s, .string pmu] w fun e w' => e = .returned (.bool (caB s)) ∧ Below w.heap.size w w' := by
  go_enter Tryz.func73, Tryz.ntmps73
  go_wp2_with (go_at_call 104; refine (ia_calls s hs w).mono ?_; rintro e w' ⟨j, rfl, hj, hw⟩)
  go_ret
  exact ⟨by rw [← hj]; rfl, hw⟩
end Go.Proofs.YtpijbbobejeemaaGreatDoor.Htp

/- Http: unescape: runs. -/
set_option linter.unusedVariables false
set_option linter.unusedSimpArgs false
set_option maxRecDepth 100000
namespace Go.Proofs.YtpijbbobejeemaaGreatDoor.Htp
open Go Go.RowKit Go.Proofs.YtpijbbobejeemaaGreatDoor.Eng Go.Proofs.YtpijbbobejeemaaGreatDoor.Kit
noncomputable section
abbrev fUn : Nat := 46
abbrev fCA : Nat := 73
def cCA : List AV → Option (AP AV) := vC g2s (fun p => p.2 = pmu ∧ p.1.size = 2) (fun p => bv (caB p.1))
def cPU (s : ByteArray) (res : AV) : List AV → Option (AP AV) := mkC (fun _ => .ret ()) (fun _ => True) (fun _ i => i) (fun _ => [sv s, iv (Int.ofNat 16), iv (Int.ofNat 8)]) (fun _ => []) (fun _ => .leaf .ret [res] [])
def rBe (l : List UInt8) (e : TypeId) : AO := .cells (rowV encB l) e
def restV (k : Nat) : AV := .slice 1000 1 k 1 (.lo k)
def aUn (m k j : Nat) : List (Nat × AV) := [(5, sB 1001 m), (17, restV k), (18, iv (Int.ofNat k)), (19, iv (Int.ofNat j))]
def oUn (L : List ByteArray) (O : List UInt8) (e : TypeId) : LH := [(1000, rS L), (1001, rBe O e)]
def kUn : List Nat := [1000, 1001, 1100, 1101, 1102, 1103]
def iUn : List Nat := [2, 3, 5, 17, 18, 19]
def hUn (p p2 p3 : ByteArray) (x : UInt8) (j : Nat) (sh ca bad : Bool) : ClaimT := hintL [(fUn, 4, 0, hv (.lit true)), (fUn, 5, 1, hv (sv p)), (fUn, 6, 2, hv (.lit sh)), (fUn, 6, 5, h0v (sv p2)), (fUn, 6, 6, hv (.lit ca)), (fUn, 6, 7, hv (.lit (sh || ca))), (fUn, 8, 1, h0v (sv p2)), (fUn, 9, 1, hv (.lit bad)), (fUn, 11, 2, hv (byv x)), (fUn, 11, 6, h0v (sv p3)), (fUn, 12, 0, hv (iv (Int.ofNat (j + 1))))]
def hUz (p p2 p3 : ByteArray) (x : UInt8) (j : Nat) (sh ca bad : Bool) : ClaimT := hintL [(fUn, 4, 0, hv (.lit true)), (fUn, 5, 1, hv (sv p)), (fUn, 6, 2, hv (.lit sh)), (fUn, 6, 5, h0v (sv p2)), (fUn, 6, 6, hv (.lit ca)), (fUn, 6, 7, hv (.lit (sh || ca))), (fUn, 8, 1, h0v (sv p2)), (fUn, 9, 1, hv (.lit bad)), (fUn, 11, 2, hv (byv x)), (fUn, 11, 6, h0v (sv p3)), (fUn, 11, 7, h0), (fUn, 12, 0, hv (iv (Int.ofNat (j + 1))))]
theorem oUnS_eq (L : List ByteArray) (O : List UInt8) (e : TypeId) (p p2 p3 : ByteArray) (x : UInt8) (m k j : Nat) (W : World) (F : HP) : wLoop [] (hUn p p2 p3 x j true false false) [] W fUn (loopN fUn 4) (tms 0 50 (aUn m k j)) (oUn L O e) kUn iUn F = VT.leaf (AX.ret, [AV.v (Value.string (ByteArray.mk (Array.mk []))), AV.v (Value.bool false), AV.slice 1001 0 m 1 (Cp.lo m), AV.slice 1000 1 k 1 (Cp.lo k), AV.v (Value.int IntKind.i64 (Int.ofNat k)), AV.v (Value.int IntKind.i64 (Int.ofNat j))], 50) [some (AO.cells (rowV encS L) 18), some (AO.cells (rowV encB O) e), none, none, none, none] 1100 (((Cnd.p (Wk (AV.v (Value.bool (decide (Int.ofNat j < Int.ofNat k)))) (AV.lit true))).a Cnd.t).a (((Cnd.p (j.blt k = true)).a Cnd.t).a (((Cnd.p ((1 + j * 1).blt (rowV encS L).length = true)).a ((Cnd.p ((rowV encS L).getD (1 + j * 1) (AV.undef) = AV.v (Value.string ((rowV encS L).getD (1 + j * 1) (AV.undef)).strOf))).a ((Cnd.p (Wk (AV.v (Value.string ((rowV encS L).getD (1 + j * 1) (AV.undef)).strOf)) (AV.v (Value.string p)))).a Cnd.t))).a (((Cnd.p (Wk (AV.v (Value.bool (decide (↑p.size < Int.ofNat 2)))) (AV.lit true))).a Cnd.t).a (((Cnd.p (Wk (AV.lit true) (AV.lit true))).a Cnd.t).a Cnd.t))))) := by kernel_rfl
theorem oUnC_eq (L : List ByteArray) (O : List UInt8) (e : TypeId) (p p2 p3 : ByteArray) (x : UInt8) (m k j : Nat) (W : World) (F : HP) : wLoop [(fCA, cCA)] (hUn p p2 p3 x j false true false) [] W fUn (loopN fUn 4) (tms 0 50 (aUn m k j)) (oUn L O e) kUn iUn F = VT.leaf (AX.ret, [AV.v (Value.string (ByteArray.mk (Array.mk []))), AV.v (Value.bool false), AV.slice 1001 0 m 1 (Cp.lo m), AV.slice 1000 1 k 1 (Cp.lo k), AV.v (Value.int IntKind.i64 (Int.ofNat k)), AV.v (Value.int IntKind.i64 (Int.ofNat j))], 50) [some (AO.cells (rowV encS L) 18), some (AO.cells (rowV encB O) e), none, none, none, none] 1100 (((Cnd.p (Wk (AV.v (Value.bool (decide (Int.ofNat j < Int.ofNat k)))) (AV.lit true))).a Cnd.t).a (((Cnd.p (j.blt k = true)).a Cnd.t).a (((Cnd.p ((1 + j * 1).blt (rowV encS L).length = true)).a ((Cnd.p ((rowV encS L).getD (1 + j * 1) (AV.undef) = AV.v (Value.string ((rowV encS L).getD (1 + j * 1) (AV.undef)).strOf))).a ((Cnd.p (Wk (AV.v (Value.string ((rowV encS L).getD (1 + j * 1) (AV.undef)).strOf)) (AV.v (Value.string p)))).a Cnd.t))).a (((Cnd.p (Wk (AV.v (Value.bool (decide (↑p.size < Int.ofNat 2)))) (AV.lit false))).a Cnd.t).a (((Cnd.p (0 ≤ 2)).a ((Cnd.p (2 ≤ p.size)).a ((Cnd.p (Wk (AV.v (Value.string (p.extract 0 2))) (AV.v (Value.string p2)))).a Cnd.t))).a (((Cnd.p (ByteArray.mk (Array.mk [43, 45, 95]) = pmu ∧ p2.size = 2)).a ((Cnd.p (Wk (AV.v (Value.bool (caB p2))) (AV.lit true))).a Cnd.t)).a (((Cnd.p (Wk (AV.lit true) (AV.lit true))).a Cnd.t).a Cnd.t))))))) := by kernel_rfl
theorem oUnB_eq (L : List ByteArray) (O : List UInt8) (e : TypeId) (p p2 p3 : ByteArray) (x : UInt8) (m k j : Nat) (W : World) (F : HP) : wLoop [(fCA, cCA), (fPUs, cPU p2 errV)] (hUn p p2 p3 x j false false true) [] W fUn (loopN fUn 4) (tms 0 50 (aUn m k j)) (oUn L O e) kUn iUn F = VT.leaf (AX.ret, [AV.v (Value.string (ByteArray.mk (Array.mk []))), AV.v (Value.bool false), AV.slice 1001 0 m 1 (Cp.lo m), AV.slice 1000 1 k 1 (Cp.lo k), AV.v (Value.int IntKind.i64 (Int.ofNat k)), AV.v (Value.int IntKind.i64 (Int.ofNat j))], 50) [some (AO.cells (rowV encS L) 18), some (AO.cells (rowV encB O) e), none, none, none, none] 1100 (((Cnd.p (Wk (AV.v (Value.bool (decide (Int.ofNat j < Int.ofNat k)))) (AV.lit true))).a Cnd.t).a (((Cnd.p (j.blt k = true)).a Cnd.t).a (((Cnd.p ((1 + j * 1).blt (rowV encS L).length = true)).a ((Cnd.p ((rowV encS L).getD (1 + j * 1) (AV.undef) = AV.v (Value.string ((rowV encS L).getD (1 + j * 1) (AV.undef)).strOf))).a ((Cnd.p (Wk (AV.v (Value.string ((rowV encS L).getD (1 + j * 1) (AV.undef)).strOf)) (AV.v (Value.string p)))).a Cnd.t))).a (((Cnd.p (Wk (AV.v (Value.bool (decide (↑p.size < Int.ofNat 2)))) (AV.lit false))).a Cnd.t).a (((Cnd.p (0 ≤ 2)).a ((Cnd.p (2 ≤ p.size)).a ((Cnd.p (Wk (AV.v (Value.string (p.extract 0 2))) (AV.v (Value.string p2)))).a Cnd.t))).a (((Cnd.p (ByteArray.mk (Array.mk [43, 45, 95]) = pmu ∧ p2.size = 2)).a ((Cnd.p (Wk (AV.v (Value.bool (caB p2))) (AV.lit false))).a Cnd.t)).a (((Cnd.p (Wk (AV.lit false) (AV.lit false))).a Cnd.t).a (((Cnd.p (0 ≤ 2)).a ((Cnd.p (2 ≤ p.size)).a ((Cnd.p (Wk (AV.v (Value.string (p.extract 0 2))) (AV.v (Value.string p2)))).a Cnd.t))).a (((Cnd.p True).a ((Cnd.p (VW [AV.v (Value.string p2), AV.v (Value.int IntKind.i64 (Int.ofNat 16)), AV.v (Value.int IntKind.i64 (Int.ofNat 8))] [AV.v (Value.string p2), AV.v (Value.int IntKind.i64 (Int.ofNat 16)), AV.v (Value.int IntKind.i64 (Int.ofNat 8))])).a Cnd.t)).a (((Cnd.p (Wk (AV.v (Value.bool true)) (AV.lit true))).a Cnd.t).a Cnd.t)))))))))) := by kernel_rfl
theorem oUnG0_eq (L : List ByteArray) (O : List UInt8) (p p2 p3 : ByteArray) (x : UInt8) (n m k j : Nat) (W : World) (F : HP) : wLoop [(fCA, cCA), (fPUs, cPU p2 (.tuple [u64v n, .v .nilIface]))] (hUn p p2 p3 x j false false false) [] W fUn (loopN fUn 4) (tms 0 50 (aUn m k j)) (oUn L O tByt) kUn iUn F = VT.leaf (AX.normal, [AV.any, AV.any, AV.slice 1102 0 (m + 1 + p3.size) 1 (Cp.lo (m + 1 + p3.size)), AV.slice 1000 1 k 1 (Cp.lo k), AV.v (Value.int IntKind.i64 (Int.ofNat k)), AV.v (Value.int IntKind.i64 (Int.ofNat (j + 1)))], 50) [some (AO.cells (rowV encS L) 18), none, some (AO.cells [AV.v (Value.int IntKind.u8 ↑x.toNat)] 10), none, some (AO.cells (List.take ((m + 1) * 1) (List.drop 0 (List.take (m * 1) (List.drop 0 (rowV encB O)) ++ [AV.v (Value.int IntKind.u8 ↑x.toNat)])) ++ vmap (List.map (fun b => Value.int IntKind.u8 ↑b.toNat) (List.take p3.size p3.data.toList))) 10), none] 1103 (((Cnd.p (Wk (AV.v (Value.bool (decide (Int.ofNat j < Int.ofNat k)))) (AV.lit true))).a Cnd.t).a (((Cnd.p (j.blt k = true)).a Cnd.t).a (((Cnd.p ((1 + j * 1).blt (rowV encS L).length = true)).a ((Cnd.p ((rowV encS L).getD (1 + j * 1) (AV.undef) = AV.v (Value.string ((rowV encS L).getD (1 + j * 1) (AV.undef)).strOf))).a ((Cnd.p (Wk (AV.v (Value.string ((rowV encS L).getD (1 + j * 1) (AV.undef)).strOf)) (AV.v (Value.string p)))).a Cnd.t))).a (((Cnd.p (Wk (AV.v (Value.bool (decide (↑p.size < Int.ofNat 2)))) (AV.lit false))).a Cnd.t).a (((Cnd.p (0 ≤ 2)).a ((Cnd.p (2 ≤ p.size)).a ((Cnd.p (Wk (AV.v (Value.string (p.extract 0 2))) (AV.v (Value.string p2)))).a Cnd.t))).a (((Cnd.p (ByteArray.mk (Array.mk [43, 45, 95]) = pmu ∧ p2.size = 2)).a ((Cnd.p (Wk (AV.v (Value.bool (caB p2))) (AV.lit false))).a Cnd.t)).a (((Cnd.p (Wk (AV.lit false) (AV.lit false))).a Cnd.t).a (((Cnd.p (0 ≤ 2)).a ((Cnd.p (2 ≤ p.size)).a ((Cnd.p (Wk (AV.v (Value.string (p.extract 0 2))) (AV.v (Value.string p2)))).a Cnd.t))).a (((Cnd.p True).a ((Cnd.p (VW [AV.v (Value.string p2), AV.v (Value.int IntKind.i64 (Int.ofNat 16)), AV.v (Value.int IntKind.i64 (Int.ofNat 8))] [AV.v (Value.string p2), AV.v (Value.int IntKind.i64 (Int.ofNat 16)), AV.v (Value.int IntKind.i64 (Int.ofNat 8))])).a Cnd.t)).a (((Cnd.p (Wk (AV.v (Value.bool false)) (AV.lit false))).a Cnd.t).a (((Cnd.p (Wk (AV.v (Value.int IntKind.u8 (IntKind.u8.wrap (Int.ofNat n)))) (AV.v (Value.int IntKind.u8 ↑x.toNat)))).a Cnd.t).a (((Cnd.p (true = true)).a ((Cnd.p (true = true)).a ((Cnd.p (true = true)).a ((Cnd.p (true = true)).a ((Cnd.p ((0 + m * 1).ble (rowV encB O).length = true)).a ((Cnd.p (((m + 1) * 1).ble 140737488355328 = true)).a ((Cnd.p ((m + 1).ble 9223372036854775807 = true)).a ((Cnd.p ((List.take (m * 1) (List.drop 0 (rowV encB O))).length.beq (m * 1) = true)).a Cnd.t)))))))).a (((Cnd.p (2 ≤ p.size)).a ((Cnd.p (p.size ≤ p.size)).a ((Cnd.p (Wk (AV.v (Value.string (p.extract 2 p.size))) (AV.v (Value.string p3)))).a Cnd.t))).a (((Cnd.p (p3.size.ble p3.size = true)).a ((Cnd.p ((vmap (List.map (fun b => Value.int IntKind.u8 ↑b.toNat) (List.take p3.size p3.data.toList))).all AV.one = true)).a ((Cnd.p (Nat.blt 0 p3.size = true)).a ((Cnd.p ((0 + (m + 1) * 1).ble (List.take (m * 1) (List.drop 0 (rowV encB O)) ++ [AV.v (Value.int IntKind.u8 ↑x.toNat)]).length = true)).a ((Cnd.p (((m + 1 + p3.size) * 1).ble 140737488355328 = true)).a ((Cnd.p ((m + 1 + p3.size).ble 9223372036854775807 = true)).a ((Cnd.p ((List.take ((m + 1) * 1) (List.drop 0 (List.take (m * 1) (List.drop 0 (rowV encB O)) ++ [AV.v (Value.int IntKind.u8 ↑x.toNat)]))).length.beq ((m + 1) * 1) = true)).a Cnd.t))))))).a (((Cnd.p (Wk (AV.v (Value.int IntKind.i64 (IntKind.i64.wrap (Int.ofNat j + Int.ofNat 1)))) (AV.v (Value.int IntKind.i64 (Int.ofNat (j + 1)))))).a Cnd.t).a Cnd.t))))))))))))))) := by kernel_rfl
theorem oUnZ0_eq (L : List ByteArray) (O : List UInt8) (p p2 p3 : ByteArray) (x : UInt8) (n m k j : Nat) (W : World) (F : HP) : wLoop [(fCA, cCA), (fPUs, cPU p2 (.tuple [u64v n, .v .nilIface]))] (hUz p p2 p3 x j false false false) [] W fUn (loopN fUn 4) (tms 0 50 (aUn m k j)) (oUn L O tByt) kUn iUn F = VT.leaf (AX.normal, [AV.any, AV.any, AV.slice 1101 0 (m + 1) 1 (Cp.lo (m + 1)), AV.slice 1000 1 k 1 (Cp.lo k), AV.v (Value.int IntKind.i64 (Int.ofNat k)), AV.v (Value.int IntKind.i64 (Int.ofNat (j + 1)))], 50) [some (AO.cells (rowV encS L) 18), none, some (AO.cells [AV.v (Value.int IntKind.u8 ↑x.toNat)] 10), some (AO.cells (List.take (m * 1) (List.drop 0 (rowV encB O)) ++ [AV.v (Value.int IntKind.u8 ↑x.toNat)]) 10), none, none] 1102 (((Cnd.p (Wk (AV.v (Value.bool (decide (Int.ofNat j < Int.ofNat k)))) (AV.lit true))).a Cnd.t).a (((Cnd.p (j.blt k = true)).a Cnd.t).a (((Cnd.p ((1 + j * 1).blt (rowV encS L).length = true)).a ((Cnd.p ((rowV encS L).getD (1 + j * 1) (AV.undef) = AV.v (Value.string ((rowV encS L).getD (1 + j * 1) (AV.undef)).strOf))).a ((Cnd.p (Wk (AV.v (Value.string ((rowV encS L).getD (1 + j * 1) (AV.undef)).strOf)) (AV.v (Value.string p)))).a Cnd.t))).a (((Cnd.p (Wk (AV.v (Value.bool (decide (↑p.size < Int.ofNat 2)))) (AV.lit false))).a Cnd.t).a (((Cnd.p (0 ≤ 2)).a ((Cnd.p (2 ≤ p.size)).a ((Cnd.p (Wk (AV.v (Value.string (p.extract 0 2))) (AV.v (Value.string p2)))).a Cnd.t))).a (((Cnd.p (ByteArray.mk (Array.mk [43, 45, 95]) = pmu ∧ p2.size = 2)).a ((Cnd.p (Wk (AV.v (Value.bool (caB p2))) (AV.lit false))).a Cnd.t)).a (((Cnd.p (Wk (AV.lit false) (AV.lit false))).a Cnd.t).a (((Cnd.p (0 ≤ 2)).a ((Cnd.p (2 ≤ p.size)).a ((Cnd.p (Wk (AV.v (Value.string (p.extract 0 2))) (AV.v (Value.string p2)))).a Cnd.t))).a (((Cnd.p True).a ((Cnd.p (VW [AV.v (Value.string p2), AV.v (Value.int IntKind.i64 (Int.ofNat 16)), AV.v (Value.int IntKind.i64 (Int.ofNat 8))] [AV.v (Value.string p2), AV.v (Value.int IntKind.i64 (Int.ofNat 16)), AV.v (Value.int IntKind.i64 (Int.ofNat 8))])).a Cnd.t)).a (((Cnd.p (Wk (AV.v (Value.bool false)) (AV.lit false))).a Cnd.t).a (((Cnd.p (Wk (AV.v (Value.int IntKind.u8 (IntKind.u8.wrap (Int.ofNat n)))) (AV.v (Value.int IntKind.u8 ↑x.toNat)))).a Cnd.t).a (((Cnd.p (true = true)).a ((Cnd.p (true = true)).a ((Cnd.p (true = true)).a ((Cnd.p (true = true)).a ((Cnd.p ((0 + m * 1).ble (rowV encB O).length = true)).a ((Cnd.p (((m + 1) * 1).ble 140737488355328 = true)).a ((Cnd.p ((m + 1).ble 9223372036854775807 = true)).a ((Cnd.p ((List.take (m * 1) (List.drop 0 (rowV encB O))).length.beq (m * 1) = true)).a Cnd.t)))))))).a (((Cnd.p (2 ≤ p.size)).a ((Cnd.p (p.size ≤ p.size)).a ((Cnd.p (Wk (AV.v (Value.string (p.extract 2 p.size))) (AV.v (Value.string p3)))).a Cnd.t))).a (((Cnd.p (p3.size = 0)).a Cnd.t).a (((Cnd.p (Wk (AV.v (Value.int IntKind.i64 (IntKind.i64.wrap (Int.ofNat j + Int.ofNat 1)))) (AV.v (Value.int IntKind.i64 (Int.ofNat (j + 1)))))).a Cnd.t).a Cnd.t))))))))))))))) := by kernel_rfl
theorem oUnG1_eq (L : List ByteArray) (O : List UInt8) (p p2 p3 : ByteArray) (x : UInt8) (n m k j : Nat) (W : World) (F : HP) : wLoop [(fCA, cCA), (fPUs, cPU p2 (.tuple [u64v n, .v .nilIface]))] (hUn p p2 p3 x j false false false) [] W fUn (loopN fUn 4) (tms 0 50 (aUn m k j)) (oUn L O (tByt + 1)) kUn iUn F = VT.leaf (AX.normal, [AV.any, AV.any, AV.slice 1102 0 (m + 1 + p3.size) 1 (Cp.lo (m + 1 + p3.size)), AV.slice 1000 1 k 1 (Cp.lo k), AV.v (Value.int IntKind.i64 (Int.ofNat k)), AV.v (Value.int IntKind.i64 (Int.ofNat (j + 1)))], 50) [some (AO.cells (rowV encS L) 18), none, some (AO.cells [AV.v (Value.int IntKind.u8 ↑x.toNat)] 10), none, some (AO.cells (List.take ((m + 1) * 1) (List.drop 0 (List.take (m * 1) (List.drop 0 (rowV encB O)) ++ [AV.v (Value.int IntKind.u8 ↑x.toNat)])) ++ vmap (List.map (fun b => Value.int IntKind.u8 ↑b.toNat) (List.take p3.size p3.data.toList))) 11), none] 1103 (((Cnd.p (Wk (AV.v (Value.bool (decide (Int.ofNat j < Int.ofNat k)))) (AV.lit true))).a Cnd.t).a (((Cnd.p (j.blt k = true)).a Cnd.t).a (((Cnd.p ((1 + j * 1).blt (rowV encS L).length = true)).a ((Cnd.p ((rowV encS L).getD (1 + j * 1) (AV.undef) = AV.v (Value.string ((rowV encS L).getD (1 + j * 1) (AV.undef)).strOf))).a ((Cnd.p (Wk (AV.v (Value.string ((rowV encS L).getD (1 + j * 1) (AV.undef)).strOf)) (AV.v (Value.string p)))).a Cnd.t))).a (((Cnd.p (Wk (AV.v (Value.bool (decide (↑p.size < Int.ofNat 2)))) (AV.lit false))).a Cnd.t).a (((Cnd.p (0 ≤ 2)).a ((Cnd.p (2 ≤ p.size)).a ((Cnd.p (Wk (AV.v (Value.string (p.extract 0 2))) (AV.v (Value.string p2)))).a Cnd.t))).a (((Cnd.p (ByteArray.mk (Array.mk [43, 45, 95]) = pmu ∧ p2.size = 2)).a ((Cnd.p (Wk (AV.v (Value.bool (caB p2))) (AV.lit false))).a Cnd.t)).a (((Cnd.p (Wk (AV.lit false) (AV.lit false))).a Cnd.t).a (((Cnd.p (0 ≤ 2)).a ((Cnd.p (2 ≤ p.size)).a ((Cnd.p (Wk (AV.v (Value.string (p.extract 0 2))) (AV.v (Value.string p2)))).a Cnd.t))).a (((Cnd.p True).a ((Cnd.p (VW [AV.v (Value.string p2), AV.v (Value.int IntKind.i64 (Int.ofNat 16)), AV.v (Value.int IntKind.i64 (Int.ofNat 8))] [AV.v (Value.string p2), AV.v (Value.int IntKind.i64 (Int.ofNat 16)), AV.v (Value.int IntKind.i64 (Int.ofNat 8))])).a Cnd.t)).a (((Cnd.p (Wk (AV.v (Value.bool false)) (AV.lit false))).a Cnd.t).a (((Cnd.p (Wk (AV.v (Value.int IntKind.u8 (IntKind.u8.wrap (Int.ofNat n)))) (AV.v (Value.int IntKind.u8 ↑x.toNat)))).a Cnd.t).a (((Cnd.p (true = true)).a ((Cnd.p (true = true)).a ((Cnd.p (true = true)).a ((Cnd.p (true = true)).a ((Cnd.p ((0 + m * 1).ble (rowV encB O).length = true)).a ((Cnd.p (((m + 1) * 1).ble 140737488355328 = true)).a ((Cnd.p ((m + 1).ble 9223372036854775807 = true)).a ((Cnd.p ((List.take (m * 1) (List.drop 0 (rowV encB O))).length.beq (m * 1) = true)).a Cnd.t)))))))).a (((Cnd.p (2 ≤ p.size)).a ((Cnd.p (p.size ≤ p.size)).a ((Cnd.p (Wk (AV.v (Value.string (p.extract 2 p.size))) (AV.v (Value.string p3)))).a Cnd.t))).a (((Cnd.p (p3.size.ble p3.size = true)).a ((Cnd.p ((vmap (List.map (fun b => Value.int IntKind.u8 ↑b.toNat) (List.take p3.size p3.data.toList))).all AV.one = true)).a ((Cnd.p (Nat.blt 0 p3.size = true)).a ((Cnd.p ((0 + (m + 1) * 1).ble (List.take (m * 1) (List.drop 0 (rowV encB O)) ++ [AV.v (Value.int IntKind.u8 ↑x.toNat)]).length = true)).a ((Cnd.p (((m + 1 + p3.size) * 1).ble 140737488355328 = true)).a ((Cnd.p ((m + 1 + p3.size).ble 9223372036854775807 = true)).a ((Cnd.p ((List.take ((m + 1) * 1) (List.drop 0 (List.take (m * 1) (List.drop 0 (rowV encB O)) ++ [AV.v (Value.int IntKind.u8 ↑x.toNat)]))).length.beq ((m + 1) * 1) = true)).a Cnd.t))))))).a (((Cnd.p (Wk (AV.v (Value.int IntKind.i64 (IntKind.i64.wrap (Int.ofNat j + Int.ofNat 1)))) (AV.v (Value.int IntKind.i64 (Int.ofNat (j + 1)))))).a Cnd.t).a Cnd.t))))))))))))))) := by kernel_rfl
theorem oUnZ1_eq (L : List ByteArray) (O : List UInt8) (p p2 p3 : ByteArray) (x : UInt8) (n m k j : Nat) (W : World) (F : HP) : wLoop [(fCA, cCA), (fPUs, cPU p2 (.tuple [u64v n, .v .nilIface]))] (hUz p p2 p3 x j false false false) [] W fUn (loopN fUn 4) (tms 0 50 (aUn m k j)) (oUn L O (tByt + 1)) kUn iUn F = VT.leaf (AX.normal, [AV.any, AV.any, AV.slice 1101 0 (m + 1) 1 (Cp.lo (m + 1)), AV.slice 1000 1 k 1 (Cp.lo k), AV.v (Value.int IntKind.i64 (Int.ofNat k)), AV.v (Value.int IntKind.i64 (Int.ofNat (j + 1)))], 50) [some (AO.cells (rowV encS L) 18), none, some (AO.cells [AV.v (Value.int IntKind.u8 ↑x.toNat)] 10), some (AO.cells (List.take (m * 1) (List.drop 0 (rowV encB O)) ++ [AV.v (Value.int IntKind.u8 ↑x.toNat)]) 11), none, none] 1102 (((Cnd.p (Wk (AV.v (Value.bool (decide (Int.ofNat j < Int.ofNat k)))) (AV.lit true))).a Cnd.t).a (((Cnd.p (j.blt k = true)).a Cnd.t).a (((Cnd.p ((1 + j * 1).blt (rowV encS L).length = true)).a ((Cnd.p ((rowV encS L).getD (1 + j * 1) (AV.undef) = AV.v (Value.string ((rowV encS L).getD (1 + j * 1) (AV.undef)).strOf))).a ((Cnd.p (Wk (AV.v (Value.string ((rowV encS L).getD (1 + j * 1) (AV.undef)).strOf)) (AV.v (Value.string p)))).a Cnd.t))).a (((Cnd.p (Wk (AV.v (Value.bool (decide (↑p.size < Int.ofNat 2)))) (AV.lit false))).a Cnd.t).a (((Cnd.p (0 ≤ 2)).a ((Cnd.p (2 ≤ p.size)).a ((Cnd.p (Wk (AV.v (Value.string (p.extract 0 2))) (AV.v (Value.string p2)))).a Cnd.t))).a (((Cnd.p (ByteArray.mk (Array.mk [43, 45, 95]) = pmu ∧ p2.size = 2)).a ((Cnd.p (Wk (AV.v (Value.bool (caB p2))) (AV.lit false))).a Cnd.t)).a (((Cnd.p (Wk (AV.lit false) (AV.lit false))).a Cnd.t).a (((Cnd.p (0 ≤ 2)).a ((Cnd.p (2 ≤ p.size)).a ((Cnd.p (Wk (AV.v (Value.string (p.extract 0 2))) (AV.v (Value.string p2)))).a Cnd.t))).a (((Cnd.p True).a ((Cnd.p (VW [AV.v (Value.string p2), AV.v (Value.int IntKind.i64 (Int.ofNat 16)), AV.v (Value.int IntKind.i64 (Int.ofNat 8))] [AV.v (Value.string p2), AV.v (Value.int IntKind.i64 (Int.ofNat 16)), AV.v (Value.int IntKind.i64 (Int.ofNat 8))])).a Cnd.t)).a (((Cnd.p (Wk (AV.v (Value.bool false)) (AV.lit false))).a Cnd.t).a (((Cnd.p (Wk (AV.v (Value.int IntKind.u8 (IntKind.u8.wrap (Int.ofNat n)))) (AV.v (Value.int IntKind.u8 ↑x.toNat)))).a Cnd.t).a (((Cnd.p (true = true)).a ((Cnd.p (true = true)).a ((Cnd.p (true = true)).a ((Cnd.p (true = true)).a ((Cnd.p ((0 + m * 1).ble (rowV encB O).length = true)).a ((Cnd.p (((m + 1) * 1).ble 140737488355328 = true)).a ((Cnd.p ((m + 1).ble 9223372036854775807 = true)).a ((Cnd.p ((List.take (m * 1) (List.drop 0 (rowV encB O))).length.beq (m * 1) = true)).a Cnd.t)))))))).a (((Cnd.p (2 ≤ p.size)).a ((Cnd.p (p.size ≤ p.size)).a ((Cnd.p (Wk (AV.v (Value.string (p.extract 2 p.size))) (AV.v (Value.string p3)))).a Cnd.t))).a (((Cnd.p (p3.size = 0)).a Cnd.t).a (((Cnd.p (Wk (AV.v (Value.int IntKind.i64 (IntKind.i64.wrap (Int.ofNat j + Int.ofNat 1)))) (AV.v (Value.int IntKind.i64 (Int.ofNat (j + 1)))))).a Cnd.t).a Cnd.t))))))))))))))) := by kernel_rfl
theorem oUnE_eq (L : List ByteArray) (O : List UInt8) (e : TypeId) (m k : Nat) (W : World) (F : HP) : wLoop [] (hintL [(fUn, 4, 0, hv (.lit false))]) [] W fUn (loopN fUn 4) (tms 0 50 (aUn m k k)) (oUn L O e) kUn iUn F = VT.leaf (AX.exit 0, [AV.any, AV.any, AV.slice 1001 0 m 1 (Cp.lo m), AV.slice 1000 1 k 1 (Cp.lo k), AV.v (Value.int IntKind.i64 (Int.ofNat k)), AV.v (Value.int IntKind.i64 (Int.ofNat k))], 50) [some (AO.cells (rowV encS L) 18), some (AO.cells (rowV encB O) e), none, none, none, none] 1100 (((Cnd.p (Wk (AV.v (Value.bool (decide (Int.ofNat k < Int.ofNat k)))) (AV.lit false))).a Cnd.t).a Cnd.t) := by kernel_rfl
def gUn : List AV → AP (Nat × Nat) := fun tmps => match getL tmps 17, getL tmps 5 with
  | .slice a _ _ _ _, .slice b _ _ _ _ => .ret (a, b)
  | _, _ => .fail "pieces"
def nmUn (a b : Nat) : Nat → Nat := fun k => match Nat.beq k 1000 with
  | true => a
  | false => match Nat.beq k 1001 with
    | true => b
    | false => k
def lUn (L : List ByteArray) (O O' : List UInt8) (e : TypeId) (m m' k : Nat) : List AV → AP (AX × List AV) := mkL gUn (fun _ => True) (fun q => nmUn q.1 q.2) (fun _ => tms 0 50 (aUn m k 0)) (fun _ => oUn L O (tByt + 1)) (fun _ => .leaf (.exit 0) (tms 0 50 [(5, sB 1001 m')]) [(1001, rBe O' e)])
def lUnx (L : List ByteArray) (O : List UInt8) (m k : Nat) : List AV → AP (AX × List AV) := mkL gUn (fun _ => True) (fun q => nmUn q.1 q.2) (fun _ => tms 0 50 (aUn m k 0)) (fun _ => oUn L O (tByt + 1)) (fun _ => .leaf .ret (tms 0 50 [(2, sv ByteArray.empty), (3, bv false)]) [])
def hUf (L : List ByteArray) (p res : ByteArray) (k : Nat) : ClaimT := hintL [(fUn, 1, 1, hvo (.slice 1100 0 (k + 1) 1 (.lo (k + 1))) 1100 (rS L)), (fUn, 2, 2, hv (sv p)), (fUn, 2, 3, ho 1101 (rB1 p.data.toList)), (fUn, 3, 1, hv (.slice 1100 1 k 1 (.lo k))), (fUn, 13, 1, ht res)]
theorem oUn_eq (W : World) (s p res : ByteArray) (L : List ByteArray) (O' : List UInt8) (e : TypeId) (m' k : Nat) (F : HP) : wRun [(fSplit, cSplit 37)] (hUf L p res k) [(fUn, 4, loopN fUn 4, lUn L p.data.toList O' e p.size m' k)] W fUn [sv s] [] [] F = VT.leaf (AV.tuple [AV.v (Value.string res), AV.v (Value.bool true)]) [] 1103 (((Cnd.p (ByteArray.mk (Array.mk [37]) = ByteArray.mk (Array.mk [37]) ∧ s.size < 4294967281)).a ((Cnd.p (OW (AO.cells (vmap (List.map Value.string (cutB 37 s))) 18) (AO.cells (rowV encS L) 18))).a ((Cnd.p (Wk (AV.slice 1100 0 (List.map Value.string (cutB 37 s)).length 1 (Cp.lo (List.map Value.string (cutB 37 s)).length)) (AV.slice 1100 0 (k + 1) 1 (Cp.lo (k + 1))))).a Cnd.t))).a (((Cnd.p (true = true)).a Cnd.t).a (((Cnd.p (Nat.blt 0 (rowV encS L).length = true)).a ((Cnd.p ((rowV encS L).getD 0 (AV.undef) = AV.v (Value.string ((rowV encS L).getD 0 (AV.undef)).strOf))).a ((Cnd.p (Wk (AV.v (Value.string ((rowV encS L).getD 0 (AV.undef)).strOf)) (AV.v (Value.string p)))).a Cnd.t))).a (((Cnd.p (OW (AO.cells (vmap (List.map (fun b => Value.int IntKind.u8 ↑b.toNat) p.data.toList)) 11) (AO.cells (rowV encB p.data.toList) 11))).a Cnd.t).a (((Cnd.p (true = true)).a ((Cnd.p ((k + 1).ble (k + 1) = true)).a ((Cnd.p ((k + 1).ble (k + 1) = true)).a ((Cnd.p (Wk (AV.slice 1100 1 k 1 (Cp.lo k)) (AV.slice 1100 1 k 1 (Cp.lo k)))).a Cnd.t)))).a ((Cnd.p ((fUn, 4, loopN fUn 4, lUn L p.data.toList O' e p.size m' k).snd.snd.fst = (fUn, 4, loopN fUn 4, lUn L p.data.toList O' e p.size m' k).snd.snd.fst)).a ((Cnd.p True).a ((Cnd.p (VW [AV.v (Value.string s), AV.undef, AV.v (Value.string (ByteArray.mk (Array.mk []))), AV.v (Value.bool false), AV.slice 1100 0 (k + 1) 1 (Cp.lo (k + 1)), AV.slice 1101 0 p.size 1 (Cp.lo p.size), AV.undef, AV.undef, AV.undef, AV.undef, AV.v (Value.string s), AV.slice 1100 0 (k + 1) 1 (Cp.lo (k + 1)), AV.slice 1100 0 (k + 1) 1 (Cp.lo (k + 1)), AV.ptr 1100 0, AV.v (Value.string p), AV.slice 1101 0 p.size 1 (Cp.lo p.size), AV.slice 1100 0 (k + 1) 1 (Cp.lo (k + 1)), AV.slice 1100 1 k 1 (Cp.lo k), AV.v (Value.int IntKind.i64 ↑k), AV.v (Value.int IntKind.i64 (Int.ofNat 0)), AV.undef, AV.undef, AV.undef, AV.undef, AV.undef, AV.undef, AV.undef, AV.undef, AV.undef, AV.undef, AV.undef, AV.undef, AV.undef, AV.undef, AV.undef, AV.undef, AV.undef, AV.undef, AV.undef, AV.undef, AV.undef, AV.undef, AV.undef, AV.undef, AV.undef, AV.undef, AV.undef, AV.undef, AV.undef, AV.undef] [AV.any, AV.any, AV.any, AV.any, AV.any, AV.slice 1101 0 p.size 1 (Cp.lo p.size), AV.any, AV.any, AV.any, AV.any, AV.any, AV.any, AV.any, AV.any, AV.any, AV.any, AV.any, AV.slice 1100 1 k 1 (Cp.lo k), AV.v (Value.int IntKind.i64 (Int.ofNat k)), AV.v (Value.int IntKind.i64 (Int.ofNat 0)), AV.any, AV.any, AV.any, AV.any, AV.any, AV.any, AV.any, AV.any, AV.any, AV.any, AV.any, AV.any, AV.any, AV.any, AV.any, AV.any, AV.any, AV.any, AV.any, AV.any, AV.any, AV.any, AV.any, AV.any, AV.any, AV.any, AV.any, AV.any, AV.any, AV.any])).a ((Cnd.p (OW (AO.cells (rowV encS L) 18) (AO.cells (AV.rens (nmUn 1100 1101) (rowV encS L)) 18))).a ((Cnd.p (OW (AO.cells (rowV encB p.data.toList) 11) (AO.cells (AV.rens (nmUn 1100 1101) (rowV encB p.data.toList)) 11))).a (((Cnd.p (0 + m' ≤ (AV.rens (sgN (nmUn 1100 1101) [1001] 1102) (rowV encB O')).length ∧ List.take m' (List.drop 0 (AV.rens (sgN (nmUn 1100 1101) [1001] 1102) (rowV encB O'))) = vmap (List.map (fun b => Value.int IntKind.u8 ↑b.toNat) res.data.toList))).a Cnd.t).a Cnd.t))))))))))) := by kernel_rfl
theorem oUnx_eq (W : World) (s p : ByteArray) (L : List ByteArray) (k : Nat) (F : HP) : wRun [(fSplit, cSplit 37)] (hUf L p p k) [(fUn, 4, loopN fUn 4, lUnx L p.data.toList p.size k)] W fUn [sv s] [] [] F = VT.leaf (AV.tuple [AV.v (Value.string ByteArray.empty), AV.v (Value.bool false)]) [] 1102 (((Cnd.p (ByteArray.mk (Array.mk [37]) = ByteArray.mk (Array.mk [37]) ∧ s.size < 4294967281)).a ((Cnd.p (OW (AO.cells (vmap (List.map Value.string (cutB 37 s))) 18) (AO.cells (rowV encS L) 18))).a ((Cnd.p (Wk (AV.slice 1100 0 (List.map Value.string (cutB 37 s)).length 1 (Cp.lo (List.map Value.string (cutB 37 s)).length)) (AV.slice 1100 0 (k + 1) 1 (Cp.lo (k + 1))))).a Cnd.t))).a (((Cnd.p (true = true)).a Cnd.t).a (((Cnd.p (Nat.blt 0 (rowV encS L).length = true)).a ((Cnd.p ((rowV encS L).getD 0 (AV.undef) = AV.v (Value.string ((rowV encS L).getD 0 (AV.undef)).strOf))).a ((Cnd.p (Wk (AV.v (Value.string ((rowV encS L).getD 0 (AV.undef)).strOf)) (AV.v (Value.string p)))).a Cnd.t))).a (((Cnd.p (OW (AO.cells (vmap (List.map (fun b => Value.int IntKind.u8 ↑b.toNat) p.data.toList)) 11) (AO.cells (rowV encB p.data.toList) 11))).a Cnd.t).a (((Cnd.p (true = true)).a ((Cnd.p ((k + 1).ble (k + 1) = true)).a ((Cnd.p ((k + 1).ble (k + 1) = true)).a ((Cnd.p (Wk (AV.slice 1100 1 k 1 (Cp.lo k)) (AV.slice 1100 1 k 1 (Cp.lo k)))).a Cnd.t)))).a ((Cnd.p ((fUn, 4, loopN fUn 4, lUnx L p.data.toList p.size k).snd.snd.fst = (fUn, 4, loopN fUn 4, lUnx L p.data.toList p.size k).snd.snd.fst)).a ((Cnd.p True).a ((Cnd.p (VW [AV.v (Value.string s), AV.undef, AV.v (Value.string (ByteArray.mk (Array.mk []))), AV.v (Value.bool false), AV.slice 1100 0 (k + 1) 1 (Cp.lo (k + 1)), AV.slice 1101 0 p.size 1 (Cp.lo p.size), AV.undef, AV.undef, AV.undef, AV.undef, AV.v (Value.string s), AV.slice 1100 0 (k + 1) 1 (Cp.lo (k + 1)), AV.slice 1100 0 (k + 1) 1 (Cp.lo (k + 1)), AV.ptr 1100 0, AV.v (Value.string p), AV.slice 1101 0 p.size 1 (Cp.lo p.size), AV.slice 1100 0 (k + 1) 1 (Cp.lo (k + 1)), AV.slice 1100 1 k 1 (Cp.lo k), AV.v (Value.int IntKind.i64 ↑k), AV.v (Value.int IntKind.i64 (Int.ofNat 0)), AV.undef, AV.undef, AV.undef, AV.undef, AV.undef, AV.undef, AV.undef, AV.undef, AV.undef, AV.undef, AV.undef, AV.undef, AV.undef, AV.undef, AV.undef, AV.undef, AV.undef, AV.undef, AV.undef, AV.undef, AV.undef, AV.undef, AV.undef, AV.undef, AV.undef, AV.undef, AV.undef, AV.undef, AV.undef, AV.undef] [AV.any, AV.any, AV.any, AV.any, AV.any, AV.slice 1101 0 p.size 1 (Cp.lo p.size), AV.any, AV.any, AV.any, AV.any, AV.any, AV.any, AV.any, AV.any, AV.any, AV.any, AV.any, AV.slice 1100 1 k 1 (Cp.lo k), AV.v (Value.int IntKind.i64 (Int.ofNat k)), AV.v (Value.int IntKind.i64 (Int.ofNat 0)), AV.any, AV.any, AV.any, AV.any, AV.any, AV.any, AV.any, AV.any, AV.any, AV.any, AV.any, AV.any, AV.any, AV.any, AV.any, AV.any, AV.any, AV.any, AV.any, AV.any, AV.any, AV.any, AV.any, AV.any, AV.any, AV.any, AV.any, AV.any, AV.any, AV.any])).a ((Cnd.p (OW (AO.cells (rowV encS L) 18) (AO.cells (AV.rens (nmUn 1100 1101) (rowV encS L)) 18))).a ((Cnd.p (OW (AO.cells (rowV encB p.data.toList) 11) (AO.cells (AV.rens (nmUn 1100 1101) (rowV encB p.data.toList)) 11))).a Cnd.t)))))))))) := by kernel_rfl
end
end Go.Proofs.YtpijbbobejeemaaGreatDoor.Htp

/- Http: unescape. -/
set_option linter.unusedVariables false
set_option linter.unusedSimpArgs false
set_option maxRecDepth 100000
namespace Go.Proofs.YtpijbbobejeemaaGreatDoor.Htp
open Go Go.RowKit Go.Proofs.YtpijbbobejeemaaGreatDoor.Eng Go.Proofs.YtpijbbobejeemaaGreatDoor.Kit
theorem cCA_ok {W : World} {F : HP} (hF : OldOK W F) : C1OK Tryz.prog F fCA cCA :=
  vC_ok hF (fun p => [.string p.1, .string p.2]) (fun p => .bool (caB p.1)) g2s_spec (fun p N => vr_v N _) fun p hp w hw => by
    obtain ⟨h1, h2⟩ := hp
    obtain ⟨s, t⟩ := p
    simp only at h1 h2
    subst h1
    exact ca_calls s h2 w
theorem cPU_ok {W : World} {F : HP} (hW : LW2 W) (hF : OldOK W F) (s : ByteArray) (h2 : s.size = 2) (res : AV) (hr : puV s = res) (hcl : ∀ K, AV.cl K res) : C1OK Tryz.prog F fPUs (cPU s res) :=
  mkC_ok hF (fun _ => res) (fun _ => RO.ret _) (fun _ => rfl) (fun _ _ => by rw [← hr]; exact PU_tri hW s h2) fun _ => ⟨rfl, rfl, ⟨trivial, trivial, trivial, trivial⟩, all_nil, ⟨hcl _, trivial⟩, all_nil⟩
theorem pref_hex (a b : UInt8) : pref [a, b] 2 = hex2 a b := by
  unfold pref hex2
  show hexAll [a, b] 0 = _
  rw [hexAll]
  cases hexV a with
  | none => rfl
  | some x =>
    simp only
    rw [hexAll]
    cases hexV b with
    | none => rfl
    | some y => simp [hexAll]
theorem in_hex {c : UInt8} (h : inSet c = true) : hexV c = none := by
  have key : ∀ c : Fin 256, inSet (UInt8.ofNat c.1) = true → hexV (UInt8.ofNat c.1) = none := by decide +kernel
  have := key ⟨c.toNat, c.toNat_lt⟩
  simp only [UInt8.ofNat_toNat] at this
  exact this h
theorem ca_hex {s : ByteArray} {a b : UInt8} (h : s.data.toList = [a, b]) {n : Nat} (hn : hex2 a b = some n) : caB s = false := by
  show s.data.toList.any inSet = false
  rw [h]
  cases ha : inSet a with
  | true => rw [hex2_no (.inl (in_hex ha))] at hn; cases hn
  | false =>
    cases hb : inSet b with
    | true => rw [hex2_no (.inr (in_hex hb))] at hn; cases hn
    | false => simp [ha, hb]
theorem pcs_short {q : List UInt8} {r : List (List UInt8)} (h : q.length < 2) : pcs (q :: r) = none := by
  match q, h with
  | [], _ => rfl
  | [a], _ => rfl
theorem pcs_cons (a b : UInt8) (t : List UInt8) (r : List (List UInt8)) : pcs ((a :: b :: t) :: r) = match hex2 a b, pcs r with
    | some n, some u => some (UInt8.ofNat n :: (t ++ u))
    | _, _ => none := rfl
theorem rBe_ow {x : List AV} {L : List UInt8} {e e' : TypeId} {σ : Nat → Nat} (h : x = rowV encB L) (he : e = e') : OW (.cells x e) ((rBe L e').ren σ) := by
  subst h he
  simp only [rBe, AO.ren, rens_rowV]
  exact OW.refl _
theorem rBe_cl (K : Nat → Bool) (L : List UInt8) (e : TypeId) : (rBe L e).cl K := cls_rowV _ _
theorem gUn_ro : ∀ args, RO (gUn args) := by
  intro args
  unfold gUn
  split
  · exact RO.ret _
  · exact RO.fail _
theorem un_round {W : World} (hW : LW2 W) {L : List ByteArray} {O : List UInt8} {e : TypeId} (he : e = tByt ∨ e = tByt + 1) {k j : Nat} (hk : L.length = k + 1) (hj : j < k) (hkb : k ≤ 1100001) (hO : O.length ≤ (j + 1) * 1100000) {p : ByteArray} (hp : L.getD (1 + j) nil0 = p) (hps : p.size ≤ 1100000) :
    ∃ (con : ConsL) (hints : ClaimT), (∀ F, OldOK W F → ∀ x ∈ con, C1OK Tryz.prog F x.1 x.2) ∧ ((∃ a b t n, p.data.toList = a :: b :: t ∧ hex2 a b = some n ∧
      ∀ F, VAll (fun r os _ => r.2.2 = 50 ∧ r.1 = .normal ∧ ∃ l, FitT kUn iUn r.2.1 os (aUn (O ++ UInt8.ofNat n :: t).length k (j + 1)) (oUn L (O ++ UInt8.ofNat n :: t) e) l) (wLoop con hints [] W fUn (loopN fUn 4) (tms 0 50 (aUn O.length k j)) (oUn L O e) kUn iUn F)) ∨
     ((∀ r, pcs (p.data.toList :: r) = none) ∧ ∀ F, VAll (fun r os _ => r.2.2 = 50 ∧ r.1 = .ret ∧ ∃ l, FitT kUn iUn r.2.1 os [(2, sv ByteArray.empty), (3, bv false)] [] l) (wLoop con hints [] W fUn (loopN fUn 4) (tms 0 50 (aUn O.length k j)) (oUn L O e) kUn iUn F))) := by
  have hw := wrap_succ j (by omega)
  have e1 := ltTN hj
  have g1 : ∀ d, (rowV encS L).getD (1 + j * 1) d = sv p := fun d => by
    have := rS_get L (1 + j) (by omega) d
    rw [hp] at this
    rw [← this]
    congr 1
    omega
  have g2 : (1 + j * 1).blt (rowV encS L).length = true := by rw [rS_len, Nat.blt_eq]; omega
  have hpl : p.data.toList.length = p.size := rfl
  by_cases hsh : p.size < 2
  · have e2 : decide ((p.size : Int) < Int.ofNat 2) = true := decide_eq_true (by simp only [Int.ofNat_eq_natCast]; omega)
    refine ⟨[], hUn p p p 0 j true false false, fun _ _ => noC, .inr ⟨fun r => pcs_short (by omega), fun F => ?_⟩⟩
    refine cast (congrArg (VAll _) (oUnS_eq L O e p p p 0 O.length k j W F).symm) ⟨⟨?_, rfl, rfl, [], by kernel_rfl, by kernel_rfl, ⟨Wk.refl _, Wk.refl _, trivial⟩, trivial⟩⟩
    simp only [Cnd.holds, e1, e2, g1, g2, hj, sv, AV.strOf, Nat.blt_eq, true_and, and_true]
    and_intros
    all_goals first
      | (with_reducible exact trivial)
      | (with_reducible exact rfl)
      | (with_reducible exact Wk.refl _)
      | (with_reducible exact VW.refl _)
      | (with_reducible exact OW.refl _)
      | (with_reducible exact wk_lit _)
      | (with_reducible assumption)
      | exact rfl
      | exact Wk.refl _
      | exact VW.refl _
      | exact OW.refl _
      | ((repeat (first | exact VW.nil | refine VW.cons (Wk.refl _) ?_ | refine VW.cons (Wk.any _) ?_ | refine VW.cons (wk_cap (Nat.le_refl _)) ?_)); done)
  · have e2 : decide ((p.size : Int) < Int.ofNat 2) = false := decide_eq_false (by simp only [Int.ofNat_eq_natCast]; omega)
    obtain ⟨a, b, t, hd⟩ : ∃ a b t, p.data.toList = a :: b :: t := by
      match h : p.data.toList with
      | [] => rw [h] at hpl; simp at hpl; omega
      | [a] => rw [h] at hpl; simp at hpl; omega
      | a :: b :: t => exact ⟨a, b, t, rfl⟩
    have h2le : 2 ≤ p.size := by omega
    have hp2 : (p.extract 0 2).data.toList = [a, b] := by rw [extract_eq _ _ _ h2le, hd]; rfl
    have hs2 : (p.extract 0 2).size = 2 := by rw [← ba_size, hp2]; rfl
    have hp3 : (p.extract 2 p.size).data.toList = t := by
      rw [extract_eq _ _ _ (Nat.le_refl _), hd]
      show List.take (p.size - 2) t = t
      rw [List.take_of_length_le]
      rw [hd] at hpl
      simp at hpl
      omega
    have hs3 : (p.extract 2 p.size).size = t.length := by rw [← ba_size, hp3]
    have htl : t.length + 2 = p.size := by rw [hd] at hpl; simpa using hpl
    have hpre : pref (p.extract 0 2).data.toList 2 = hex2 a b := by rw [hp2, pref_hex]
    have hpm : ByteArray.mk (Array.mk [43, 45, 95]) = pmu := rfl
    generalize hp2' : p.extract 0 2 = p2 at *
    generalize hp3' : p.extract 2 p.size = p3 at *
    cases hn : hex2 a b with
    | none =>
      have hpn : ∀ r, pcs (p.data.toList :: r) = none := fun r => by rw [hd, pcs_cons, hn]
      cases hca : caB p2 with
      | true =>
        refine ⟨[(fCA, cCA)], hUn p p2 p2 0 j false true false, fun F hF => one_c (cCA_ok hF), .inr ⟨hpn, fun F => ?_⟩⟩
        refine cast (congrArg (VAll _) (oUnC_eq L O e p p2 p2 0 O.length k j W F).symm) ⟨⟨?_, rfl, rfl, [], by kernel_rfl, by kernel_rfl, ⟨Wk.refl _, Wk.refl _, trivial⟩, trivial⟩⟩
        simp only [Cnd.holds, e1, e2, g1, g2, hj, sv, AV.strOf, hca, h2le, hp2', hs2, hpm, Nat.zero_le, Nat.blt_eq, true_and, and_true]
        and_intros
        all_goals first
          | (with_reducible exact trivial)
          | (with_reducible exact rfl)
          | (with_reducible exact Wk.refl _)
          | (with_reducible exact VW.refl _)
          | (with_reducible exact OW.refl _)
          | (with_reducible exact wk_lit _)
          | (with_reducible assumption)
          | exact rfl
          | exact Wk.refl _
          | exact VW.refl _
          | exact OW.refl _
          | ((repeat (first | exact VW.nil | refine VW.cons (Wk.refl _) ?_ | refine VW.cons (Wk.any _) ?_ | refine VW.cons (wk_cap (Nat.le_refl _)) ?_)); done)
      | false =>
        have hpu : puV p2 = errV := by unfold puV; rw [hpre, hn]
        refine ⟨[(fCA, cCA), (fPUs, cPU p2 errV)], hUn p p2 p2 0 j false false true, fun F hF => con_cons (cCA_ok hF) (one_c (cPU_ok hW hF p2 hs2 errV hpu fun _ => ⟨trivial, trivial, trivial⟩)), .inr ⟨hpn, fun F => ?_⟩⟩
        refine cast (congrArg (VAll _) (oUnB_eq L O e p p2 p2 0 O.length k j W F).symm) ⟨⟨?_, rfl, rfl, [], by kernel_rfl, by kernel_rfl, ⟨Wk.refl _, Wk.refl _, trivial⟩, trivial⟩⟩
        simp only [Cnd.holds, e1, e2, g1, g2, hj, sv, AV.strOf, hca, h2le, hp2', hs2, hpm, Nat.zero_le, Nat.blt_eq, true_and, and_true]
        and_intros
        all_goals first
          | (with_reducible exact trivial)
          | (with_reducible exact rfl)
          | (with_reducible exact Wk.refl _)
          | (with_reducible exact VW.refl _)
          | (with_reducible exact OW.refl _)
          | (with_reducible exact wk_lit _)
          | (with_reducible assumption)
          | exact rfl
          | exact Wk.refl _
          | exact VW.refl _
          | exact OW.refl _
          | ((repeat (first | exact VW.nil | refine VW.cons (Wk.refl _) ?_ | refine VW.cons (Wk.any _) ?_ | refine VW.cons (wk_cap (Nat.le_refl _)) ?_)); done)
    | some n =>
      have hca := ca_hex hp2 hn
      have hpu : puV p2 = .tuple [u64v n, .v .nilIface] := by unfold puV; rw [hpre, hn]
      have hcl : ∀ K, AV.cl K (.tuple [u64v n, .v .nilIface]) := fun _ => ⟨trivial, trivial, trivial⟩
      have hx := w_u8 n
      generalize hxv : UInt8.ofNat n = x at *
      have hcon : ∀ F, OldOK W F → ∀ y ∈ ([(fCA, cCA), (fPUs, cPU p2 (.tuple [u64v n, .v .nilIface]))] : ConsL), C1OK Tryz.prog F y.1 y.2 := fun F hF => con_cons (cCA_ok hF) (one_c (cPU_ok hW hF p2 hs2 _ hpu hcl))
      have l1 : (O ++ [x]).length = O.length + 1 := by simp
      have l2 : (O ++ x :: t).length = O.length + 1 + p3.size := by rw [hs3]; simp; omega
      have a1 : List.take (O.length * 1) (List.drop 0 (rowV encB O)) ++ [byv x] = rowV encB (O ++ [x]) := rB_adds rfl [x]
      have a2 : List.take ((O.length + 1) * 1) (List.drop 0 (rowV encB (O ++ [x]))) ++ vmap (List.map (fun b => Value.int IntKind.u8 ↑b.toNat) (List.take p3.size p3.data.toList)) = rowV encB (O ++ x :: t) := by
        have q : List.take p3.size p3.data.toList = t := by rw [List.take_of_length_le (by rw [ba_size]; exact Nat.le_refl _), hp3]
        rw [q, ← rowB_map, rB_adds l1 t]
        simp
      unfold byv at a1
      have k1 := rB_in (p := O.length) (P := O) rfl
      have k2 := rB_full (p := O.length) (P := O) rfl
      have k3 := rB_in l1
      have k4 := rB_full l1
      have b1' : ((O.length + 1) * 1).ble 140737488355328 = true := ble_of (by omega)
      have b2 : (O.length + 1).ble 9223372036854775807 = true := ble_of (by omega)
      have b3 : ((O.length + 1 + p3.size) * 1).ble 140737488355328 = true := ble_of (by omega)
      have b4 : (O.length + 1 + p3.size).ble 9223372036854775807 = true := ble_of (by omega)
      have b5 : p3.size.ble p3.size = true := ble_of (Nat.le_refl _)
      have b6 : (vmap (List.map (fun b => Value.int IntKind.u8 ↑b.toNat) (List.take p3.size p3.data.toList))).all AV.one = true := by
        rw [← rowB_map]
        exact one_rowV (fun _ => rfl) _
      cases t with
      | nil =>
        have hz : p3.size = 0 := hs3
        have l3 : (O ++ [x]).length = O.length + 1 := l1
        rcases he with rfl | rfl
        · refine ⟨_, hUz p p2 p3 x j false false false, hcon, .inl ⟨a, b, [], n, hd, hn, fun F => ?_⟩⟩
          rw [hxv]
          refine cast (congrArg (VAll _) (oUnZ0_eq L O p p2 p3 x n O.length k j W F).symm) ⟨⟨?_, rfl, rfl, [(1000, 1000), (1001, 1101)], by kernel_rfl, by kernel_rfl, ⟨by rw [l3]; exact Wk.refl _, Wk.refl _, Wk.refl _, Wk.refl _, trivial⟩, ⟨_, rfl, rS_ow rfl rfl⟩, ⟨_, rfl, rBe_ow a1 rfl⟩, trivial⟩⟩
          simp only [Cnd.holds, e1, e2, g1, g2, hj, sv, AV.strOf, hca, h2le, hp2', hp3', hs2, hpm, Nat.zero_le, Nat.le_refl, k1, k2, b1', b2, hz, Nat.blt_eq, true_and, and_true]
          and_intros
          all_goals first
            | (with_reducible exact wk_int hw)
            | exact wk_u8 hx
            | (with_reducible exact trivial)
            | (with_reducible exact rfl)
            | (with_reducible exact Wk.refl _)
            | (with_reducible exact VW.refl _)
            | (with_reducible exact OW.refl _)
            | (with_reducible exact wk_lit _)
            | (with_reducible assumption)
            | exact rfl
            | exact Wk.refl _
            | exact VW.refl _
            | exact OW.refl _
            | ((repeat (first | exact VW.nil | refine VW.cons (Wk.refl _) ?_ | refine VW.cons (Wk.any _) ?_ | refine VW.cons (wk_cap (Nat.le_refl _)) ?_)); done)
        · refine ⟨_, hUz p p2 p3 x j false false false, hcon, .inl ⟨a, b, [], n, hd, hn, fun F => ?_⟩⟩
          rw [hxv]
          refine cast (congrArg (VAll _) (oUnZ1_eq L O p p2 p3 x n O.length k j W F).symm) ⟨⟨?_, rfl, rfl, [(1000, 1000), (1001, 1101)], by kernel_rfl, by kernel_rfl, ⟨by rw [l3]; exact Wk.refl _, Wk.refl _, Wk.refl _, Wk.refl _, trivial⟩, ⟨_, rfl, rS_ow rfl rfl⟩, ⟨_, rfl, rBe_ow a1 rfl⟩, trivial⟩⟩
          simp only [Cnd.holds, e1, e2, g1, g2, hj, sv, AV.strOf, hca, h2le, hp2', hp3', hs2, hpm, Nat.zero_le, Nat.le_refl, k1, k2, b1', b2, hz, Nat.blt_eq, true_and, and_true]
          and_intros
          all_goals first
            | (with_reducible exact wk_int hw)
            | exact wk_u8 hx
            | (with_reducible exact trivial)
            | (with_reducible exact rfl)
            | (with_reducible exact Wk.refl _)
            | (with_reducible exact VW.refl _)
            | (with_reducible exact OW.refl _)
            | (with_reducible exact wk_lit _)
            | (with_reducible assumption)
            | exact rfl
            | exact Wk.refl _
            | exact VW.refl _
            | exact OW.refl _
            | ((repeat (first | exact VW.nil | refine VW.cons (Wk.refl _) ?_ | refine VW.cons (Wk.any _) ?_ | refine VW.cons (wk_cap (Nat.le_refl _)) ?_)); done)
      | cons y t' =>
        have hz : 0 < p3.size := by rw [hs3]; simp
        rcases he with rfl | rfl
        · refine ⟨_, hUn p p2 p3 x j false false false, hcon, .inl ⟨a, b, y :: t', n, hd, hn, fun F => ?_⟩⟩
          rw [hxv]
          refine cast (congrArg (VAll _) (oUnG0_eq L O p p2 p3 x n O.length k j W F).symm) ⟨⟨?_, rfl, rfl, [(1000, 1000), (1001, 1102)], by kernel_rfl, by kernel_rfl, ⟨by rw [l2]; exact Wk.refl _, Wk.refl _, Wk.refl _, Wk.refl _, trivial⟩, ⟨_, rfl, rS_ow rfl rfl⟩, ⟨_, rfl, rBe_ow (by rw [a1, a2]) rfl⟩, trivial⟩⟩
          simp only [Cnd.holds, e1, e2, g1, g2, hj, sv, AV.strOf, hca, h2le, hp2', hp3', hs2, hpm, Nat.zero_le, Nat.le_refl, a1, k1, k2, k3, k4, b1', b2, b3, b4, b5, b6, hz, Nat.blt_eq, true_and, and_true]
          and_intros
          all_goals first
            | (with_reducible exact wk_int hw)
            | exact wk_u8 hx
            | (with_reducible exact trivial)
            | (with_reducible exact rfl)
            | (with_reducible exact Wk.refl _)
            | (with_reducible exact VW.refl _)
            | (with_reducible exact OW.refl _)
            | (with_reducible exact wk_lit _)
            | (with_reducible assumption)
            | exact rfl
            | exact Wk.refl _
            | exact VW.refl _
            | exact OW.refl _
            | ((repeat (first | exact VW.nil | refine VW.cons (Wk.refl _) ?_ | refine VW.cons (Wk.any _) ?_ | refine VW.cons (wk_cap (Nat.le_refl _)) ?_)); done)
        · refine ⟨_, hUn p p2 p3 x j false false false, hcon, .inl ⟨a, b, y :: t', n, hd, hn, fun F => ?_⟩⟩
          rw [hxv]
          refine cast (congrArg (VAll _) (oUnG1_eq L O p p2 p3 x n O.length k j W F).symm) ⟨⟨?_, rfl, rfl, [(1000, 1000), (1001, 1102)], by kernel_rfl, by kernel_rfl, ⟨by rw [l2]; exact Wk.refl _, Wk.refl _, Wk.refl _, Wk.refl _, trivial⟩, ⟨_, rfl, rS_ow rfl rfl⟩, ⟨_, rfl, rBe_ow (by rw [a1, a2]) rfl⟩, trivial⟩⟩
          simp only [Cnd.holds, e1, e2, g1, g2, hj, sv, AV.strOf, hca, h2le, hp2', hp3', hs2, hpm, Nat.zero_le, Nat.le_refl, a1, k1, k2, k3, k4, b1', b2, b3, b4, b5, b6, hz, Nat.blt_eq, true_and, and_true]
          and_intros
          all_goals first
            | (with_reducible exact wk_int hw)
            | exact wk_u8 hx
            | (with_reducible exact trivial)
            | (with_reducible exact rfl)
            | (with_reducible exact Wk.refl _)
            | (with_reducible exact VW.refl _)
            | (with_reducible exact OW.refl _)
            | (with_reducible exact wk_lit _)
            | (with_reducible assumption)
            | exact rfl
            | exact Wk.refl _
            | exact VW.refl _
            | exact OW.refl _
            | ((repeat (first | exact VW.nil | refine VW.cons (Wk.refl _) ?_ | refine VW.cons (Wk.any _) ?_ | refine VW.cons (wk_cap (Nat.le_refl _)) ?_)); done)
end Go.Proofs.YtpijbbobejeemaaGreatDoor.Htp

/- Http: unescape: loop and function. -/
set_option linter.unusedVariables false
set_option linter.unusedSimpArgs false
set_option maxRecDepth 100000
namespace Go.Proofs.YtpijbbobejeemaaGreatDoor.Htp
open Go Go.RowKit Go.Proofs.YtpijbbobejeemaaGreatDoor.Eng Go.Proofs.YtpijbbobejeemaaGreatDoor.Kit
theorem pcs_some {a b : UInt8} {t : List UInt8} {r : List (List UInt8)} {n : Nat} (h : hex2 a b = some n) : pcs ((a :: b :: t) :: r) = (pcs r).map fun u => UInt8.ofNat n :: (t ++ u) := by
  rw [pcs_cons, h]
  cases pcs r <;> rfl
theorem piece_at (h : List UInt8) (R : List (List UInt8)) (hp : ∀ p ∈ R, p.length ≤ 1100000) {j : Nat} (hj : j < R.length) : ((h :: R).map tB).getD (1 + j) nil0 = tB (R.getD j []) ∧ (tB (R.getD j [])).size ≤ 1100000 := by
  refine ⟨?_, ?_⟩
  · rw [Nat.add_comm]
    simp [List.getD_eq_getElem?_getD, List.getElem?_eq_getElem hj]
  · rw [tB_size]; exact hp _ (getD_lt hj)
section
variable {W : World} (hW : LW2 W) (h : List UInt8) (R : List (List UInt8)) (hb : R.length ≤ 1100000) (hp : ∀ p ∈ R, p.length ≤ 1100000) (hh : h.length ≤ 1100000)
include hW hb hp hh
theorem un_loop {V : List UInt8} (hV : pcs R = some V) :
    LTri Tryz.prog W (loopN fUn 4) (tms 0 50 (aUn h.length R.length 0)) (oUn ((h :: R).map tB) h (tByt + 1)) (.exit 0) (tms 0 50 [(5, sB 1001 (h ++ V).length)]) [(1001, rBe (h ++ V) (tByt + 1))] := by
  refine ltri_run (W := W) (g := fUn) (b := loopN fUn 4) (σ := {q : List UInt8 × Nat // q.2 ≤ R.length ∧ q.1.length ≤ (q.2 + 1) * 1100000 ∧ (pcs (R.drop q.2)).map (q.1 ++ ·) = some (h ++ V)}) 50 (fun q => aUn q.1.1.length R.length q.1.2) (fun q => oUn ((h :: R).map tB) q.1.1 (tByt + 1)) (.exit 0) _ [(1001, rBe (h ++ V) (tByt + 1))] (fun q => R.length - q.1.2) kUn iUn (by intro h; cases h) (fun _ => rfl) rfl ?_ ⟨(h, 0), Nat.zero_le _, by simp only; omega, by rw [List.drop_zero, hV]; rfl⟩
  rintro ⟨⟨O, j⟩, hj, hO, hI⟩
  simp only at hj hO hI
  simp only
  by_cases h1 : j < R.length
  · obtain ⟨g1, g2⟩ := piece_at h R hp h1
    have hdr : R.drop j = R.getD j [] :: R.drop (j + 1) := by
      rw [List.drop_eq_getElem_cons h1]
      simp [List.getD_eq_getElem?_getD, List.getElem?_eq_getElem h1]
    obtain ⟨con, hints, hcon, hr⟩ := un_round hW (L := (h :: R).map tB) (O := O) (e := tByt + 1) (.inr rfl) (k := R.length) (j := j) (by simp) h1 (by omega) hO g1 g2
    rcases hr with ⟨a, b, t, n, hd, hn, hf⟩ | ⟨hbad, hf⟩
    · rw [tB_data] at hd
      have htl : t.length + 2 ≤ 1100000 := by
        have := hp _ (getD_lt (d := []) h1)
        rw [hd] at this
        simp only [List.length_cons] at this
        omega
      refine ⟨con, hints, [], hcon, fun _ _ => noL, fun F => VAll.mono (hf F) ?_⟩
      rintro r os m ⟨q1, q2, l, q3⟩
      refine ⟨q1, .inl ⟨q2, ⟨(O ++ UInt8.ofNat n :: t, j + 1), h1, ?_, ?_⟩, by show R.length - (j + 1) < R.length - j; omega, l, q3⟩⟩
      · simp only [List.length_append, List.length_cons]; omega
      · rw [hdr, hd, pcs_some hn, Option.map_map] at hI
        rw [← hI]
        congr 1
        funext u
        simp
    · exfalso
      rw [tB_data] at hbad
      rw [hdr, hbad] at hI
      cases hI
  · have hje : j = R.length := by omega
    subst hje
    rw [List.drop_length] at hI
    have hI : some (O ++ []) = some (h ++ V) := hI
    have hO2 : O = h ++ V := by rw [← List.append_nil O]; exact Option.some.inj hI
    rw [hO2]
    refine ⟨[], hintL [(fUn, 4, 0, hv (.lit false))], [], fun _ _ => noC, fun _ _ => noL, fun F => ?_⟩
    refine cast (congrArg (VAll _) (oUnE_eq ((h :: R).map tB) (h ++ V) (tByt + 1) (h ++ V).length R.length W F).symm) ⟨⟨?_, rfl, .inr ⟨rfl, [(1001, 1001)], by kernel_rfl, by kernel_rfl, ⟨Wk.refl _, trivial⟩, ⟨_, rfl, rBe_ow rfl rfl⟩, trivial⟩⟩⟩
    simp only [Cnd.holds, and_true]
    exact wk_litE (ltFN (Nat.le_refl _))
theorem unx_loop (hV : pcs R = none) :
    LTri Tryz.prog W (loopN fUn 4) (tms 0 50 (aUn h.length R.length 0)) (oUn ((h :: R).map tB) h (tByt + 1)) .ret (tms 0 50 [(2, sv ByteArray.empty), (3, bv false)]) [] := by
  refine ltri_run (W := W) (g := fUn) (b := loopN fUn 4) (σ := {q : List UInt8 × Nat // q.2 ≤ R.length ∧ q.1.length ≤ (q.2 + 1) * 1100000 ∧ pcs (R.drop q.2) = none}) 50 (fun q => aUn q.1.1.length R.length q.1.2) (fun q => oUn ((h :: R).map tB) q.1.1 (tByt + 1)) .ret _ [] (fun q => R.length - q.1.2) kUn iUn (by intro h; cases h) (fun _ => rfl) rfl ?_ ⟨(h, 0), Nat.zero_le _, by simp only; omega, by rw [List.drop_zero, hV]⟩
  rintro ⟨⟨O, j⟩, hj, hO, hI⟩
  simp only at hj hO hI
  simp only
  by_cases h1 : j < R.length
  · obtain ⟨g1, g2⟩ := piece_at h R hp h1
    have hdr : R.drop j = R.getD j [] :: R.drop (j + 1) := by
      rw [List.drop_eq_getElem_cons h1]
      simp [List.getD_eq_getElem?_getD, List.getElem?_eq_getElem h1]
    obtain ⟨con, hints, hcon, hr⟩ := un_round hW (L := (h :: R).map tB) (O := O) (e := tByt + 1) (.inr rfl) (k := R.length) (j := j) (by simp) h1 (by omega) hO g1 g2
    rcases hr with ⟨a, b, t, n, hd, hn, hf⟩ | ⟨hbad, hf⟩
    · rw [tB_data] at hd
      have htl : t.length + 2 ≤ 1100000 := by
        have := hp _ (getD_lt (d := []) h1)
        rw [hd] at this
        simp only [List.length_cons] at this
        omega
      refine ⟨con, hints, [], hcon, fun _ _ => noL, fun F => VAll.mono (hf F) ?_⟩
      rintro r os m ⟨q1, q2, l, q3⟩
      refine ⟨q1, .inl ⟨q2, ⟨(O ++ UInt8.ofNat n :: t, j + 1), h1, ?_, ?_⟩, by show R.length - (j + 1) < R.length - j; omega, l, q3⟩⟩
      · simp only [List.length_append, List.length_cons]; omega
      · rw [hdr, hd, pcs_some hn] at hI
        simp only
        cases hpc : pcs (R.drop (j + 1)) with
        | none => rfl
        | some u => rw [hpc] at hI; cases hI
    · refine ⟨con, hints, [], hcon, fun _ _ => noL, fun F => VAll.mono (hf F) ?_⟩
      rintro r os m ⟨q1, q2, l, q3⟩
      exact ⟨q1, .inr ⟨q2, l, q3⟩⟩
  · have hje : j = R.length := by omega
    subst hje
    rw [List.drop_length] at hI
    cases hI
end
theorem aUn_cl (L : List ByteArray) (O : List UInt8) (e : TypeId) (m k j : Nat) : ∀ x ∈ aUn m k j, AV.cl (kH (oUn L O e)) x.2 := all_cons rfl (all_cons rfl (all_cons trivial (all_cons trivial all_nil)))
theorem oUn_cl (L : List ByteArray) (O : List UInt8) (e : TypeId) : ∀ x ∈ oUn L O e, x.2.cl (kH (oUn L O e)) := all_cons (rS_cl _ _) (all_cons (rBe_cl _ _ _) all_nil)
def unV (s : ByteArray) : AV := match unesc s.data.toList with
  | some u => .tuple [sv (tB u), bv true]
  | none => .tuple [sv ByteArray.empty, bv false]
theorem Unescape_tri {W : World} (hW : LW2 W) (s : ByteArray) (hs : s.size ≤ 1090000) : Tri Tryz.prog W fUn [sv s] [] (unV s) [] := by
  have hc := cutL_ne 37 s.data.toList
  have hcl := cutL_len 37 s.data.toList
  have hcp := cutL_part 37 s.data.toList
  have hsl : s.data.toList.length = s.size := rfl
  unfold unV unesc
  cases hcut : cutL 37 s.data.toList with
  | nil => exact absurd hcut hc
  | cons h R =>
    rw [hcut] at hcl hcp
    have hL : cutB 37 s = (h :: R).map tB := cutB_eq 37 s _ hcut
    have hR : R.length ≤ 1100000 := by simp only [List.length_cons] at hcl; omega
    have hRp : ∀ p ∈ R, p.length ≤ 1100000 := fun p hp => by have := hcp p (List.mem_cons_of_mem _ hp); omega
    have hh : h.length ≤ 1100000 := by have := hcp h List.mem_cons_self; omega
    have hlen : (List.map Value.string (cutB 37 s)).length = R.length + 1 := by rw [hL]; simp
    have hrow : vmap (List.map Value.string (cutB 37 s)) = rowV encS ((h :: R).map tB) := by rw [hL, rS_map]
    have g0 : ∀ d, (rowV encS ((h :: R).map tB)).getD 0 d = sv (tB h) := fun d => rS_get ((h :: R).map tB) 0 (by simp) d
    have g1 : Nat.blt 0 (rowV encS ((h :: R).map tB)).length = true := by rw [rS_len, Nat.blt_eq]; simp
    have q0 : s.size < 4294967281 := by omega
    have q1 : (R.length + 1).ble (R.length + 1) = true := ble_of (Nat.le_refl _)
    have hth : (tB h).data.toList = h := tB_data h
    have hts : (tB h).size = h.length := tB_size h
    simp only
    cases hV : pcs R with
    | some V =>
      have q2 : 0 + (h ++ V).length ≤ (rowV encB (h ++ V)).length := by rw [rB_len]; omega
      have q3 : List.take (h ++ V).length (List.drop 0 (rowV encB (h ++ V))) = vmap (List.map (fun b => Value.int IntKind.u8 ↑b.toNat) (tB (h ++ V)).data.toList) := by
        rw [List.drop_zero, List.take_of_length_le (by rw [rB_len]; exact Nat.le_refl _), tB_data, rowB_map]
      refine tri_run (con := [(fSplit, cSplit 37)]) (hints := hUf ((h :: R).map tB) (tB h) (tB (h ++ V)) R.length) (lc := [(fUn, 4, loopN fUn 4, lUn ((h :: R).map tB) (tB h).data.toList (h ++ V) (tByt + 1) (tB h).size (h ++ V).length R.length)]) [] rfl (fun F hF => one_c (cSplit_ok hW.toLW hF 37)) (fun F hF => one_l (mkL_ok hF gUn_ro (fun _ _ => by
        simp only [RT.pick]
        rw [hth, hts]
        exact un_loop hW h R hR hRp hh hV) fun _ => by
        simp only [RT.pick]
        exact closedT rfl rfl (aUn_cl _ _ _ _ _ _) (oUn_cl _ _ _) (all_cons rfl all_nil) (all_cons (rBe_cl _ _ _) all_nil))) fun F => ?_
      refine cast (congrArg (VAll _) (oUn_eq W s (tB h) (tB (h ++ V)) ((h :: R).map tB) (h ++ V) (tByt + 1) (h ++ V).length R.length F).symm) ⟨⟨?_, (fit_mk (vs' := [.tuple [sv (tB (h ++ V)), bv true]]) (H' := []) [] rfl rfl (VW.refl _) trivial).fits rfl⟩⟩
      simp only [Cnd.holds, q0, q1, g0, g1, sv, AV.strOf, hlen, rens_rowV, q2, q3, Nat.blt_eq, true_and, and_true]
      and_intros
      all_goals first
        | exact ow_cells hrow
        | exact ow_cells (rowB_map _).symm
        | (with_reducible exact trivial)
        | (with_reducible exact rfl)
        | (with_reducible exact Wk.refl _)
        | (with_reducible exact VW.refl _)
        | (with_reducible exact OW.refl _)
        | (with_reducible exact wk_lit _)
        | (with_reducible assumption)
        | exact rfl
        | exact Wk.refl _
        | exact VW.refl _
        | exact OW.refl _
        | ((repeat (first | exact VW.nil | refine VW.cons (Wk.refl _) ?_ | refine VW.cons (Wk.any _) ?_ | refine VW.cons (wk_cap (Nat.le_refl _)) ?_)); done)
    | none =>
      refine tri_run (con := [(fSplit, cSplit 37)]) (hints := hUf ((h :: R).map tB) (tB h) (tB h) R.length) (lc := [(fUn, 4, loopN fUn 4, lUnx ((h :: R).map tB) (tB h).data.toList (tB h).size R.length)]) [] rfl (fun F hF => one_c (cSplit_ok hW.toLW hF 37)) (fun F hF => one_l (mkL_ok hF gUn_ro (fun _ _ => by
        simp only [RT.pick]
        rw [hth, hts]
        exact unx_loop hW h R hR hRp hh hV) fun _ => by
        simp only [RT.pick]
        exact closedT rfl rfl (aUn_cl _ _ _ _ _ _) (oUn_cl _ _ _) (all_cons trivial (all_cons trivial all_nil)) all_nil)) fun F => ?_
      refine cast (congrArg (VAll _) (oUnx_eq W s (tB h) ((h :: R).map tB) R.length F).symm) ⟨⟨?_, (fit_mk (vs' := [.tuple [sv ByteArray.empty, bv false]]) (H' := []) [] rfl rfl (VW.refl _) trivial).fits rfl⟩⟩
      simp only [Cnd.holds, q0, q1, g0, g1, sv, AV.strOf, hlen, rens_rowV, Nat.blt_eq, true_and, and_true]
      and_intros
      all_goals first
        | exact ow_cells hrow
        | exact ow_cells (rowB_map _).symm
        | (with_reducible exact trivial)
        | (with_reducible exact rfl)
        | (with_reducible exact Wk.refl _)
        | (with_reducible exact VW.refl _)
        | (with_reducible exact OW.refl _)
        | (with_reducible exact wk_lit _)
        | (with_reducible assumption)
        | exact rfl
        | exact Wk.refl _
        | exact VW.refl _
        | exact OW.refl _
        | ((repeat (first | exact VW.nil | refine VW.cons (Wk.refl _) ?_ | refine VW.cons (Wk.any _) ?_ | refine VW.cons (wk_cap (Nat.le_refl _)) ?_)); done)
end Go.Proofs.YtpijbbobejeemaaGreatDoor.Htp

/- Http: Path: runs. -/
set_option linter.unusedVariables false
set_option linter.unusedSimpArgs false
set_option maxRecDepth 100000
namespace Go.Proofs.YtpijbbobejeemaaGreatDoor.Htp
open Go Go.RowKit Go.Proofs.YtpijbbobejeemaaGreatDoor.Eng Go.Proofs.YtpijbbobejeemaaGreatDoor.Kit
noncomputable section
abbrev fPath : Nat := 22
def cUn (p u : ByteArray) (b : Bool) : List AV → Option (AP AV) := mkC (fun _ => .ret ()) (fun _ => True) (fun _ i => i) (fun _ => [sv p]) (fun _ => []) (fun _ => .leaf .ret [.tuple [sv u, bv b]] [])
def nilS : AV := .v (.slice none 0 0)
def aPa (out : AV) (n i : Nat) : List (Nat × AV) := [(2, out), (26, sB 1000 n), (27, iv (Int.ofNat n)), (28, iv (Int.ofNat i))]
def kPa : List Nat := [1000, 1001, 1100, 1101, 1102]
def iPa : List Nat := [2, 3, 26, 27, 28]
def hPa (p u : ByteArray) (i : Nat) (b : Bool) : ClaimT := hintL [(fPath, 6, 0, hv (.lit true)), (fPath, 7, 1, hv (sv p)), (fPath, 9, 1, hv (.lit (!b))), (fPath, 12, 0, hv (iv (Int.ofNat (i + 1))))]
theorem oPaN_eq (W : World) (L : List ByteArray) (p u : ByteArray) (n i : Nat) (F : HP) : wLoop [(fUn, cUn p u true)] (hPa p u i true) [] W fPath (loopN fPath 6) (tms 0 45 (aPa nilS n i)) [(1000, rS L)] kPa iPa F = VT.leaf (AX.normal, [AV.slice 1101 0 1 1 (Cp.lo 1), AV.any, AV.slice 1000 0 n 1 (Cp.lo n), AV.v (Value.int IntKind.i64 (Int.ofNat n)), AV.v (Value.int IntKind.i64 (Int.ofNat (i + 1)))], 45) [some (AO.cells (rowV encS L) 18), none, some (AO.cells [AV.v (Value.string u)] 18), some (AO.cells [AV.v (Value.string u)] 18), none] 1102 (((Cnd.p (Wk (AV.v (Value.bool (decide (Int.ofNat i < Int.ofNat n)))) (AV.lit true))).a Cnd.t).a (((Cnd.p (i.blt n = true)).a Cnd.t).a (((Cnd.p ((0 + i * 1).blt (rowV encS L).length = true)).a ((Cnd.p ((rowV encS L).getD (0 + i * 1) (AV.undef) = AV.v (Value.string ((rowV encS L).getD (0 + i * 1) (AV.undef)).strOf))).a ((Cnd.p (Wk (AV.v (Value.string ((rowV encS L).getD (0 + i * 1) (AV.undef)).strOf)) (AV.v (Value.string p)))).a Cnd.t))).a (((Cnd.p True).a ((Cnd.p (VW [AV.v (Value.string p)] [AV.v (Value.string p)])).a Cnd.t)).a (((Cnd.p (Wk (AV.v (Value.bool false)) (AV.lit false))).a Cnd.t).a (((Cnd.p (true = true)).a ((Cnd.p (true = true)).a ((Cnd.p (true = true)).a ((Cnd.p (true = true)).a ((Cnd.p (true = true)).a ((Cnd.p (true = true)).a Cnd.t)))))).a (((Cnd.p (Wk (AV.v (Value.int IntKind.i64 (IntKind.i64.wrap (Int.ofNat i + Int.ofNat 1)))) (AV.v (Value.int IntKind.i64 (Int.ofNat (i + 1)))))).a Cnd.t).a Cnd.t))))))) := by kernel_rfl
theorem oPaO_eq (W : World) (L O : List ByteArray) (p u : ByteArray) (n i m : Nat) (F : HP) : wLoop [(fUn, cUn p u true)] (hPa p u i true) [] W fPath (loopN fPath 6) (tms 0 45 (aPa (sB 1001 m) n i)) [(1000, rS L), (1001, rS O)] kPa iPa F = VT.leaf (AX.normal, [AV.slice 1101 0 (m + 1) 1 (Cp.lo (m + 1)), AV.any, AV.slice 1000 0 n 1 (Cp.lo n), AV.v (Value.int IntKind.i64 (Int.ofNat n)), AV.v (Value.int IntKind.i64 (Int.ofNat (i + 1)))], 45) [some (AO.cells (rowV encS L) 18), none, some (AO.cells [AV.v (Value.string u)] 18), some (AO.cells (List.take (m * 1) (List.drop 0 (rowV encS O)) ++ [AV.v (Value.string u)]) 18), none] 1102 (((Cnd.p (Wk (AV.v (Value.bool (decide (Int.ofNat i < Int.ofNat n)))) (AV.lit true))).a Cnd.t).a (((Cnd.p (i.blt n = true)).a Cnd.t).a (((Cnd.p ((0 + i * 1).blt (rowV encS L).length = true)).a ((Cnd.p ((rowV encS L).getD (0 + i * 1) (AV.undef) = AV.v (Value.string ((rowV encS L).getD (0 + i * 1) (AV.undef)).strOf))).a ((Cnd.p (Wk (AV.v (Value.string ((rowV encS L).getD (0 + i * 1) (AV.undef)).strOf)) (AV.v (Value.string p)))).a Cnd.t))).a (((Cnd.p True).a ((Cnd.p (VW [AV.v (Value.string p)] [AV.v (Value.string p)])).a Cnd.t)).a (((Cnd.p (Wk (AV.v (Value.bool false)) (AV.lit false))).a Cnd.t).a (((Cnd.p (true = true)).a ((Cnd.p (true = true)).a ((Cnd.p (true = true)).a ((Cnd.p (true = true)).a ((Cnd.p ((0 + m * 1).ble (rowV encS O).length = true)).a ((Cnd.p (((m + 1) * 16).ble 140737488355328 = true)).a ((Cnd.p ((m + 1).ble 9223372036854775807 = true)).a ((Cnd.p ((List.take (m * 1) (List.drop 0 (rowV encS O))).length.beq (m * 1) = true)).a Cnd.t)))))))).a (((Cnd.p (Wk (AV.v (Value.int IntKind.i64 (IntKind.i64.wrap (Int.ofNat i + Int.ofNat 1)))) (AV.v (Value.int IntKind.i64 (Int.ofNat (i + 1)))))).a Cnd.t).a Cnd.t))))))) := by kernel_rfl
theorem oPaX_eq (W : World) (L : List ByteArray) (p u : ByteArray) (n i : Nat) (F : HP) : wLoop [(fUn, cUn p u false)] (hPa p u i false) [] W fPath (loopN fPath 6) (tms 0 45 (aPa nilS n i)) [(1000, rS L)] kPa iPa F = VT.leaf (AX.ret, [AV.v (Value.slice none 0 0), AV.v (Value.bool false), AV.slice 1000 0 n 1 (Cp.lo n), AV.v (Value.int IntKind.i64 (Int.ofNat n)), AV.v (Value.int IntKind.i64 (Int.ofNat i))], 45) [some (AO.cells (rowV encS L) 18), none, none, none, none] 1100 (((Cnd.p (Wk (AV.v (Value.bool (decide (Int.ofNat i < Int.ofNat n)))) (AV.lit true))).a Cnd.t).a (((Cnd.p (i.blt n = true)).a Cnd.t).a (((Cnd.p ((0 + i * 1).blt (rowV encS L).length = true)).a ((Cnd.p ((rowV encS L).getD (0 + i * 1) (AV.undef) = AV.v (Value.string ((rowV encS L).getD (0 + i * 1) (AV.undef)).strOf))).a ((Cnd.p (Wk (AV.v (Value.string ((rowV encS L).getD (0 + i * 1) (AV.undef)).strOf)) (AV.v (Value.string p)))).a Cnd.t))).a (((Cnd.p True).a ((Cnd.p (VW [AV.v (Value.string p)] [AV.v (Value.string p)])).a Cnd.t)).a (((Cnd.p (Wk (AV.v (Value.bool true)) (AV.lit true))).a Cnd.t).a Cnd.t))))) := by kernel_rfl
theorem oPaY_eq (W : World) (L O : List ByteArray) (p u : ByteArray) (n i m : Nat) (F : HP) : wLoop [(fUn, cUn p u false)] (hPa p u i false) [] W fPath (loopN fPath 6) (tms 0 45 (aPa (sB 1001 m) n i)) [(1000, rS L), (1001, rS O)] kPa iPa F = VT.leaf (AX.ret, [AV.v (Value.slice none 0 0), AV.v (Value.bool false), AV.slice 1000 0 n 1 (Cp.lo n), AV.v (Value.int IntKind.i64 (Int.ofNat n)), AV.v (Value.int IntKind.i64 (Int.ofNat i))], 45) [some (AO.cells (rowV encS L) 18), some (AO.cells (rowV encS O) 18), none, none, none] 1100 (((Cnd.p (Wk (AV.v (Value.bool (decide (Int.ofNat i < Int.ofNat n)))) (AV.lit true))).a Cnd.t).a (((Cnd.p (i.blt n = true)).a Cnd.t).a (((Cnd.p ((0 + i * 1).blt (rowV encS L).length = true)).a ((Cnd.p ((rowV encS L).getD (0 + i * 1) (AV.undef) = AV.v (Value.string ((rowV encS L).getD (0 + i * 1) (AV.undef)).strOf))).a ((Cnd.p (Wk (AV.v (Value.string ((rowV encS L).getD (0 + i * 1) (AV.undef)).strOf)) (AV.v (Value.string p)))).a Cnd.t))).a (((Cnd.p True).a ((Cnd.p (VW [AV.v (Value.string p)] [AV.v (Value.string p)])).a Cnd.t)).a (((Cnd.p (Wk (AV.v (Value.bool true)) (AV.lit true))).a Cnd.t).a Cnd.t))))) := by kernel_rfl
theorem oPaE_eq (W : World) (L O : List ByteArray) (n m : Nat) (F : HP) : wLoop [] (hintL [(fPath, 6, 0, hv (.lit false))]) [] W fPath (loopN fPath 6) (tms 0 45 (aPa (sB 1001 m) n n)) [(1000, rS L), (1001, rS O)] kPa iPa F = VT.leaf (AX.exit 0, [AV.slice 1001 0 m 1 (Cp.lo m), AV.any, AV.slice 1000 0 n 1 (Cp.lo n), AV.v (Value.int IntKind.i64 (Int.ofNat n)), AV.v (Value.int IntKind.i64 (Int.ofNat n))], 45) [some (AO.cells (rowV encS L) 18), some (AO.cells (rowV encS O) 18), none, none, none] 1100 (((Cnd.p (Wk (AV.v (Value.bool (decide (Int.ofNat n < Int.ofNat n)))) (AV.lit false))).a Cnd.t).a Cnd.t) := by kernel_rfl
def gPa : List AV → AP Nat := fun tmps => match getL tmps 26 with
  | .slice a _ _ _ _ => .ret a
  | _ => .fail "parts"
def lPa (L O : List ByteArray) (n m : Nat) : List AV → AP (AX × List AV) := mkL gPa (fun _ => True) nmEn (fun _ => tms 0 45 (aPa nilS n 0)) (fun _ => [(1000, rS L)]) (fun _ => .leaf (.exit 0) (tms 0 45 [(2, sB 1001 m)]) [(1001, rS O)])
def lPax (L : List ByteArray) (n : Nat) : List AV → AP (AX × List AV) := mkL gPa (fun _ => True) nmEn (fun _ => tms 0 45 (aPa nilS n 0)) (fun _ => [(1000, rS L)]) (fun _ => .leaf .ret (tms 0 45 [(2, nilS), (3, bv false)]) [])
def reqV (m t : ByteArray) (hs bd : Value) : AV := .v (.agg #[.string m, .string t, hs, bd])
def hPg (t t1 t2 : ByteArray) (L : List ByteArray) (n : Nat) (b : Bool) : ClaimT := hintL [(fPath, 1, 1, hv (sv t)), (fPath, 1, 2, hv (.tuple [sv t1, .any, .any])), (fPath, 2, 1, hv (.tuple [sv t2, .lit b])), (fPath, 3, 1, hv (.lit (!b))), (fPath, 5, 1, hvo (sB 1101 n) 1101 (rS L))]
theorem oPP_eq (W : World) (m t t1 t2 : ByteArray) (hs bd : Value) (L O : List ByteArray) (n k : Nat) (F : HP) : wRun [(fCut, cCut), (fCutP, cCutP), (fSplit, cSplit 47)] (hPg t t1 t2 L n true) [(fPath, 6, loopN fPath 6, lPa L O n k)] W fPath [reqV m t hs bd] [] [1100, 1101, 1102] F = VT.leaf (AV.tuple [AV.slice 1102 0 k 1 (Cp.lo k), AV.v (Value.bool true)]) [some (AO.cells [AV.v (Value.string m), AV.v (Value.string t), AV.v hs, AV.v bd] 64), none, some (AO.cells (AV.rens (sgN (nmEn 1101) [1001] 1102) (rowV encS O)) 18)] 1103 (((Cnd.p (true = true)).a ((Cnd.p (AV.v (Value.string t) = AV.v (Value.string t))).a ((Cnd.p (Wk (AV.v (Value.string t)) (AV.v (Value.string t)))).a Cnd.t))).a (((Cnd.p (t.size < 4294967281)).a ((Cnd.p (Wk (AV.tuple [AV.v (Value.string (cut1 t (ByteArray.mk (Array.mk [63])))), AV.v (Value.string (cut2 t (ByteArray.mk (Array.mk [63])))), AV.v (Value.bool (cutK t (ByteArray.mk (Array.mk [63]))))]) (AV.tuple [AV.v (Value.string t1), AV.any, AV.any]))).a Cnd.t)).a (((Cnd.p True).a ((Cnd.p (Wk (AV.tuple [AV.v (Value.string (preB t1 (ByteArray.mk (Array.mk [47])))), AV.v (Value.bool (preK t1 (ByteArray.mk (Array.mk [47]))))]) (AV.tuple [AV.v (Value.string t2), AV.lit true]))).a Cnd.t)).a (((Cnd.p (Wk (AV.v (Value.bool false)) (AV.lit false))).a Cnd.t).a (((Cnd.p (ByteArray.mk (Array.mk [47]) = ByteArray.mk (Array.mk [47]) ∧ t2.size < 4294967281)).a ((Cnd.p (OW (AO.cells (vmap (List.map Value.string (cutB 47 t2))) 18) (AO.cells (rowV encS L) 18))).a ((Cnd.p (Wk (AV.slice 1101 0 (List.map Value.string (cutB 47 t2)).length 1 (Cp.lo (List.map Value.string (cutB 47 t2)).length)) (AV.slice 1101 0 n 1 (Cp.lo n)))).a Cnd.t))).a ((Cnd.p ((fPath, 6, loopN fPath 6, lPa L O n k).snd.snd.fst = (fPath, 6, loopN fPath 6, lPa L O n k).snd.snd.fst)).a ((Cnd.p True).a ((Cnd.p (VW [AV.v (Value.agg (Array.mk [Value.string m, Value.string t, hs, bd])), AV.ptr 1100 0, AV.v (Value.slice none 0 0), AV.lit true, AV.v (Value.string t2), AV.any, AV.any, AV.undef, AV.undef, AV.undef, AV.undef, AV.tuple [AV.v (Value.string t1), AV.any, AV.any], AV.ptr 1100 1, AV.v (Value.string t), AV.tuple [AV.v (Value.string t1), AV.any, AV.any], AV.v (Value.string t1), AV.any, AV.any, AV.tuple [AV.v (Value.string t2), AV.lit true], AV.v (Value.string t1), AV.tuple [AV.v (Value.string t2), AV.lit true], AV.v (Value.string t2), AV.lit true, AV.lit true, AV.lit false, AV.v (Value.string t2), AV.slice 1101 0 n 1 (Cp.lo n), AV.v (Value.int IntKind.i64 ↑n), AV.v (Value.int IntKind.i64 (Int.ofNat 0)), AV.undef, AV.undef, AV.undef, AV.undef, AV.undef, AV.undef, AV.undef, AV.undef, AV.undef, AV.undef, AV.undef, AV.undef, AV.undef, AV.undef, AV.undef, AV.undef] [AV.any, AV.any, AV.v (Value.slice none 0 0), AV.any, AV.any, AV.any, AV.any, AV.any, AV.any, AV.any, AV.any, AV.any, AV.any, AV.any, AV.any, AV.any, AV.any, AV.any, AV.any, AV.any, AV.any, AV.any, AV.any, AV.any, AV.any, AV.any, AV.slice 1101 0 n 1 (Cp.lo n), AV.v (Value.int IntKind.i64 (Int.ofNat n)), AV.v (Value.int IntKind.i64 (Int.ofNat 0)), AV.any, AV.any, AV.any, AV.any, AV.any, AV.any, AV.any, AV.any, AV.any, AV.any, AV.any, AV.any, AV.any, AV.any, AV.any, AV.any])).a ((Cnd.p (OW (AO.cells (rowV encS L) 18) (AO.cells (AV.rens (nmEn 1101) (rowV encS L)) 18))).a Cnd.t))))))))) := by kernel_rfl
theorem oPPx_eq (W : World) (m t t1 t2 : ByteArray) (hs bd : Value) (L : List ByteArray) (n : Nat) (F : HP) : wRun [(fCut, cCut), (fCutP, cCutP), (fSplit, cSplit 47)] (hPg t t1 t2 L n true) [(fPath, 6, loopN fPath 6, lPax L n)] W fPath [reqV m t hs bd] [] [1100, 1101, 1102] F = VT.leaf (AV.tuple [AV.v (Value.slice none 0 0), AV.v (Value.bool false)]) [some (AO.cells [AV.v (Value.string m), AV.v (Value.string t), AV.v hs, AV.v bd] 64), none, none] 1102 (((Cnd.p (true = true)).a ((Cnd.p (AV.v (Value.string t) = AV.v (Value.string t))).a ((Cnd.p (Wk (AV.v (Value.string t)) (AV.v (Value.string t)))).a Cnd.t))).a (((Cnd.p (t.size < 4294967281)).a ((Cnd.p (Wk (AV.tuple [AV.v (Value.string (cut1 t (ByteArray.mk (Array.mk [63])))), AV.v (Value.string (cut2 t (ByteArray.mk (Array.mk [63])))), AV.v (Value.bool (cutK t (ByteArray.mk (Array.mk [63]))))]) (AV.tuple [AV.v (Value.string t1), AV.any, AV.any]))).a Cnd.t)).a (((Cnd.p True).a ((Cnd.p (Wk (AV.tuple [AV.v (Value.string (preB t1 (ByteArray.mk (Array.mk [47])))), AV.v (Value.bool (preK t1 (ByteArray.mk (Array.mk [47]))))]) (AV.tuple [AV.v (Value.string t2), AV.lit true]))).a Cnd.t)).a (((Cnd.p (Wk (AV.v (Value.bool false)) (AV.lit false))).a Cnd.t).a (((Cnd.p (ByteArray.mk (Array.mk [47]) = ByteArray.mk (Array.mk [47]) ∧ t2.size < 4294967281)).a ((Cnd.p (OW (AO.cells (vmap (List.map Value.string (cutB 47 t2))) 18) (AO.cells (rowV encS L) 18))).a ((Cnd.p (Wk (AV.slice 1101 0 (List.map Value.string (cutB 47 t2)).length 1 (Cp.lo (List.map Value.string (cutB 47 t2)).length)) (AV.slice 1101 0 n 1 (Cp.lo n)))).a Cnd.t))).a ((Cnd.p ((fPath, 6, loopN fPath 6, lPax L n).snd.snd.fst = (fPath, 6, loopN fPath 6, lPax L n).snd.snd.fst)).a ((Cnd.p True).a ((Cnd.p (VW [AV.v (Value.agg (Array.mk [Value.string m, Value.string t, hs, bd])), AV.ptr 1100 0, AV.v (Value.slice none 0 0), AV.lit true, AV.v (Value.string t2), AV.any, AV.any, AV.undef, AV.undef, AV.undef, AV.undef, AV.tuple [AV.v (Value.string t1), AV.any, AV.any], AV.ptr 1100 1, AV.v (Value.string t), AV.tuple [AV.v (Value.string t1), AV.any, AV.any], AV.v (Value.string t1), AV.any, AV.any, AV.tuple [AV.v (Value.string t2), AV.lit true], AV.v (Value.string t1), AV.tuple [AV.v (Value.string t2), AV.lit true], AV.v (Value.string t2), AV.lit true, AV.lit true, AV.lit false, AV.v (Value.string t2), AV.slice 1101 0 n 1 (Cp.lo n), AV.v (Value.int IntKind.i64 ↑n), AV.v (Value.int IntKind.i64 (Int.ofNat 0)), AV.undef, AV.undef, AV.undef, AV.undef, AV.undef, AV.undef, AV.undef, AV.undef, AV.undef, AV.undef, AV.undef, AV.undef, AV.undef, AV.undef, AV.undef, AV.undef] [AV.any, AV.any, AV.v (Value.slice none 0 0), AV.any, AV.any, AV.any, AV.any, AV.any, AV.any, AV.any, AV.any, AV.any, AV.any, AV.any, AV.any, AV.any, AV.any, AV.any, AV.any, AV.any, AV.any, AV.any, AV.any, AV.any, AV.any, AV.any, AV.slice 1101 0 n 1 (Cp.lo n), AV.v (Value.int IntKind.i64 (Int.ofNat n)), AV.v (Value.int IntKind.i64 (Int.ofNat 0)), AV.any, AV.any, AV.any, AV.any, AV.any, AV.any, AV.any, AV.any, AV.any, AV.any, AV.any, AV.any, AV.any, AV.any, AV.any, AV.any])).a ((Cnd.p (OW (AO.cells (rowV encS L) 18) (AO.cells (AV.rens (nmEn 1101) (rowV encS L)) 18))).a Cnd.t))))))))) := by kernel_rfl
theorem oPPz_eq (W : World) (m t t1 t2 : ByteArray) (hs bd : Value) (F : HP) : wRun [(fCut, cCut), (fCutP, cCutP)] (hPg t t1 t2 [] 0 false) [] W fPath [reqV m t hs bd] [] [1100, 1101, 1102] F = VT.leaf (AV.tuple [AV.v (Value.slice none 0 0), AV.v (Value.bool false)]) [some (AO.cells [AV.v (Value.string m), AV.v (Value.string t), AV.v hs, AV.v bd] 64), none, none] 1101 (((Cnd.p (true = true)).a ((Cnd.p (AV.v (Value.string t) = AV.v (Value.string t))).a ((Cnd.p (Wk (AV.v (Value.string t)) (AV.v (Value.string t)))).a Cnd.t))).a (((Cnd.p (t.size < 4294967281)).a ((Cnd.p (Wk (AV.tuple [AV.v (Value.string (cut1 t (ByteArray.mk (Array.mk [63])))), AV.v (Value.string (cut2 t (ByteArray.mk (Array.mk [63])))), AV.v (Value.bool (cutK t (ByteArray.mk (Array.mk [63]))))]) (AV.tuple [AV.v (Value.string t1), AV.any, AV.any]))).a Cnd.t)).a (((Cnd.p True).a ((Cnd.p (Wk (AV.tuple [AV.v (Value.string (preB t1 (ByteArray.mk (Array.mk [47])))), AV.v (Value.bool (preK t1 (ByteArray.mk (Array.mk [47]))))]) (AV.tuple [AV.v (Value.string t2), AV.lit false]))).a Cnd.t)).a (((Cnd.p (Wk (AV.v (Value.bool true)) (AV.lit true))).a Cnd.t).a Cnd.t)))) := by kernel_rfl
end
end Go.Proofs.YtpijbbobejeemaaGreatDoor.Htp

/- Http: Path. -/
set_option linter.unusedVariables false
set_option linter.unusedSimpArgs false
set_option maxRecDepth 100000
namespace Go.Proofs.YtpijbbobejeemaaGreatDoor.Htp
open Go Go.RowKit Go.Proofs.YtpijbbobejeemaaGreatDoor.Eng Go.Proofs.YtpijbbobejeemaaGreatDoor.Kit
theorem cUn_ok {W : World} {F : HP} (hW : LW2 W) (hF : OldOK W F) (p u : ByteArray) (b : Bool) (hp : p.size ≤ 1090000) (hv : unV p = .tuple [sv u, bv b]) : C1OK Tryz.prog F fUn (cUn p u b) :=
  mkC_ok hF (fun _ => .tuple [sv u, bv b]) (fun _ => RO.ret _) (fun _ => rfl) (fun _ _ => by rw [← hv]; exact Unescape_tri hW p hp) fun _ => ⟨rfl, rfl, ⟨trivial, trivial⟩, all_nil, ⟨⟨trivial, trivial, trivial⟩, trivial⟩, all_nil⟩
theorem unV_some {p : ByteArray} {u : List UInt8} (h : unesc p.data.toList = some u) : unV p = .tuple [sv (tB u), bv true] := by unfold unV; rw [h]
theorem unV_none {p : ByteArray} (h : unesc p.data.toList = none) : unV p = .tuple [sv ByteArray.empty, bv false] := by unfold unV; rw [h]
theorem unescs_cons (p : List UInt8) (r : List (List UInt8)) : unescs (p :: r) = match unesc p, unescs r with
    | some u, some v => some (u :: v)
    | _, _ => none := rfl
theorem unescs_some {p u : List UInt8} {r : List (List UInt8)} (h : unesc p = some u) : unescs (p :: r) = (unescs r).map (u :: ·) := by
  rw [unescs_cons, h]
  cases unescs r <;> rfl
theorem unescs_none {p : List UInt8} {r : List (List UInt8)} (h : unesc p = none) : unescs (p :: r) = none := by
  rw [unescs_cons, h]
def outS : List ByteArray → AV
  | [] => nilS
  | x :: r => sB 1001 (r.length + 1)
def outSH (L : List ByteArray) : List ByteArray → LH
  | [] => [(1000, rS L)]
  | x :: r => [(1000, rS L), (1001, rS (x :: r))]
theorem outSH_lt (L O : List ByteArray) : namesLt 1100 (outSH L O) = true := by cases O <;> rfl
theorem outS_snoc (O : List ByteArray) (x : ByteArray) : outS (O ++ [x]) = sB 1001 (O.length + 1) := by
  cases O with
  | nil => rfl
  | cons y r => simp [outS]
theorem outSH_snoc (L O : List ByteArray) (x : ByteArray) : outSH L (O ++ [x]) = [(1000, rS L), (1001, rS (O ++ [x]))] := by cases O <;> rfl
section
variable {W : World} (hW : LW2 W) (R : List (List UInt8)) (hb : R.length ≤ 1100000) (hp : ∀ p ∈ R, p.length ≤ 1090000)
include hW hb hp
theorem pa_loop {V : List (List UInt8)} (hV : unescs R = some V) (hne : V ≠ []) :
    LTri Tryz.prog W (loopN fPath 6) (tms 0 45 (aPa nilS R.length 0)) [(1000, rS (R.map tB))] (.exit 0) (tms 0 45 [(2, sB 1001 (V.map tB).length)]) [(1001, rS (V.map tB))] := by
  refine ltri_run (W := W) (g := fPath) (b := loopN fPath 6) (σ := {q : List (List UInt8) × Nat // q.2 ≤ R.length ∧ q.1.length = q.2 ∧ (unescs (R.drop q.2)).map (q.1 ++ ·) = some V}) 45 (fun q => aPa (outS (q.1.1.map tB)) R.length q.1.2) (fun q => outSH (R.map tB) (q.1.1.map tB)) (.exit 0) _ [(1001, rS (V.map tB))] (fun q => R.length - q.1.2) kPa iPa (by intro h; cases h) (fun _ => outSH_lt _ _) rfl ?_ ⟨([], 0), Nat.zero_le _, rfl, by rw [List.drop_zero, hV]; rfl⟩
  rintro ⟨⟨O, j⟩, hj, hO, hI⟩
  simp only at hj hO hI
  simp only
  by_cases h1 : j < R.length
  · have hw := wrap_succ j (by omega)
    have e1 := ltTN h1
    have hml : (R.map tB).length = R.length := List.length_map ..
    have g1 := rS_get (R.map tB) j (by omega)
    have g2 := rS_lt (R.map tB) j (by omega)
    have gq : (R.map tB).getD j nil0 = tB (R.getD j []) := by
      simp [List.getD_eq_getElem?_getD, List.getElem?_eq_getElem h1]
    rw [gq] at g1
    have hps : (tB (R.getD j [])).size ≤ 1090000 := by rw [tB_size]; exact hp _ (getD_lt h1)
    have hdr : R.drop j = R.getD j [] :: R.drop (j + 1) := by
      rw [List.drop_eq_getElem_cons h1]
      simp [List.getD_eq_getElem?_getD, List.getElem?_eq_getElem h1]
    rw [hdr] at hI
    generalize R.getD j [] = p at *
    cases hu : unesc p with
    | none => rw [unescs_none hu] at hI; cases hI
    | some u =>
      have huv := unV_some (p := tB p) (u := u) (by rw [tB_data]; exact hu)
      have hnext : (unescs (R.drop (j + 1))).map ((O ++ [u]) ++ ·) = some V := by
        rw [unescs_some hu, Option.map_map] at hI
        rw [← hI]
        congr 1
        funext v
        simp
      have hmap : (O ++ [u]).map tB = O.map tB ++ [tB u] := by simp
      have hA : aPa (outS ((O ++ [u]).map tB)) R.length (j + 1) = aPa (sB 1001 ((O.map tB).length + 1)) R.length (j + 1) := by rw [hmap, outS_snoc]
      have hH : outSH (R.map tB) ((O ++ [u]).map tB) = [(1000, rS (R.map tB)), (1001, rS (O.map tB ++ [tB u]))] := by rw [hmap, outSH_snoc]
      have hol : (O.map tB).length = j := by rw [List.length_map, hO]
      generalize hOm : O.map tB = Om at *
      cases Om with
      | nil =>
        refine ⟨[(fUn, cUn (tB p) (tB u) true)], hPa (tB p) (tB u) j true, [], fun F hF => one_c (cUn_ok hW hF _ _ _ hps huv), fun _ _ => noL, fun F => ?_⟩
        refine cast (congrArg (VAll _) (oPaN_eq W (R.map tB) (tB p) (tB u) R.length j F).symm) ⟨⟨?_, rfl, .inl ⟨rfl, ⟨(O ++ [u], j + 1), h1, by simp [hO], hnext⟩, sub_down h1, [(1000, 1000), (1001, 1101)], ?_⟩⟩⟩
        · simp only [Cnd.holds, e1, g1, g2, h1, sv, AV.strOf, Nat.blt_eq, true_and, and_true]
          and_intros
          all_goals first
            | (with_reducible exact wk_int hw)
            | (with_reducible exact trivial)
            | (with_reducible exact rfl)
            | (with_reducible exact Wk.refl _)
            | (with_reducible exact VW.refl _)
            | (with_reducible exact OW.refl _)
            | (with_reducible exact wk_lit _)
            | (with_reducible assumption)
            | exact rfl
            | exact Wk.refl _
            | exact VW.refl _
            | exact OW.refl _
            | ((repeat (first | exact VW.nil | refine VW.cons (Wk.refl _) ?_ | refine VW.cons (Wk.any _) ?_ | refine VW.cons (wk_cap (Nat.le_refl _)) ?_)); done)
        · rw [hA, hH]
          exact ⟨by kernel_rfl, by kernel_rfl, ⟨Wk.refl _, Wk.refl _, Wk.refl _, Wk.refl _, trivial⟩, ⟨_, rfl, rS_ow rfl rfl⟩, ⟨_, rfl, rS_ow rfl rfl⟩, trivial⟩
      | cons y r =>
        have k1 := rS_in' (p := (y :: r).length) (P := y :: r) rfl
        have k2 := rS_full (p := (y :: r).length) (P := y :: r) rfl
        have a1 : List.take ((y :: r).length * 1) (List.drop 0 (rowV encS (y :: r))) ++ [AV.v (Value.string (tB u))] = rowV encS ((y :: r) ++ [tB u]) := rS_adds rfl [tB u]
        have hq1 : aPa (outS (y :: r)) R.length j = aPa (sB 1001 (y :: r).length) R.length j := rfl
        have hq2 : outSH (R.map tB) (y :: r) = [(1000, rS (R.map tB)), (1001, rS (y :: r))] := rfl
        rw [hq1, hq2]
        generalize y :: r = Y at *
        have b1 : ((Y.length + 1) * 16).ble 140737488355328 = true := ble_of (by omega)
        have b2 : (Y.length + 1).ble 9223372036854775807 = true := ble_of (by omega)
        refine ⟨[(fUn, cUn (tB p) (tB u) true)], hPa (tB p) (tB u) j true, [], fun F hF => one_c (cUn_ok hW hF _ _ _ hps huv), fun _ _ => noL, fun F => ?_⟩
        refine cast (congrArg (VAll _) (oPaO_eq W (R.map tB) Y (tB p) (tB u) R.length j Y.length F).symm) ⟨⟨?_, rfl, .inl ⟨rfl, ⟨(O ++ [u], j + 1), h1, by simp [hO], hnext⟩, sub_down h1, [(1000, 1000), (1001, 1101)], ?_⟩⟩⟩
        · simp only [Cnd.holds, e1, g1, g2, h1, sv, AV.strOf, k1, k2, a1, b1, b2, Nat.blt_eq, true_and, and_true]
          and_intros
          all_goals first
            | (with_reducible exact wk_int hw)
            | (with_reducible exact trivial)
            | (with_reducible exact rfl)
            | (with_reducible exact Wk.refl _)
            | (with_reducible exact VW.refl _)
            | (with_reducible exact OW.refl _)
            | (with_reducible exact wk_lit _)
            | (with_reducible assumption)
            | exact rfl
            | exact Wk.refl _
            | exact VW.refl _
            | exact OW.refl _
            | ((repeat (first | exact VW.nil | refine VW.cons (Wk.refl _) ?_ | refine VW.cons (Wk.any _) ?_ | refine VW.cons (wk_cap (Nat.le_refl _)) ?_)); done)
        · rw [hA, hH]
          exact ⟨by kernel_rfl, by kernel_rfl, ⟨Wk.refl _, Wk.refl _, Wk.refl _, Wk.refl _, trivial⟩, ⟨_, rfl, rS_ow rfl rfl⟩, ⟨_, rfl, rS_ow a1 rfl⟩, trivial⟩
  · have hje : j = R.length := by omega
    subst hje
    rw [List.drop_length] at hI
    have hI : some (O ++ []) = some V := hI
    have hO2 : O = V := by rw [← List.append_nil O]; exact Option.some.inj hI
    subst hO2
    cases O with
    | nil => exact absurd rfl hne
    | cons y r =>
      refine ⟨[], hintL [(fPath, 6, 0, hv (.lit false))], [], fun _ _ => noC, fun _ _ => noL, fun F => ?_⟩
      rw [List.map_cons]
      refine cast (congrArg (VAll _) (oPaE_eq W (R.map tB) (tB y :: r.map tB) R.length ((r.map tB).length + 1) F).symm) ⟨⟨?_, rfl, .inr ⟨rfl, [(1001, 1001)], by kernel_rfl, by kernel_rfl, ⟨Wk.refl _, trivial⟩, ⟨_, rfl, rS_ow rfl rfl⟩, trivial⟩⟩⟩
      simp only [Cnd.holds, and_true]
      exact wk_litE (ltFN (Nat.le_refl _))
theorem pax_loop (hV : unescs R = none) :
    LTri Tryz.prog W (loopN fPath 6) (tms 0 45 (aPa nilS R.length 0)) [(1000, rS (R.map tB))] .ret (tms 0 45 [(2, nilS), (3, bv false)]) [] := by
  refine ltri_run (W := W) (g := fPath) (b := loopN fPath 6) (σ := {q : List (List UInt8) × Nat // q.2 ≤ R.length ∧ q.1.length = q.2 ∧ unescs (R.drop q.2) = none}) 45 (fun q => aPa (outS (q.1.1.map tB)) R.length q.1.2) (fun q => outSH (R.map tB) (q.1.1.map tB)) .ret _ [] (fun q => R.length - q.1.2) kPa iPa (by intro h; cases h) (fun _ => outSH_lt _ _) rfl ?_ ⟨([], 0), Nat.zero_le _, rfl, by rw [List.drop_zero, hV]⟩
  rintro ⟨⟨O, j⟩, hj, hO, hI⟩
  simp only at hj hO hI
  simp only
  by_cases h1 : j < R.length
  · have hw := wrap_succ j (by omega)
    have e1 := ltTN h1
    have hml : (R.map tB).length = R.length := List.length_map ..
    have g1 := rS_get (R.map tB) j (by omega)
    have g2 := rS_lt (R.map tB) j (by omega)
    have gq : (R.map tB).getD j nil0 = tB (R.getD j []) := by
      simp [List.getD_eq_getElem?_getD, List.getElem?_eq_getElem h1]
    rw [gq] at g1
    have hps : (tB (R.getD j [])).size ≤ 1090000 := by rw [tB_size]; exact hp _ (getD_lt h1)
    have hdr : R.drop j = R.getD j [] :: R.drop (j + 1) := by
      rw [List.drop_eq_getElem_cons h1]
      simp [List.getD_eq_getElem?_getD, List.getElem?_eq_getElem h1]
    rw [hdr] at hI
    generalize R.getD j [] = p at *
    cases hu : unesc p with
    | none =>
      have huv := unV_none (p := tB p) (by rw [tB_data]; exact hu)
      generalize hOm : O.map tB = Om at *
      cases Om with
      | nil =>
        refine ⟨[(fUn, cUn (tB p) ByteArray.empty false)], hPa (tB p) ByteArray.empty j false, [], fun F hF => one_c (cUn_ok hW hF _ _ _ hps huv), fun _ _ => noL, fun F => ?_⟩
        refine cast (congrArg (VAll _) (oPaX_eq W (R.map tB) (tB p) ByteArray.empty R.length j F).symm) ⟨⟨?_, rfl, .inr ⟨rfl, [], by kernel_rfl, by kernel_rfl, ⟨Wk.refl _, Wk.refl _, trivial⟩, trivial⟩⟩⟩
        simp only [Cnd.holds, e1, g1, g2, h1, sv, AV.strOf, Nat.blt_eq, true_and, and_true]
        and_intros
        all_goals first
          | (with_reducible exact wk_int hw)
          | (with_reducible exact trivial)
          | (with_reducible exact rfl)
          | (with_reducible exact Wk.refl _)
          | (with_reducible exact VW.refl _)
          | (with_reducible exact OW.refl _)
          | (with_reducible exact wk_lit _)
          | (with_reducible assumption)
          | exact rfl
          | exact Wk.refl _
          | exact VW.refl _
          | exact OW.refl _
          | ((repeat (first | exact VW.nil | refine VW.cons (Wk.refl _) ?_ | refine VW.cons (Wk.any _) ?_ | refine VW.cons (wk_cap (Nat.le_refl _)) ?_)); done)
      | cons y r =>
        refine ⟨[(fUn, cUn (tB p) ByteArray.empty false)], hPa (tB p) ByteArray.empty j false, [], fun F hF => one_c (cUn_ok hW hF _ _ _ hps huv), fun _ _ => noL, fun F => ?_⟩
        refine cast (congrArg (VAll _) (oPaY_eq W (R.map tB) (y :: r) (tB p) ByteArray.empty R.length j (r.length + 1) F).symm) ⟨⟨?_, rfl, .inr ⟨rfl, [], by kernel_rfl, by kernel_rfl, ⟨Wk.refl _, Wk.refl _, trivial⟩, trivial⟩⟩⟩
        simp only [Cnd.holds, e1, g1, g2, h1, sv, AV.strOf, Nat.blt_eq, true_and, and_true]
        and_intros
        all_goals first
          | (with_reducible exact wk_int hw)
          | (with_reducible exact trivial)
          | (with_reducible exact rfl)
          | (with_reducible exact Wk.refl _)
          | (with_reducible exact VW.refl _)
          | (with_reducible exact OW.refl _)
          | (with_reducible exact wk_lit _)
          | (with_reducible assumption)
          | exact rfl
          | exact Wk.refl _
          | exact VW.refl _
          | exact OW.refl _
          | ((repeat (first | exact VW.nil | refine VW.cons (Wk.refl _) ?_ | refine VW.cons (Wk.any _) ?_ | refine VW.cons (wk_cap (Nat.le_refl _)) ?_)); done)
    | some u =>
      have huv := unV_some (p := tB p) (u := u) (by rw [tB_data]; exact hu)
      have hnext : unescs (R.drop (j + 1)) = none := by
        rw [unescs_some hu] at hI
        cases hpc : unescs (R.drop (j + 1)) with
        | none => rfl
        | some v => rw [hpc] at hI; cases hI
      have hmap : (O ++ [u]).map tB = O.map tB ++ [tB u] := by simp
      have hA : aPa (outS ((O ++ [u]).map tB)) R.length (j + 1) = aPa (sB 1001 ((O.map tB).length + 1)) R.length (j + 1) := by rw [hmap, outS_snoc]
      have hH : outSH (R.map tB) ((O ++ [u]).map tB) = [(1000, rS (R.map tB)), (1001, rS (O.map tB ++ [tB u]))] := by rw [hmap, outSH_snoc]
      have hol : (O.map tB).length = j := by rw [List.length_map, hO]
      generalize hOm : O.map tB = Om at *
      cases Om with
      | nil =>
        refine ⟨[(fUn, cUn (tB p) (tB u) true)], hPa (tB p) (tB u) j true, [], fun F hF => one_c (cUn_ok hW hF _ _ _ hps huv), fun _ _ => noL, fun F => ?_⟩
        refine cast (congrArg (VAll _) (oPaN_eq W (R.map tB) (tB p) (tB u) R.length j F).symm) ⟨⟨?_, rfl, .inl ⟨rfl, ⟨(O ++ [u], j + 1), h1, by simp [hO], hnext⟩, sub_down h1, [(1000, 1000), (1001, 1101)], ?_⟩⟩⟩
        · simp only [Cnd.holds, e1, g1, g2, h1, sv, AV.strOf, Nat.blt_eq, true_and, and_true]
          and_intros
          all_goals first
            | (with_reducible exact wk_int hw)
            | (with_reducible exact trivial)
            | (with_reducible exact rfl)
            | (with_reducible exact Wk.refl _)
            | (with_reducible exact VW.refl _)
            | (with_reducible exact OW.refl _)
            | (with_reducible exact wk_lit _)
            | (with_reducible assumption)
            | exact rfl
            | exact Wk.refl _
            | exact VW.refl _
            | exact OW.refl _
            | ((repeat (first | exact VW.nil | refine VW.cons (Wk.refl _) ?_ | refine VW.cons (Wk.any _) ?_ | refine VW.cons (wk_cap (Nat.le_refl _)) ?_)); done)
        · rw [hA, hH]
          exact ⟨by kernel_rfl, by kernel_rfl, ⟨Wk.refl _, Wk.refl _, Wk.refl _, Wk.refl _, trivial⟩, ⟨_, rfl, rS_ow rfl rfl⟩, ⟨_, rfl, rS_ow rfl rfl⟩, trivial⟩
      | cons y r =>
        have k1 := rS_in' (p := (y :: r).length) (P := y :: r) rfl
        have k2 := rS_full (p := (y :: r).length) (P := y :: r) rfl
        have a1 : List.take ((y :: r).length * 1) (List.drop 0 (rowV encS (y :: r))) ++ [AV.v (Value.string (tB u))] = rowV encS ((y :: r) ++ [tB u]) := rS_adds rfl [tB u]
        have hq1 : aPa (outS (y :: r)) R.length j = aPa (sB 1001 (y :: r).length) R.length j := rfl
        have hq2 : outSH (R.map tB) (y :: r) = [(1000, rS (R.map tB)), (1001, rS (y :: r))] := rfl
        rw [hq1, hq2]
        generalize y :: r = Y at *
        have b1 : ((Y.length + 1) * 16).ble 140737488355328 = true := ble_of (by omega)
        have b2 : (Y.length + 1).ble 9223372036854775807 = true := ble_of (by omega)
        refine ⟨[(fUn, cUn (tB p) (tB u) true)], hPa (tB p) (tB u) j true, [], fun F hF => one_c (cUn_ok hW hF _ _ _ hps huv), fun _ _ => noL, fun F => ?_⟩
        refine cast (congrArg (VAll _) (oPaO_eq W (R.map tB) Y (tB p) (tB u) R.length j Y.length F).symm) ⟨⟨?_, rfl, .inl ⟨rfl, ⟨(O ++ [u], j + 1), h1, by simp [hO], hnext⟩, sub_down h1, [(1000, 1000), (1001, 1101)], ?_⟩⟩⟩
        · simp only [Cnd.holds, e1, g1, g2, h1, sv, AV.strOf, k1, k2, a1, b1, b2, Nat.blt_eq, true_and, and_true]
          and_intros
          all_goals first
            | (with_reducible exact wk_int hw)
            | (with_reducible exact trivial)
            | (with_reducible exact rfl)
            | (with_reducible exact Wk.refl _)
            | (with_reducible exact VW.refl _)
            | (with_reducible exact OW.refl _)
            | (with_reducible exact wk_lit _)
            | (with_reducible assumption)
            | exact rfl
            | exact Wk.refl _
            | exact VW.refl _
            | exact OW.refl _
            | ((repeat (first | exact VW.nil | refine VW.cons (Wk.refl _) ?_ | refine VW.cons (Wk.any _) ?_ | refine VW.cons (wk_cap (Nat.le_refl _)) ?_)); done)
        · rw [hA, hH]
          exact ⟨by kernel_rfl, by kernel_rfl, ⟨Wk.refl _, Wk.refl _, Wk.refl _, Wk.refl _, trivial⟩, ⟨_, rfl, rS_ow rfl rfl⟩, ⟨_, rfl, rS_ow a1 rfl⟩, trivial⟩
  · have hje : j = R.length := by omega
    subst hje
    rw [List.drop_length] at hI
    cases hI
end
end Go.Proofs.YtpijbbobejeemaaGreatDoor.Htp

/- Http: Path: the function. -/
set_option linter.unusedVariables false
set_option linter.unusedSimpArgs false
set_option maxRecDepth 100000
namespace Go.Proofs.YtpijbbobejeemaaGreatDoor.Htp
open Go Go.RowKit Go.Proofs.YtpijbbobejeemaaGreatDoor.Eng Go.Proofs.YtpijbbobejeemaaGreatDoor.Kit
theorem wk_tup {a b : List AV} (h : VW a b) : Wk (.tuple a) (.tuple b) := fun N y hy => by
  simp only [VR] at *
  obtain ⟨vs, h1, rfl⟩ := hy
  exact ⟨vs, h N vs h1, rfl⟩
theorem ahead_first : ∀ (u v : List UInt8), (63 : UInt8) ∉ u → ahead (u ++ 63 :: v) = u
  | [], v, _ => by simp [ahead]
  | c :: u, v, h => by
    have hc : c ≠ 63 := fun e => h (by subst e; exact List.mem_cons_self)
    rw [List.cons_append, ahead, if_neg hc, ahead_first u v fun e => h (List.mem_cons_of_mem _ e)]
theorem ahead_none : ∀ (u : List UInt8), (63 : UInt8) ∉ u → ahead u = u
  | [], _ => rfl
  | c :: u, h => by
    have hc : c ≠ 63 := fun e => h (by subst e; exact List.mem_cons_self)
    rw [ahead, if_neg hc, ahead_none u fun e => h (List.mem_cons_of_mem _ e)]
theorem ahead_len : ∀ l : List UInt8, (ahead l).length ≤ l.length
  | [] => by simp [ahead]
  | c :: l => by
    rw [ahead]
    have := ahead_len l
    split <;> simp <;> omega
theorem cut_ahead (t : ByteArray) : cut1 t (ByteArray.mk (Array.mk [63])) = tB (ahead t.data.toList) := by
  unfold cut1
  congr 1
  show (Lib.cut t.data.toList [63]).1 = _
  by_cases h : (63 : UInt8) ∈ t.data.toList
  · obtain ⟨u, v, e, hu⟩ := List.eq_append_cons_of_mem h
    rw [e, cut_first 63 u v hu, ahead_first u v hu]
  · unfold Lib.cut
    rw [index_none 63 _ h, if_neg (by decide), ahead_none _ h]
theorem pre_slash (l : List UInt8) : preB (tB (47 :: l)) (ByteArray.mk (Array.mk [47])) = tB l ∧ preK (tB (47 :: l)) (ByteArray.mk (Array.mk [47])) = true := by
  unfold preB preK
  rw [tB_data]
  exact ⟨rfl, rfl⟩
theorem pre_noslash {l : List UInt8} (h : ∀ r, l ≠ 47 :: r) : preK (tB l) (ByteArray.mk (Array.mk [47])) = false := by
  unfold preK
  rw [tB_data]
  match l, h with
  | [], _ => rfl
  | c :: l, h =>
    have hc : c ≠ 47 := fun e => h l (by rw [e])
    show ((47 : UInt8) == c && _) = false
    have : ((47 : UInt8) == c) = false := beq_eq_false_iff_ne.2 (Ne.symm hc)
    rw [this]; rfl
theorem unescs_len : ∀ {L : List (List UInt8)} {V : List (List UInt8)}, unescs L = some V → V.length = L.length
  | [], V, h => by cases h; rfl
  | p :: r, V, h => by
    rw [unescs_cons] at h
    cases h1 : unesc p with
    | none => rw [h1] at h; cases h
    | some u =>
      cases h2 : unescs r with
      | none => rw [h1, h2] at h; cases h
      | some v =>
        rw [h1, h2] at h
        cases h
        rw [List.length_cons, List.length_cons, unescs_len h2]
theorem gPa_ro : ∀ args, RO (gPa args) := by
  intro args
  unfold gPa
  split
  · exact RO.ret _
  · exact RO.fail _
def pathV (t : ByteArray) : AV := match pathL t.data.toList with
  | some P => .tuple [sB 1000 P.length, bv true]
  | none => .tuple [nilS, bv false]
def pathH (t : ByteArray) : LH := match pathL t.data.toList with
  | some P => [(1000, rS (P.map tB))]
  | none => []
theorem Path_tri {W : World} (hW : LW2 W) (m t : ByteArray) (hs bd : Value) (ht : t.size ≤ 1085000) : Tri Tryz.prog W fPath [reqV m t hs bd] [] (pathV t) (pathH t) := by
  have htl : t.data.toList.length = t.size := rfl
  have q0 : t.size < 4294967281 := by omega
  have hca := cut_ahead t
  by_cases hsl : ∃ l, t.data.toList = 47 :: l
  · obtain ⟨l, hl⟩ := hsl
    have hah : ahead t.data.toList = 47 :: ahead l := by rw [hl]; rfl
    obtain ⟨p1, p2⟩ := pre_slash (ahead l)
    rw [hah] at hca
    have hall := ahead_len l
    have hll : l.length + 1 = t.size := by rw [← htl, hl]; simp
    have hcl := cutL_len 47 (ahead l)
    have hcp := cutL_part 47 (ahead l)
    have hRb : (cutL 47 (ahead l)).length ≤ 1100000 := by omega
    have hRp : ∀ p ∈ cutL 47 (ahead l), p.length ≤ 1090000 := fun p hp => by have := hcp p hp; omega
    have hcb : cutB 47 (tB (ahead l)) = (cutL 47 (ahead l)).map tB := by unfold cutB; rw [tB_data]
    have hlen : (List.map Value.string (cutB 47 (tB (ahead l)))).length = (cutL 47 (ahead l)).length := by rw [hcb]; simp
    have hrow : vmap (List.map Value.string (cutB 47 (tB (ahead l)))) = rowV encS ((cutL 47 (ahead l)).map tB) := by rw [hcb, rS_map]
    have q1 : (tB (ahead l)).size < 4294967281 := by rw [tB_size]; omega
    have hne := cutL_ne 47 (ahead l)
    have hpl : pathL t.data.toList = unescs (cutL 47 (ahead l)) := by rw [hl]; rfl
    unfold pathV pathH
    rw [hpl]
    cases hV : unescs (cutL 47 (ahead l)) with
    | some V =>
      have hVne : V ≠ [] := fun e => by
        have := unescs_len hV
        rw [e] at this
        exact hne (List.eq_nil_of_length_eq_zero this.symm)
      simp only
      refine tri_run (con := [(fCut, cCut), (fCutP, cCutP), (fSplit, cSplit 47)]) (hints := hPg t (tB (47 :: ahead l)) (tB (ahead l)) ((cutL 47 (ahead l)).map tB) (cutL 47 (ahead l)).length true) (lc := [(fPath, 6, loopN fPath 6, lPa ((cutL 47 (ahead l)).map tB) (V.map tB) (cutL 47 (ahead l)).length (V.map tB).length)]) [1100, 1101, 1102] rfl (fun F hF => con_cons (cCut_ok hW.toLW hF) (con_cons (cCutP_ok hF) (one_c (cSplit_ok hW.toLW hF 47)))) (fun F hF => one_l (mkL_ok hF gPa_ro (fun _ _ => by
        simp only [RT.pick]
        exact pa_loop hW _ hRb hRp hV hVne) fun _ => by
        simp only [RT.pick]
        exact closedT rfl rfl (all_cons trivial (all_cons rfl (all_cons trivial (all_cons trivial all_nil)))) (all_cons (rS_cl _ _) all_nil) (all_cons rfl all_nil) (all_cons (rS_cl _ _) all_nil))) fun F => ?_
      refine cast (congrArg (VAll _) (oPP_eq W m t (tB (47 :: ahead l)) (tB (ahead l)) hs bd ((cutL 47 (ahead l)).map tB) (V.map tB) (cutL 47 (ahead l)).length (V.map tB).length F).symm) ⟨⟨?_, (fit_mk (vs' := [.tuple [sB 1000 V.length, bv true]]) (H' := [(1000, rS (V.map tB))]) [(1000, 1102)] rfl rfl (by rw [List.length_map]; exact VW.refl _) ⟨⟨_, rfl, rS_ow (by rw [rens_rowV]) rfl⟩, trivial⟩).fits rfl⟩⟩
      simp only [Cnd.holds, q0, q1, hca, p1, p2, hlen, rens_rowV, Nat.blt_eq, true_and, and_true]
      and_intros
      all_goals first
        | exact wk_tup (VW.cons (Wk.refl _) (VW.cons (Wk.any _) (VW.cons (Wk.any _) VW.nil)))
        | exact wk_tup (VW.cons (Wk.refl _) (VW.cons (wk_lit _) VW.nil))
        | exact ow_cells hrow
        | (with_reducible exact trivial)
        | (with_reducible exact rfl)
        | (with_reducible exact Wk.refl _)
        | (with_reducible exact VW.refl _)
        | (with_reducible exact OW.refl _)
        | (with_reducible exact wk_lit _)
        | (with_reducible assumption)
        | exact rfl
        | exact Wk.refl _
        | exact VW.refl _
        | exact OW.refl _
        | ((repeat (first | exact VW.nil | refine VW.cons (Wk.refl _) ?_ | refine VW.cons (Wk.any _) ?_ | refine VW.cons (wk_cap (Nat.le_refl _)) ?_)); done)
    | none =>
      simp only
      refine tri_run (con := [(fCut, cCut), (fCutP, cCutP), (fSplit, cSplit 47)]) (hints := hPg t (tB (47 :: ahead l)) (tB (ahead l)) ((cutL 47 (ahead l)).map tB) (cutL 47 (ahead l)).length true) (lc := [(fPath, 6, loopN fPath 6, lPax ((cutL 47 (ahead l)).map tB) (cutL 47 (ahead l)).length)]) [1100, 1101, 1102] rfl (fun F hF => con_cons (cCut_ok hW.toLW hF) (con_cons (cCutP_ok hF) (one_c (cSplit_ok hW.toLW hF 47)))) (fun F hF => one_l (mkL_ok hF gPa_ro (fun _ _ => by
        simp only [RT.pick]
        exact pax_loop hW _ hRb hRp hV) fun _ => by
        simp only [RT.pick]
        exact closedT rfl rfl (all_cons trivial (all_cons rfl (all_cons trivial (all_cons trivial all_nil)))) (all_cons (rS_cl _ _) all_nil) (all_cons trivial (all_cons trivial all_nil)) all_nil)) fun F => ?_
      refine cast (congrArg (VAll _) (oPPx_eq W m t (tB (47 :: ahead l)) (tB (ahead l)) hs bd ((cutL 47 (ahead l)).map tB) (cutL 47 (ahead l)).length F).symm) ⟨⟨?_, (fit_mk (vs' := [.tuple [nilS, bv false]]) (H' := []) [] rfl rfl (VW.refl _) trivial).fits rfl⟩⟩
      simp only [Cnd.holds, q0, q1, hca, p1, p2, hlen, rens_rowV, Nat.blt_eq, true_and, and_true]
      and_intros
      all_goals first
        | exact wk_tup (VW.cons (Wk.refl _) (VW.cons (Wk.any _) (VW.cons (Wk.any _) VW.nil)))
        | exact wk_tup (VW.cons (Wk.refl _) (VW.cons (wk_lit _) VW.nil))
        | exact ow_cells hrow
        | (with_reducible exact trivial)
        | (with_reducible exact rfl)
        | (with_reducible exact Wk.refl _)
        | (with_reducible exact VW.refl _)
        | (with_reducible exact OW.refl _)
        | (with_reducible exact wk_lit _)
        | (with_reducible assumption)
        | exact rfl
        | exact Wk.refl _
        | exact VW.refl _
        | exact OW.refl _
        | ((repeat (first | exact VW.nil | refine VW.cons (Wk.refl _) ?_ | refine VW.cons (Wk.any _) ?_ | refine VW.cons (wk_cap (Nat.le_refl _)) ?_)); done)
  · have hno : ∀ r, ahead t.data.toList ≠ 47 :: r := by
      intro r e
      match hm : t.data.toList with
      | [] => rw [hm] at e; cases e
      | c :: l =>
        rw [hm, ahead] at e
        split at e
        · cases e
        · obtain ⟨e1, _⟩ := List.cons.inj e
          exact hsl ⟨l, by rw [hm, e1]⟩
    have p2 := pre_noslash hno
    have hpl : pathL t.data.toList = none := by
      match hm : t.data.toList with
      | [] => rfl
      | c :: l =>
        unfold pathL
        split
        · rename_i l' e
          exact absurd ⟨l', by rw [hm]; exact e⟩ hsl
        · rfl
    unfold pathV pathH
    rw [hpl]
    simp only
    refine tri_run (con := [(fCut, cCut), (fCutP, cCutP)]) (hints := hPg t (tB (ahead t.data.toList)) (preB (tB (ahead t.data.toList)) (ByteArray.mk (Array.mk [47]))) [] 0 false) (lc := []) [1100, 1101, 1102] rfl (fun F hF => con_cons (cCut_ok hW.toLW hF) (one_c (cCutP_ok hF))) (fun F hF => noL) fun F => ?_
    refine cast (congrArg (VAll _) (oPPz_eq W m t (tB (ahead t.data.toList)) (preB (tB (ahead t.data.toList)) (ByteArray.mk (Array.mk [47]))) hs bd F).symm) ⟨⟨?_, (fit_mk (vs' := [.tuple [nilS, bv false]]) (H' := []) [] rfl rfl (VW.refl _) trivial).fits rfl⟩⟩
    simp only [Cnd.holds, q0, hca, p2, Nat.blt_eq, true_and, and_true]
    and_intros
    all_goals first
      | exact wk_tup (VW.cons (Wk.refl _) (VW.cons (Wk.any _) (VW.cons (Wk.any _) VW.nil)))
      | exact wk_tup (VW.cons (Wk.refl _) (VW.cons (wk_lit _) VW.nil))
      | (with_reducible exact trivial)
      | (with_reducible exact rfl)
      | (with_reducible exact Wk.refl _)
      | (with_reducible exact VW.refl _)
      | (with_reducible exact OW.refl _)
      | (with_reducible exact wk_lit _)
      | (with_reducible assumption)
      | exact rfl
      | exact Wk.refl _
      | exact VW.refl _
      | exact OW.refl _
      | ((repeat (first | exact VW.nil | refine VW.cons (Wk.refl _) ?_ | refine VW.cons (Wk.any _) ?_ | refine VW.cons (wk_cap (Nat.le_refl _)) ?_)); done)
end Go.Proofs.YtpijbbobejeemaaGreatDoor.Htp

/- Http: the document's Path: runs. -/
set_option linter.unusedVariables false
set_option linter.unusedSimpArgs false
set_option maxRecDepth 100000
namespace Go.Proofs.YtpijbbobejeemaaGreatDoor.Htp
open Go Go.RowKit Go.Proofs.YtpijbbobejeemaaGreatDoor.Eng Go.Proofs.YtpijbbobejeemaaGreatDoor.Kit
noncomputable section
abbrev fHex : Nat := 47
abbrev fRP : Nat := 23
def hexZ (c : UInt8) : Int := match hexV c with
  | some n => Int.ofNat n
  | none => -1
def gHx : List AV → Option Int
  | [.v (.int .u8 c)] => some c
  | _ => none
def cHx1 : List AV → Option (AP AV) := vC gHx (fun c => 0 ≤ c ∧ c < 256) (fun c => iv (hexZ c.toNat.toUInt8))
def aRP (t : ByteArray) (no n i : Nat) : List (Nat × AV) := [(4, sB 1002 0), (5, sv t), (6, sB 1000 no), (7, sB 1001 n), (8, iv (Int.ofNat i))]
def oRP (O : List ByteArray) (P : List UInt8) : LH := [(1000, rS O), (1001, rB P), (1002, rS [])]
def kRP : List Nat := [1000, 1001, 1002, 1100, 1101, 1102, 1103]
def iRP : List Nat := [2, 3, 4, 5, 6, 7, 8]
def hRP (c a b : UInt8) (x y : Int) (z : UInt8) (pt : ByteArray) (i : Nat) (sl pc sh bad : Bool) : ClaimT := hintL [(fRP, 9, 3, hv (.lit true)), (fRP, 9, 7, h0v (byv c)), (fRP, 9, 8, hv (.lit true)), (fRP, 9, 9, hv (.lit true)), (fRP, 11, 2, h0v (byv c)), (fRP, 13, 0, hv (.lit sl)), (fRP, 14, 2, ht pt), (fRP, 16, 0, hv (.lit pc)), (fRP, 17, 4, hv (.lit sh)),
  (fRP, 19, 2, hv (iv (Int.ofNat (i + 1)))), (fRP, 19, 3, h0v (byv a)), (fRP, 19, 4, hv (iv x)), (fRP, 19, 7, hv (iv (Int.ofNat (i + 2)))), (fRP, 19, 8, h0v (byv b)), (fRP, 19, 9, hv (iv y)), (fRP, 20, 5, hv (.lit bad)), (fRP, 22, 5, hv (byv z)), (fRP, 23, 1, hv (iv (Int.ofNat (i + 2)))), (fRP, 12, 3, h0v (byv c)), (fRP, 10, 1, hv (iv (Int.ofNat (i + 1))))]
def hRP2 (c a b : UInt8) (x y : Int) (z : UInt8) (pt : ByteArray) (i : Nat) (sl pc sh bad : Bool) : ClaimT := hintL [(fRP, 9, 3, hv (.lit true)), (fRP, 9, 7, h0v (byv c)), (fRP, 9, 8, hv (.lit true)), (fRP, 9, 9, hv (.lit true)), (fRP, 11, 2, h0v (byv c)), (fRP, 13, 0, hv (.lit sl)), (fRP, 14, 2, ht pt), (fRP, 16, 0, hv (.lit pc)), (fRP, 17, 4, hv (.lit sh)),
  (fRP, 19, 2, hv (iv (Int.ofNat (i + 1)))), (fRP, 19, 3, h0v (byv a)), (fRP, 19, 4, hv (iv x)), (fRP, 19, 7, hv (iv (Int.ofNat (i + 2)))), (fRP, 19, 8, h0v (byv b)), (fRP, 19, 9, hv (iv y)), (fRP, 20, 1, hv (.lit false)), (fRP, 20, 5, hv (.lit bad)), (fRP, 22, 5, hv (byv z)), (fRP, 23, 1, hv (iv (Int.ofNat (i + 2)))), (fRP, 10, 1, hv (iv (Int.ofNat (i + 3))))]
theorem oRpC_eq (t : ByteArray) (O : List ByteArray) (P : List UInt8) (c : UInt8) (no n i : Nat) (F : HP) : wLoop [] (hRP c 0 0 0 0 0 ByteArray.empty i false false false false) [] default fRP (loopN fRP 9) (tms 0 93 (aRP t no n i)) (oRP O P) kRP iRP F = VT.leaf (AX.normal, [AV.any, AV.any, AV.slice 1002 0 0 1 (Cp.lo 0), AV.v (Value.string t), AV.slice 1000 0 no 1 (Cp.lo no), AV.slice 1101 0 (n + 1) 1 (Cp.lo (n + 1)), AV.v (Value.int IntKind.i64 (Int.ofNat (i + 1)))], 93) [some (AO.cells (rowV encS O) 18), none, some (AO.cells [] 18), some (AO.cells [AV.v (Value.int IntKind.u8 ↑c.toNat)] 10), some (AO.cells (List.take (n * 1) (List.drop 0 (rowV encB P)) ++ [AV.v (Value.int IntKind.u8 ↑c.toNat)]) 10), none, none] 1102 (((Cnd.p (Wk (AV.v (Value.bool (decide (Int.ofNat i < ↑t.size)))) (AV.lit true))).a Cnd.t).a (((Cnd.p (i < t.size)).a ((Cnd.p (Wk (AV.v (Value.int IntKind.u8 ↑(t.data.toList.getD i 0).toNat)) (AV.v (Value.int IntKind.u8 ↑c.toNat)))).a Cnd.t)).a (((Cnd.p (Wk (AV.v (Value.bool (↑c.toNat != Int.ofNat 63))) (AV.lit true))).a Cnd.t).a (((Cnd.p (Wk (AV.lit true) (AV.lit true))).a Cnd.t).a (((Cnd.p (i < t.size)).a ((Cnd.p (Wk (AV.v (Value.int IntKind.u8 ↑(t.data.toList.getD i 0).toNat)) (AV.v (Value.int IntKind.u8 ↑c.toNat)))).a Cnd.t)).a (((Cnd.p (Wk (AV.v (Value.bool (↑c.toNat == Int.ofNat 47))) (AV.lit false))).a Cnd.t).a (((Cnd.p (Wk (AV.v (Value.bool (↑c.toNat == Int.ofNat 37))) (AV.lit false))).a Cnd.t).a (((Cnd.p (i < t.size)).a ((Cnd.p (Wk (AV.v (Value.int IntKind.u8 ↑(t.data.toList.getD i 0).toNat)) (AV.v (Value.int IntKind.u8 ↑c.toNat)))).a Cnd.t)).a (((Cnd.p (true = true)).a ((Cnd.p (true = true)).a ((Cnd.p (true = true)).a ((Cnd.p (true = true)).a ((Cnd.p ((0 + n * 1).ble (rowV encB P).length = true)).a ((Cnd.p (((n + 1) * 1).ble 140737488355328 = true)).a ((Cnd.p ((n + 1).ble 9223372036854775807 = true)).a ((Cnd.p ((List.take (n * 1) (List.drop 0 (rowV encB P))).length.beq (n * 1) = true)).a Cnd.t)))))))).a (((Cnd.p (Wk (AV.v (Value.int IntKind.i64 (IntKind.i64.wrap (Int.ofNat i + Int.ofNat 1)))) (AV.v (Value.int IntKind.i64 (Int.ofNat (i + 1)))))).a Cnd.t).a Cnd.t)))))))))) := by kernel_rfl
theorem oRpS_eq (t pt : ByteArray) (O : List ByteArray) (P : List UInt8) (c : UInt8) (no n i : Nat) (F : HP) : wLoop [] (hRP c 0 0 0 0 0 pt i true false false false) [] default fRP (loopN fRP 9) (tms 0 93 (aRP t no n i)) (oRP O P) kRP iRP F = VT.leaf (AX.normal, [AV.any, AV.any, AV.slice 1002 0 0 1 (Cp.lo 0), AV.v (Value.string t), AV.slice 1101 0 (no + 1) 1 (Cp.lo (no + 1)), AV.slice 1102 0 0 1 (Cp.ex 0), AV.v (Value.int IntKind.i64 (Int.ofNat (i + 1)))], 93) [none, some (AO.cells (rowV encB P) 10), some (AO.cells [] 18), some (AO.cells [AV.v (Value.string pt)] 18), some (AO.cells (List.take (no * 1) (List.drop 0 (rowV encS O)) ++ [AV.v (Value.string pt)]) 18), some (AO.cells (rep [AV.v (Value.int IntKind.u8 (Int.ofNat 0))] 0) 10), none] 1103 (((Cnd.p (Wk (AV.v (Value.bool (decide (Int.ofNat i < ↑t.size)))) (AV.lit true))).a Cnd.t).a (((Cnd.p (i < t.size)).a ((Cnd.p (Wk (AV.v (Value.int IntKind.u8 ↑(t.data.toList.getD i 0).toNat)) (AV.v (Value.int IntKind.u8 ↑c.toNat)))).a Cnd.t)).a (((Cnd.p (Wk (AV.v (Value.bool (↑c.toNat != Int.ofNat 63))) (AV.lit true))).a Cnd.t).a (((Cnd.p (Wk (AV.lit true) (AV.lit true))).a Cnd.t).a (((Cnd.p (i < t.size)).a ((Cnd.p (Wk (AV.v (Value.int IntKind.u8 ↑(t.data.toList.getD i 0).toNat)) (AV.v (Value.int IntKind.u8 ↑c.toNat)))).a Cnd.t)).a (((Cnd.p (Wk (AV.v (Value.bool (↑c.toNat == Int.ofNat 47))) (AV.lit true))).a Cnd.t).a (((Cnd.p (0 + n ≤ (rowV encB P).length ∧ List.take n (List.drop 0 (rowV encB P)) = vmap (List.map (fun b => Value.int IntKind.u8 ↑b.toNat) pt.data.toList))).a Cnd.t).a (((Cnd.p (true = true)).a ((Cnd.p (true = true)).a ((Cnd.p (true = true)).a ((Cnd.p (true = true)).a ((Cnd.p ((0 + no * 1).ble (rowV encS O).length = true)).a ((Cnd.p (((no + 1) * 16).ble 140737488355328 = true)).a ((Cnd.p ((no + 1).ble 9223372036854775807 = true)).a ((Cnd.p ((List.take (no * 1) (List.drop 0 (rowV encS O))).length.beq (no * 1) = true)).a Cnd.t)))))))).a (((Cnd.p (Wk (AV.v (Value.int IntKind.i64 (IntKind.i64.wrap (Int.ofNat i + Int.ofNat 1)))) (AV.v (Value.int IntKind.i64 (Int.ofNat (i + 1)))))).a Cnd.t).a Cnd.t))))))))) := by kernel_rfl
theorem oRpP_eq (t : ByteArray) (O : List ByteArray) (P : List UInt8) (c : UInt8) (no n i : Nat) (F : HP) : wLoop [] (hRP c 0 0 0 0 0 ByteArray.empty i false true true false) [] default fRP (loopN fRP 9) (tms 0 93 (aRP t no n i)) (oRP O P) kRP iRP F = VT.leaf (AX.ret, [AV.slice 1002 0 0 1 (Cp.lo 0), AV.v (Value.bool false), AV.slice 1002 0 0 1 (Cp.lo 0), AV.v (Value.string t), AV.slice 1000 0 no 1 (Cp.lo no), AV.slice 1001 0 n 1 (Cp.lo n), AV.v (Value.int IntKind.i64 (Int.ofNat i))], 93) [some (AO.cells (rowV encS O) 18), some (AO.cells (rowV encB P) 10), some (AO.cells [] 18), none, none, none, none] 1100 (((Cnd.p (Wk (AV.v (Value.bool (decide (Int.ofNat i < ↑t.size)))) (AV.lit true))).a Cnd.t).a (((Cnd.p (i < t.size)).a ((Cnd.p (Wk (AV.v (Value.int IntKind.u8 ↑(t.data.toList.getD i 0).toNat)) (AV.v (Value.int IntKind.u8 ↑c.toNat)))).a Cnd.t)).a (((Cnd.p (Wk (AV.v (Value.bool (↑c.toNat != Int.ofNat 63))) (AV.lit true))).a Cnd.t).a (((Cnd.p (Wk (AV.lit true) (AV.lit true))).a Cnd.t).a (((Cnd.p (i < t.size)).a ((Cnd.p (Wk (AV.v (Value.int IntKind.u8 ↑(t.data.toList.getD i 0).toNat)) (AV.v (Value.int IntKind.u8 ↑c.toNat)))).a Cnd.t)).a (((Cnd.p (Wk (AV.v (Value.bool (↑c.toNat == Int.ofNat 47))) (AV.lit false))).a Cnd.t).a (((Cnd.p (Wk (AV.v (Value.bool (↑c.toNat == Int.ofNat 37))) (AV.lit true))).a Cnd.t).a (((Cnd.p (Wk (AV.v (Value.bool (decide (IntKind.i64.wrap (↑t.size - Int.ofNat i) < Int.ofNat 3)))) (AV.lit true))).a Cnd.t).a Cnd.t)))))))) := by kernel_rfl
theorem oRpX_eq (t : ByteArray) (O : List ByteArray) (P : List UInt8) (c a b : UInt8) (x y : Int) (no n i : Nat) (F : HP) : wLoop [(fHex, cHx1)] (hRP c a b x y 0 ByteArray.empty i false true false true) [] default fRP (loopN fRP 9) (tms 0 93 (aRP t no n i)) (oRP O P) kRP iRP F = VT.ite (decide (x < Int.ofNat 0)) (VT.leaf (AX.ret, [AV.slice 1002 0 0 1 (Cp.lo 0), AV.v (Value.bool false), AV.slice 1002 0 0 1 (Cp.lo 0), AV.v (Value.string t), AV.slice 1000 0 no 1 (Cp.lo no), AV.slice 1001 0 n 1 (Cp.lo n), AV.v (Value.int IntKind.i64 (Int.ofNat i))], 93) [some (AO.cells (rowV encS O) 18), some (AO.cells (rowV encB P) 10), some (AO.cells [] 18), none, none, none, none] 1100 (((Cnd.p (Wk (AV.v (Value.bool (decide (Int.ofNat i < ↑t.size)))) (AV.lit true))).a Cnd.t).a (((Cnd.p (i < t.size)).a ((Cnd.p (Wk (AV.v (Value.int IntKind.u8 ↑(t.data.toList.getD i 0).toNat)) (AV.v (Value.int IntKind.u8 ↑c.toNat)))).a Cnd.t)).a (((Cnd.p (Wk (AV.v (Value.bool (↑c.toNat != Int.ofNat 63))) (AV.lit true))).a Cnd.t).a (((Cnd.p (Wk (AV.lit true) (AV.lit true))).a Cnd.t).a (((Cnd.p (i < t.size)).a ((Cnd.p (Wk (AV.v (Value.int IntKind.u8 ↑(t.data.toList.getD i 0).toNat)) (AV.v (Value.int IntKind.u8 ↑c.toNat)))).a Cnd.t)).a (((Cnd.p (Wk (AV.v (Value.bool (↑c.toNat == Int.ofNat 47))) (AV.lit false))).a Cnd.t).a (((Cnd.p (Wk (AV.v (Value.bool (↑c.toNat == Int.ofNat 37))) (AV.lit true))).a Cnd.t).a (((Cnd.p (Wk (AV.v (Value.bool (decide (IntKind.i64.wrap (↑t.size - Int.ofNat i) < Int.ofNat 3)))) (AV.lit false))).a Cnd.t).a (((Cnd.p (Wk (AV.v (Value.int IntKind.i64 (IntKind.i64.wrap (Int.ofNat i + Int.ofNat 1)))) (AV.v (Value.int IntKind.i64 (Int.ofNat (i + 1)))))).a Cnd.t).a (((Cnd.p (i + 1 < t.size)).a ((Cnd.p (Wk (AV.v (Value.int IntKind.u8 ↑(t.data.toList.getD (i + 1) 0).toNat)) (AV.v (Value.int IntKind.u8 ↑a.toNat)))).a Cnd.t)).a (((Cnd.p (Int.ofNat 0 ≤ ↑a.toNat ∧ ↑a.toNat < Int.ofNat 256)).a ((Cnd.p (Wk (AV.v (Value.int IntKind.i64 (hexZ ((a.toNat : Nat) : Int).toNat.toUInt8))) (AV.v (Value.int IntKind.i64 x)))).a Cnd.t)).a (((Cnd.p (Wk (AV.v (Value.int IntKind.i64 (IntKind.i64.wrap (Int.ofNat i + Int.ofNat 2)))) (AV.v (Value.int IntKind.i64 (Int.ofNat (i + 2)))))).a Cnd.t).a (((Cnd.p (i + 2 < t.size)).a ((Cnd.p (Wk (AV.v (Value.int IntKind.u8 ↑(t.data.toList.getD (i + 2) 0).toNat)) (AV.v (Value.int IntKind.u8 ↑b.toNat)))).a Cnd.t)).a (((Cnd.p (Int.ofNat 0 ≤ ↑b.toNat ∧ ↑b.toNat < Int.ofNat 256)).a ((Cnd.p (Wk (AV.v (Value.int IntKind.i64 (hexZ ((b.toNat : Nat) : Int).toNat.toUInt8))) (AV.v (Value.int IntKind.i64 y)))).a Cnd.t)).a (((Cnd.p (Wk (AV.lit true) (AV.lit true))).a Cnd.t).a Cnd.t)))))))))))))))) (VT.leaf (AX.ret, [AV.slice 1002 0 0 1 (Cp.lo 0), AV.v (Value.bool false), AV.slice 1002 0 0 1 (Cp.lo 0), AV.v (Value.string t), AV.slice 1000 0 no 1 (Cp.lo no), AV.slice 1001 0 n 1 (Cp.lo n), AV.v (Value.int IntKind.i64 (Int.ofNat i))], 93) [some (AO.cells (rowV encS O) 18), some (AO.cells (rowV encB P) 10), some (AO.cells [] 18), none, none, none, none] 1100 (((Cnd.p (Wk (AV.v (Value.bool (decide (Int.ofNat i < ↑t.size)))) (AV.lit true))).a Cnd.t).a (((Cnd.p (i < t.size)).a ((Cnd.p (Wk (AV.v (Value.int IntKind.u8 ↑(t.data.toList.getD i 0).toNat)) (AV.v (Value.int IntKind.u8 ↑c.toNat)))).a Cnd.t)).a (((Cnd.p (Wk (AV.v (Value.bool (↑c.toNat != Int.ofNat 63))) (AV.lit true))).a Cnd.t).a (((Cnd.p (Wk (AV.lit true) (AV.lit true))).a Cnd.t).a (((Cnd.p (i < t.size)).a ((Cnd.p (Wk (AV.v (Value.int IntKind.u8 ↑(t.data.toList.getD i 0).toNat)) (AV.v (Value.int IntKind.u8 ↑c.toNat)))).a Cnd.t)).a (((Cnd.p (Wk (AV.v (Value.bool (↑c.toNat == Int.ofNat 47))) (AV.lit false))).a Cnd.t).a (((Cnd.p (Wk (AV.v (Value.bool (↑c.toNat == Int.ofNat 37))) (AV.lit true))).a Cnd.t).a (((Cnd.p (Wk (AV.v (Value.bool (decide (IntKind.i64.wrap (↑t.size - Int.ofNat i) < Int.ofNat 3)))) (AV.lit false))).a Cnd.t).a (((Cnd.p (Wk (AV.v (Value.int IntKind.i64 (IntKind.i64.wrap (Int.ofNat i + Int.ofNat 1)))) (AV.v (Value.int IntKind.i64 (Int.ofNat (i + 1)))))).a Cnd.t).a (((Cnd.p (i + 1 < t.size)).a ((Cnd.p (Wk (AV.v (Value.int IntKind.u8 ↑(t.data.toList.getD (i + 1) 0).toNat)) (AV.v (Value.int IntKind.u8 ↑a.toNat)))).a Cnd.t)).a (((Cnd.p (Int.ofNat 0 ≤ ↑a.toNat ∧ ↑a.toNat < Int.ofNat 256)).a ((Cnd.p (Wk (AV.v (Value.int IntKind.i64 (hexZ ((a.toNat : Nat) : Int).toNat.toUInt8))) (AV.v (Value.int IntKind.i64 x)))).a Cnd.t)).a (((Cnd.p (Wk (AV.v (Value.int IntKind.i64 (IntKind.i64.wrap (Int.ofNat i + Int.ofNat 2)))) (AV.v (Value.int IntKind.i64 (Int.ofNat (i + 2)))))).a Cnd.t).a (((Cnd.p (i + 2 < t.size)).a ((Cnd.p (Wk (AV.v (Value.int IntKind.u8 ↑(t.data.toList.getD (i + 2) 0).toNat)) (AV.v (Value.int IntKind.u8 ↑b.toNat)))).a Cnd.t)).a (((Cnd.p (Int.ofNat 0 ≤ ↑b.toNat ∧ ↑b.toNat < Int.ofNat 256)).a ((Cnd.p (Wk (AV.v (Value.int IntKind.i64 (hexZ ((b.toNat : Nat) : Int).toNat.toUInt8))) (AV.v (Value.int IntKind.i64 y)))).a Cnd.t)).a (((Cnd.p (Wk (AV.v (Value.bool (decide (y < Int.ofNat 0)))) (AV.lit true))).a Cnd.t).a Cnd.t)))))))))))))))) := by kernel_rfl
theorem oRpH_eq (t : ByteArray) (O : List ByteArray) (P : List UInt8) (c a b z : UInt8) (x y : Nat) (no n i : Nat) (F : HP) : wLoop [(fHex, cHx1)] (hRP2 c a b (Int.ofNat x) (Int.ofNat y) z ByteArray.empty i false true false false) [] default fRP (loopN fRP 9) (tms 0 93 (aRP t no n i)) (oRP O P) kRP iRP F = VT.leaf (AX.normal, [AV.any, AV.any, AV.slice 1002 0 0 1 (Cp.lo 0), AV.v (Value.string t), AV.slice 1000 0 no 1 (Cp.lo no), AV.slice 1101 0 (n + 1) 1 (Cp.lo (n + 1)), AV.v (Value.int IntKind.i64 (Int.ofNat (i + 3)))], 93) [some (AO.cells (rowV encS O) 18), none, some (AO.cells [] 18), some (AO.cells [AV.v (Value.int IntKind.u8 ↑z.toNat)] 10), some (AO.cells (List.take (n * 1) (List.drop 0 (rowV encB P)) ++ [AV.v (Value.int IntKind.u8 ↑z.toNat)]) 10), none, none] 1102 (((Cnd.p (Wk (AV.v (Value.bool (decide (Int.ofNat i < ↑t.size)))) (AV.lit true))).a Cnd.t).a (((Cnd.p (i < t.size)).a ((Cnd.p (Wk (AV.v (Value.int IntKind.u8 ↑(t.data.toList.getD i 0).toNat)) (AV.v (Value.int IntKind.u8 ↑c.toNat)))).a Cnd.t)).a (((Cnd.p (Wk (AV.v (Value.bool (↑c.toNat != Int.ofNat 63))) (AV.lit true))).a Cnd.t).a (((Cnd.p (Wk (AV.lit true) (AV.lit true))).a Cnd.t).a (((Cnd.p (i < t.size)).a ((Cnd.p (Wk (AV.v (Value.int IntKind.u8 ↑(t.data.toList.getD i 0).toNat)) (AV.v (Value.int IntKind.u8 ↑c.toNat)))).a Cnd.t)).a (((Cnd.p (Wk (AV.v (Value.bool (↑c.toNat == Int.ofNat 47))) (AV.lit false))).a Cnd.t).a (((Cnd.p (Wk (AV.v (Value.bool (↑c.toNat == Int.ofNat 37))) (AV.lit true))).a Cnd.t).a (((Cnd.p (Wk (AV.v (Value.bool (decide (IntKind.i64.wrap (↑t.size - Int.ofNat i) < Int.ofNat 3)))) (AV.lit false))).a Cnd.t).a (((Cnd.p (Wk (AV.v (Value.int IntKind.i64 (IntKind.i64.wrap (Int.ofNat i + Int.ofNat 1)))) (AV.v (Value.int IntKind.i64 (Int.ofNat (i + 1)))))).a Cnd.t).a (((Cnd.p (i + 1 < t.size)).a ((Cnd.p (Wk (AV.v (Value.int IntKind.u8 ↑(t.data.toList.getD (i + 1) 0).toNat)) (AV.v (Value.int IntKind.u8 ↑a.toNat)))).a Cnd.t)).a (((Cnd.p (Int.ofNat 0 ≤ ↑a.toNat ∧ ↑a.toNat < Int.ofNat 256)).a ((Cnd.p (Wk (AV.v (Value.int IntKind.i64 (hexZ ((a.toNat : Nat) : Int).toNat.toUInt8))) (AV.v (Value.int IntKind.i64 (Int.ofNat x))))).a Cnd.t)).a (((Cnd.p (Wk (AV.v (Value.int IntKind.i64 (IntKind.i64.wrap (Int.ofNat i + Int.ofNat 2)))) (AV.v (Value.int IntKind.i64 (Int.ofNat (i + 2)))))).a Cnd.t).a (((Cnd.p (i + 2 < t.size)).a ((Cnd.p (Wk (AV.v (Value.int IntKind.u8 ↑(t.data.toList.getD (i + 2) 0).toNat)) (AV.v (Value.int IntKind.u8 ↑b.toNat)))).a Cnd.t)).a (((Cnd.p (Int.ofNat 0 ≤ ↑b.toNat ∧ ↑b.toNat < Int.ofNat 256)).a ((Cnd.p (Wk (AV.v (Value.int IntKind.i64 (hexZ ((b.toNat : Nat) : Int).toNat.toUInt8))) (AV.v (Value.int IntKind.i64 (Int.ofNat y))))).a Cnd.t)).a (((Cnd.p (Wk (AV.v (Value.bool false)) (AV.lit false))).a Cnd.t).a (((Cnd.p (Wk (AV.v (Value.bool false)) (AV.lit false))).a Cnd.t).a (((Cnd.p (Wk (AV.v (Value.int IntKind.u8 (IntKind.u8.wrap (IntKind.i64.wrap (IntKind.i64.wrap (Int.ofNat x * Int.ofNat 16) + Int.ofNat y))))) (AV.v (Value.int IntKind.u8 ↑z.toNat)))).a Cnd.t).a (((Cnd.p (true = true)).a ((Cnd.p (true = true)).a ((Cnd.p (true = true)).a ((Cnd.p (true = true)).a ((Cnd.p ((0 + n * 1).ble (rowV encB P).length = true)).a ((Cnd.p (((n + 1) * 1).ble 140737488355328 = true)).a ((Cnd.p ((n + 1).ble 9223372036854775807 = true)).a ((Cnd.p ((List.take (n * 1) (List.drop 0 (rowV encB P))).length.beq (n * 1) = true)).a Cnd.t)))))))).a (((Cnd.p (Wk (AV.v (Value.int IntKind.i64 (IntKind.i64.wrap (Int.ofNat i + Int.ofNat 2)))) (AV.v (Value.int IntKind.i64 (Int.ofNat (i + 2)))))).a Cnd.t).a (((Cnd.p (Wk (AV.v (Value.int IntKind.i64 (IntKind.i64.wrap (Int.ofNat (i + 2) + Int.ofNat 1)))) (AV.v (Value.int IntKind.i64 (Int.ofNat (i + 3)))))).a Cnd.t).a Cnd.t)))))))))))))))))))) := by kernel_rfl
theorem oRpE_eq (t : ByteArray) (O : List ByteArray) (P : List UInt8) (no n i : Nat) (F : HP) : wLoop [] (hintL [(fRP, 9, 3, hv (.lit false)), (fRP, 9, 9, hv (.lit false))]) [] default fRP (loopN fRP 9) (tms 0 93 (aRP t no n i)) (oRP O P) kRP iRP F = VT.leaf (AX.exit 0, [AV.any, AV.any, AV.slice 1002 0 0 1 (Cp.lo 0), AV.v (Value.string t), AV.slice 1000 0 no 1 (Cp.lo no), AV.slice 1001 0 n 1 (Cp.lo n), AV.v (Value.int IntKind.i64 (Int.ofNat i))], 93) [some (AO.cells (rowV encS O) 18), some (AO.cells (rowV encB P) 10), some (AO.cells [] 18), none, none, none, none] 1100 (((Cnd.p (Wk (AV.v (Value.bool (decide (Int.ofNat i < ↑t.size)))) (AV.lit false))).a Cnd.t).a (((Cnd.p (Wk (AV.lit false) (AV.lit false))).a Cnd.t).a Cnd.t)) := by kernel_rfl
theorem oRpQ_eq (t : ByteArray) (O : List ByteArray) (P : List UInt8) (no n i : Nat) (F : HP) : wLoop [] (hintL [(fRP, 9, 3, hv (.lit true)), (fRP, 9, 7, h0v (byv 63)), (fRP, 9, 8, hv (.lit false)), (fRP, 9, 9, hv (.lit false))]) [] default fRP (loopN fRP 9) (tms 0 93 (aRP t no n i)) (oRP O P) kRP iRP F = VT.leaf (AX.exit 0, [AV.any, AV.any, AV.slice 1002 0 0 1 (Cp.lo 0), AV.v (Value.string t), AV.slice 1000 0 no 1 (Cp.lo no), AV.slice 1001 0 n 1 (Cp.lo n), AV.v (Value.int IntKind.i64 (Int.ofNat i))], 93) [some (AO.cells (rowV encS O) 18), some (AO.cells (rowV encB P) 10), some (AO.cells [] 18), none, none, none, none] 1100 (((Cnd.p (Wk (AV.v (Value.bool (decide (Int.ofNat i < ↑t.size)))) (AV.lit true))).a Cnd.t).a (((Cnd.p (i < t.size)).a ((Cnd.p (Wk (AV.v (Value.int IntKind.u8 ↑(t.data.toList.getD i 0).toNat)) (AV.v (Value.int IntKind.u8 (Int.ofNat 63))))).a Cnd.t)).a (((Cnd.p (Wk (AV.v (Value.bool false)) (AV.lit false))).a Cnd.t).a (((Cnd.p (Wk (AV.lit false) (AV.lit false))).a Cnd.t).a Cnd.t)))) := by kernel_rfl
end
end Go.Proofs.YtpijbbobejeemaaGreatDoor.Htp

/- Http: the document's Path: digits, steps. -/
set_option linter.unusedVariables false
set_option linter.unusedSimpArgs false
set_option maxRecDepth 100000
namespace Go.Proofs.YtpijbbobejeemaaGreatDoor.Htp
open Go Go.RowKit Go.Proofs.YtpijbbobejeemaaGreatDoor.Eng Go.Proofs.YtpijbbobejeemaaGreatDoor.Kit
def cfg0 : Cfg := { strs := [], ints := [], same := [], clone := [], laid := [] }
theorem cfg0_ok : CfgOk Tryz.prog cfg0 where
  strs := fun x hx => by cases hx
  ints := fun x hx => by cases hx
  same := fun x hx => by cases hx
  clone := fun x hx => by cases hx
theorem hx_all (w : World) : ((List.range 256).all fun c => match closedVal ((runCall Tryz.prog (envK Tryz.prog cfg0 w) 1000 fHex [.v (.int .u8 (Int.ofNat c))]).run true .nil 0 []) with
    | some (.int .i64 n) => decide (n = hexZ (UInt8.ofNat c))
    | _ => false) = true := by kernel_rfl
theorem hx_one (c : UInt8) (w : World) : closedVal ((runCall Tryz.prog (envK Tryz.prog cfg0 w) 1000 fHex (vmap [.int .u8 (c.toNat : Int)])).run true .nil 0 []) = some (.int .i64 (hexZ c)) := by
  have h := List.all_eq_true.1 (hx_all w) c.toNat (List.mem_range.2 c.toNat_lt)
  simp only [UInt8.ofNat_toNat] at h
  show closedVal ((runCall Tryz.prog (envK Tryz.prog cfg0 w) 1000 fHex [.v (.int .u8 (Int.ofNat c.toNat))]).run true .nil 0 []) = _
  split at h
  · rename_i n he
    rw [he, of_decide_eq_true h]
  · cases h
theorem hx_calls (c : UInt8) (w : World) : Calls Tryz.prog fHex #[.int .u8 (c.toNat : Int)] w fun e w' => e = .returned (.int .i64 (hexZ c)) ∧ Below w.heap.size w w' :=
  closed_callK (args := [.int .u8 (c.toNat : Int)]) cfg0_ok (by kernel_rfl) (fuel := 1000) (fun w => hx_one c w) (fun x hx => by cases hx)
theorem gHx_spec (A : List AV) (p : Int) (h : gHx A = some p) : A = vmap [.int .u8 p] := by
  unfold gHx at h
  split at h
  · cases h; rfl
  · cases h
theorem cHx1_ok {W : World} {F : HP} (hF : OldOK W F) : C1OK Tryz.prog F fHex cHx1 :=
  vC_ok hF (fun c => [.int .u8 c]) (fun c => .int .i64 (hexZ c.toNat.toUInt8)) gHx_spec (fun p N => vr_v N _) fun c hc w hw => by
    obtain ⟨n, rfl⟩ : ∃ n : Nat, c = (n : Int) := ⟨c.toNat, by omega⟩
    have h1 : ((n.toUInt8).toNat : Int) = (n : Int) := by
      have : n < 256 := by omega
      simp [Nat.toUInt8, UInt8.toNat_ofNat', Nat.mod_eq_of_lt this]
    have := hx_calls n.toUInt8 w
    rw [h1] at this
    exact this
def Gp (l P : List UInt8) : Option (List (List UInt8)) := rpath (l.length + 1) l P
theorem rpath_fuel {n m : Nat} {l P : List UInt8} (hn : l.length < n) (hm : l.length < m) : rpath n l P = rpath m l P := by rw [rpath_under n l P hn, rpath_under m l P hm]
theorem Gp_q (l P : List UInt8) : Gp (63 :: l) P = some [P] := by unfold Gp; rw [List.length_cons, rpath, if_pos rfl]
theorem Gp_s (l P : List UInt8) : Gp (47 :: l) P = (Gp l []).map (P :: ·) := by
  unfold Gp
  rw [List.length_cons, rpath, if_neg (by decide), if_pos rfl]
theorem Gp_c {c : UInt8} (h1 : c ≠ 63) (h2 : c ≠ 47) (h3 : c ≠ 37) (l P : List UInt8) : Gp (c :: l) P = Gp l (P ++ [c]) := by
  unfold Gp
  rw [List.length_cons, rpath, if_neg h1, if_neg h2, if_neg h3]
theorem Gp_short {l : List UInt8} (h : l.length < 2) (P : List UInt8) : Gp (37 :: l) P = none := by
  unfold Gp
  rw [List.length_cons, rpath, if_neg (by decide), if_neg (by decide), if_pos rfl]
  match l, h with
  | [], _ => rfl
  | [a], _ => rfl
theorem Gp_bad {a b : UInt8} (h : hex2 a b = none) (l P : List UInt8) : Gp (37 :: a :: b :: l) P = none := by
  unfold Gp
  rw [List.length_cons, rpath, if_neg (by decide), if_neg (by decide), if_pos rfl, esc2, h]
theorem Gp_esc {a b : UInt8} {v : Nat} (h : hex2 a b = some v) (l P : List UInt8) : Gp (37 :: a :: b :: l) P = Gp l (P ++ [UInt8.ofNat v]) := by
  unfold Gp
  rw [List.length_cons, rpath, if_neg (by decide), if_neg (by decide), if_pos rfl, esc2, h]
  exact rpath_fuel (l := l) (by simp only [List.length_cons]; omega) (Nat.lt_succ_self _)
theorem hexZ_some {c : UInt8} {n : Nat} (h : hexV c = some n) : hexZ c = Int.ofNat n := by unfold hexZ; rw [h]
theorem hexZ_none {c : UInt8} (h : hexV c = none) : hexZ c = -1 := by unfold hexZ; rw [h]
theorem hex2_some {a b : UInt8} {v : Nat} (h : hex2 a b = some v) : ∃ x y, hexV a = some x ∧ hexV b = some y ∧ v = x * 16 + y ∧ x < 16 ∧ y < 16 := by
  unfold hex2 at h
  cases ha : hexV a with
  | none => rw [ha] at h; cases h
  | some x =>
    cases hb : hexV b with
    | none => rw [ha, hb] at h; cases h
    | some y =>
      rw [ha, hb] at h
      exact ⟨x, y, rfl, rfl, (Option.some.inj h).symm, hexV_lt ha, hexV_lt hb⟩
theorem hex2_none {a b : UInt8} (h : hex2 a b = none) : hexV a = none ∨ hexV b = none := by
  unfold hex2 at h
  cases ha : hexV a with
  | none => exact .inl rfl
  | some x =>
    cases hb : hexV b with
    | none => exact .inr rfl
    | some y => rw [ha, hb] at h; cases h
end Go.Proofs.YtpijbbobejeemaaGreatDoor.Htp

/- Http: the document's Path: the loop. -/
set_option linter.unusedVariables false
set_option linter.unusedSimpArgs false
set_option maxRecDepth 100000
namespace Go.Proofs.YtpijbbobejeemaaGreatDoor.Htp
open Go Go.RowKit Go.Proofs.YtpijbbobejeemaaGreatDoor.Eng Go.Proofs.YtpijbbobejeemaaGreatDoor.Kit
def RpNext (t : ByteArray) (O : List (List UInt8)) (P : List UInt8) (i : Nat) (hints : ClaimT) (con : ConsL) (O' : List (List UInt8)) (P' : List UInt8) (i' : Nat) : Prop :=
  ∀ F, VAll (fun r os _ => r.2.2 = 93 ∧ r.1 = .normal ∧ ∃ l, FitT kRP iRP r.2.1 os (aRP t O'.length P'.length i') (oRP (O'.map tB) P') l) (wLoop con hints [] default fRP (loopN fRP 9) (tms 0 93 (aRP t O.length P.length i)) (oRP (O.map tB) P) kRP iRP F)
def RpBad (t : ByteArray) (O : List (List UInt8)) (P : List UInt8) (i : Nat) (hints : ClaimT) (con : ConsL) : Prop :=
  ∀ F, VAll (fun r os _ => r.2.2 = 93 ∧ r.1 = .ret ∧ ∃ l, FitT kRP iRP r.2.1 os [(2, sB 1002 0), (3, bv false)] [(1002, rS [])] l) (wLoop con hints [] default fRP (loopN fRP 9) (tms 0 93 (aRP t O.length P.length i)) (oRP (O.map tB) P) kRP iRP F)
def RpEnd (t : ByteArray) (O : List (List UInt8)) (P : List UInt8) (i : Nat) (hints : ClaimT) (con : ConsL) : Prop :=
  ∀ F, VAll (fun r os _ => r.2.2 = 93 ∧ r.1 = .exit 0 ∧ ∃ l, FitT kRP iRP r.2.1 os [(6, sB 1000 O.length), (7, sB 1001 P.length)] [(1000, rS (O.map tB)), (1001, rB P)] l) (wLoop con hints [] default fRP (loopN fRP 9) (tms 0 93 (aRP t O.length P.length i)) (oRP (O.map tB) P) kRP iRP F)
def conOk (con : ConsL) : Prop := ∀ F, OldOK default F → ∀ x ∈ con, C1OK Tryz.prog F x.1 x.2
theorem u8_eqT {c : UInt8} {n : Nat} (h : c.toNat = n) : (((c.toNat : Nat) : Int) == Int.ofNat n) = true := by rw [h]; simp
theorem u8_eqF {c : UInt8} {n : Nat} (h : c.toNat ≠ n) : (((c.toNat : Nat) : Int) == Int.ofNat n) = false := by
  rw [beq_eq_false_iff_ne]; intro e; exact h (Int.ofNat.inj e)
theorem u8_neT {c : UInt8} {n : Nat} (h : c.toNat ≠ n) : (((c.toNat : Nat) : Int) != Int.ofNat n) = true := by rw [bne, u8_eqF h]; rfl
theorem u8_neF {c : UInt8} {n : Nat} (h : c.toNat = n) : (((c.toNat : Nat) : Int) != Int.ofNat n) = false := by rw [bne, u8_eqT h]; rfl
theorem nat_ne {c : UInt8} {n : Nat} (h : c ≠ UInt8.ofNat n) (hn : n < 256) : c.toNat ≠ n := fun e => h (UInt8.toNat_inj.1 (by rw [UInt8.toNat_ofNat', e]; omega))
theorem byte_in (c : UInt8) : Int.ofNat 0 ≤ ((c.toNat : Nat) : Int) ∧ ((c.toNat : Nat) : Int) < Int.ofNat 256 := by
  have := c.toNat_lt
  simp only [Int.ofNat_eq_natCast]; omega
theorem byte_back (c : UInt8) : ((c.toNat : Nat) : Int).toNat.toUInt8 = c := by simp
set_option maxHeartbeats 4000000 in
theorem rp_round (t : ByteArray) (ht : t.size ≤ 1100000) (O : List (List UInt8)) (P : List UInt8) (i : Nat) (hO : O.length ≤ 1100000) (hP : P.length ≤ 1100000) :
    ∃ hints con, conOk con ∧ ((∃ O' P' i', i < i' ∧ i < t.size ∧ i' ≤ t.size ∧ O'.length ≤ O.length + 1 ∧ P'.length ≤ P.length + 1 ∧ (Gp (t.data.toList.drop i) P).map (O ++ ·) = (Gp (t.data.toList.drop i') P').map (O' ++ ·) ∧ RpNext t O P i hints con O' P' i') ∨
      (Gp (t.data.toList.drop i) P = none ∧ RpBad t O P i hints con) ∨ (Gp (t.data.toList.drop i) P = some [P] ∧ RpEnd t O P i hints con)) := by
  have htl : t.data.toList.length = t.size := rfl
  by_cases h1 : i < t.size
  · have hdr : t.data.toList.drop i = t.data.toList.getD i 0 :: t.data.toList.drop (i + 1) := by
      rw [List.drop_eq_getElem_cons (by omega)]
      simp [List.getD_eq_getElem?_getD, List.getElem?_eq_getElem (show i < t.data.toList.length from h1)]
    have e1 := ltTC h1
    have w1 := w_add (a := i) (b := 1) (by omega)
    have w2 := w_add (a := i) (b := 2) (by omega)
    rw [hdr]
    generalize hc : t.data.toList.getD i 0 = c at *
    by_cases c63 : c = 63
    · subst c63
      refine ⟨hintL [(fRP, 9, 3, hv (.lit true)), (fRP, 9, 7, h0v (byv 63)), (fRP, 9, 8, hv (.lit false)), (fRP, 9, 9, hv (.lit false))], [], fun _ _ => noC, .inr (.inr ⟨Gp_q _ _, fun F => ?_⟩)⟩
      refine cast (congrArg (VAll _) (oRpQ_eq t (O.map tB) P O.length P.length i F).symm) ⟨⟨?_, rfl, rfl, [(1000, 1000), (1001, 1001)], by kernel_rfl, by kernel_rfl, ⟨Wk.refl _, Wk.refl _, trivial⟩, ⟨_, rfl, rS_ow rfl rfl⟩, ⟨_, rfl, rB_ow rfl rfl⟩, trivial⟩⟩
      simp only [Cnd.holds, e1, h1, hc, Nat.blt_eq, true_and, and_true]
      and_intros
      all_goals first
        | (with_reducible exact trivial)
        | (with_reducible exact rfl)
        | (with_reducible exact Wk.refl _)
        | (with_reducible exact VW.refl _)
        | (with_reducible exact OW.refl _)
        | (with_reducible exact wk_lit _)
        | (with_reducible assumption)
        | exact rfl
        | exact Wk.refl _
        | exact VW.refl _
        | exact OW.refl _
        | ((repeat (first | exact VW.nil | refine VW.cons (Wk.refl _) ?_ | refine VW.cons (Wk.any _) ?_ | refine VW.cons (wk_cap (Nat.le_refl _)) ?_)); done)
    · have n63 := nat_ne (n := 63) c63 (by decide)
      have f63 := u8_neT n63
      by_cases c47 : c = 47
      · have f47 := u8_eqT (c := c) (n := 47) (by rw [c47]; rfl)
        have hm : (O ++ [P]).map tB = O.map tB ++ [tB P] := by simp
        have hol : (O.map tB).length = O.length := List.length_map ..
        have k1 := rS_in' hol
        have k2 := rS_full hol
        have a1 : List.take (O.length * 1) (List.drop 0 (rowV encS (O.map tB))) ++ [AV.v (Value.string (tB P))] = rowV encS (O.map tB ++ [tB P]) := rS_adds hol [tB P]
        have b1 : ((O.length + 1) * 16).ble 140737488355328 = true := ble_of (by omega)
        have b2 : (O.length + 1).ble 9223372036854775807 = true := ble_of (by omega)
        have q5 : 0 + P.length ≤ (rowV encB P).length := by rw [rB_len]; omega
        have q6 : List.take P.length (List.drop 0 (rowV encB P)) = vmap (List.map (fun b => Value.int IntKind.u8 ↑b.toNat) (tB P).data.toList) := by
          rw [List.drop_zero, List.take_of_length_le (by rw [rB_len]; exact Nat.le_refl _), tB_data, rowB_map]
        have f63' := f63
        refine ⟨hRP c 0 0 0 0 0 (tB P) i true false false false, [], fun _ _ => noC, .inl ⟨O ++ [P], [], i + 1, Nat.lt_succ_self _, h1, h1, by simp, by simp, ?_, fun F => ?_⟩⟩
        · rw [c47, Gp_s]
          cases Gp (t.data.toList.drop (i + 1)) [] with
          | none => rfl
          | some v => simp
        · refine cast (congrArg (VAll _) (oRpS_eq t (tB P) (O.map tB) P c O.length P.length i F).symm) ⟨⟨?_, rfl, rfl, [(1000, 1101), (1001, 1102), (1002, 1002)], by kernel_rfl, by kernel_rfl, ⟨Wk.refl _, Wk.refl _, by rw [List.length_append]; exact Wk.refl _, wk_cap (Nat.le_refl _), Wk.refl _, trivial⟩, ⟨_, rfl, rS_ow (by rw [hm, a1]) rfl⟩, ⟨_, rfl, rB_ow rfl rfl⟩, ⟨_, rfl, rS_ow rfl rfl⟩, trivial⟩⟩
          simp only [Cnd.holds, e1, h1, hc, f63, f47, k1, k2, a1, b1, b2, q5, q6, Nat.blt_eq, true_and, and_true]
          and_intros
          all_goals first
            | (with_reducible exact wk_int w1)
            | (with_reducible exact trivial)
            | (with_reducible exact rfl)
            | (with_reducible exact Wk.refl _)
            | (with_reducible exact VW.refl _)
            | (with_reducible exact OW.refl _)
            | (with_reducible exact wk_lit _)
            | (with_reducible assumption)
            | exact rfl
            | exact Wk.refl _
            | exact VW.refl _
            | exact OW.refl _
            | ((repeat (first | exact VW.nil | refine VW.cons (Wk.refl _) ?_ | refine VW.cons (Wk.any _) ?_ | refine VW.cons (wk_cap (Nat.le_refl _)) ?_)); done)
      · have n47 := nat_ne (n := 47) c47 (by decide)
        have f47 := u8_eqF n47
        by_cases c37 : c = 37
        · have f37 := u8_eqT (c := c) (n := 37) (by rw [c37]; rfl)
          have hwr : IntKind.i64.wrap (((t.size : Nat) : Int) - Int.ofNat i) = Int.ofNat (t.size - i) := w_sub (a := t.size) (b := i) (by omega) (by omega)
          by_cases hsh : t.size - i < 3
          · have e3 : decide (IntKind.i64.wrap (((t.size : Nat) : Int) - Int.ofNat i) < Int.ofNat 3) = true := by rw [hwr]; exact ltTN hsh
            refine ⟨hRP c 0 0 0 0 0 ByteArray.empty i false true true false, [], fun _ _ => noC, .inr (.inl ⟨?_, fun F => ?_⟩)⟩
            · rw [c37]
              exact Gp_short (by rw [List.length_drop]; omega) P
            · refine cast (congrArg (VAll _) (oRpP_eq t (O.map tB) P c O.length P.length i F).symm) ⟨⟨?_, rfl, rfl, [(1002, 1002)], by kernel_rfl, by kernel_rfl, ⟨Wk.refl _, Wk.refl _, trivial⟩, ⟨_, rfl, rS_ow rfl rfl⟩, trivial⟩⟩
              simp only [Cnd.holds, e1, h1, hc, f63, f47, f37, e3, Nat.blt_eq, true_and, and_true]
              and_intros
              all_goals first
                | exact wk_litE e3
                | (with_reducible exact trivial)
                | (with_reducible exact rfl)
                | (with_reducible exact Wk.refl _)
                | (with_reducible exact VW.refl _)
                | (with_reducible exact OW.refl _)
                | (with_reducible exact wk_lit _)
                | (with_reducible assumption)
                | exact rfl
                | exact Wk.refl _
                | exact VW.refl _
                | exact OW.refl _
                | ((repeat (first | exact VW.nil | refine VW.cons (Wk.refl _) ?_ | refine VW.cons (Wk.any _) ?_ | refine VW.cons (wk_cap (Nat.le_refl _)) ?_)); done)
          · have e3 : decide (IntKind.i64.wrap (((t.size : Nat) : Int) - Int.ofNat i) < Int.ofNat 3) = false := by rw [hwr]; exact ltFN (by omega)
            have h2 : i + 1 < t.size := by omega
            have h3 : i + 2 < t.size := by omega
            have hd2 : t.data.toList.drop (i + 1) = t.data.toList.getD (i + 1) 0 :: t.data.toList.getD (i + 2) 0 :: t.data.toList.drop (i + 3) := by
              rw [List.drop_eq_getElem_cons (by omega), List.drop_eq_getElem_cons (by omega)]
              simp [List.getD_eq_getElem?_getD, List.getElem?_eq_getElem (show i + 1 < t.data.toList.length from h2), List.getElem?_eq_getElem (show i + 2 < t.data.toList.length from h3)]
            rw [hd2]
            generalize hga : t.data.toList.getD (i + 1) 0 = a at *
            generalize hgb : t.data.toList.getD (i + 2) 0 = b at *
            have ba := byte_in a
            have bb := byte_in b
            have xa := byte_back a
            have xb := byte_back b
            have hcon : conOk [(fHex, cHx1)] := fun F hF => one_c (cHx1_ok hF)
            cases hx : hex2 a b with
            | none =>
              refine ⟨hRP c a b (hexZ a) (hexZ b) 0 ByteArray.empty i false true false true, _, hcon, .inr (.inl ⟨by rw [c37]; exact Gp_bad hx _ _, fun F => ?_⟩)⟩
              refine cast (congrArg (VAll _) (oRpX_eq t (O.map tB) P c a b (hexZ a) (hexZ b) O.length P.length i F).symm) (VAll.ite (fun hb1 => ?_) fun hb1 => ?_)
              · refine ⟨⟨?_, rfl, rfl, [(1002, 1002)], by kernel_rfl, by kernel_rfl, ⟨Wk.refl _, Wk.refl _, trivial⟩, ⟨_, rfl, rS_ow rfl rfl⟩, trivial⟩⟩
                simp only [Cnd.holds, e1, h1, hc, f63, f47, f37, h2, h3, hga, hgb, xa, xb, Nat.blt_eq, true_and, and_true]
                and_intros
                all_goals first
                  | (with_reducible exact wk_int w1)
                  | (with_reducible exact wk_int w2)
                  | exact wk_litE e3
                  | exact ba.1
                  | exact ba.2
                  | exact bb.1
                  | exact bb.2
                  | (with_reducible exact trivial)
                  | (with_reducible exact rfl)
                  | (with_reducible exact Wk.refl _)
                  | (with_reducible exact VW.refl _)
                  | (with_reducible exact OW.refl _)
                  | (with_reducible exact wk_lit _)
                  | (with_reducible assumption)
                  | exact rfl
                  | exact Wk.refl _
                  | exact VW.refl _
                  | exact OW.refl _
                  | ((repeat (first | exact VW.nil | refine VW.cons (Wk.refl _) ?_ | refine VW.cons (Wk.any _) ?_ | refine VW.cons (wk_cap (Nat.le_refl _)) ?_)); done)
              · have hy : decide (hexZ b < Int.ofNat 0) = true := by
                  rcases hex2_none hx with h | h
                  · rw [hexZ_none h] at hb1; exact absurd hb1 (by decide)
                  · rw [hexZ_none h]; decide
                refine ⟨⟨?_, rfl, rfl, [(1002, 1002)], by kernel_rfl, by kernel_rfl, ⟨Wk.refl _, Wk.refl _, trivial⟩, ⟨_, rfl, rS_ow rfl rfl⟩, trivial⟩⟩
                simp only [Cnd.holds, e1, h1, hc, f63, f47, f37, h2, h3, hga, hgb, xa, xb, Nat.blt_eq, true_and, and_true]
                and_intros
                all_goals first
                  | (with_reducible exact wk_int w1)
                  | (with_reducible exact wk_int w2)
                  | exact wk_litE e3
                  | exact ba.1
                  | exact ba.2
                  | exact bb.1
                  | exact bb.2
                  | exact wk_litE hy
                  | (with_reducible exact trivial)
                  | (with_reducible exact rfl)
                  | (with_reducible exact Wk.refl _)
                  | (with_reducible exact VW.refl _)
                  | (with_reducible exact OW.refl _)
                  | (with_reducible exact wk_lit _)
                  | (with_reducible assumption)
                  | exact rfl
                  | exact Wk.refl _
                  | exact VW.refl _
                  | exact OW.refl _
                  | ((repeat (first | exact VW.nil | refine VW.cons (Wk.refl _) ?_ | refine VW.cons (Wk.any _) ?_ | refine VW.cons (wk_cap (Nat.le_refl _)) ?_)); done)
            | some v =>
              obtain ⟨x, y, hxa, hyb, hv, hx16, hy16⟩ := hex2_some hx
              have za := hexZ_some hxa
              have zb := hexZ_some hyb
              have m1 : IntKind.u8.wrap (IntKind.i64.wrap (IntKind.i64.wrap (Int.ofNat x * Int.ofNat 16) + Int.ofNat y)) = ((UInt8.ofNat v).toNat : Int) := by
                rw [w_mul (by omega), w_add (by omega), ← hv, w_u8]
              have w3 : IntKind.i64.wrap (Int.ofNat (i + 2) + Int.ofNat 1) = Int.ofNat (i + 3) := w_add (by omega)
              generalize hz : UInt8.ofNat v = z at *
              have k1 := rB_in (p := P.length) (P := P) rfl
              have k2 := rB_full (p := P.length) (P := P) rfl
              have a1 : List.take (P.length * 1) (List.drop 0 (rowV encB P)) ++ [AV.v (Value.int IntKind.u8 ↑z.toNat)] = rowV encB (P ++ [z]) := rB_adds rfl [z]
              have b1 : ((P.length + 1) * 1).ble 140737488355328 = true := ble_of (by omega)
              have b2 : (P.length + 1).ble 9223372036854775807 = true := ble_of (by omega)
              refine ⟨hRP2 c a b (Int.ofNat x) (Int.ofNat y) z ByteArray.empty i false true false false, _, hcon, .inl ⟨O, P ++ [z], i + 3, by omega, h1, by omega, by omega, by simp, ?_, fun F => ?_⟩⟩
              · rw [c37, Gp_esc hx, hz]
              · refine cast (congrArg (VAll _) (oRpH_eq t (O.map tB) P c a b z x y O.length P.length i F).symm) ⟨⟨?_, rfl, rfl, [(1000, 1000), (1001, 1101), (1002, 1002)], by kernel_rfl, by kernel_rfl, ⟨Wk.refl _, Wk.refl _, Wk.refl _, by rw [List.length_append]; exact Wk.refl _, Wk.refl _, trivial⟩, ⟨_, rfl, rS_ow rfl rfl⟩, ⟨_, rfl, rB_ow a1 rfl⟩, ⟨_, rfl, rS_ow rfl rfl⟩, trivial⟩⟩
                simp only [Cnd.holds, e1, h1, hc, f63, f47, f37, h2, h3, hga, hgb, xa, xb, za, zb, k1, k2, a1, b1, b2, Nat.blt_eq, true_and, and_true]
                and_intros
                all_goals first
                  | (with_reducible exact wk_int w1)
                  | (with_reducible exact wk_int w2)
                  | (with_reducible exact wk_int w3)
                  | exact wk_litE e3
                  | exact wk_u8 m1
                  | exact ba.1
                  | exact ba.2
                  | exact bb.1
                  | exact bb.2
                  | (with_reducible exact trivial)
                  | (with_reducible exact rfl)
                  | (with_reducible exact Wk.refl _)
                  | (with_reducible exact VW.refl _)
                  | (with_reducible exact OW.refl _)
                  | (with_reducible exact wk_lit _)
                  | (with_reducible assumption)
                  | exact rfl
                  | exact Wk.refl _
                  | exact VW.refl _
                  | exact OW.refl _
                  | ((repeat (first | exact VW.nil | refine VW.cons (Wk.refl _) ?_ | refine VW.cons (Wk.any _) ?_ | refine VW.cons (wk_cap (Nat.le_refl _)) ?_)); done)
        · have n37 := nat_ne (n := 37) c37 (by decide)
          have f37 := u8_eqF n37
          have k1 := rB_in (p := P.length) (P := P) rfl
          have k2 := rB_full (p := P.length) (P := P) rfl
          have a1 : List.take (P.length * 1) (List.drop 0 (rowV encB P)) ++ [AV.v (Value.int IntKind.u8 ↑c.toNat)] = rowV encB (P ++ [c]) := rB_adds rfl [c]
          have b1 : ((P.length + 1) * 1).ble 140737488355328 = true := ble_of (by omega)
          have b2 : (P.length + 1).ble 9223372036854775807 = true := ble_of (by omega)
          refine ⟨hRP c 0 0 0 0 0 ByteArray.empty i false false false false, [], fun _ _ => noC, .inl ⟨O, P ++ [c], i + 1, by omega, h1, h1, by omega, by simp, by rw [Gp_c c63 c47 c37], fun F => ?_⟩⟩
          refine cast (congrArg (VAll _) (oRpC_eq t (O.map tB) P c O.length P.length i F).symm) ⟨⟨?_, rfl, rfl, [(1000, 1000), (1001, 1101), (1002, 1002)], by kernel_rfl, by kernel_rfl, ⟨Wk.refl _, Wk.refl _, Wk.refl _, by rw [List.length_append]; exact Wk.refl _, Wk.refl _, trivial⟩, ⟨_, rfl, rS_ow rfl rfl⟩, ⟨_, rfl, rB_ow a1 rfl⟩, ⟨_, rfl, rS_ow rfl rfl⟩, trivial⟩⟩
          simp only [Cnd.holds, e1, h1, hc, f63, f47, f37, k1, k2, a1, b1, b2, Nat.blt_eq, true_and, and_true]
          and_intros
          all_goals first
            | (with_reducible exact wk_int w1)
            | (with_reducible exact trivial)
            | (with_reducible exact rfl)
            | (with_reducible exact Wk.refl _)
            | (with_reducible exact VW.refl _)
            | (with_reducible exact OW.refl _)
            | (with_reducible exact wk_lit _)
            | (with_reducible assumption)
            | exact rfl
            | exact Wk.refl _
            | exact VW.refl _
            | exact OW.refl _
            | ((repeat (first | exact VW.nil | refine VW.cons (Wk.refl _) ?_ | refine VW.cons (Wk.any _) ?_ | refine VW.cons (wk_cap (Nat.le_refl _)) ?_)); done)
  · have hdr : t.data.toList.drop i = [] := List.drop_eq_nil_of_le (by omega)
    have e1 := ltFG (show t.size ≤ i by omega)
    refine ⟨hintL [(fRP, 9, 3, hv (.lit false)), (fRP, 9, 9, hv (.lit false))], [], fun _ _ => noC, .inr (.inr ⟨by rw [hdr]; rfl, fun F => ?_⟩)⟩
    refine cast (congrArg (VAll _) (oRpE_eq t (O.map tB) P O.length P.length i F).symm) ⟨⟨?_, rfl, rfl, [(1000, 1000), (1001, 1001)], by kernel_rfl, by kernel_rfl, ⟨Wk.refl _, Wk.refl _, trivial⟩, ⟨_, rfl, rS_ow rfl rfl⟩, ⟨_, rfl, rB_ow rfl rfl⟩, trivial⟩⟩
    simp only [Cnd.holds, e1, Nat.blt_eq, true_and, and_true]
    and_intros
    all_goals first
      | (with_reducible exact trivial)
      | (with_reducible exact rfl)
      | (with_reducible exact Wk.refl _)
      | (with_reducible exact VW.refl _)
      | (with_reducible exact OW.refl _)
      | (with_reducible exact wk_lit _)
      | (with_reducible assumption)
      | exact rfl
      | exact Wk.refl _
      | exact VW.refl _
      | exact OW.refl _
      | ((repeat (first | exact VW.nil | refine VW.cons (Wk.refl _) ?_ | refine VW.cons (Wk.any _) ?_ | refine VW.cons (wk_cap (Nat.le_refl _)) ?_)); done)
end Go.Proofs.YtpijbbobejeemaaGreatDoor.Htp

/- Http: the document's Path, SameTexts, HttpPaths: runs. -/
set_option linter.unusedVariables false
set_option linter.unusedSimpArgs false
set_option maxRecDepth 100000
namespace Go.Proofs.YtpijbbobejeemaaGreatDoor.Htp
open Go Go.RowKit Go.Proofs.YtpijbbobejeemaaGreatDoor.Eng Go.Proofs.YtpijbbobejeemaaGreatDoor.Kit
noncomputable section
abbrev fST : Nat := 24
abbrev fPaths : Nat := 7
def gRP : List AV → AP (Nat × Nat × Nat) := fun tmps => match getL tmps 6, getL tmps 7, getL tmps 4 with
  | .slice a _ _ _ _, .slice b _ _ _ _, .slice c _ _ _ _ => .ret (a, b, c)
  | _, _, _ => .fail "rows"
def nmRP (a b c : Nat) : Nat → Nat := fun k => match Nat.beq k 1000 with
  | true => a
  | false => match Nat.beq k 1001 with
    | true => b
    | false => match Nat.beq k 1002 with
      | true => c
      | false => k
def lRP (t : ByteArray) (O : List ByteArray) (P : List UInt8) (no n : Nat) : List AV → AP (AX × List AV) := mkL gRP (fun _ => True) (fun q => nmRP q.1 q.2.1 q.2.2) (fun _ => tms 0 93 (aRP t 0 0 1)) (fun _ => oRP [] []) (fun _ => .leaf (.exit 0) (tms 0 93 [(6, sB 1000 no), (7, sB 1001 n)]) [(1000, rS O), (1001, rB P)])
def lRPx (t : ByteArray) : List AV → AP (AX × List AV) := mkL gRP (fun _ => True) (fun q => nmRP q.1 q.2.1 q.2.2) (fun _ => tms 0 93 (aRP t 0 0 1)) (fun _ => oRP [] []) (fun _ => .leaf .ret (tms 0 93 [(2, sB 1002 0), (3, bv false)]) [(1002, rS [])])
def hRf (c : UInt8) (t pt : ByteArray) (z sl : Bool) : ClaimT := hintL [(fRP, 2, 1, hv (sv t)), (fRP, 3, 2, hv (.lit z)), (fRP, 5, 1, h0v (byv c)), (fRP, 5, 2, hv (.lit sl)), (fRP, 24, 2, ht pt)]
def kRf : List Nat := [1100, 1101, 1102, 1103, 1104, 1105, 1106, 1107]
theorem oRfZ_eq (m t : ByteArray) (hs bd : Value) (F : HP) : wRun [] (hRf 0 t t true false) [] default fRP [reqV m t hs bd] [] kRf F = VT.leaf (AV.tuple [AV.slice 1101 0 0 1 (Cp.ex 0), AV.v (Value.bool false)]) [some (AO.cells [AV.v (Value.string m), AV.v (Value.string t), AV.v hs, AV.v bd] 64), some (AO.cells (rep [AV.v (Value.string (ByteArray.mk (Array.mk [])))] 0) 18), none, none, none, none, none, none] 1102 (((Cnd.p (true = true)).a ((Cnd.p (AV.v (Value.string t) = AV.v (Value.string t))).a ((Cnd.p (Wk (AV.v (Value.string t)) (AV.v (Value.string t)))).a Cnd.t))).a (((Cnd.p (Wk (AV.v (Value.bool (↑t.size == Int.ofNat 0))) (AV.lit true))).a Cnd.t).a Cnd.t)) := by kernel_rfl
theorem oRfN_eq (m t : ByteArray) (c : UInt8) (hs bd : Value) (F : HP) : wRun [] (hRf c t t false true) [] default fRP [reqV m t hs bd] [] kRf F = VT.leaf (AV.tuple [AV.slice 1101 0 0 1 (Cp.ex 0), AV.v (Value.bool false)]) [some (AO.cells [AV.v (Value.string m), AV.v (Value.string t), AV.v hs, AV.v bd] 64), some (AO.cells (rep [AV.v (Value.string (ByteArray.mk (Array.mk [])))] 0) 18), none, none, none, none, none, none] 1102 (((Cnd.p (true = true)).a ((Cnd.p (AV.v (Value.string t) = AV.v (Value.string t))).a ((Cnd.p (Wk (AV.v (Value.string t)) (AV.v (Value.string t)))).a Cnd.t))).a (((Cnd.p (Wk (AV.v (Value.bool (↑t.size == Int.ofNat 0))) (AV.lit false))).a Cnd.t).a (((Cnd.p (0 < t.size)).a ((Cnd.p (Wk (AV.v (Value.int IntKind.u8 ↑(t.data.toList.getD 0 0).toNat)) (AV.v (Value.int IntKind.u8 ↑c.toNat)))).a Cnd.t)).a (((Cnd.p (Wk (AV.v (Value.bool (↑c.toNat != Int.ofNat 47))) (AV.lit true))).a Cnd.t).a Cnd.t)))) := by kernel_rfl
theorem oRfS_eq (m t pt : ByteArray) (c : UInt8) (hs bd : Value) (O : List ByteArray) (P : List UInt8) (no n : Nat) (F : HP) : wRun [] (hRf c t pt false false) [(fRP, 9, loopN fRP 9, lRP t O P no n)] default fRP [reqV m t hs bd] [] kRf F = VT.leaf (AV.tuple [AV.slice 1107 0 (no + 1) 1 (Cp.lo (no + 1)), AV.v (Value.bool true)]) [some (AO.cells [AV.v (Value.string m), AV.v (Value.string t), AV.v hs, AV.v bd] 64), none, none, none, none, some (AO.cells (AV.rens (sgN (nmRP 1102 1103 1101) [1000, 1001] 1104) (rowV encB P)) 10), some (AO.cells [AV.v (Value.string pt)] 18), some (AO.cells (List.take (no * 1) (List.drop 0 (AV.rens (sgN (nmRP 1102 1103 1101) [1000, 1001] 1104) (rowV encS O))) ++ [AV.v (Value.string pt)]) 18)] 1108 (((Cnd.p (true = true)).a ((Cnd.p (AV.v (Value.string t) = AV.v (Value.string t))).a ((Cnd.p (Wk (AV.v (Value.string t)) (AV.v (Value.string t)))).a Cnd.t))).a (((Cnd.p (Wk (AV.v (Value.bool (↑t.size == Int.ofNat 0))) (AV.lit false))).a Cnd.t).a (((Cnd.p (0 < t.size)).a ((Cnd.p (Wk (AV.v (Value.int IntKind.u8 ↑(t.data.toList.getD 0 0).toNat)) (AV.v (Value.int IntKind.u8 ↑c.toNat)))).a Cnd.t)).a (((Cnd.p (Wk (AV.v (Value.bool (↑c.toNat != Int.ofNat 47))) (AV.lit false))).a Cnd.t).a ((Cnd.p ((fRP, 9, loopN fRP 9, lRP t O P no n).snd.snd.fst = (fRP, 9, loopN fRP 9, lRP t O P no n).snd.snd.fst)).a ((Cnd.p True).a ((Cnd.p (VW [AV.v (Value.agg (Array.mk [Value.string m, Value.string t, hs, bd])), AV.ptr 1100 0, AV.v (Value.slice none 0 0), AV.v (Value.bool false), AV.slice 1101 0 0 1 (Cp.ex 0), AV.v (Value.string t), AV.slice 1102 0 0 1 (Cp.ex 0), AV.slice 1103 0 0 1 (Cp.ex 0), AV.v (Value.int IntKind.i64 (Int.ofNat 1)), AV.undef, AV.undef, AV.slice 1101 0 0 1 (Cp.ex 0), AV.ptr 1100 1, AV.v (Value.string t), AV.v (Value.string t), AV.v (Value.int IntKind.i64 ↑t.size), AV.lit false, AV.undef, AV.v (Value.string t), AV.v (Value.int IntKind.u8 ↑c.toNat), AV.lit false, AV.undef, AV.slice 1102 0 0 1 (Cp.ex 0), AV.slice 1103 0 0 1 (Cp.ex 0), AV.undef, AV.undef, AV.undef, AV.undef, AV.undef, AV.undef, AV.undef, AV.undef, AV.undef, AV.undef, AV.undef, AV.undef, AV.undef, AV.undef, AV.undef, AV.undef, AV.undef, AV.undef, AV.undef, AV.undef, AV.undef, AV.undef, AV.undef, AV.undef, AV.undef, AV.undef, AV.undef, AV.undef, AV.undef, AV.undef, AV.undef, AV.undef, AV.undef, AV.undef, AV.undef, AV.undef, AV.undef, AV.undef, AV.undef, AV.undef, AV.undef, AV.undef, AV.undef, AV.undef, AV.undef, AV.undef, AV.undef, AV.undef, AV.undef, AV.undef, AV.undef, AV.undef, AV.undef, AV.undef, AV.undef, AV.undef, AV.undef, AV.undef, AV.undef, AV.undef, AV.undef, AV.undef, AV.undef, AV.undef, AV.undef, AV.undef, AV.undef, AV.undef, AV.undef] [AV.any, AV.any, AV.any, AV.any, AV.slice 1101 0 0 1 (Cp.lo 0), AV.v (Value.string t), AV.slice 1102 0 0 1 (Cp.lo 0), AV.slice 1103 0 0 1 (Cp.lo 0), AV.v (Value.int IntKind.i64 (Int.ofNat 1)), AV.any, AV.any, AV.any, AV.any, AV.any, AV.any, AV.any, AV.any, AV.any, AV.any, AV.any, AV.any, AV.any, AV.any, AV.any, AV.any, AV.any, AV.any, AV.any, AV.any, AV.any, AV.any, AV.any, AV.any, AV.any, AV.any, AV.any, AV.any, AV.any, AV.any, AV.any, AV.any, AV.any, AV.any, AV.any, AV.any, AV.any, AV.any, AV.any, AV.any, AV.any, AV.any, AV.any, AV.any, AV.any, AV.any, AV.any, AV.any, AV.any, AV.any, AV.any, AV.any, AV.any, AV.any, AV.any, AV.any, AV.any, AV.any, AV.any, AV.any, AV.any, AV.any, AV.any, AV.any, AV.any, AV.any, AV.any, AV.any, AV.any, AV.any, AV.any, AV.any, AV.any, AV.any, AV.any, AV.any, AV.any, AV.any, AV.any, AV.any, AV.any, AV.any, AV.any, AV.any])).a ((Cnd.p (OW (AO.cells (rep [AV.v (Value.string (ByteArray.mk (Array.mk [])))] 0) 18) (AO.cells [] 18))).a ((Cnd.p (OW (AO.cells (rep [AV.v (Value.int IntKind.u8 (Int.ofNat 0))] 0) 10) (AO.cells [] 10))).a ((Cnd.p (OW (AO.cells (rep [AV.v (Value.string (ByteArray.mk (Array.mk [])))] 0) 18) (AO.cells [] 18))).a (((Cnd.p (0 + n ≤ (AV.rens (sgN (nmRP 1102 1103 1101) [1000, 1001] 1104) (rowV encB P)).length ∧ List.take n (List.drop 0 (AV.rens (sgN (nmRP 1102 1103 1101) [1000, 1001] 1104) (rowV encB P))) = vmap (List.map (fun b => Value.int IntKind.u8 ↑b.toNat) pt.data.toList))).a Cnd.t).a (((Cnd.p (true = true)).a ((Cnd.p (true = true)).a ((Cnd.p (true = true)).a ((Cnd.p (true = true)).a ((Cnd.p ((0 + no * 1).ble (AV.rens (sgN (nmRP 1102 1103 1101) [1000, 1001] 1104) (rowV encS O)).length = true)).a ((Cnd.p (((no + 1) * 16).ble 140737488355328 = true)).a ((Cnd.p ((no + 1).ble 9223372036854775807 = true)).a ((Cnd.p ((List.take (no * 1) (List.drop 0 (AV.rens (sgN (nmRP 1102 1103 1101) [1000, 1001] 1104) (rowV encS O)))).length.beq (no * 1) = true)).a Cnd.t)))))))).a Cnd.t)))))))))))) := by kernel_rfl
theorem oRfB_eq (m t : ByteArray) (c : UInt8) (hs bd : Value) (F : HP) : wRun [] (hRf c t t false false) [(fRP, 9, loopN fRP 9, lRPx t)] default fRP [reqV m t hs bd] [] kRf F = VT.leaf (AV.tuple [AV.slice 1104 0 0 1 (Cp.lo 0), AV.v (Value.bool false)]) [some (AO.cells [AV.v (Value.string m), AV.v (Value.string t), AV.v hs, AV.v bd] 64), none, none, none, some (AO.cells [] 18), none, none, none] 1105 (((Cnd.p (true = true)).a ((Cnd.p (AV.v (Value.string t) = AV.v (Value.string t))).a ((Cnd.p (Wk (AV.v (Value.string t)) (AV.v (Value.string t)))).a Cnd.t))).a (((Cnd.p (Wk (AV.v (Value.bool (↑t.size == Int.ofNat 0))) (AV.lit false))).a Cnd.t).a (((Cnd.p (0 < t.size)).a ((Cnd.p (Wk (AV.v (Value.int IntKind.u8 ↑(t.data.toList.getD 0 0).toNat)) (AV.v (Value.int IntKind.u8 ↑c.toNat)))).a Cnd.t)).a (((Cnd.p (Wk (AV.v (Value.bool (↑c.toNat != Int.ofNat 47))) (AV.lit false))).a Cnd.t).a ((Cnd.p ((fRP, 9, loopN fRP 9, lRPx t).snd.snd.fst = (fRP, 9, loopN fRP 9, lRPx t).snd.snd.fst)).a ((Cnd.p True).a ((Cnd.p (VW [AV.v (Value.agg (Array.mk [Value.string m, Value.string t, hs, bd])), AV.ptr 1100 0, AV.v (Value.slice none 0 0), AV.v (Value.bool false), AV.slice 1101 0 0 1 (Cp.ex 0), AV.v (Value.string t), AV.slice 1102 0 0 1 (Cp.ex 0), AV.slice 1103 0 0 1 (Cp.ex 0), AV.v (Value.int IntKind.i64 (Int.ofNat 1)), AV.undef, AV.undef, AV.slice 1101 0 0 1 (Cp.ex 0), AV.ptr 1100 1, AV.v (Value.string t), AV.v (Value.string t), AV.v (Value.int IntKind.i64 ↑t.size), AV.lit false, AV.undef, AV.v (Value.string t), AV.v (Value.int IntKind.u8 ↑c.toNat), AV.lit false, AV.undef, AV.slice 1102 0 0 1 (Cp.ex 0), AV.slice 1103 0 0 1 (Cp.ex 0), AV.undef, AV.undef, AV.undef, AV.undef, AV.undef, AV.undef, AV.undef, AV.undef, AV.undef, AV.undef, AV.undef, AV.undef, AV.undef, AV.undef, AV.undef, AV.undef, AV.undef, AV.undef, AV.undef, AV.undef, AV.undef, AV.undef, AV.undef, AV.undef, AV.undef, AV.undef, AV.undef, AV.undef, AV.undef, AV.undef, AV.undef, AV.undef, AV.undef, AV.undef, AV.undef, AV.undef, AV.undef, AV.undef, AV.undef, AV.undef, AV.undef, AV.undef, AV.undef, AV.undef, AV.undef, AV.undef, AV.undef, AV.undef, AV.undef, AV.undef, AV.undef, AV.undef, AV.undef, AV.undef, AV.undef, AV.undef, AV.undef, AV.undef, AV.undef, AV.undef, AV.undef, AV.undef, AV.undef, AV.undef, AV.undef, AV.undef, AV.undef, AV.undef, AV.undef] [AV.any, AV.any, AV.any, AV.any, AV.slice 1101 0 0 1 (Cp.lo 0), AV.v (Value.string t), AV.slice 1102 0 0 1 (Cp.lo 0), AV.slice 1103 0 0 1 (Cp.lo 0), AV.v (Value.int IntKind.i64 (Int.ofNat 1)), AV.any, AV.any, AV.any, AV.any, AV.any, AV.any, AV.any, AV.any, AV.any, AV.any, AV.any, AV.any, AV.any, AV.any, AV.any, AV.any, AV.any, AV.any, AV.any, AV.any, AV.any, AV.any, AV.any, AV.any, AV.any, AV.any, AV.any, AV.any, AV.any, AV.any, AV.any, AV.any, AV.any, AV.any, AV.any, AV.any, AV.any, AV.any, AV.any, AV.any, AV.any, AV.any, AV.any, AV.any, AV.any, AV.any, AV.any, AV.any, AV.any, AV.any, AV.any, AV.any, AV.any, AV.any, AV.any, AV.any, AV.any, AV.any, AV.any, AV.any, AV.any, AV.any, AV.any, AV.any, AV.any, AV.any, AV.any, AV.any, AV.any, AV.any, AV.any, AV.any, AV.any, AV.any, AV.any, AV.any, AV.any, AV.any, AV.any, AV.any, AV.any, AV.any, AV.any, AV.any])).a ((Cnd.p (OW (AO.cells (rep [AV.v (Value.string (ByteArray.mk (Array.mk [])))] 0) 18) (AO.cells [] 18))).a ((Cnd.p (OW (AO.cells (rep [AV.v (Value.int IntKind.u8 (Int.ofNat 0))] 0) 10) (AO.cells [] 10))).a ((Cnd.p (OW (AO.cells (rep [AV.v (Value.string (ByteArray.mk (Array.mk [])))] 0) 18) (AO.cells [] 18))).a Cnd.t)))))))))) := by kernel_rfl
def aST (n i : Nat) : List (Nat × AV) := [(0, sB 1000 n), (1, sB 1001 n), (5, iv (Int.ofNat i))]
def oST (L : List ByteArray) : LH := [(1000, rS L), (1001, rS L)]
def hST (x : ByteArray) (i : Nat) : ClaimT := hintL [(fST, 4, 3, hv (.lit true)), (fST, 6, 3, hv (sv x)), (fST, 6, 7, hv (sv x)), (fST, 6, 8, hv (.lit false)), (fST, 5, 1, hv (iv (Int.ofNat (i + 1))))]
theorem oStR_eq (L : List ByteArray) (x : ByteArray) (n i : Nat) (F : HP) : wLoop [] (hST x i) [] default fST (loopN fST 4) (tms 0 26 (aST n i)) (oST L) [1000, 1001] [0, 1, 5] F = VT.leaf (AX.normal, [AV.slice 1000 0 n 1 (Cp.lo n), AV.slice 1001 0 n 1 (Cp.lo n), AV.v (Value.int IntKind.i64 (Int.ofNat (i + 1)))], 26) [some (AO.cells (rowV encS L) 18), some (AO.cells (rowV encS L) 18)] 1100 (((Cnd.p (Wk (AV.v (Value.bool (decide (Int.ofNat i < ↑n)))) (AV.lit true))).a Cnd.t).a (((Cnd.p (i.blt n = true)).a Cnd.t).a (((Cnd.p ((0 + i * 1).blt (rowV encS L).length = true)).a ((Cnd.p ((rowV encS L).getD (0 + i * 1) (AV.undef) = AV.v (Value.string ((rowV encS L).getD (0 + i * 1) (AV.undef)).strOf))).a ((Cnd.p (Wk (AV.v (Value.string ((rowV encS L).getD (0 + i * 1) (AV.undef)).strOf)) (AV.v (Value.string x)))).a Cnd.t))).a (((Cnd.p (i.blt n = true)).a Cnd.t).a (((Cnd.p ((0 + i * 1).blt (rowV encS L).length = true)).a ((Cnd.p ((rowV encS L).getD (0 + i * 1) (AV.undef) = AV.v (Value.string ((rowV encS L).getD (0 + i * 1) (AV.undef)).strOf))).a ((Cnd.p (Wk (AV.v (Value.string ((rowV encS L).getD (0 + i * 1) (AV.undef)).strOf)) (AV.v (Value.string x)))).a Cnd.t))).a (((Cnd.p (Wk (AV.v (Value.bool !x.toList == x.toList)) (AV.lit false))).a Cnd.t).a (((Cnd.p (Wk (AV.v (Value.int IntKind.i64 (IntKind.i64.wrap (Int.ofNat i + Int.ofNat 1)))) (AV.v (Value.int IntKind.i64 (Int.ofNat (i + 1)))))).a Cnd.t).a Cnd.t))))))) := by kernel_rfl
theorem oStE_eq (L : List ByteArray) (n : Nat) (F : HP) : wLoop [] (hintL [(fST, 4, 3, hv (.lit false))]) [] default fST (loopN fST 4) (tms 0 26 (aST n n)) (oST L) [1000, 1001] [0, 1, 5] F = VT.leaf (AX.exit 0, [AV.slice 1000 0 n 1 (Cp.lo n), AV.slice 1001 0 n 1 (Cp.lo n), AV.v (Value.int IntKind.i64 (Int.ofNat n))], 26) [some (AO.cells (rowV encS L) 18), some (AO.cells (rowV encS L) 18)] 1100 (((Cnd.p (Wk (AV.v (Value.bool (decide (Int.ofNat n < ↑n)))) (AV.lit false))).a Cnd.t).a Cnd.t) := by kernel_rfl
def gST : List AV → AP (Nat × Nat) := fun tmps => match getL tmps 0, getL tmps 1 with
  | .slice a _ _ _ _, .slice b _ _ _ _ => .ret (a, b)
  | _, _ => .fail "texts"
def lST (L : List ByteArray) (n : Nat) : List AV → AP (AX × List AV) := mkL gST (fun _ => True) (fun q => nmE q.1 q.2) (fun _ => tms 0 26 (aST n 0)) (fun _ => oST L) (fun _ => .leaf (.exit 0) (tms 0 26 []) [])
theorem oSt_eq (L : List ByteArray) (n : Nat) (F : HP) : wRun [] (hintL [(fST, 1, 4, hv (.lit false))]) [(fST, 4, loopN fST 4, lST L n)] default fST [sB 1000 n, sB 1001 n] (oST L) [1000, 1001] F = VT.leaf (AV.v (Value.bool true)) [none, none] 1100 (((Cnd.p (Wk (AV.v (Value.bool ((↑n : Int) != ↑n))) (AV.lit false))).a Cnd.t).a ((Cnd.p ((fST, 4, loopN fST 4, lST L n).snd.snd.fst = (fST, 4, loopN fST 4, lST L n).snd.snd.fst)).a ((Cnd.p True).a ((Cnd.p (VW [AV.slice 1000 0 n 1 (Cp.lo n), AV.slice 1001 0 n 1 (Cp.lo n), AV.undef, AV.undef, AV.v (Value.bool false), AV.v (Value.int IntKind.i64 (Int.ofNat 0)), AV.slice 1000 0 n 1 (Cp.lo n), AV.v (Value.int IntKind.i64 ↑n), AV.slice 1001 0 n 1 (Cp.lo n), AV.v (Value.int IntKind.i64 ↑n), AV.lit false, AV.undef, AV.undef, AV.undef, AV.undef, AV.undef, AV.undef, AV.undef, AV.undef, AV.undef, AV.undef, AV.undef, AV.undef, AV.undef, AV.undef, AV.undef] [AV.slice 1000 0 n 1 (Cp.lo n), AV.slice 1001 0 n 1 (Cp.lo n), AV.any, AV.any, AV.any, AV.v (Value.int IntKind.i64 (Int.ofNat 0)), AV.any, AV.any, AV.any, AV.any, AV.any, AV.any, AV.any, AV.any, AV.any, AV.any, AV.any, AV.any, AV.any, AV.any, AV.any, AV.any, AV.any, AV.any, AV.any, AV.any])).a ((Cnd.p (OW (AO.cells (rowV encS L) 18) (AO.cells (AV.rens (nmE 1000 1001) (rowV encS L)) 18))).a ((Cnd.p (OW (AO.cells (rowV encS L) 18) (AO.cells (AV.rens (nmE 1000 1001) (rowV encS L)) 18))).a Cnd.t)))))) := by kernel_rfl
theorem oStZ_eq (F : HP) : wRun [] (hintL [(fST, 1, 4, hv (.lit false)), (fST, 4, 3, hv (.lit false))]) [] default fST [nilS, sB 1000 0] [(1000, rS [])] [1000] F = VT.leaf (AV.v (Value.bool true)) [some (AO.cells [] 18)] 1100 (((Cnd.p (Wk (AV.v (Value.bool false)) (AV.lit false))).a Cnd.t).a (((Cnd.p (Wk (AV.v (Value.bool false)) (AV.lit false))).a Cnd.t).a Cnd.t)) := by kernel_rfl
def gS2 : List AV → AP (Nat × Nat) := fun args => match args with
  | [.slice a _ _ _ _, .slice b _ _ _ _] => .ret (a, b)
  | _ => .fail "same"
def gS3 : List AV → AP Nat := fun args => match args with
  | [_, .slice b _ _ _ _] => .ret b
  | _ => .fail "same"
def cST (L : List ByteArray) (n : Nat) : List AV → Option (AP AV) := mkC gS2 (fun _ => True) (fun q => nmE q.1 q.2) (fun _ => [sB 1000 n, sB 1001 n]) (fun _ => oST L) (fun _ => .leaf .ret [bv true] [])
def cSTz : List AV → Option (AP AV) := mkC gS3 (fun _ => True) nmEn (fun _ => [nilS, sB 1000 0]) (fun _ => [(1000, rS [])]) (fun _ => .leaf .ret [bv true] [])
def cP1 (m t : ByteArray) (hs bd : Value) (v : AV) (H : LH) : List AV → Option (AP AV) := mkC (fun _ => .ret ()) (fun _ => True) (fun _ i => i) (fun _ => [reqV m t hs bd]) (fun _ => []) (fun _ => .leaf .ret [v] H)
def hLP : ClaimT := hintL [(fPaths, 1, 1, hv (.lit false)), (fPaths, 5, 2, hv (.lit true)), (fPaths, 5, 7, hv (bv true))]
def okV (n : Nat) : AV := .tuple [sB 1000 n, bv true]
theorem oLP_eq (W : World) (m t : ByteArray) (hs bd : Value) (L : List ByteArray) (n : Nat) (F : HP) : wRun [(fSpeaks, cSpk), (fPath, cP1 m t hs bd (okV n) [(1000, rS L)]), (fRP, cP1 m t hs bd (okV n) [(1000, rS L)]), (fST, cST L n)] hLP [] W fPaths [reqV m t hs bd] [] [] F = VT.leaf (AV.v (Value.bool true)) [] 1103 (((Cnd.p True).a Cnd.t).a (((Cnd.p (Wk (AV.v (Value.bool false)) (AV.lit false))).a Cnd.t).a (((Cnd.p (true = true)).a ((Cnd.p ([AV.v (Value.string m), AV.v (Value.string t), AV.v hs, AV.v bd] = [AV.v (Value.string m), AV.v (Value.string t), AV.v hs, AV.v bd])).a Cnd.t)).a (((Cnd.p True).a ((Cnd.p (VW [AV.agg [AV.v (Value.string m), AV.v (Value.string t), AV.v hs, AV.v bd]] [AV.v (Value.agg (Array.mk [Value.string m, Value.string t, hs, bd]))])).a Cnd.t)).a (((Cnd.p (true = true)).a ((Cnd.p ([AV.v (Value.string m), AV.v (Value.string t), AV.v hs, AV.v bd] = [AV.v (Value.string m), AV.v (Value.string t), AV.v hs, AV.v bd])).a Cnd.t)).a (((Cnd.p True).a ((Cnd.p (VW [AV.agg [AV.v (Value.string m), AV.v (Value.string t), AV.v hs, AV.v bd]] [AV.v (Value.agg (Array.mk [Value.string m, Value.string t, hs, bd]))])).a Cnd.t)).a (((Cnd.p (Wk (AV.v (Value.bool true)) (AV.lit true))).a Cnd.t).a (((Cnd.p True).a ((Cnd.p (VW [AV.slice 1101 0 n 1 (Cp.lo n), AV.slice 1102 0 n 1 (Cp.lo n)] [AV.slice 1101 0 n 1 (Cp.lo n), AV.slice 1102 0 n 1 (Cp.lo n)])).a ((Cnd.p (OW (AO.cells (AV.rens (sgN (fun i => i) [1000] 1101) (rowV encS L)) 18) (AO.cells (AV.rens (nmE 1101 1102) (rowV encS L)) 18))).a ((Cnd.p (OW (AO.cells (AV.rens (sgN (fun i => i) [1000] 1102) (rowV encS L)) 18) (AO.cells (AV.rens (nmE 1101 1102) (rowV encS L)) 18))).a Cnd.t)))).a (((Cnd.p (Wk (AV.v (Value.bool true)) (AV.v (Value.bool true)))).a Cnd.t).a Cnd.t))))))))) := by kernel_rfl
theorem oLPz_eq (W : World) (m t : ByteArray) (hs bd : Value) (F : HP) : wRun [(fSpeaks, cSpk), (fPath, cP1 m t hs bd (.tuple [nilS, bv false]) []), (fRP, cP1 m t hs bd (.tuple [sB 1000 0, bv false]) [(1000, rS [])]), (fST, cSTz)] hLP [] W fPaths [reqV m t hs bd] [] [] F = VT.leaf (AV.v (Value.bool true)) [] 1102 (((Cnd.p True).a Cnd.t).a (((Cnd.p (Wk (AV.v (Value.bool false)) (AV.lit false))).a Cnd.t).a (((Cnd.p (true = true)).a ((Cnd.p ([AV.v (Value.string m), AV.v (Value.string t), AV.v hs, AV.v bd] = [AV.v (Value.string m), AV.v (Value.string t), AV.v hs, AV.v bd])).a Cnd.t)).a (((Cnd.p True).a ((Cnd.p (VW [AV.agg [AV.v (Value.string m), AV.v (Value.string t), AV.v hs, AV.v bd]] [AV.v (Value.agg (Array.mk [Value.string m, Value.string t, hs, bd]))])).a Cnd.t)).a (((Cnd.p (true = true)).a ((Cnd.p ([AV.v (Value.string m), AV.v (Value.string t), AV.v hs, AV.v bd] = [AV.v (Value.string m), AV.v (Value.string t), AV.v hs, AV.v bd])).a Cnd.t)).a (((Cnd.p True).a ((Cnd.p (VW [AV.agg [AV.v (Value.string m), AV.v (Value.string t), AV.v hs, AV.v bd]] [AV.v (Value.agg (Array.mk [Value.string m, Value.string t, hs, bd]))])).a Cnd.t)).a (((Cnd.p (Wk (AV.v (Value.bool true)) (AV.lit true))).a Cnd.t).a (((Cnd.p True).a ((Cnd.p (VW [AV.v (Value.slice none 0 0), AV.slice 1101 0 0 1 (Cp.lo 0)] [AV.v (Value.slice none 0 0), AV.slice 1101 0 0 1 (Cp.lo 0)])).a ((Cnd.p (OW (AO.cells [] 18) (AO.cells [] 18))).a Cnd.t))).a (((Cnd.p (Wk (AV.v (Value.bool true)) (AV.v (Value.bool true)))).a Cnd.t).a Cnd.t))))))))) := by kernel_rfl
end
end Go.Proofs.YtpijbbobejeemaaGreatDoor.Htp

/- Http: HttpPaths. -/
set_option linter.unusedVariables false
set_option linter.unusedSimpArgs false
set_option maxRecDepth 100000
namespace Go.Proofs.YtpijbbobejeemaaGreatDoor.Htp
open Go Go.RowKit Go.Proofs.YtpijbbobejeemaaGreatDoor.Eng Go.Proofs.YtpijbbobejeemaaGreatDoor.Kit
theorem wk_aggv (l : List Value) : Wk (.agg (vmap l)) (.v (.agg l.toArray)) := fun N y hy => by
  simp only [VR] at hy
  obtain ⟨vs, h1, rfl⟩ := hy
  have := h1.of_vmap
  subst this
  exact VR_v.2 rfl
theorem rp_loop (t : ByteArray) (ht : t.size ≤ 1085000) (h0 : 1 ≤ t.size) (PO : List (List UInt8)) (PL : List UInt8) (hR : Gp (t.data.toList.drop 1) [] = some (PO ++ [PL])) :
    LTri Tryz.prog default (loopN fRP 9) (tms 0 93 (aRP t 0 0 1)) (oRP [] []) (.exit 0) (tms 0 93 [(6, sB 1000 PO.length), (7, sB 1001 PL.length)]) [(1000, rS (PO.map tB)), (1001, rB PL)] := by
  refine ltri_run (W := default) (g := fRP) (b := loopN fRP 9) (σ := {q : (List (List UInt8) × List UInt8) × Nat // q.2 ≤ t.size ∧ q.1.1.length ≤ q.2 ∧ q.1.2.length ≤ q.2 ∧ (Gp (t.data.toList.drop q.2) q.1.2).map (q.1.1 ++ ·) = some (PO ++ [PL])}) 93 (fun q => aRP t q.1.1.1.length q.1.1.2.length q.1.2) (fun q => oRP (q.1.1.1.map tB) q.1.1.2) (.exit 0) _ _ (fun q => t.size - q.1.2) kRP iRP (by intro h; cases h) (fun _ => rfl) rfl ?_ ⟨(([], []), 1), h0, by simp, by simp, by rw [hR]; rfl⟩
  rintro ⟨⟨⟨O, P⟩, i⟩, hi, hO, hP, hI⟩
  simp only at hi hO hP hI
  simp only
  obtain ⟨hints, con, hcon, hr⟩ := rp_round t (by omega) O P i (by omega) (by omega)
  rcases hr with ⟨O', P', i', q1, q2, q3, q4, q5, q6, hf⟩ | ⟨q1, hf⟩ | ⟨q1, hf⟩
  · refine ⟨con, hints, [], hcon, fun _ _ => noL, fun F => VAll.mono (hf F) ?_⟩
    rintro r os m ⟨k1, k2, l, k3⟩
    exact ⟨k1, .inl ⟨k2, ⟨((O', P'), i'), q3, by simp only; omega, by simp only; omega, by rw [← q6]; exact hI⟩, by show t.size - i' < t.size - i; omega, l, k3⟩⟩
  · rw [q1] at hI; cases hI
  · rw [q1] at hI
    have hI : O ++ [P] = PO ++ [PL] := Option.some.inj hI
    obtain ⟨e1, e2⟩ := List.append_inj' hI rfl
    have e3 := (List.cons.inj e2).1
    subst e1 e3
    refine ⟨con, hints, [], hcon, fun _ _ => noL, fun F => VAll.mono (hf F) ?_⟩
    rintro r os m ⟨k1, k2, l, k3⟩
    exact ⟨k1, .inr ⟨k2, l, k3⟩⟩
theorem rpx_loop (t : ByteArray) (ht : t.size ≤ 1085000) (h0 : 1 ≤ t.size) (hR : Gp (t.data.toList.drop 1) [] = none) :
    LTri Tryz.prog default (loopN fRP 9) (tms 0 93 (aRP t 0 0 1)) (oRP [] []) .ret (tms 0 93 [(2, sB 1002 0), (3, bv false)]) [(1002, rS [])] := by
  refine ltri_run (W := default) (g := fRP) (b := loopN fRP 9) (σ := {q : (List (List UInt8) × List UInt8) × Nat // q.2 ≤ t.size ∧ q.1.1.length ≤ q.2 ∧ q.1.2.length ≤ q.2 ∧ Gp (t.data.toList.drop q.2) q.1.2 = none}) 93 (fun q => aRP t q.1.1.1.length q.1.1.2.length q.1.2) (fun q => oRP (q.1.1.1.map tB) q.1.1.2) .ret _ _ (fun q => t.size - q.1.2) kRP iRP (by intro h; cases h) (fun _ => rfl) rfl ?_ ⟨(([], []), 1), h0, by simp, by simp, hR⟩
  rintro ⟨⟨⟨O, P⟩, i⟩, hi, hO, hP, hI⟩
  simp only at hi hO hP hI
  simp only
  obtain ⟨hints, con, hcon, hr⟩ := rp_round t (by omega) O P i (by omega) (by omega)
  rcases hr with ⟨O', P', i', q1, q2, q3, q4, q5, q6, hf⟩ | ⟨q1, hf⟩ | ⟨q1, hf⟩
  · refine ⟨con, hints, [], hcon, fun _ _ => noL, fun F => VAll.mono (hf F) ?_⟩
    rintro r os m ⟨k1, k2, l, k3⟩
    refine ⟨k1, .inl ⟨k2, ⟨((O', P'), i'), q3, by simp only; omega, by simp only; omega, ?_⟩, by show t.size - i' < t.size - i; omega, l, k3⟩⟩
    simp only
    rw [hI] at q6
    cases hg : Gp (t.data.toList.drop i') P' with
    | none => rfl
    | some v => rw [hg] at q6; cases q6
  · refine ⟨con, hints, [], hcon, fun _ _ => noL, fun F => VAll.mono (hf F) ?_⟩
    rintro r os m ⟨k1, k2, l, k3⟩
    exact ⟨k1, .inr ⟨k2, l, k3⟩⟩
  · rw [q1] at hI; cases hI
theorem gRP_ro : ∀ args, RO (gRP args) := by
  intro args
  unfold gRP
  split
  · exact RO.ret _
  · exact RO.fail _
theorem aRP_cl (t : ByteArray) (O : List ByteArray) (P : List UInt8) (no n i : Nat) : ∀ x ∈ aRP t no n i, AV.cl (kH (oRP O P)) x.2 := all_cons rfl (all_cons trivial (all_cons rfl (all_cons rfl (all_cons trivial all_nil))))
theorem oRP_cl (O : List ByteArray) (P : List UInt8) : ∀ x ∈ oRP O P, x.2.cl (kH (oRP O P)) := all_cons (rS_cl _ _) (all_cons (rB_cl _ _) (all_cons (rS_cl _ _) all_nil))
def rpV (t : ByteArray) : AV := match pathL t.data.toList with
  | some P => .tuple [sB 1000 P.length, bv true]
  | none => .tuple [sB 1000 0, bv false]
def rpH (t : ByteArray) : LH := match pathL t.data.toList with
  | some P => [(1000, rS (P.map tB))]
  | none => [(1000, rS [])]
theorem wk_ex0 (j : Nat) : Wk (.slice j 0 0 1 (.ex 0)) (sB j 0) := wk_cap (Nat.le_refl _)
theorem RPath_tri (m t : ByteArray) (hs bd : Value) (ht : t.size ≤ 1085000) : Tri Tryz.prog default fRP [reqV m t hs bd] [] (rpV t) (rpH t) := by
  have htl : t.data.toList.length = t.size := rfl
  by_cases hz : t.size = 0
  · have hl : t.data.toList = [] := List.eq_nil_of_length_eq_zero (by omega)
    have hpl : pathL t.data.toList = none := by rw [hl]; rfl
    have e0 : (((t.size : Nat) : Int) == Int.ofNat 0) = true := by rw [hz]; rfl
    unfold rpV rpH
    rw [hpl]
    simp only
    refine tri_run (con := []) (hints := hRf 0 t t true false) (lc := []) kRf rfl (fun F _ => noC) (fun F _ => noL) fun F => ?_
    refine cast (congrArg (VAll _) (oRfZ_eq m t hs bd F).symm) ⟨⟨?_, (fit_mk (vs' := [.tuple [sB 1000 0, bv false]]) (H' := [(1000, rS [])]) [(1000, 1101)] rfl rfl (VW.cons (wk_tup (VW.cons (wk_ex0 1101) (VW.cons (Wk.refl _) VW.nil))) VW.nil) ⟨⟨_, rfl, rS_ow rfl rfl⟩, trivial⟩).fits rfl⟩⟩
    simp only [Cnd.holds, e0, Nat.blt_eq, true_and, and_true]
    and_intros
    all_goals first
      | (with_reducible exact trivial)
      | (with_reducible exact rfl)
      | (with_reducible exact Wk.refl _)
      | (with_reducible exact VW.refl _)
      | (with_reducible exact OW.refl _)
      | (with_reducible exact wk_lit _)
      | (with_reducible assumption)
      | exact rfl
      | exact Wk.refl _
      | exact VW.refl _
      | exact OW.refl _
      | ((repeat (first | exact VW.nil | refine VW.cons (Wk.refl _) ?_ | refine VW.cons (Wk.any _) ?_ | refine VW.cons (wk_cap (Nat.le_refl _)) ?_)); done)
  · have e0 : (((t.size : Nat) : Int) == Int.ofNat 0) = false := by
      rw [beq_eq_false_iff_ne]; simp only [Int.ofNat_eq_natCast]; omega
    have h0 : 0 < t.size := by omega
    obtain ⟨c, l, hl⟩ : ∃ c l, t.data.toList = c :: l := by
      cases h : t.data.toList with
      | nil => rw [h] at htl; simp at htl; omega
      | cons c l => exact ⟨c, l, rfl⟩
    have hg : t.data.toList.getD 0 0 = c := by rw [hl]; rfl
    by_cases hc : c = 47
    · subst hc
      have f47 := u8_neF (c := 47) (n := 47) rfl
      have hdr : t.data.toList.drop 1 = l := by rw [hl]; rfl
      have hlaw := path_law t.data.toList
      have hrl : rpathL t.data.toList = Gp (t.data.toList.drop 1) [] := by rw [hdr, hl]; rfl
      rw [hrl] at hlaw
      unfold rpV rpH
      cases hp : pathL t.data.toList with
      | some PP =>
        rw [hp] at hlaw
        have hne : PP ≠ [] := by
          intro e
          have h2 : unescs (cutL 47 (ahead l)) = some PP := by rw [← hp, hl]; rfl
          have := unescs_len h2
          rw [e] at this
          exact cutL_ne 47 (ahead l) (List.eq_nil_of_length_eq_zero this.symm)
        obtain ⟨PO, PL, rfl⟩ : ∃ PO PL, PP = PO ++ [PL] := ⟨PP.dropLast, PP.getLast hne, (List.dropLast_concat_getLast hne).symm⟩
        simp only
        have hol : (PO.map tB).length = PO.length := List.length_map ..
        have k1 := rS_in' hol
        have k2 := rS_full hol
        have a1 : List.take (PO.length * 1) (List.drop 0 (rowV encS (PO.map tB))) ++ [AV.v (Value.string (tB PL))] = rowV encS (PO.map tB ++ [tB PL]) := rS_adds hol [tB PL]
        have hlen : (PO ++ [PL]).length ≤ 1100000 := by
          have h2 : unescs (cutL 47 (ahead l)) = some (PO ++ [PL]) := by rw [← hp, hl]; rfl
          have h3 := unescs_len h2
          have h4 := cutL_len 47 (ahead l)
          have h5 := ahead_len l
          have h6 : l.length + 1 = t.size := by rw [← htl, hl]; simp
          omega
        rw [List.length_append, List.length_singleton] at hlen
        have b1 : ((PO.length + 1) * 16).ble 140737488355328 = true := ble_of (by omega)
        have b2 : (PO.length + 1).ble 9223372036854775807 = true := ble_of (by omega)
        have q5 : 0 + PL.length ≤ (rowV encB PL).length := by rw [rB_len]; omega
        have q6 : List.take PL.length (List.drop 0 (rowV encB PL)) = vmap (List.map (fun b => Value.int IntKind.u8 ↑b.toNat) (tB PL).data.toList) := by
          rw [List.drop_zero, List.take_of_length_le (by rw [rB_len]; exact Nat.le_refl _), tB_data, rowB_map]
        have hm : (PO ++ [PL]).map tB = PO.map tB ++ [tB PL] := by simp
        refine tri_run (con := []) (hints := hRf 47 t (tB PL) false false) (lc := [(fRP, 9, loopN fRP 9, lRP t (PO.map tB) PL PO.length PL.length)]) kRf rfl (fun F _ => noC) (fun F _ => one_l (mkL_ok (W := default) oldDef gRP_ro (fun _ _ => by
          simp only [RT.pick]
          exact rp_loop t ht h0 PO PL hlaw) fun _ => by
          simp only [RT.pick]
          exact closedT rfl rfl (aRP_cl _ _ _ _ _ _) (oRP_cl _ _) (all_cons rfl (all_cons rfl all_nil)) (all_cons (rS_cl _ _) (all_cons (rB_cl _ _) all_nil)))) fun F => ?_
        refine cast (congrArg (VAll _) (oRfS_eq m t (tB PL) 47 hs bd (PO.map tB) PL PO.length PL.length F).symm) ⟨⟨?_, (fit_mk (vs' := [.tuple [sB 1000 (PO ++ [PL]).length, bv true]]) (H' := [(1000, rS ((PO ++ [PL]).map tB))]) [(1000, 1107)] rfl rfl (by rw [List.length_append]; exact VW.refl _) ⟨⟨_, rfl, rS_ow (by rw [rens_rowV, a1, hm]) rfl⟩, trivial⟩).fits rfl⟩⟩
        simp only [Cnd.holds, e0, h0, hg, f47, rens_rowV, k1, k2, a1, b1, b2, q5, q6, Nat.blt_eq, true_and, and_true]
        and_intros
        all_goals first
          | ((repeat (first
          | exact VW.nil
          | refine VW.cons (Wk.refl _) ?_
          | refine VW.cons (Wk.any _) ?_
          | refine VW.cons (wk_ex0 _) ?_)); done)
          | (with_reducible exact trivial)
          | (with_reducible exact rfl)
          | (with_reducible exact Wk.refl _)
          | (with_reducible exact VW.refl _)
          | (with_reducible exact OW.refl _)
          | (with_reducible exact wk_lit _)
          | (with_reducible assumption)
          | exact rfl
          | exact Wk.refl _
          | exact VW.refl _
          | exact OW.refl _
          | ((repeat (first | exact VW.nil | refine VW.cons (Wk.refl _) ?_ | refine VW.cons (Wk.any _) ?_ | refine VW.cons (wk_cap (Nat.le_refl _)) ?_)); done)
      | none =>
        rw [hp] at hlaw
        simp only
        refine tri_run (con := []) (hints := hRf 47 t t false false) (lc := [(fRP, 9, loopN fRP 9, lRPx t)]) kRf rfl (fun F _ => noC) (fun F _ => one_l (mkL_ok (W := default) oldDef gRP_ro (fun _ _ => by
          simp only [RT.pick]
          exact rpx_loop t ht h0 hlaw) fun _ => by
          simp only [RT.pick]
          exact closedT rfl rfl (aRP_cl _ _ _ _ _ _) (oRP_cl _ _) (all_cons rfl (all_cons trivial all_nil)) (all_cons (rS_cl _ _) all_nil))) fun F => ?_
        refine cast (congrArg (VAll _) (oRfB_eq m t 47 hs bd F).symm) ⟨⟨?_, (fit_mk (vs' := [.tuple [sB 1000 0, bv false]]) (H' := [(1000, rS [])]) [(1000, 1104)] rfl rfl (VW.refl _) ⟨⟨_, rfl, rS_ow rfl rfl⟩, trivial⟩).fits rfl⟩⟩
        simp only [Cnd.holds, e0, h0, hg, f47, rens_rowV, Nat.blt_eq, true_and, and_true]
        and_intros
        all_goals first
          | ((repeat (first
          | exact VW.nil
          | refine VW.cons (Wk.refl _) ?_
          | refine VW.cons (Wk.any _) ?_
          | refine VW.cons (wk_ex0 _) ?_)); done)
          | (with_reducible exact trivial)
          | (with_reducible exact rfl)
          | (with_reducible exact Wk.refl _)
          | (with_reducible exact VW.refl _)
          | (with_reducible exact OW.refl _)
          | (with_reducible exact wk_lit _)
          | (with_reducible assumption)
          | exact rfl
          | exact Wk.refl _
          | exact VW.refl _
          | exact OW.refl _
          | ((repeat (first | exact VW.nil | refine VW.cons (Wk.refl _) ?_ | refine VW.cons (Wk.any _) ?_ | refine VW.cons (wk_cap (Nat.le_refl _)) ?_)); done)
    · have f47 := u8_neT (nat_ne (n := 47) hc (by decide))
      have hpl : pathL t.data.toList = none := by
        rw [hl]
        unfold pathL
        split
        · rename_i l' e
          exact absurd (List.cons.inj e).1 hc
        · rfl
      unfold rpV rpH
      rw [hpl]
      simp only
      refine tri_run (con := []) (hints := hRf c t t false true) (lc := []) kRf rfl (fun F _ => noC) (fun F _ => noL) fun F => ?_
      refine cast (congrArg (VAll _) (oRfN_eq m t c hs bd F).symm) ⟨⟨?_, (fit_mk (vs' := [.tuple [sB 1000 0, bv false]]) (H' := [(1000, rS [])]) [(1000, 1101)] rfl rfl (VW.cons (wk_tup (VW.cons (wk_ex0 1101) (VW.cons (Wk.refl _) VW.nil))) VW.nil) ⟨⟨_, rfl, rS_ow rfl rfl⟩, trivial⟩).fits rfl⟩⟩
      simp only [Cnd.holds, e0, h0, hg, f47, Nat.blt_eq, true_and, and_true]
      and_intros
      all_goals first
        | (with_reducible exact trivial)
        | (with_reducible exact rfl)
        | (with_reducible exact Wk.refl _)
        | (with_reducible exact VW.refl _)
        | (with_reducible exact OW.refl _)
        | (with_reducible exact wk_lit _)
        | (with_reducible assumption)
        | exact rfl
        | exact Wk.refl _
        | exact VW.refl _
        | exact OW.refl _
        | ((repeat (first | exact VW.nil | refine VW.cons (Wk.refl _) ?_ | refine VW.cons (Wk.any _) ?_ | refine VW.cons (wk_cap (Nat.le_refl _)) ?_)); done)
/-! SameTexts. -/
theorem st_loop (L : List ByteArray) (hL : L.length ≤ 9000000) :
    LTri Tryz.prog default (loopN fST 4) (tms 0 26 (aST L.length 0)) (oST L) (.exit 0) (tms 0 26 []) [] := by
  refine ltri_run (W := default) (g := fST) (b := loopN fST 4) (σ := {j : Nat // j ≤ L.length}) 26 (fun j => aST L.length j.1) (fun j => oST L) (.exit 0) [] [] (fun j => L.length - j.1) [1000, 1001] [0, 1, 5] (by intro h; cases h) (fun _ => rfl) rfl ?_ ⟨0, Nat.zero_le _⟩
  rintro ⟨j, hj⟩
  simp only
  by_cases h1 : j < L.length
  · have hw := wrap_succ j (by omega)
    have e1 := ltTC h1
    have g0 := rS_get L j h1
    have g1 := rS_lt L j h1
    generalize L.getD j nil0 = w at g0
    have c1 : (!(w.toList == w.toList)) = false := by rw [beq_self_eq_true]; rfl
    refine ⟨[], hST w j, [], fun _ _ => noC, fun _ _ => noL, fun F => ?_⟩
    refine cast (congrArg (VAll _) (oStR_eq L w L.length j F).symm) ⟨⟨?_, rfl, .inl ⟨rfl, ⟨j + 1, h1⟩, sub_down h1, [(1000, 1000), (1001, 1001)], by kernel_rfl, by kernel_rfl, ⟨Wk.refl _, Wk.refl _, Wk.refl _, trivial⟩, ⟨_, rfl, rS_ow rfl rfl⟩, ⟨_, rfl, rS_ow rfl rfl⟩, trivial⟩⟩⟩
    simp only [Cnd.holds, e1, g0, g1, h1, AV.strOf, sv, c1, Nat.blt_eq, true_and, and_true]
    and_intros
    all_goals first
      | (with_reducible exact wk_int hw)
      | exact wk_litE c1
      | (with_reducible exact trivial)
      | (with_reducible exact rfl)
      | (with_reducible exact Wk.refl _)
      | (with_reducible exact VW.refl _)
      | (with_reducible exact OW.refl _)
      | (with_reducible exact wk_lit _)
      | (with_reducible assumption)
      | exact rfl
      | exact Wk.refl _
      | exact VW.refl _
      | exact OW.refl _
      | ((repeat (first | exact VW.nil | refine VW.cons (Wk.refl _) ?_ | refine VW.cons (Wk.any _) ?_ | refine VW.cons (wk_cap (Nat.le_refl _)) ?_)); done)
  · have hje : j = L.length := by omega
    subst hje
    refine ⟨[], hintL [(fST, 4, 3, hv (.lit false))], [], fun _ _ => noC, fun _ _ => noL, fun F => ?_⟩
    refine cast (congrArg (VAll _) (oStE_eq L L.length F).symm) ⟨⟨?_, rfl, .inr ⟨rfl, [], by kernel_rfl, by kernel_rfl, trivial, trivial⟩⟩⟩
    simp only [Cnd.holds, and_true]
    exact wk_litE ltFC
theorem gST_ro : ∀ args, RO (gST args) := by
  intro args
  unfold gST
  split
  · exact RO.ret _
  · exact RO.fail _
theorem St_tri (L : List ByteArray) (hL : L.length ≤ 9000000) : Tri Tryz.prog default fST [sB 1000 L.length, sB 1001 L.length] (oST L) (bv true) [] := by
  refine tri_run (con := []) (hints := hintL [(fST, 1, 4, hv (.lit false))]) (lc := [(fST, 4, loopN fST 4, lST L L.length)]) [1000, 1001] rfl (fun F _ => noC) (fun F _ => one_l (mkL_ok (W := default) oldDef gST_ro (fun _ _ => st_loop L hL) fun _ => by
    simp only [RT.pick]
    exact closedT rfl rfl (all_cons rfl (all_cons rfl (all_cons trivial all_nil))) (all_cons (rS_cl _ _) (all_cons (rS_cl _ _) all_nil)) all_nil all_nil)) fun F => ?_
  refine cast (congrArg (VAll _) (oSt_eq L L.length F).symm) ⟨⟨?_, (fit_mk (vs' := [bv true]) (H' := []) [] rfl rfl (VW.refl _) trivial).fits rfl⟩⟩
  have c1 : (((L.length : Nat) : Int) != ((L.length : Nat) : Int)) = false := by simp
  simp only [Cnd.holds, c1, rens_rowV, Nat.blt_eq, true_and, and_true]
  and_intros
  all_goals first
    | exact wk_litE c1
    | (with_reducible exact trivial)
    | (with_reducible exact rfl)
    | (with_reducible exact Wk.refl _)
    | (with_reducible exact VW.refl _)
    | (with_reducible exact OW.refl _)
    | (with_reducible exact wk_lit _)
    | (with_reducible assumption)
    | exact rfl
    | exact Wk.refl _
    | exact VW.refl _
    | exact OW.refl _
    | ((repeat (first | exact VW.nil | refine VW.cons (Wk.refl _) ?_ | refine VW.cons (Wk.any _) ?_ | refine VW.cons (wk_cap (Nat.le_refl _)) ?_)); done)
theorem StZ_tri : Tri Tryz.prog default fST [nilS, sB 1000 0] [(1000, rS [])] (bv true) [] := by
  refine tri_run (con := []) (hints := hintL [(fST, 1, 4, hv (.lit false)), (fST, 4, 3, hv (.lit false))]) (lc := []) [1000] rfl (fun F _ => noC) (fun F _ => noL) fun F => ?_
  refine cast (congrArg (VAll _) (oStZ_eq F).symm) ⟨⟨?_, (fit_mk (vs' := [bv true]) (H' := []) [] rfl rfl (VW.refl _) trivial).fits rfl⟩⟩
  simp only [Cnd.holds, Nat.blt_eq, true_and, and_true]
  and_intros
  all_goals first
    | (with_reducible exact trivial)
    | (with_reducible exact rfl)
    | (with_reducible exact Wk.refl _)
    | (with_reducible exact VW.refl _)
    | (with_reducible exact OW.refl _)
    | (with_reducible exact wk_lit _)
    | (with_reducible assumption)
    | exact rfl
    | exact Wk.refl _
    | exact VW.refl _
    | exact OW.refl _
    | ((repeat (first | exact VW.nil | refine VW.cons (Wk.refl _) ?_ | refine VW.cons (Wk.any _) ?_ | refine VW.cons (wk_cap (Nat.le_refl _)) ?_)); done)
theorem gS2_ro : ∀ args, RO (gS2 args) := by
  intro args
  unfold gS2
  split
  · exact RO.ret _
  · exact RO.fail _
theorem gS3_ro : ∀ args, RO (gS3 args) := by
  intro args
  unfold gS3
  split
  · exact RO.ret _
  · exact RO.fail _
theorem cST_ok (L : List ByteArray) (hL : L.length ≤ 9000000) (F : HP) : C1OK Tryz.prog F fST (cST L L.length) :=
  mkC_ok (W := default) oldDef (fun _ => bv true) gS2_ro (fun _ => rfl) (fun _ _ => St_tri L hL) fun _ => ⟨rfl, rfl, ⟨rfl, rfl, trivial⟩, all_cons (rS_cl _ _) (all_cons (rS_cl _ _) all_nil), ⟨trivial, trivial⟩, all_nil⟩
theorem cSTz_ok (F : HP) : C1OK Tryz.prog F fST cSTz :=
  mkC_ok (W := default) oldDef (fun _ => bv true) gS3_ro (fun _ => rfl) (fun _ _ => StZ_tri) fun _ => ⟨rfl, rfl, ⟨trivial, rfl, trivial⟩, all_cons (rS_cl _ _) all_nil, ⟨trivial, trivial⟩, all_nil⟩
/-! The law. -/
theorem Paths_tri {W : World} (hW : LW2 W) (m t : ByteArray) (hs bd : Value) (ht : t.size ≤ 1085000) : Tri Tryz.prog W fPaths [reqV m t hs bd] [] (bv true) [] := by
  have h1 := Path_tri hW m t hs bd ht
  have h2 := RPath_tri m t hs bd ht
  unfold pathV pathH at h1
  unfold rpV rpH at h2
  cases hp : pathL t.data.toList with
  | some P =>
    rw [hp] at h1 h2
    simp only at h1 h2
    have hlen : P.length ≤ 1100000 := by
      have hpl := hp
      unfold pathL at hpl
      split at hpl
      · rename_i l hl
        have h3 := unescs_len hpl
        have h4 := cutL_len 47 (ahead l)
        have h5 := ahead_len l
        have h6 : l.length + 1 = t.size := by rw [← ba_size, hl]; simp
        omega
      · cases hpl
    have hml : (P.map tB).length = P.length := List.length_map ..
    rw [← hml] at h1 h2
    generalize hL : P.map tB = L at *
    refine tri_run (con := [(fSpeaks, cSpk), (fPath, cP1 m t hs bd (okV L.length) [(1000, rS L)]), (fRP, cP1 m t hs bd (okV L.length) [(1000, rS L)]), (fST, cST L L.length)]) (hints := hLP) (lc := []) [] rfl
      (fun F hF => con_cons (cSpk_ok hW.toLW hF) (con_cons (mkC_ok hF (fun _ => okV L.length) gB_ro (fun _ => rfl) (fun _ _ => h1) fun _ => ⟨rfl, rfl, ⟨trivial, trivial⟩, all_nil, ⟨⟨rfl, trivial, trivial⟩, trivial⟩, all_cons (rS_cl _ _) all_nil⟩)
        (con_cons (mkC_ok (W := default) oldDef (fun _ => okV L.length) gB_ro (fun _ => rfl) (fun _ _ => h2) fun _ => ⟨rfl, rfl, ⟨trivial, trivial⟩, all_nil, ⟨⟨rfl, trivial, trivial⟩, trivial⟩, all_cons (rS_cl _ _) all_nil⟩) (one_c (cST_ok L (by omega) F))))) (fun F _ => noL) fun F => ?_
    refine cast (congrArg (VAll _) (oLP_eq W m t hs bd L L.length F).symm) ⟨⟨?_, fits_true⟩⟩
    simp only [Cnd.holds, rens_rowV, Nat.blt_eq, true_and, and_true]
    and_intros
    all_goals first
      | exact VW.cons (wk_aggv [.string m, .string t, hs, bd]) VW.nil
      | (with_reducible exact trivial)
      | (with_reducible exact rfl)
      | (with_reducible exact Wk.refl _)
      | (with_reducible exact VW.refl _)
      | (with_reducible exact OW.refl _)
      | (with_reducible exact wk_lit _)
      | (with_reducible assumption)
      | exact rfl
      | exact Wk.refl _
      | exact VW.refl _
      | exact OW.refl _
      | ((repeat (first | exact VW.nil | refine VW.cons (Wk.refl _) ?_ | refine VW.cons (Wk.any _) ?_ | refine VW.cons (wk_cap (Nat.le_refl _)) ?_)); done)
  | none =>
    rw [hp] at h1 h2
    simp only at h1 h2
    refine tri_run (con := [(fSpeaks, cSpk), (fPath, cP1 m t hs bd (.tuple [nilS, bv false]) []), (fRP, cP1 m t hs bd (.tuple [sB 1000 0, bv false]) [(1000, rS [])]), (fST, cSTz)]) (hints := hLP) (lc := []) [] rfl
      (fun F hF => con_cons (cSpk_ok hW.toLW hF) (con_cons (mkC_ok hF (fun _ => .tuple [nilS, bv false]) gB_ro (fun _ => rfl) (fun _ _ => h1) fun _ => ⟨rfl, rfl, ⟨trivial, trivial⟩, all_nil, ⟨⟨trivial, trivial, trivial⟩, trivial⟩, all_nil⟩)
        (con_cons (mkC_ok (W := default) oldDef (fun _ => .tuple [sB 1000 0, bv false]) gB_ro (fun _ => rfl) (fun _ _ => h2) fun _ => ⟨rfl, rfl, ⟨trivial, trivial⟩, all_nil, ⟨⟨rfl, trivial, trivial⟩, trivial⟩, all_cons (rS_cl _ _) all_nil⟩) (one_c (cSTz_ok F))))) (fun F _ => noL) fun F => ?_
    refine cast (congrArg (VAll _) (oLPz_eq W m t hs bd F).symm) ⟨⟨?_, fits_true⟩⟩
    simp only [Cnd.holds, rens_rowV, Nat.blt_eq, true_and, and_true]
    and_intros
    all_goals first
      | exact VW.cons (wk_aggv [.string m, .string t, hs, bd]) VW.nil
      | (with_reducible exact trivial)
      | (with_reducible exact rfl)
      | (with_reducible exact Wk.refl _)
      | (with_reducible exact VW.refl _)
      | (with_reducible exact OW.refl _)
      | (with_reducible exact wk_lit _)
      | (with_reducible assumption)
      | exact rfl
      | exact Wk.refl _
      | exact VW.refl _
      | exact OW.refl _
      | ((repeat (first | exact VW.nil | refine VW.cons (Wk.refl _) ?_ | refine VW.cons (Wk.any _) ?_ | refine VW.cons (wk_cap (Nat.le_refl _)) ?_)); done)
end Go.Proofs.YtpijbbobejeemaaGreatDoor.Htp

/- Rows of records, as cells. No program. -/
set_option linter.unusedVariables false
set_option linter.unusedSimpArgs false
namespace Go.Proofs.YtpijbbobejeemaaGreatDoor
open Go

end Go.Proofs.YtpijbbobejeemaaGreatDoor

/- A slice of structs that comes in, whatever its struct: its cells, read as a list of plain records. -/
set_option linter.unusedVariables false
set_option linter.unusedSimpArgs false
namespace Go.Proofs.YtpijbbobejeemaaGreatDoor
open Go.ChangeShapes Go.WideShapes Go.RowKit Go.Deep
section
variable {H : Type} {enc : TypeId × Value → H} {P : Program} {w : World} {base : Nat} {spare : Nat → Bool} {held : Bool}
def Light (P : Program) (t : TypeId) (d : DataW H) : Prop := ∀ n ∈ d.weights P t, n ≤ reachBytes
theorem Light.len {t e : TypeId} {elems sp : List (DataW H)} (hu : P.underlying t = some (.slice e)) (h : Light P t (.slice elems sp)) : (elems.length + sp.length) * P.bytesOf e ≤ reachBytes :=
  h _ (by simp only [DataW.weights, hu, List.mem_cons, true_or])
theorem Light.field {t : TypeId} {fs : Array Field} {parts : List (DataW H)} (hu : P.underlying t = some (.struct fs)) (h : Light P t (.agg parts)) {i : Nat} {f : Field} {d : DataW H} (hf : fs[i]? = some f) (hp : parts[i]? = some d) : Light P f.type d := fun n hn => by
  refine h n ?_
  simp only [DataW.weights, hu]
  exact DataW.weights_mem_each (j := i) (by simp [hf]) hp n hn
end
end Go.Proofs.YtpijbbobejeemaaGreatDoor

/- What the bound of the second form gives. -/
set_option linter.unusedVariables false
set_option linter.unusedSimpArgs false
namespace Go.Proofs.YtpijbbobejeemaaGreatDoor.Upto
open Go.ChangeShapes Go.WideShapes Go.RowKit Go.Deep
theorem part_le {H : Type} {d : DataW H} {l : List (DataW H)} (h : d ∈ l) : Rows.uptoBulk d ≤ Rows.uptoBulkAll l := by
  induction l with
  | nil => cases h
  | cons x r ih =>
    simp only [Rows.uptoBulkAll]
    cases List.mem_cons.1 h with
    | inl e => subst e; omega
    | inr e => have := ih e; omega
theorem string_eq {H : Type} (bytes : List UInt8) : Rows.uptoBulk (DataW.lit (H := H) (.string bytes)) = bytes.length + 1 := by
  simp [Rows.uptoBulk]
theorem agg_part {H : Type} {parts : List (DataW H)} {d : DataW H} (h : d ∈ parts) : Rows.uptoBulk d + 1 ≤ Rows.uptoBulk (.agg parts) := by
  have := part_le h
  simp only [Rows.uptoBulk]
  omega
theorem bound {H : Type} {l : List (DataW H)} (hk : Rows.uptoSmall H l = true) : Rows.uptoBulkAll l ≤ 1048576 := of_decide_eq_true hk
theorem len_data (s : ByteArray) : s.data.toList.length = s.size := rfl
end Go.Proofs.YtpijbbobejeemaaGreatDoor.Upto

/- Http: what a Request that comes in is. -/
set_option linter.unusedVariables false
set_option linter.unusedSimpArgs false
set_option maxRecDepth 100000
namespace Go.Proofs.YtpijbbobejeemaaGreatDoor
open Go.ChangeShapes Go.WideShapes Go.RowKit Go.Deep
namespace Htp
section
variable {H : Type} {enc : TypeId × Value → H} {w : World} {base : Nat} {spare : Nat → Bool} {held : Bool}
theorem cells_req {fuel : Nat} {cs : List Value} {x : DataW H × List MemPlace} (h : DataW.trod enc Tryz.prog w base spare held fuel 32 cs = some x) : ∃ (m t : ByteArray) (hs bd : Value), cs = [.string m, .string t, hs, bd] ∧ t.size + 1 ≤ Rows.uptoBulk x.1 := by
  obtain ⟨ys, n, _, hx, hlen, hyl, hf⟩ := DataW.trod_struct Tryz.underlying32 h
  have zS : Tryz.prog.cellsOf 9 = 1 := by kernel_rfl
  match cs, hlen.trans (by kernel_rfl : Tryz.prog.cellsOf 32 = 4) with
  | [c0, c1, c2, c3], _ =>
    match ys, hyl with
    | [y0, y1, y2, y3], _ =>
      obtain ⟨a0, e0, _, _⟩ := DataW.trod_string Tryz.underlying9 (by simpa [zS] using hf 0 _ rfl : DataW.trod enc Tryz.prog w base spare held n 9 [c0] = some y0)
      obtain rfl := (List.cons.inj e0).1
      obtain ⟨a1, e1, hx1, _⟩ := DataW.trod_string Tryz.underlying9 (by simpa [zS] using hf 1 _ rfl : DataW.trod enc Tryz.prog w base spare held n 9 [c1] = some y1)
      obtain rfl := (List.cons.inj e1).1
      refine ⟨a0, a1, c2, c3, rfl, ?_⟩
      rw [hx]
      have hm : y1.1 ∈ List.map (fun y => y.1) [y0, y1, y2, y3] := by simp
      refine Nat.le_trans ?_ (Nat.le_trans (Nat.le_succ _) (Upto.agg_part hm))
      rw [hx1, Upto.string_eq, Upto.len_data]
      exact Nat.le_refl _
theorem open_req {r : Reach} {b0 : Nat} {v : Value} {d : DataW H} {p : List MemPlace} (hv : Value.okWide Tryz.prog w r b0 32 v) (h : DataW.Trod enc Tryz.prog w base spare held 32 v d p) :
    ∃ (m t : ByteArray) (hs bd : Value), v = .agg #[.string m, .string t, hs, bd] ∧ t.size + 1 ≤ Rows.uptoBulk d := by
  obtain ⟨cs, rfl, hsz⟩ := okWide_struct Tryz.underlying32 hv
  obtain ⟨fuel, hf⟩ := h
  obtain ⟨m, t, hs, bd, hc, hb⟩ := cells_req hf
  exact ⟨m, t, hs, bd, by rw [show cs = #[.string m, .string t, hs, bd] from Array.ext' hc], hb⟩
end
end Htp
end Go.Proofs.YtpijbbobejeemaaGreatDoor

/- A row's witness where the variables are told one beside the other. No program. -/
set_option linter.unusedVariables false
set_option linter.unusedSimpArgs false
namespace Go.Proofs.YtpijbbobejeemaaGreatDoor.Wit
open Go
theorem row_zip {H : Type} {enc : TypeId × Value → H} {C : Checked} {os : Os} {f : FuncId} {fn : Func} {s : OpenSpec} {conds : List PathCond} {apart : Bool} {laid : List (String × DataW Unit)} (w0 : World) (args : Array Value) (hos : w0.os = os)
    (hv : (w0.forCall (fun _ _ => 0) ⟨#[], args, []⟩).variablesZipB C.prog = true)
    (hr : ((w0.forCall (fun _ _ => 0) ⟨#[], args, []⟩).heap.toList.drop C.prog.globals.size).take ((begin C.prog (fun _ _ => 0) default).world.heap.size - C.prog.globals.size) =
      (begin C.prog (fun _ _ => 0) default).world.heap.toList.drop C.prog.globals.size)
    (hok : Input.okWideB C.prog (w0.forCall (fun _ _ => 0) ⟨#[], args, []⟩) f ⟨#[], args, []⟩ = true)
    (hrow : s.preRow enc C.prog fn conds apart laid (w0.forCall (fun _ _ => 0) ⟨#[], args, []⟩).memory args) :
    ∃ (w : World) (tape : Tape) (i : Input), w.os = os ∧ (w.forCall tape i).Shaped C.prog ∧ i.vars = [] ∧ Input.okWide C.prog (w.forCall tape i) .any w.heap.size f i ∧
      s.preRow enc C.prog fn conds apart laid (w.forCall tape i).memory i.args ∧ ({} : Assume).holds C.prog (lone (Frame.enter C.prog f i.args .normal) [] (w.forCall tape i)) :=
  ⟨w0, fun _ _ => 0, ⟨#[], args, []⟩, hos, World.shaped_of_ZipB hv hr, (Input.okWide_of_okWideB (base := 0) hok).1, (Input.okWide_of_okWideB hok).2, hrow, by
    simp [Assume.holds]⟩
end Go.Proofs.YtpijbbobejeemaaGreatDoor.Wit

