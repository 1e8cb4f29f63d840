/- For every list of consumers and every number of rounds, where what is read is of bulk at most 1048576: all that can take something get their turns one behind the other. -/
import Derived.Test.YtjjjchmkonnpfaaEngKit2
import Derived.Test.YtjjjchmkonnpfaaEngRow2
import Derived.Test.YtjjjchmkonnpfaaEngSorted
import Derived.Test.YtjjjchmkonnpfaaEngKit
import Derived.Test.YtjjjchmkonnpfaaRows
import Derived.Test.YtjjjchmkonnpfaaUpto
import Derived.ProofKit
import Derived.OpenShut
import Derived.ShutString
import Derived.Carry
import Derived.SizedLaws
import Derived.Deep.CondSized
import Derived.JoinedCond
/- Queue: rows of numbers: slices.Index, slices.IndexFunc, slices.DeleteFunc at numbers: runs. -/
set_option linter.unusedVariables false
set_option linter.unusedSimpArgs false
set_option maxRecDepth 100000
namespace Go.Proofs.Ytjjjchmkonnpfaa.Que
open Go Go.RowKit Go.Proofs.Ytjjjchmkonnpfaa.Eng Go.Proofs.Ytjjjchmkonnpfaa.Kit
def encI (x : Int) : List Value := [.int .i64 x]
theorem encI_len (x : Int) : (encI x).length = 1 := rfl
abbrev tInt : TypeId := 2 * 3
noncomputable section
def rI (L : List Int) : AO := .cells (rowV encI L) tInt
def sI (j n c : Nat) : AV := .slice j 0 n 1 (.lo c)
def boxI (v : Int) : AO := .cells [iv v] tInt
abbrev fIndex : Nat := 41
abbrev fIndexF : Nat := 57
abbrev fDel : Nat := 42
abbrev fLeave1 : Nat := 43
/-- Where a number stands. -/
def idxI (v : Int) : List Int → Nat
  | [] => 0
  | x :: l => if x = v then 0 else idxI v l + 1
/-! slices.Index -/
def aIx (n c : Nat) (v : Int) (i : Nat) : List (Nat × AV) := [(0, sI 0 n c), (1, iv v), (7, iv (Int.ofNat n)), (8, iv (Int.ofNat i))]
def hIx (i : Nat) (x : Int) (b : Bool) : ClaimT := hintL [(fIndex, 2, 0, hv (.lit true)), (fIndex, 4, 4, hv (iv x)), (fIndex, 4, 5, hv (.lit b)), (fIndex, 6, 0, hv (iv (Int.ofNat (i + 1))))]
theorem oIxH_eq (M : List Int) (n c : Nat) (v : Int) (i : Nat) (x : Int) (F : HP) : wLoop [] (hIx i x true) [] default fIndex (loopN fIndex 2) (tms 0 19 (aIx n c v i)) [(0, rI M)] [0] [0, 1, 4, 7, 8] F = VT.leaf (AX.ret, [AV.slice 0 0 n 1 (Cp.lo c), AV.v (Value.int IntKind.i64 v), AV.v (Value.int IntKind.i64 (Int.ofNat i)), AV.v (Value.int IntKind.i64 (Int.ofNat n)), AV.v (Value.int IntKind.i64 (Int.ofNat i))], 19) [some (AO.cells (rowV encI M) 6)] 1100 (((Cnd.p (Wk (AV.v (Value.bool (decide (Int.ofNat i < Int.ofNat n)))) (AV.lit true))).a Cnd.t).a (((Cnd.p (i.blt n = true)).a Cnd.t).a (((Cnd.p ((0 + i * 1).blt (rowV encI M).length = true)).a ((Cnd.p ((rowV encI M).getD (0 + i * 1) (AV.v (Value.tuple (Array.mk []))) = AV.v (Value.int IntKind.i64 ((rowV encI M).getD (0 + i * 1) (AV.v (Value.tuple (Array.mk [])))).intOf))).a ((Cnd.p (Wk (AV.v (Value.int IntKind.i64 ((rowV encI M).getD (0 + i * 1) (AV.v (Value.tuple (Array.mk [])))).intOf)) (AV.v (Value.int IntKind.i64 x)))).a Cnd.t))).a (((Cnd.p (Wk (AV.v (Value.bool (v == x))) (AV.lit true))).a Cnd.t).a Cnd.t)))) := by kernel_rfl
theorem oIxN_eq (M : List Int) (n c : Nat) (v : Int) (i : Nat) (x : Int) (F : HP) : wLoop [] (hIx i x false) [] default fIndex (loopN fIndex 2) (tms 0 19 (aIx n c v i)) [(0, rI M)] [0] [0, 1, 4, 7, 8] F = VT.leaf (AX.normal, [AV.slice 0 0 n 1 (Cp.lo c), AV.v (Value.int IntKind.i64 v), AV.any, AV.v (Value.int IntKind.i64 (Int.ofNat n)), AV.v (Value.int IntKind.i64 (Int.ofNat (i + 1)))], 19) [some (AO.cells (rowV encI M) 6)] 1100 (((Cnd.p (Wk (AV.v (Value.bool (decide (Int.ofNat i < Int.ofNat n)))) (AV.lit true))).a Cnd.t).a (((Cnd.p (i.blt n = true)).a Cnd.t).a (((Cnd.p ((0 + i * 1).blt (rowV encI M).length = true)).a ((Cnd.p ((rowV encI M).getD (0 + i * 1) (AV.v (Value.tuple (Array.mk []))) = AV.v (Value.int IntKind.i64 ((rowV encI M).getD (0 + i * 1) (AV.v (Value.tuple (Array.mk [])))).intOf))).a ((Cnd.p (Wk (AV.v (Value.int IntKind.i64 ((rowV encI M).getD (0 + i * 1) (AV.v (Value.tuple (Array.mk [])))).intOf)) (AV.v (Value.int IntKind.i64 x)))).a Cnd.t))).a (((Cnd.p (Wk (AV.v (Value.bool (v == x))) (AV.lit false))).a Cnd.t).a (((Cnd.p (Wk (AV.v (Value.int IntKind.i64 (IntKind.i64.wrap (Int.ofNat i + Int.ofNat 1)))) (AV.v (Value.int IntKind.i64 (Int.ofNat (i + 1)))))).a Cnd.t).a Cnd.t))))) := by kernel_rfl
theorem oIxE_eq (M : List Int) (n c : Nat) (v : Int) (i : Nat) (F : HP) : wLoop [] (hintL [(fIndex, 2, 0, hv (.lit false))]) [] default fIndex (loopN fIndex 2) (tms 0 19 (aIx n c v i)) [(0, rI M)] [0] [0, 1, 4, 7, 8] F = VT.leaf (AX.exit 0, [AV.slice 0 0 n 1 (Cp.lo c), AV.v (Value.int IntKind.i64 v), AV.any, AV.v (Value.int IntKind.i64 (Int.ofNat n)), AV.v (Value.int IntKind.i64 (Int.ofNat i))], 19) [some (AO.cells (rowV encI M) 6)] 1100 (((Cnd.p (Wk (AV.v (Value.bool (decide (Int.ofNat i < Int.ofNat n)))) (AV.lit false))).a Cnd.t).a Cnd.t) := by kernel_rfl
/-! slices.IndexFunc -/
def eqF (b : Nat) : AV := .func (.func fLeave1) [] [.ptr b 0]
def oIf (M : List Int) (v : Int) : LH := [(0, rI M), (1, boxI v)]
def aIf (n c : Nat) (i : Nat) : List (Nat × AV) := [(0, sI 0 n c), (1, eqF 1), (7, iv (Int.ofNat n)), (8, iv (Int.ofNat i))]
def hIf (i : Nat) (x : Int) (b : Bool) : ClaimT := hintL [(fIndexF, 2, 0, hv (.lit true)), (fIndexF, 4, 4, hv (iv x)), (fIndexF, 4, 5, hv (.lit b)), (fIndexF, 6, 0, hv (iv (Int.ofNat (i + 1))))]
theorem oIfH_eq (M : List Int) (n c : Nat) (v : Int) (i : Nat) (x : Int) (F : HP) : wLoop [] (hIf i x true) [] default fIndexF (loopN fIndexF 2) (tms 0 19 (aIf n c i)) (oIf M v) [0, 1] [0, 1, 4, 7, 8] F = VT.leaf (AX.ret, [AV.slice 0 0 n 1 (Cp.lo c), AV.func (Fn.func 43) [] [AV.ptr 1 0], AV.v (Value.int IntKind.i64 (Int.ofNat i)), AV.v (Value.int IntKind.i64 (Int.ofNat n)), AV.v (Value.int IntKind.i64 (Int.ofNat i))], 19) [some (AO.cells (rowV encI M) 6), some (AO.cells [AV.v (Value.int IntKind.i64 v)] 6)] 1100 (((Cnd.p (Wk (AV.v (Value.bool (decide (Int.ofNat i < Int.ofNat n)))) (AV.lit true))).a Cnd.t).a (((Cnd.p (i.blt n = true)).a Cnd.t).a (((Cnd.p ((0 + i * 1).blt (rowV encI M).length = true)).a ((Cnd.p ((rowV encI M).getD (0 + i * 1) (AV.v (Value.tuple (Array.mk []))) = AV.v (Value.int IntKind.i64 ((rowV encI M).getD (0 + i * 1) (AV.v (Value.tuple (Array.mk [])))).intOf))).a ((Cnd.p (Wk (AV.v (Value.int IntKind.i64 ((rowV encI M).getD (0 + i * 1) (AV.v (Value.tuple (Array.mk [])))).intOf)) (AV.v (Value.int IntKind.i64 x)))).a Cnd.t))).a ((((Cnd.p (true = true)).a ((Cnd.p (AV.v (Value.int IntKind.i64 v) = AV.v (Value.int IntKind.i64 v))).a Cnd.t)).a ((Cnd.p (Wk (AV.v (Value.bool (x == v))) (AV.lit true))).a Cnd.t)).a Cnd.t)))) := by kernel_rfl
theorem oIfN_eq (M : List Int) (n c : Nat) (v : Int) (i : Nat) (x : Int) (F : HP) : wLoop [] (hIf i x false) [] default fIndexF (loopN fIndexF 2) (tms 0 19 (aIf n c i)) (oIf M v) [0, 1] [0, 1, 4, 7, 8] F = VT.leaf (AX.normal, [AV.slice 0 0 n 1 (Cp.lo c), AV.func (Fn.func 43) [] [AV.ptr 1 0], AV.any, AV.v (Value.int IntKind.i64 (Int.ofNat n)), AV.v (Value.int IntKind.i64 (Int.ofNat (i + 1)))], 19) [some (AO.cells (rowV encI M) 6), some (AO.cells [AV.v (Value.int IntKind.i64 v)] 6)] 1100 (((Cnd.p (Wk (AV.v (Value.bool (decide (Int.ofNat i < Int.ofNat n)))) (AV.lit true))).a Cnd.t).a (((Cnd.p (i.blt n = true)).a Cnd.t).a (((Cnd.p ((0 + i * 1).blt (rowV encI M).length = true)).a ((Cnd.p ((rowV encI M).getD (0 + i * 1) (AV.v (Value.tuple (Array.mk []))) = AV.v (Value.int IntKind.i64 ((rowV encI M).getD (0 + i * 1) (AV.v (Value.tuple (Array.mk [])))).intOf))).a ((Cnd.p (Wk (AV.v (Value.int IntKind.i64 ((rowV encI M).getD (0 + i * 1) (AV.v (Value.tuple (Array.mk [])))).intOf)) (AV.v (Value.int IntKind.i64 x)))).a Cnd.t))).a ((((Cnd.p (true = true)).a ((Cnd.p (AV.v (Value.int IntKind.i64 v) = AV.v (Value.int IntKind.i64 v))).a Cnd.t)).a ((Cnd.p (Wk (AV.v (Value.bool (x == v))) (AV.lit false))).a Cnd.t)).a (((Cnd.p (Wk (AV.v (Value.int IntKind.i64 (IntKind.i64.wrap (Int.ofNat i + Int.ofNat 1)))) (AV.v (Value.int IntKind.i64 (Int.ofNat (i + 1)))))).a Cnd.t).a Cnd.t))))) := by kernel_rfl
theorem oIfE_eq (M : List Int) (n c : Nat) (v : Int) (i : Nat) (F : HP) : wLoop [] (hintL [(fIndexF, 2, 0, hv (.lit false))]) [] default fIndexF (loopN fIndexF 2) (tms 0 19 (aIf n c i)) (oIf M v) [0, 1] [0, 1, 4, 7, 8] F = VT.leaf (AX.exit 0, [AV.slice 0 0 n 1 (Cp.lo c), AV.func (Fn.func 43) [] [AV.ptr 1 0], AV.any, AV.v (Value.int IntKind.i64 (Int.ofNat n)), AV.v (Value.int IntKind.i64 (Int.ofNat i))], 19) [some (AO.cells (rowV encI M) 6), some (AO.cells [AV.v (Value.int IntKind.i64 v)] 6)] 1100 (((Cnd.p (Wk (AV.v (Value.bool (decide (Int.ofNat i < Int.ofNat n)))) (AV.lit false))).a Cnd.t).a Cnd.t) := by kernel_rfl
/-! slices.DeleteFunc: its loop. -/
def aDl (n c : Nat) (i j : Nat) : List (Nat × AV) := [(0, sI 0 n c), (1, eqF 1), (5, iv (Int.ofNat i)), (6, iv (Int.ofNat j))]
def hDl (i j : Nat) (x : Int) (b : Bool) : ClaimT := hintL [(fDel, 5, 3, hv (.lit true)), (fDel, 7, 3, hv (iv x)), (fDel, 8, 3, hv (.lit b)), (fDel, 10, 1, hv (iv (Int.ofNat (i + 1)))), (fDel, 6, 1, hv (iv (Int.ofNat (j + 1))))]
theorem oDlK_eq (M : List Int) (n c : Nat) (v : Int) (i j : Nat) (x : Int) (F : HP) : wLoop [] (hDl i j x true) [] default fDel (loopN fDel 5) (tms 0 42 (aDl n c i j)) (oIf M v) [0, 1] [0, 1, 5, 6] F = VT.leaf (AX.normal, [AV.slice 0 0 n 1 (Cp.lo c), AV.func (Fn.func 43) [] [AV.ptr 1 0], AV.v (Value.int IntKind.i64 (Int.ofNat (i + 1))), AV.v (Value.int IntKind.i64 (Int.ofNat (j + 1)))], 42) [some (AO.cells (splice (rowV encI M) (0 + i * 1) [AV.v (Value.int IntKind.i64 x)]) 6), some (AO.cells [AV.v (Value.int IntKind.i64 v)] 6)] 1100 (((Cnd.p (Wk (AV.v (Value.bool (decide (Int.ofNat j < ↑n)))) (AV.lit true))).a Cnd.t).a (((Cnd.p (j.blt n = true)).a Cnd.t).a (((Cnd.p ((0 + j * 1).blt (rowV encI M).length = true)).a ((Cnd.p ((rowV encI M).getD (0 + j * 1) (AV.v (Value.tuple (Array.mk []))) = AV.v (Value.int IntKind.i64 ((rowV encI M).getD (0 + j * 1) (AV.v (Value.tuple (Array.mk [])))).intOf))).a ((Cnd.p (Wk (AV.v (Value.int IntKind.i64 ((rowV encI M).getD (0 + j * 1) (AV.v (Value.tuple (Array.mk [])))).intOf)) (AV.v (Value.int IntKind.i64 x)))).a Cnd.t))).a ((((Cnd.p (true = true)).a ((Cnd.p (AV.v (Value.int IntKind.i64 v) = AV.v (Value.int IntKind.i64 v))).a Cnd.t)).a Cnd.t).a (((Cnd.p (Wk (AV.v (Value.bool !x == v)) (AV.lit true))).a Cnd.t).a (((Cnd.p (i.blt n = true)).a Cnd.t).a (((Cnd.p ((0 + i * 1 + 1).ble (rowV encI M).length = true)).a Cnd.t).a (((Cnd.p (Wk (AV.v (Value.int IntKind.i64 (IntKind.i64.wrap (Int.ofNat i + Int.ofNat 1)))) (AV.v (Value.int IntKind.i64 (Int.ofNat (i + 1)))))).a Cnd.t).a (((Cnd.p (Wk (AV.v (Value.int IntKind.i64 (IntKind.i64.wrap (Int.ofNat j + Int.ofNat 1)))) (AV.v (Value.int IntKind.i64 (Int.ofNat (j + 1)))))).a Cnd.t).a Cnd.t))))))))) := by kernel_rfl
theorem oDlN_eq (M : List Int) (n c : Nat) (v : Int) (i j : Nat) (x : Int) (F : HP) : wLoop [] (hDl i j x false) [] default fDel (loopN fDel 5) (tms 0 42 (aDl n c i j)) (oIf M v) [0, 1] [0, 1, 5, 6] F = VT.leaf (AX.normal, [AV.slice 0 0 n 1 (Cp.lo c), AV.func (Fn.func 43) [] [AV.ptr 1 0], AV.v (Value.int IntKind.i64 (Int.ofNat i)), AV.v (Value.int IntKind.i64 (Int.ofNat (j + 1)))], 42) [some (AO.cells (rowV encI M) 6), some (AO.cells [AV.v (Value.int IntKind.i64 v)] 6)] 1100 (((Cnd.p (Wk (AV.v (Value.bool (decide (Int.ofNat j < ↑n)))) (AV.lit true))).a Cnd.t).a (((Cnd.p (j.blt n = true)).a Cnd.t).a (((Cnd.p ((0 + j * 1).blt (rowV encI M).length = true)).a ((Cnd.p ((rowV encI M).getD (0 + j * 1) (AV.v (Value.tuple (Array.mk []))) = AV.v (Value.int IntKind.i64 ((rowV encI M).getD (0 + j * 1) (AV.v (Value.tuple (Array.mk [])))).intOf))).a ((Cnd.p (Wk (AV.v (Value.int IntKind.i64 ((rowV encI M).getD (0 + j * 1) (AV.v (Value.tuple (Array.mk [])))).intOf)) (AV.v (Value.int IntKind.i64 x)))).a Cnd.t))).a ((((Cnd.p (true = true)).a ((Cnd.p (AV.v (Value.int IntKind.i64 v) = AV.v (Value.int IntKind.i64 v))).a Cnd.t)).a Cnd.t).a (((Cnd.p (Wk (AV.v (Value.bool !x == v)) (AV.lit false))).a Cnd.t).a (((Cnd.p (Wk (AV.v (Value.int IntKind.i64 (IntKind.i64.wrap (Int.ofNat j + Int.ofNat 1)))) (AV.v (Value.int IntKind.i64 (Int.ofNat (j + 1)))))).a Cnd.t).a Cnd.t)))))) := by kernel_rfl
theorem oDlE_eq (M : List Int) (n c : Nat) (v : Int) (i j : Nat) (F : HP) : wLoop [] (hintL [(fDel, 5, 3, hv (.lit false))]) [] default fDel (loopN fDel 5) (tms 0 42 (aDl n c i j)) (oIf M v) [0, 1] [0, 1, 5, 6] F = VT.leaf (AX.exit 0, [AV.slice 0 0 n 1 (Cp.lo c), AV.func (Fn.func 43) [] [AV.ptr 1 0], AV.v (Value.int IntKind.i64 (Int.ofNat i)), AV.v (Value.int IntKind.i64 (Int.ofNat j))], 42) [some (AO.cells (rowV encI M) 6), some (AO.cells [AV.v (Value.int IntKind.i64 v)] 6)] 1100 (((Cnd.p (Wk (AV.v (Value.bool (decide (Int.ofNat j < ↑n)))) (AV.lit false))).a Cnd.t).a Cnd.t) := by kernel_rfl
end
end Go.Proofs.Ytjjjchmkonnpfaa.Que

/- Queue: rows of numbers: the loops of slices.Index, IndexFunc, DeleteFunc. -/
set_option linter.unusedVariables false
set_option linter.unusedSimpArgs false
set_option maxRecDepth 100000
namespace Go.Proofs.Ytjjjchmkonnpfaa.Que
open Go Go.RowKit Go.Proofs.Ytjjjchmkonnpfaa.Eng Go.Proofs.Ytjjjchmkonnpfaa.Kit
theorem rI_len (M : List Int) : (rowV encI M).length = M.length := by rw [rowV_length (k := 1) encI_len, Nat.mul_one]
theorem rI_get (M : List Int) (i : Nat) (hi : i < M.length) (d : AV) : (rowV encI M).getD (0 + i * 1) d = iv (M.getD i 0) := by
  have := row_getD encI_len M 0 i hi 0 (by decide) _ rfl d
  rwa [Nat.add_zero] at this
theorem rI_lt (M : List Int) (i : Nat) (hi : i < M.length) : (0 + i * 1).blt (rowV encI M).length = true := by
  rw [rI_len, Nat.blt_eq]; omega
theorem rI_in (M : List Int) (i : Nat) (hi : i < M.length) : (0 + i * 1 + 1).ble (rowV encI M).length = true := by
  rw [rI_len, Nat.ble_eq]; omega
theorem rI_set (M : List Int) (i : Nat) (x : Int) (hi : i < M.length) : splice (rowV encI M) (0 + i * 1) [AV.v (.int .i64 x)] = rowV encI (M.set i x) := by
  have := rowV_splice encI_len M i x hi
  rw [Nat.zero_add]
  exact this
theorem rI_ren (σ : Nat → Nat) (L : List Int) : (rI L).ren σ = rI L := by simp only [rI, AO.ren, rens_rowV]
theorem rI_ow {x : List AV} {L : List Int} {e : TypeId} {σ : Nat → Nat} (h : x = rowV encI L) (he : e = tInt) : OW (.cells x e) ((rI L).ren σ) := by rw [rI_ren]; subst h he; exact OW.refl _
theorem rI_cl (K : Nat → Bool) (L : List Int) : (rI L).cl K := cls_rowV _ _
/-- Few enough to be counted. -/
def Cnt (n : Nat) : Prop := n ≤ 4611686018427387904
theorem Cnt.lt {n i : Nat} (h : Cnt n) (hi : i < n) : i < 9223372036854775807 := by unfold Cnt at h; omega
theorem ltT {i n : Nat} (h : i < n) : decide (Int.ofNat i < Int.ofNat n) = true := by rw [nat_lt]; exact decide_eq_true h
theorem ltTC {i n : Nat} (h : i < n) : decide (Int.ofNat i < (n : Int)) = true := by rw [nat_ltC]; exact decide_eq_true h
theorem ltF {n : Nat} : decide (Int.ofNat n < Int.ofNat n) = false := by rw [nat_lt]; exact decide_eq_false (Nat.lt_irrefl _)
theorem ltFC {n : Nat} : decide (Int.ofNat n < (n : Int)) = false := by rw [nat_ltC]; exact decide_eq_false (Nat.lt_irrefl _)
theorem beqT {a b : Int} (h : a = b) : (a == b) = true := beq_iff_eq.2 h
theorem beqF {a b : Int} (h : a ≠ b) : (a == b) = false := beq_eq_false_iff_ne.2 h
theorem ix_loop (M : List Int) (n c : Nat) (v : Int) (hn : n ≤ M.length) (hC : Cnt n) (ax : AX) (Z : List (Nat × AV)) (hax : ax ≠ .normal)
    (hhit : ∀ i, i < n → M.getD i 0 = v → (∀ j, j < i → M.getD j 0 ≠ v) → ax = .ret ∧ Z = [(4, iv (Int.ofNat i))]) (hmiss : (∀ j, j < n → M.getD j 0 ≠ v) → ax = .exit 0 ∧ Z = []) :
    LTri Try.prog default (loopN fIndex 2) (tms 0 19 (aIx n c v 0)) [(0, rI M)] ax (tms 0 19 Z) [(0, rI M)] := by
  refine ltri_run (W := default) (g := fIndex) (b := loopN fIndex 2) (σ := {i : Nat // i ≤ n ∧ ∀ j, j < i → M.getD j 0 ≠ v}) 19 (fun i => aIx n c v i.1) (fun _ => [(0, rI M)]) ax Z [(0, rI M)] (fun i => n - i.1) [0] [0, 1, 4, 7, 8] hax (fun _ => rfl) rfl ?_ ⟨0, Nat.zero_le _, fun j hj => absurd hj (Nat.not_lt_zero _)⟩
  rintro ⟨i, hi, hA⟩
  by_cases h1 : i < n
  · have hiM : i < M.length := by omega
    have g0 : ∀ d, (rowV encI M).getD (0 + i * 1) d = iv (M.getD i 0) := rI_get M i hiM
    have g1 := rI_lt M i hiM
    have e1 := ltT h1
    have hw := wrap_succ i (hC.lt h1)
    by_cases hx : M.getD i 0 = v
    · obtain ⟨rfl, rfl⟩ := hhit i h1 hx hA
      refine ⟨[], hIx i v true, [], fun _ _ => noC, fun _ _ => noL, fun F => ?_⟩
      refine cast (congrArg (VAll _) (oIxH_eq M n c v i v F).symm) ⟨⟨?_, rfl, .inr ⟨rfl, [], rfl, rfl, ⟨Wk.refl _, trivial⟩, ⟨_, rfl, rI_ow rfl rfl⟩, trivial⟩⟩⟩
      have hb : (v == v) = true := beqT rfl
      rw [hx] at g0
      simp only [Cnd.holds, g0, g1, e1, hb, h1, Nat.blt_eq, true_and, and_true]
      and_intros
      all_goals first
        | (with_reducible exact trivial)
        | (with_reducible exact rfl)
        | (with_reducible exact Wk.refl _)
        | (with_reducible exact VW.refl _)
        | (with_reducible exact OW.refl _)
        | (with_reducible exact wk_lit _)
        | (with_reducible assumption)
        | exact rfl
        | exact Wk.refl _
        | exact VW.refl _
        | exact OW.refl _
        | ((repeat (first | exact VW.nil | refine VW.cons (Wk.refl _) ?_ | refine VW.cons (Wk.any _) ?_ | refine VW.cons (wk_cap (Nat.le_refl _)) ?_)); done)
    · refine ⟨[], hIx i (M.getD i 0) false, [], fun _ _ => noC, fun _ _ => noL, fun F => ?_⟩
      refine cast (congrArg (VAll _) (oIxN_eq M n c v i (M.getD i 0) F).symm) ⟨⟨?_, rfl, .inl ⟨rfl, ⟨i + 1, h1, fun j hj => ?_⟩, sub_down h1, [], rfl, rfl, ⟨Wk.refl _, Wk.refl _, Wk.refl _, Wk.refl _, trivial⟩, ⟨_, rfl, rI_ow rfl rfl⟩, trivial⟩⟩⟩
      · have hb : (v == M.getD i 0) = false := beqF fun e => hx e.symm
        simp only [Cnd.holds, g0, g1, e1, hb, h1, Nat.blt_eq, true_and, and_true]
        and_intros
        all_goals first
          | (with_reducible exact wk_int hw)
          | (with_reducible exact trivial)
          | (with_reducible exact rfl)
          | (with_reducible exact Wk.refl _)
          | (with_reducible exact VW.refl _)
          | (with_reducible exact OW.refl _)
          | (with_reducible exact wk_lit _)
          | (with_reducible assumption)
          | exact rfl
          | exact Wk.refl _
          | exact VW.refl _
          | exact OW.refl _
          | ((repeat (first | exact VW.nil | refine VW.cons (Wk.refl _) ?_ | refine VW.cons (Wk.any _) ?_ | refine VW.cons (wk_cap (Nat.le_refl _)) ?_)); done)
      · by_cases e : j = i
        · rw [e]; exact hx
        · exact hA j (by omega)
  · have hke : i = n := by omega
    subst hke
    obtain ⟨rfl, rfl⟩ := hmiss hA
    refine ⟨[], hintL [(fIndex, 2, 0, hv (.lit false))], [], fun _ _ => noC, fun _ _ => noL, fun F => ?_⟩
    refine cast (congrArg (VAll _) (oIxE_eq M i c v i F).symm) ⟨⟨?_, rfl, .inr ⟨rfl, [], rfl, rfl, trivial, ⟨_, rfl, rI_ow rfl rfl⟩, trivial⟩⟩⟩
    simp only [Cnd.holds, and_true]
    exact wk_litE ltF
theorem box_ow (σ : Nat → Nat) (v : Int) : OW (.cells [.v (.int .i64 v)] 6) ((boxI v).ren σ) := OW.refl _
theorem if_loop (M : List Int) (n c : Nat) (v : Int) (hn : n ≤ M.length) (hC : Cnt n) (ax : AX) (Z : List (Nat × AV)) (hax : ax ≠ .normal)
    (hhit : ∀ i, i < n → M.getD i 0 = v → (∀ j, j < i → M.getD j 0 ≠ v) → ax = .ret ∧ Z = [(4, iv (Int.ofNat i))]) (hmiss : (∀ j, j < n → M.getD j 0 ≠ v) → ax = .exit 0 ∧ Z = []) :
    LTri Try.prog default (loopN fIndexF 2) (tms 0 19 (aIf n c 0)) (oIf M v) ax (tms 0 19 Z) (oIf M v) := by
  refine ltri_run (W := default) (g := fIndexF) (b := loopN fIndexF 2) (σ := {i : Nat // i ≤ n ∧ ∀ j, j < i → M.getD j 0 ≠ v}) 19 (fun i => aIf n c i.1) (fun _ => oIf M v) ax Z (oIf M v) (fun i => n - i.1) [0, 1] [0, 1, 4, 7, 8] hax (fun _ => rfl) rfl ?_ ⟨0, Nat.zero_le _, fun j hj => absurd hj (Nat.not_lt_zero _)⟩
  rintro ⟨i, hi, hA⟩
  by_cases h1 : i < n
  · have hiM : i < M.length := by omega
    have g0 : ∀ d, (rowV encI M).getD (0 + i * 1) d = iv (M.getD i 0) := rI_get M i hiM
    have g1 := rI_lt M i hiM
    have e1 := ltT h1
    have hw := wrap_succ i (hC.lt h1)
    by_cases hx : M.getD i 0 = v
    · obtain ⟨rfl, rfl⟩ := hhit i h1 hx hA
      refine ⟨[], hIf i v true, [], fun _ _ => noC, fun _ _ => noL, fun F => ?_⟩
      refine cast (congrArg (VAll _) (oIfH_eq M n c v i v F).symm) ⟨⟨?_, rfl, .inr ⟨rfl, [], rfl, rfl, ⟨Wk.refl _, trivial⟩, ⟨_, rfl, rI_ow rfl rfl⟩, ⟨_, rfl, box_ow _ v⟩, trivial⟩⟩⟩
      have hb : (v == v) = true := beqT rfl
      rw [hx] at g0
      simp only [Cnd.holds, g0, g1, e1, hb, h1, Nat.blt_eq, true_and, and_true]
      and_intros
      all_goals first
        | (with_reducible exact trivial)
        | (with_reducible exact rfl)
        | (with_reducible exact Wk.refl _)
        | (with_reducible exact VW.refl _)
        | (with_reducible exact OW.refl _)
        | (with_reducible exact wk_lit _)
        | (with_reducible assumption)
        | exact rfl
        | exact Wk.refl _
        | exact VW.refl _
        | exact OW.refl _
        | ((repeat (first | exact VW.nil | refine VW.cons (Wk.refl _) ?_ | refine VW.cons (Wk.any _) ?_ | refine VW.cons (wk_cap (Nat.le_refl _)) ?_)); done)
    · refine ⟨[], hIf i (M.getD i 0) false, [], fun _ _ => noC, fun _ _ => noL, fun F => ?_⟩
      refine cast (congrArg (VAll _) (oIfN_eq M n c v i (M.getD i 0) F).symm) ⟨⟨?_, rfl, .inl ⟨rfl, ⟨i + 1, h1, fun j hj => ?_⟩, sub_down h1, [], rfl, rfl, ⟨Wk.refl _, Wk.refl _, Wk.refl _, Wk.refl _, trivial⟩, ⟨_, rfl, rI_ow rfl rfl⟩, ⟨_, rfl, box_ow _ v⟩, trivial⟩⟩⟩
      · have hb : (M.getD i 0 == v) = false := beqF hx
        simp only [Cnd.holds, g0, g1, e1, hb, h1, Nat.blt_eq, true_and, and_true]
        and_intros
        all_goals first
          | (with_reducible exact wk_int hw)
          | (with_reducible exact trivial)
          | (with_reducible exact rfl)
          | (with_reducible exact Wk.refl _)
          | (with_reducible exact VW.refl _)
          | (with_reducible exact OW.refl _)
          | (with_reducible exact wk_lit _)
          | (with_reducible assumption)
          | exact rfl
          | exact Wk.refl _
          | exact VW.refl _
          | exact OW.refl _
          | ((repeat (first | exact VW.nil | refine VW.cons (Wk.refl _) ?_ | refine VW.cons (Wk.any _) ?_ | refine VW.cons (wk_cap (Nat.le_refl _)) ?_)); done)
      · by_cases e : j = i
        · rw [e]; exact hx
        · exact hA j (by omega)
  · have hke : i = n := by omega
    subst hke
    obtain ⟨rfl, rfl⟩ := hmiss hA
    refine ⟨[], hintL [(fIndexF, 2, 0, hv (.lit false))], [], fun _ _ => noC, fun _ _ => noL, fun F => ?_⟩
    refine cast (congrArg (VAll _) (oIfE_eq M i c v i F).symm) ⟨⟨?_, rfl, .inr ⟨rfl, [], rfl, rfl, trivial, ⟨_, rfl, rI_ow rfl rfl⟩, ⟨_, rfl, box_ow _ v⟩, trivial⟩⟩⟩
    simp only [Cnd.holds, and_true]
    exact wk_litE ltF
/-! DeleteFunc. -/
/-- Without a number. -/
def wo (v : Int) (L : List Int) : List Int := L.filter fun x => !(x == v)
theorem wo_len (v : Int) (L : List Int) : (wo v L).length ≤ L.length := List.length_filter_le _ _
theorem wo_next (v : Int) (L : List Int) (i : Nat) (hi : i < L.length) : wo v (L.take (i + 1)) = if L.getD i 0 = v then wo v (L.take i) else wo v (L.take i) ++ [L.getD i 0] := by
  unfold wo
  rw [take_next L 0 i hi, List.filter_append, List.filter_cons, List.filter_nil]
  by_cases h : L.getD i 0 = v
  · rw [if_pos h, beqT h]; simp
  · rw [if_neg h, beqF h]; simp
/-- The row while it is gone through: what is kept, what was there. -/
def dlR (v : Int) (M : List Int) (j : Nat) : List Int := wo v (M.take j) ++ M.drop (wo v (M.take j)).length
theorem dlR_len (v : Int) (M : List Int) (j : Nat) : (dlR v M j).length = M.length := by
  have h1 := wo_len v (M.take j)
  have h2 := List.length_take_le j M
  have h3 := List.length_take_le' j M
  unfold dlR
  rw [List.length_append, List.length_drop]
  omega
theorem dlR_at (v : Int) (M : List Int) (j : Nat) (hj : j < M.length) : (dlR v M j).getD j 0 = M.getD j 0 := by
  have h1 := wo_len v (M.take j)
  rw [List.length_take, Nat.min_eq_left (Nat.le_of_lt hj)] at h1
  unfold dlR
  simp only [List.getD]
  rw [List.getElem?_append_right h1, List.getElem?_drop]
  congr 2
  omega
theorem dlR_step (v : Int) (M : List Int) (j : Nat) (hj : j < M.length) (hx : M.getD j 0 ≠ v) : (dlR v M j).set (wo v (M.take j)).length (M.getD j 0) = dlR v M (j + 1) := by
  have h1 := wo_len v (M.take j)
  rw [List.length_take, Nat.min_eq_left (Nat.le_of_lt hj)] at h1
  unfold dlR
  rw [wo_next v M j hj, if_neg hx]
  obtain ⟨y, r, hr⟩ : ∃ y r, M.drop (wo v (M.take j)).length = y :: r := by
    cases hd : M.drop (wo v (M.take j)).length with
    | nil => have := congrArg List.length hd; rw [List.length_drop] at this; simp at this; omega
    | cons y r => exact ⟨y, r, rfl⟩
  have hr' : M.drop ((wo v (M.take j)).length + 1) = r := by
    rw [← List.drop_drop, hr]; rfl
  rw [hr, List.length_append, List.set_append_right _ _ (Nat.le_refl _), Nat.sub_self, List.set_cons_zero]
  show _ = _ ++ M.drop ((wo v (M.take j)).length + 1)
  rw [hr', List.append_assoc]
  rfl
theorem dlR_skip (v : Int) (M : List Int) (j : Nat) (hj : j < M.length) (hx : M.getD j 0 = v) : dlR v M j = dlR v M (j + 1) := by
  unfold dlR
  rw [wo_next v M j hj, if_pos hx]
theorem wo_take_same (v : Int) (M : List Int) (k : Nat) (h : ∀ j, j < k → M.getD j 0 ≠ v) (hk : k ≤ M.length) : wo v (M.take k) = M.take k := by
  unfold wo
  rw [List.filter_eq_self]
  intro x hx
  obtain ⟨i, hi, rfl⟩ := List.mem_iff_getElem.1 hx
  rw [List.length_take] at hi
  have := h i (by omega)
  rw [List.getElem_take]
  rw [List.getD_eq_getElem?_getD, List.getElem?_eq_getElem (by omega)] at this
  simpa using this
theorem dl_loop (M : List Int) (n c : Nat) (v : Int) (hn : n ≤ M.length) (hC : Cnt n) (k : Nat) (hk : k < n) (hkv : M.getD k 0 = v) (hf : ∀ j, j < k → M.getD j 0 ≠ v) :
    LTri Try.prog default (loopN fDel 5) (tms 0 42 (aDl n c k (k + 1))) (oIf M v) (.exit 0) (tms 0 42 [(0, sI 0 n c), (5, iv (Int.ofNat (wo v (M.take n)).length))]) (oIf (dlR v M n) v) := by
  have hk1 : wo v (M.take (k + 1)) = M.take k := by rw [wo_next v M k (by omega), if_pos hkv, wo_take_same v M k hf (by omega)]
  have hkl : (M.take k).length = k := by rw [List.length_take]; omega
  have hk2 : dlR v M (k + 1) = M := by unfold dlR; rw [hk1, hkl, List.take_append_drop]
  have key := ltri_run (W := default) (g := fDel) (b := loopN fDel 5) (σ := {j : Nat // j ≤ n}) 42 (fun j => aDl n c (wo v (M.take j.1)).length j.1) (fun j => oIf (dlR v M j.1) v) (.exit 0) [(0, sI 0 n c), (5, iv (Int.ofNat (wo v (M.take n)).length))] (oIf (dlR v M n) v) (fun j => n - j.1) [0, 1] [0, 1, 5, 6] (by intro h; cases h) (fun _ => rfl) rfl ?_ ⟨k + 1, hk⟩
  · simp only [hk1, hkl, hk2] at key
    exact key
  rintro ⟨j, hj⟩
  by_cases h1 : j < n
  · have hjM : j < M.length := by omega
    have hjD : j < (dlR v M j).length := by rw [dlR_len]; exact hjM
    have g0 : ∀ d, (rowV encI (dlR v M j)).getD (0 + j * 1) d = iv (M.getD j 0) := fun d => by rw [rI_get _ j hjD, dlR_at v M j hjM]
    have g1 := rI_lt _ j hjD
    have e1 := ltTC h1
    have hw := wrap_succ j (hC.lt h1)
    have hlt : (wo v (M.take j)).length ≤ j := by have := wo_len v (M.take j); rw [List.length_take] at this; omega
    by_cases hx : M.getD j 0 = v
    · refine ⟨[], hDl (wo v (M.take j)).length j v false, [], fun _ _ => noC, fun _ _ => noL, fun F => ?_⟩
      have hnx : wo v (M.take (j + 1)) = wo v (M.take j) := by rw [wo_next v M j hjM, if_pos hx]
      refine cast (congrArg (VAll _) (oDlN_eq (dlR v M j) n c v (wo v (M.take j)).length j v F).symm) ⟨⟨?_, rfl, .inl ⟨rfl, ⟨j + 1, h1⟩, sub_down h1, [], rfl, rfl, ⟨Wk.refl _, Wk.refl _, wk_int (by rw [hnx]), Wk.refl _, trivial⟩, ⟨_, rfl, rI_ow (by rw [dlR_skip v M j hjM hx]) rfl⟩, ⟨_, rfl, box_ow _ v⟩, trivial⟩⟩⟩
      have hb : (!(v == v)) = false := by rw [beqT rfl]; rfl
      rw [hx] at g0
      simp only [Cnd.holds, g0, g1, e1, hb, h1, Nat.blt_eq, true_and, and_true]
      and_intros
      all_goals first
        | (with_reducible exact wk_int hw)
        | (with_reducible exact trivial)
        | (with_reducible exact rfl)
        | (with_reducible exact Wk.refl _)
        | (with_reducible exact VW.refl _)
        | (with_reducible exact OW.refl _)
        | (with_reducible exact wk_lit _)
        | (with_reducible assumption)
        | exact rfl
        | exact Wk.refl _
        | exact VW.refl _
        | exact OW.refl _
        | ((repeat (first | exact VW.nil | refine VW.cons (Wk.refl _) ?_ | refine VW.cons (Wk.any _) ?_ | refine VW.cons (wk_cap (Nat.le_refl _)) ?_)); done)
    · refine ⟨[], hDl (wo v (M.take j)).length j (M.getD j 0) true, [], fun _ _ => noC, fun _ _ => noL, fun F => ?_⟩
      have hnx : wo v (M.take (j + 1)) = wo v (M.take j) ++ [M.getD j 0] := by rw [wo_next v M j hjM, if_neg hx]
      have h2 : (wo v (M.take j)).length < n := by omega
      have h3 : (wo v (M.take j)).length < (dlR v M j).length := by rw [dlR_len]; omega
      have g2 := rI_in _ _ h3
      have hw2 := wrap_succ (wo v (M.take j)).length (hC.lt h2)
      refine cast (congrArg (VAll _) (oDlK_eq (dlR v M j) n c v (wo v (M.take j)).length j (M.getD j 0) F).symm) ⟨⟨?_, rfl, .inl ⟨rfl, ⟨j + 1, h1⟩, sub_down h1, [], rfl, rfl, ⟨Wk.refl _, Wk.refl _, wk_int (by rw [hnx, List.length_append]; rfl), Wk.refl _, trivial⟩, ⟨_, rfl, rI_ow (by rw [rI_set _ _ _ h3, dlR_step v M j hjM hx]) rfl⟩, ⟨_, rfl, box_ow _ v⟩, trivial⟩⟩⟩
      have hb : (!(M.getD j 0 == v)) = true := by rw [beqF hx]; rfl
      simp only [Cnd.holds, g0, g1, e1, hb, h1, h2, g2, Nat.blt_eq, true_and, and_true]
      and_intros
      all_goals first
        | (with_reducible exact wk_int hw)
        | (with_reducible exact wk_int hw2)
        | (with_reducible exact trivial)
        | (with_reducible exact rfl)
        | (with_reducible exact Wk.refl _)
        | (with_reducible exact VW.refl _)
        | (with_reducible exact OW.refl _)
        | (with_reducible exact wk_lit _)
        | (with_reducible assumption)
        | exact rfl
        | exact Wk.refl _
        | exact VW.refl _
        | exact OW.refl _
        | ((repeat (first | exact VW.nil | refine VW.cons (Wk.refl _) ?_ | refine VW.cons (Wk.any _) ?_ | refine VW.cons (wk_cap (Nat.le_refl _)) ?_)); done)
  · have hke : j = n := by omega
    subst hke
    refine ⟨[], hintL [(fDel, 5, 3, hv (.lit false))], [], fun _ _ => noC, fun _ _ => noL, fun F => ?_⟩
    refine cast (congrArg (VAll _) (oDlE_eq (dlR v M j) j c v (wo v (M.take j)).length j F).symm) ⟨⟨?_, rfl, .inr ⟨rfl, [], rfl, rfl, ⟨Wk.refl _, Wk.refl _, trivial⟩, ⟨_, rfl, rI_ow rfl rfl⟩, ⟨_, rfl, box_ow _ v⟩, trivial⟩⟩⟩
    simp only [Cnd.holds, and_true]
    exact wk_litE ltFC
end Go.Proofs.Ytjjjchmkonnpfaa.Que

/- Queue: the consumers in their turn: runs. -/
set_option linter.unusedVariables false
set_option linter.unusedSimpArgs false
set_option maxRecDepth 100000
namespace Go.Proofs.Ytjjjchmkonnpfaa.Que
open Go Go.RowKit Go.Proofs.Ytjjjchmkonnpfaa.Eng Go.Proofs.Ytjjjchmkonnpfaa.Kit
noncomputable section
abbrev tQ : TypeId := 2 * 64
abbrev fJoin : Nat := 8
abbrev fLeave : Nat := 28
abbrev fTurn : Nat := 9
abbrev fCons : Nat := 11
abbrev fNew : Nat := 7
def nilV : AV := .v (.slice none 0 0)
/-- A queue of which the turn alone is told. -/
def hdrQ (s : AV) : AO := .cells [.any, .any, .any, .any, .any, .any, .any, .any, .any, .any, .any, .any, .any, .any, s] tQ
def uQ0 : LH := [(0, hdrQ nilV)]
def uQ (L g : List Int) : LH := [(0, hdrQ (sI 1001 L.length (L.length + g.length))), (1001, rI (L ++ g))]
/-! Contracts of loops. -/
def gSl : List AV → AP Nat := fun tmps => match getL tmps 0 with
  | .slice r0 _ _ _ _ => .ret r0
  | _ => .fail "slice"
def lIx (M : List Int) (n c : Nat) (v : Int) (ax : AX) (Z : List (Nat × AV)) : List AV → AP (AX × List AV) := mkL gSl (fun _ => True) (fun p _ => p) (fun _ => tms 0 19 (aIx n c v 0)) (fun _ => [(0, rI M)]) (fun _ => .leaf ax (tms 0 19 Z) [(0, rI M)])
def gFn : List AV → AP (Nat × Nat) := fun tmps => match getL tmps 0 with
  | .slice r0 _ _ _ _ => match getL tmps 1 with
    | .func _ _ [.ptr r1 _] => .ret (r0, r1)
    | _ => .fail "func"
  | _ => .fail "slice"
def nm2 (p q : Nat) : Nat → Nat := fun k => match Nat.beq k 0 with
  | true => p
  | false => q
def lIf (M : List Int) (n c : Nat) (v : Int) (ax : AX) (Z : List (Nat × AV)) : List AV → AP (AX × List AV) := mkL gFn (fun _ => True) (fun p => nm2 p.1 p.2) (fun _ => tms 0 19 (aIf n c 0)) (fun _ => oIf M v) (fun _ => .leaf ax (tms 0 19 Z) (oIf M v))
def lDl (M : List Int) (n c : Nat) (v : Int) (k m : Nat) (M' : List Int) : List AV → AP (AX × List AV) := mkL gFn (fun _ => True) (fun p => nm2 p.1 p.2) (fun _ => tms 0 42 (aDl n c k (k + 1))) (fun _ => oIf M v) (fun _ => .leaf (.exit 0) (tms 0 42 [(0, sI 0 n c), (5, iv (Int.ofNat m))]) (oIf M' v))
/-! Join -/
theorem oJoinF_eq (L g : List Int) (id : Int) (k : Nat) (F : HP) : wRun [] (hintL [(fJoin, 1, 5, hv (.lit true))]) [(fIndex, 2, loopN fIndex 2, lIx (L ++ g) L.length (L.length + g.length) id .ret [(4, iv (Int.ofNat k))])] default fJoin [.ptr 0 0, iv id] (uQ L g) [0, 1001, 1100, 1101] F = VT.leaf (AV.v (Value.bool false)) [some (AO.cells [AV.any, AV.any, AV.any, AV.any, AV.any, AV.any, AV.any, AV.any, AV.any, AV.any, AV.any, AV.any, AV.any, AV.any, AV.slice 1001 0 L.length 1 (Cp.lo (L.length + g.length))] 128), some (AO.cells (AV.rens (sgN (fun x => 1001) [] 0) (rowV encI (L ++ g))) 6), none, none] 1100 (((Cnd.p (true = true)).a Cnd.t).a ((((Cnd.p ((fIndex, 2, loopN fIndex 2, lIx (L ++ g) L.length (L.length + g.length) id AX.ret [(4, iv (Int.ofNat k))]).snd.snd.fst = (fIndex, 2, loopN fIndex 2, lIx (L ++ g) L.length (L.length + g.length) id AX.ret [(4, iv (Int.ofNat k))]).snd.snd.fst)).a ((Cnd.p True).a ((Cnd.p (VW [AV.slice 1001 0 L.length 1 (Cp.lo (L.length + g.length)), AV.v (Value.int IntKind.i64 id), AV.v (Value.tuple (Array.mk [])), AV.v (Value.tuple (Array.mk [])), AV.v (Value.int IntKind.i64 (Int.ofNat 0)), AV.v (Value.tuple (Array.mk [])), AV.slice 1001 0 L.length 1 (Cp.lo (L.length + g.length)), AV.v (Value.int IntKind.i64 ↑L.length), AV.v (Value.int IntKind.i64 (Int.ofNat 0)), AV.v (Value.tuple (Array.mk [])), AV.v (Value.tuple (Array.mk [])), AV.v (Value.tuple (Array.mk [])), AV.v (Value.tuple (Array.mk [])), AV.v (Value.tuple (Array.mk [])), AV.v (Value.tuple (Array.mk [])), AV.v (Value.tuple (Array.mk [])), AV.v (Value.tuple (Array.mk [])), AV.v (Value.tuple (Array.mk [])), AV.v (Value.tuple (Array.mk []))] [AV.slice 1001 0 L.length 1 (Cp.lo (L.length + g.length)), AV.v (Value.int IntKind.i64 id), AV.any, AV.any, AV.any, AV.any, AV.any, AV.v (Value.int IntKind.i64 (Int.ofNat L.length)), AV.v (Value.int IntKind.i64 (Int.ofNat 0)), AV.any, AV.any, AV.any, AV.any, AV.any, AV.any, AV.any, AV.any, AV.any, AV.any])).a ((Cnd.p (OW (AO.cells (rowV encI (L ++ g)) 6) (AO.cells (AV.rens (fun x => 1001) (rowV encI (L ++ g))) 6))).a Cnd.t)))).a ((Cnd.p (Wk (AV.v (Value.bool true)) (AV.lit true))).a Cnd.t)).a Cnd.t)) := by kernel_rfl
theorem oJoinN_eq (L g : List Int) (id : Int) (F : HP) : wRun [] (hintL [(fJoin, 1, 5, hv (.lit false))]) [(fIndex, 2, loopN fIndex 2, lIx (L ++ g) L.length (L.length + g.length) id (.exit 0) [])] default fJoin [.ptr 0 0, iv id] (uQ L g) [0, 1001, 1100, 1101] F = VT.leaf (AV.v (Value.bool true)) [some (AO.cells [AV.any, AV.any, AV.any, AV.any, AV.any, AV.any, AV.any, AV.any, AV.any, AV.any, AV.any, AV.any, AV.any, AV.any, AV.slice 1101 0 (L.length + 1) 1 (Cp.lo (L.length + 1))] 128), none, some (AO.cells [AV.v (Value.int IntKind.i64 id)] 6), some (AO.cells (List.take (L.length * 1) (List.drop 0 (AV.rens (sgN (fun x => 1001) [] 0) (rowV encI (L ++ g)))) ++ [AV.v (Value.int IntKind.i64 id)]) 6)] 1102 (((Cnd.p (true = true)).a Cnd.t).a ((((Cnd.p ((fIndex, 2, loopN fIndex 2, lIx (L ++ g) L.length (L.length + g.length) id (AX.exit 0) []).snd.snd.fst = (fIndex, 2, loopN fIndex 2, lIx (L ++ g) L.length (L.length + g.length) id (AX.exit 0) []).snd.snd.fst)).a ((Cnd.p True).a ((Cnd.p (VW [AV.slice 1001 0 L.length 1 (Cp.lo (L.length + g.length)), AV.v (Value.int IntKind.i64 id), AV.v (Value.tuple (Array.mk [])), AV.v (Value.tuple (Array.mk [])), AV.v (Value.int IntKind.i64 (Int.ofNat 0)), AV.v (Value.tuple (Array.mk [])), AV.slice 1001 0 L.length 1 (Cp.lo (L.length + g.length)), AV.v (Value.int IntKind.i64 ↑L.length), AV.v (Value.int IntKind.i64 (Int.ofNat 0)), AV.v (Value.tuple (Array.mk [])), AV.v (Value.tuple (Array.mk [])), AV.v (Value.tuple (Array.mk [])), AV.v (Value.tuple (Array.mk [])), AV.v (Value.tuple (Array.mk [])), AV.v (Value.tuple (Array.mk [])), AV.v (Value.tuple (Array.mk [])), AV.v (Value.tuple (Array.mk [])), AV.v (Value.tuple (Array.mk [])), AV.v (Value.tuple (Array.mk []))] [AV.slice 1001 0 L.length 1 (Cp.lo (L.length + g.length)), AV.v (Value.int IntKind.i64 id), AV.any, AV.any, AV.any, AV.any, AV.any, AV.v (Value.int IntKind.i64 (Int.ofNat L.length)), AV.v (Value.int IntKind.i64 (Int.ofNat 0)), AV.any, AV.any, AV.any, AV.any, AV.any, AV.any, AV.any, AV.any, AV.any, AV.any])).a ((Cnd.p (OW (AO.cells (rowV encI (L ++ g)) 6) (AO.cells (AV.rens (fun x => 1001) (rowV encI (L ++ g))) 6))).a Cnd.t)))).a ((Cnd.p (Wk (AV.v (Value.bool false)) (AV.lit false))).a Cnd.t)).a (((Cnd.p (true = true)).a Cnd.t).a (((Cnd.p (true = true)).a ((Cnd.p (true = true)).a ((Cnd.p (true = true)).a ((Cnd.p (true = true)).a ((Cnd.p ((0 + L.length * 1).ble (AV.rens (sgN (fun x => 1001) [] 0) (rowV encI (L ++ g))).length = true)).a ((Cnd.p (((L.length + 1) * 8).ble 140737488355328 = true)).a ((Cnd.p ((L.length + 1).ble 9223372036854775807 = true)).a ((Cnd.p ((List.take (L.length * 1) (List.drop 0 (AV.rens (sgN (fun x => 1001) [] 0) (rowV encI (L ++ g))))).length.beq (L.length * 1) = true)).a Cnd.t)))))))).a (((Cnd.p (true = true)).a Cnd.t).a Cnd.t))))) := by kernel_rfl
theorem oJoinZ_eq (id : Int) (F : HP) : wRun [] (hintL [(fJoin, 1, 5, hv (.lit false)), (fIndex, 2, 0, hv (.lit false))]) [] default fJoin [.ptr 0 0, iv id] uQ0 [0, 1001, 1100, 1101] F = VT.leaf (AV.v (Value.bool true)) [some (AO.cells [AV.any, AV.any, AV.any, AV.any, AV.any, AV.any, AV.any, AV.any, AV.any, AV.any, AV.any, AV.any, AV.any, AV.any, AV.slice 1101 0 1 1 (Cp.lo 1)] 128), none, some (AO.cells [AV.v (Value.int IntKind.i64 id)] 6), some (AO.cells [AV.v (Value.int IntKind.i64 id)] 6)] 1102 (((Cnd.p (true = true)).a Cnd.t).a (((((Cnd.p (Wk (AV.v (Value.bool false)) (AV.lit false))).a Cnd.t).a Cnd.t).a ((Cnd.p (Wk (AV.v (Value.bool false)) (AV.lit false))).a Cnd.t)).a (((Cnd.p (true = true)).a Cnd.t).a (((Cnd.p (true = true)).a ((Cnd.p (true = true)).a ((Cnd.p (true = true)).a ((Cnd.p (true = true)).a ((Cnd.p (true = true)).a ((Cnd.p (true = true)).a Cnd.t)))))).a (((Cnd.p (true = true)).a Cnd.t).a Cnd.t))))) := by kernel_rfl
/-! Leave -/
theorem oLeaveF_eq (L g M : List Int) (id : Int) (k m r : Nat) (F : HP) : wRun [] (hintL [(fDel, 2, 1, hv (.lit false)), (fDel, 4, 1, hv (iv (Int.ofNat (k + 1)))), (fDel, 11, 2, hv (.slice 1001 m (r + 1) 1 (.lo (r + 1)))), (fLeave, 3, 6, hv (bv true))]) [(fIndexF, 2, loopN fIndexF 2, lIf (L ++ g) L.length (L.length + g.length) id .ret [(4, iv (Int.ofNat k))]), (fDel, 5, loopN fDel 5, lDl (L ++ g) L.length (L.length + g.length) id k m M)] default fLeave [.ptr 0 0, iv id] (uQ L g) [0, 1001, 1100, 1101] F = VT.leaf (AV.v (Value.bool true)) [some (AO.cells [AV.any, AV.any, AV.any, AV.any, AV.any, AV.any, AV.any, AV.any, AV.any, AV.any, AV.any, AV.any, AV.any, AV.any, AV.slice 1001 0 m 1 (Cp.lo (L.length + g.length - 0))] 128), some (AO.cells (splice (AV.rens (sgN (nm2 1001 1100) [] 0) (rowV encI M)) m (rep [AV.v (Value.int IntKind.i64 (Int.ofNat 0))] (r + 1))) 6), some (AO.cells [AV.v (Value.int IntKind.i64 id)] 6), none] 1101 (((Cnd.p (true = true)).a Cnd.t).a (((Cnd.p (true = true)).a Cnd.t).a ((((Cnd.p ((fIndexF, 2, loopN fIndexF 2, lIf (L ++ g) L.length (L.length + g.length) id AX.ret [(4, iv (Int.ofNat k))]).snd.snd.fst = (fIndexF, 2, loopN fIndexF 2, lIf (L ++ g) L.length (L.length + g.length) id AX.ret [(4, iv (Int.ofNat k))]).snd.snd.fst)).a ((Cnd.p True).a ((Cnd.p (VW [AV.slice 1001 0 L.length 1 (Cp.lo (L.length + g.length)), AV.func (Fn.func 43) [] [AV.ptr 1100 0], AV.v (Value.tuple (Array.mk [])), AV.v (Value.tuple (Array.mk [])), AV.v (Value.int IntKind.i64 (Int.ofNat 0)), AV.v (Value.tuple (Array.mk [])), AV.slice 1001 0 L.length 1 (Cp.lo (L.length + g.length)), AV.v (Value.int IntKind.i64 ↑L.length), AV.v (Value.int IntKind.i64 (Int.ofNat 0)), AV.v (Value.tuple (Array.mk [])), AV.v (Value.tuple (Array.mk [])), AV.v (Value.tuple (Array.mk [])), AV.v (Value.tuple (Array.mk [])), AV.v (Value.tuple (Array.mk [])), AV.v (Value.tuple (Array.mk [])), AV.v (Value.tuple (Array.mk [])), AV.v (Value.tuple (Array.mk [])), AV.v (Value.tuple (Array.mk [])), AV.v (Value.tuple (Array.mk []))] [AV.slice 1001 0 L.length 1 (Cp.lo (L.length + g.length)), AV.func (Fn.func 43) [] [AV.ptr 1100 0], AV.any, AV.any, AV.any, AV.any, AV.any, AV.v (Value.int IntKind.i64 (Int.ofNat L.length)), AV.v (Value.int IntKind.i64 (Int.ofNat 0)), AV.any, AV.any, AV.any, AV.any, AV.any, AV.any, AV.any, AV.any, AV.any, AV.any])).a ((Cnd.p (OW (AO.cells (rowV encI (L ++ g)) 6) (AO.cells (AV.rens (nm2 1001 1100) (rowV encI (L ++ g))) 6))).a ((Cnd.p (OW (AO.cells [AV.v (Value.int IntKind.i64 id)] 6) (AO.cells [AV.v (Value.int IntKind.i64 id)] 6))).a Cnd.t))))).a (((Cnd.p (Wk (AV.v (Value.bool false)) (AV.lit false))).a Cnd.t).a (((Cnd.p (Wk (AV.v (Value.int IntKind.i64 (IntKind.i64.wrap (Int.ofNat k + Int.ofNat 1)))) (AV.v (Value.int IntKind.i64 (Int.ofNat (k + 1)))))).a Cnd.t).a ((Cnd.p ((fDel, 5, loopN fDel 5, lDl (L ++ g) L.length (L.length + g.length) id k m M).snd.snd.fst = (fDel, 5, loopN fDel 5, lDl (L ++ g) L.length (L.length + g.length) id k m M).snd.snd.fst)).a ((Cnd.p True).a ((Cnd.p (VW [AV.slice 1001 0 L.length 1 (Cp.lo (L.length + g.length)), AV.func (Fn.func 43) [] [AV.ptr 1100 0], AV.v (Value.tuple (Array.mk [])), AV.v (Value.tuple (Array.mk [])), AV.v (Value.slice none 0 0), AV.v (Value.int IntKind.i64 (Int.ofNat k)), AV.v (Value.int IntKind.i64 (Int.ofNat (k + 1))), AV.v (Value.tuple (Array.mk [])), AV.slice 1001 0 L.length 1 (Cp.lo (L.length + g.length)), AV.func (Fn.func 43) [] [AV.ptr 1100 0], AV.v (Value.int IntKind.i64 (Int.ofNat k)), AV.v (Value.int IntKind.i64 (Int.ofNat k)), AV.lit false, AV.v (Value.tuple (Array.mk [])), AV.v (Value.int IntKind.i64 (Int.ofNat k)), AV.v (Value.int IntKind.i64 (Int.ofNat (k + 1))), AV.v (Value.tuple (Array.mk [])), AV.v (Value.tuple (Array.mk [])), AV.v (Value.tuple (Array.mk [])), AV.v (Value.tuple (Array.mk [])), AV.v (Value.tuple (Array.mk [])), AV.v (Value.tuple (Array.mk [])), AV.v (Value.tuple (Array.mk [])), AV.v (Value.tuple (Array.mk [])), AV.v (Value.tuple (Array.mk [])), AV.v (Value.tuple (Array.mk [])), AV.v (Value.tuple (Array.mk [])), AV.v (Value.tuple (Array.mk [])), AV.v (Value.tuple (Array.mk [])), AV.v (Value.tuple (Array.mk [])), AV.v (Value.tuple (Array.mk [])), AV.v (Value.tuple (Array.mk [])), AV.v (Value.tuple (Array.mk [])), AV.v (Value.tuple (Array.mk [])), AV.v (Value.tuple (Array.mk [])), AV.v (Value.tuple (Array.mk [])), AV.v (Value.tuple (Array.mk [])), AV.v (Value.tuple (Array.mk [])), AV.v (Value.tuple (Array.mk [])), AV.v (Value.tuple (Array.mk [])), AV.v (Value.tuple (Array.mk [])), AV.v (Value.tuple (Array.mk []))] [AV.slice 1001 0 L.length 1 (Cp.lo (L.length + g.length)), AV.func (Fn.func 43) [] [AV.ptr 1100 0], AV.any, AV.any, AV.any, AV.v (Value.int IntKind.i64 (Int.ofNat k)), AV.v (Value.int IntKind.i64 (Int.ofNat (k + 1))), AV.any, AV.any, AV.any, AV.any, AV.any, AV.any, AV.any, AV.any, AV.any, AV.any, AV.any, AV.any, AV.any, AV.any, AV.any, AV.any, AV.any, AV.any, AV.any, AV.any, AV.any, AV.any, AV.any, AV.any, AV.any, AV.any, AV.any, AV.any, AV.any, AV.any, AV.any, AV.any, AV.any, AV.any, AV.any])).a ((Cnd.p (OW (AO.cells (AV.rens (sgN (nm2 1001 1100) [] 0) (rowV encI (L ++ g))) 6) (AO.cells (AV.rens (nm2 1001 1100) (rowV encI (L ++ g))) 6))).a ((Cnd.p (OW (AO.cells [AV.v (Value.int IntKind.i64 id)] 6) (AO.cells [AV.v (Value.int IntKind.i64 id)] 6))).a (((Cnd.p (m.ble L.length = true)).a ((Cnd.p (L.length.ble (L.length + g.length) = true)).a ((Cnd.p ((L.length + g.length).ble (L.length + g.length) = true)).a ((Cnd.p (Wk (AV.slice 1001 (0 + m * 1) (L.length - m) 1 (Cp.lo (L.length + g.length - m))) (AV.slice 1001 m (r + 1) 1 (Cp.lo (r + 1))))).a Cnd.t)))).a (((Cnd.p ((m + (r + 1) * 1).ble (AV.rens (sgN (nm2 1001 1100) [] 0) (rowV encI M)).length = true)).a Cnd.t).a (((Cnd.p (true = true)).a ((Cnd.p (m.ble (L.length + g.length) = true)).a ((Cnd.p ((L.length + g.length).ble (L.length + g.length) = true)).a Cnd.t))).a Cnd.t))))))))))).a (((Cnd.p (true = true)).a Cnd.t).a (((Cnd.p (true = true)).a Cnd.t).a (((Cnd.p (Wk (AV.v (Value.bool (decide ((↑m : Int) < ↑L.length)))) (AV.v (Value.bool true)))).a Cnd.t).a Cnd.t)))))) := by kernel_rfl
theorem oLeaveN_eq (L g : List Int) (id : Int) (F : HP) : wRun [] (hintL [(fDel, 2, 1, hv (.lit true)), (fLeave, 3, 6, hv (bv false))]) [(fIndexF, 2, loopN fIndexF 2, lIf (L ++ g) L.length (L.length + g.length) id (.exit 0) [])] default fLeave [.ptr 0 0, iv id] (uQ L g) [0, 1001, 1100, 1101] F = VT.leaf (AV.v (Value.bool false)) [some (AO.cells [AV.any, AV.any, AV.any, AV.any, AV.any, AV.any, AV.any, AV.any, AV.any, AV.any, AV.any, AV.any, AV.any, AV.any, AV.slice 1001 0 L.length 1 (Cp.lo (L.length + g.length))] 128), some (AO.cells (AV.rens (sgN (nm2 1001 1100) [] 0) (rowV encI (L ++ g))) 6), some (AO.cells [AV.v (Value.int IntKind.i64 id)] 6), none] 1101 (((Cnd.p (true = true)).a Cnd.t).a (((Cnd.p (true = true)).a Cnd.t).a ((((Cnd.p ((fIndexF, 2, loopN fIndexF 2, lIf (L ++ g) L.length (L.length + g.length) id (AX.exit 0) []).snd.snd.fst = (fIndexF, 2, loopN fIndexF 2, lIf (L ++ g) L.length (L.length + g.length) id (AX.exit 0) []).snd.snd.fst)).a ((Cnd.p True).a ((Cnd.p (VW [AV.slice 1001 0 L.length 1 (Cp.lo (L.length + g.length)), AV.func (Fn.func 43) [] [AV.ptr 1100 0], AV.v (Value.tuple (Array.mk [])), AV.v (Value.tuple (Array.mk [])), AV.v (Value.int IntKind.i64 (Int.ofNat 0)), AV.v (Value.tuple (Array.mk [])), AV.slice 1001 0 L.length 1 (Cp.lo (L.length + g.length)), AV.v (Value.int IntKind.i64 ↑L.length), AV.v (Value.int IntKind.i64 (Int.ofNat 0)), AV.v (Value.tuple (Array.mk [])), AV.v (Value.tuple (Array.mk [])), AV.v (Value.tuple (Array.mk [])), AV.v (Value.tuple (Array.mk [])), AV.v (Value.tuple (Array.mk [])), AV.v (Value.tuple (Array.mk [])), AV.v (Value.tuple (Array.mk [])), AV.v (Value.tuple (Array.mk [])), AV.v (Value.tuple (Array.mk [])), AV.v (Value.tuple (Array.mk []))] [AV.slice 1001 0 L.length 1 (Cp.lo (L.length + g.length)), AV.func (Fn.func 43) [] [AV.ptr 1100 0], AV.any, AV.any, AV.any, AV.any, AV.any, AV.v (Value.int IntKind.i64 (Int.ofNat L.length)), AV.v (Value.int IntKind.i64 (Int.ofNat 0)), AV.any, AV.any, AV.any, AV.any, AV.any, AV.any, AV.any, AV.any, AV.any, AV.any])).a ((Cnd.p (OW (AO.cells (rowV encI (L ++ g)) 6) (AO.cells (AV.rens (nm2 1001 1100) (rowV encI (L ++ g))) 6))).a ((Cnd.p (OW (AO.cells [AV.v (Value.int IntKind.i64 id)] 6) (AO.cells [AV.v (Value.int IntKind.i64 id)] 6))).a Cnd.t))))).a (((Cnd.p (Wk (AV.v (Value.bool true)) (AV.lit true))).a Cnd.t).a Cnd.t)).a (((Cnd.p (true = true)).a Cnd.t).a (((Cnd.p (true = true)).a Cnd.t).a (((Cnd.p (Wk (AV.v (Value.bool (decide ((↑L.length : Int) < ↑L.length)))) (AV.v (Value.bool false)))).a Cnd.t).a Cnd.t)))))) := by kernel_rfl
theorem oLeaveZ_eq (id : Int) (F : HP) : wRun [] (hintL [(fDel, 2, 1, hv (.lit true)), (fLeave, 3, 6, hv (bv false)), (fIndexF, 2, 0, hv (.lit false))]) [] default fLeave [.ptr 0 0, iv id] uQ0 [0, 1001, 1100, 1101] F = VT.leaf (AV.v (Value.bool false)) [some (AO.cells [AV.any, AV.any, AV.any, AV.any, AV.any, AV.any, AV.any, AV.any, AV.any, AV.any, AV.any, AV.any, AV.any, AV.any, AV.v (Value.slice none 0 0)] 128), none, some (AO.cells [AV.v (Value.int IntKind.i64 id)] 6), none] 1101 (((Cnd.p (true = true)).a Cnd.t).a (((Cnd.p (true = true)).a Cnd.t).a (((((Cnd.p (Wk (AV.v (Value.bool false)) (AV.lit false))).a Cnd.t).a Cnd.t).a (((Cnd.p (Wk (AV.v (Value.bool true)) (AV.lit true))).a Cnd.t).a Cnd.t)).a (((Cnd.p (true = true)).a Cnd.t).a (((Cnd.p (true = true)).a Cnd.t).a (((Cnd.p (Wk (AV.v (Value.bool false)) (AV.v (Value.bool false)))).a Cnd.t).a Cnd.t)))))) := by kernel_rfl
/-! Consumers -/
theorem oCons_eq (L g : List Int) (F : HP) : wRun [] (hintL [(29, 1, 1, hv (.lit false))]) [] default fCons [.ptr 0 0] (uQ L g) [0, 1001, 1100, 1101] F = VT.leaf (AV.slice 1101 0 (0 + L.length) 1 (Cp.lo (0 + L.length))) [some (AO.cells [AV.any, AV.any, AV.any, AV.any, AV.any, AV.any, AV.any, AV.any, AV.any, AV.any, AV.any, AV.any, AV.any, AV.any, AV.slice 1001 0 L.length 1 (Cp.lo (L.length + g.length))] 128), some (AO.cells (rowV encI (L ++ g)) 6), some (AO.cells (rep [AV.v (Value.int IntKind.i64 (Int.ofNat 0))] 0) 6), some (AO.cells ([] ++ List.take (L.length * 1) (List.drop 0 (rowV encI (L ++ g)))) 6)] 1102 (((Cnd.p (true = true)).a Cnd.t).a ((((Cnd.p (Wk (AV.v (Value.bool false)) (AV.lit false))).a Cnd.t).a (((Cnd.p (L.length.ble L.length = true)).a ((Cnd.p ((List.take (L.length * 1) (List.drop 0 (rowV encI (L ++ g)))).length.beq (L.length * 1) = true)).a ((Cnd.p ((List.take (L.length * 1) (List.drop 0 (rowV encI (L ++ g)))).all AV.one = true)).a ((Cnd.p (Nat.blt 0 L.length = true)).a ((Cnd.p (true = true)).a ((Cnd.p (((0 + L.length) * 8).ble 140737488355328 = true)).a ((Cnd.p ((0 + L.length).ble 9223372036854775807 = true)).a ((Cnd.p (true = true)).a ((Cnd.p (Nat.blt 0 (0 + L.length) = true)).a Cnd.t))))))))).a Cnd.t)).a Cnd.t)) := by kernel_rfl
theorem oConsZ_eq (F : HP) : wRun [] (hintL [(29, 1, 1, hv (.lit true))]) [] default fCons [.ptr 0 0] uQ0 [0, 1001, 1100, 1101] F = VT.leaf (AV.v (Value.slice none 0 0)) [some (AO.cells [AV.any, AV.any, AV.any, AV.any, AV.any, AV.any, AV.any, AV.any, AV.any, AV.any, AV.any, AV.any, AV.any, AV.any, AV.v (Value.slice none 0 0)] 128), none, none, none] 1100 (((Cnd.p (true = true)).a Cnd.t).a ((((Cnd.p (Wk (AV.v (Value.bool true)) (AV.lit true))).a Cnd.t).a Cnd.t).a Cnd.t)) := by kernel_rfl
end
end Go.Proofs.Ytjjjchmkonnpfaa.Que

/- Queue: the consumers in their turn: Join, Leave, Consumers where the queue lies open. -/
set_option linter.unusedVariables false
set_option linter.unusedSimpArgs false
set_option maxRecDepth 100000
namespace Go.Proofs.Ytjjjchmkonnpfaa.Que
open Go Go.RowKit Go.Proofs.Ytjjjchmkonnpfaa.Eng Go.Proofs.Ytjjjchmkonnpfaa.Kit
theorem con_consL {F : HP} {f : FuncId} {r : Nat} {b : Code} {g : List AV → AP (AX × List AV)} {l : LcL} (h : L1OK Try.prog F b g) (hl : ∀ x ∈ l, L1OK Try.prog F x.2.2.1 x.2.2.2) : ∀ x ∈ (f, r, b, g) :: l, L1OK Try.prog F x.2.2.1 x.2.2.2 := fun x hx => by
  rcases List.mem_cons.1 hx with rfl | hx
  · exact h
  · exact hl x hx
theorem gSl_ro : ∀ args, RO (gSl args) := by
  intro args
  unfold gSl
  split
  · exact RO.ret _
  · exact RO.fail _
theorem gFn_ro : ∀ args, RO (gFn args) := by
  intro args
  unfold gFn
  repeat' split
  all_goals first | exact RO.ret _ | exact RO.fail _
theorem idxI_spec {v : Int} : ∀ {L : List Int}, v ∈ L → idxI v L < L.length ∧ L.getD (idxI v L) 0 = v ∧ ∀ j, j < idxI v L → L.getD j 0 ≠ v
  | [], h => by cases h
  | x :: L, h => by
    unfold idxI
    by_cases e : x = v
    · rw [if_pos e]
      exact ⟨Nat.zero_lt_succ _, e, fun j hj => absurd hj (Nat.not_lt_zero _)⟩
    · rw [if_neg e]
      obtain ⟨h1, h2, h3⟩ := idxI_spec (L := L) (by
        rcases List.mem_cons.1 h with h | h
        · exact absurd h.symm e
        · exact h)
      refine ⟨by simp only [List.length_cons]; omega, by simpa using h2, fun j hj => ?_⟩
      cases j with
      | zero => simpa using e
      | succ j => simpa using h3 j (by omega)
theorem getD_app (L g : List Int) (j : Nat) (hj : j < L.length) : (L ++ g).getD j 0 = L.getD j 0 := by
  simp only [List.getD]
  rw [List.getElem?_append_left hj]
theorem getD_ne {v : Int} {L : List Int} (h : v ∉ L) (j : Nat) (hj : j < L.length) : L.getD j 0 ≠ v := by
  intro e
  refine h ?_
  rw [← e]
  exact getD_lt hj
theorem lIx_hit (L g : List Int) (id : Int) (h : id ∈ L) (hC : Cnt L.length) (F : HP) : L1OK Try.prog F (loopN fIndex 2) (lIx (L ++ g) L.length (L.length + g.length) id .ret [(4, iv (Int.ofNat (idxI id L)))]) := by
  obtain ⟨k1, k2, k3⟩ := idxI_spec h
  refine mkL_ok (W := default) oldDef gSl_ro (fun _ _ => ix_loop (L ++ g) L.length (L.length + g.length) id (by rw [List.length_append]; omega) hC .ret [(4, iv (Int.ofNat (idxI id L)))] (by intro h; cases h) (fun i hi he hf => ⟨rfl, ?_⟩) (fun hn => absurd k2 ?_)) fun _ => ?_
  · have : i = idxI id L := by
      rw [getD_app L g i hi] at he
      rcases Nat.lt_trichotomy i (idxI id L) with hlt | heq | hgt
      · exact absurd he (k3 i hlt)
      · exact heq
      · have := hf _ hgt
        rw [getD_app L g _ k1] at this
        exact absurd k2 this
    rw [this]
  · have := hn _ k1
    rwa [getD_app L g _ k1] at this
  · simp only [RT.pick]
    exact closedT rfl rfl (all_cons rfl (all_cons trivial (all_cons trivial (all_cons trivial all_nil)))) (all_cons (rI_cl _ _) all_nil) (all_cons trivial all_nil) (all_cons (rI_cl _ _) all_nil)
theorem lIx_miss (L g : List Int) (id : Int) (h : id ∉ L) (hC : Cnt L.length) (F : HP) : L1OK Try.prog F (loopN fIndex 2) (lIx (L ++ g) L.length (L.length + g.length) id (.exit 0) []) := by
  refine mkL_ok (W := default) oldDef gSl_ro (fun _ _ => ix_loop (L ++ g) L.length _ id (by rw [List.length_append]; omega) hC (.exit 0) _ (by intro h; cases h) (fun i hi he hf => ?_) (fun hn => ⟨rfl, rfl⟩)) fun _ => ?_
  · rw [getD_app L g i hi] at he
    exact absurd he (getD_ne h i hi)
  · simp only [RT.pick]
    exact closedT rfl rfl (all_cons rfl (all_cons trivial (all_cons trivial (all_cons trivial all_nil)))) (all_cons (rI_cl _ _) all_nil) all_nil (all_cons (rI_cl _ _) all_nil)
theorem oIf_cl (K : Nat → Bool) (M : List Int) (v : Int) : ∀ x ∈ oIf M v, x.2.cl K := all_cons (rI_cl _ _) (all_cons ⟨trivial, trivial⟩ all_nil)
theorem aIf_cl (K : Nat → Bool) (h0 : K 0 = true) (h1 : K 1 = true) (n c i : Nat) : ∀ x ∈ aIf n c i, AV.cl K x.2 := all_cons h0 (all_cons ⟨trivial, h1, trivial⟩ (all_cons trivial (all_cons trivial all_nil)))
theorem lIf_hit (L g : List Int) (id : Int) (h : id ∈ L) (hC : Cnt L.length) (F : HP) : L1OK Try.prog F (loopN fIndexF 2) (lIf (L ++ g) L.length (L.length + g.length) id .ret [(4, iv (Int.ofNat (idxI id L)))]) := by
  obtain ⟨k1, k2, k3⟩ := idxI_spec h
  refine mkL_ok (W := default) oldDef gFn_ro (fun _ _ => if_loop (L ++ g) L.length (L.length + g.length) id (by rw [List.length_append]; omega) hC .ret [(4, iv (Int.ofNat (idxI id L)))] (by intro h; cases h) (fun i hi he hf => ⟨rfl, ?_⟩) (fun hn => absurd k2 ?_)) fun _ => ?_
  · have : i = idxI id L := by
      rw [getD_app L g i hi] at he
      rcases Nat.lt_trichotomy i (idxI id L) with hlt | heq | hgt
      · exact absurd he (k3 i hlt)
      · exact heq
      · have := hf _ hgt
        rw [getD_app L g _ k1] at this
        exact absurd k2 this
    rw [this]
  · have := hn _ k1
    rwa [getD_app L g _ k1] at this
  · simp only [RT.pick]
    exact closedT rfl rfl (aIf_cl _ rfl rfl _ _ _) (oIf_cl _ _ _) (all_cons trivial all_nil) (oIf_cl _ _ _)
theorem lIf_miss (L g : List Int) (id : Int) (h : id ∉ L) (hC : Cnt L.length) (F : HP) : L1OK Try.prog F (loopN fIndexF 2) (lIf (L ++ g) L.length (L.length + g.length) id (.exit 0) []) := by
  refine mkL_ok (W := default) oldDef gFn_ro (fun _ _ => if_loop (L ++ g) L.length _ id (by rw [List.length_append]; omega) hC (.exit 0) _ (by intro h; cases h) (fun i hi he hf => ?_) (fun hn => ⟨rfl, rfl⟩)) fun _ => ?_
  · rw [getD_app L g i hi] at he
    exact absurd he (getD_ne h i hi)
  · simp only [RT.pick]
    exact closedT rfl rfl (aIf_cl _ rfl rfl _ _ _) (oIf_cl _ _ _) all_nil (oIf_cl _ _ _)
theorem lDl_ok (L g : List Int) (id : Int) (h : id ∈ L) (hC : Cnt L.length) (F : HP) : L1OK Try.prog F (loopN fDel 5) (lDl (L ++ g) L.length (L.length + g.length) id (idxI id L) (wo id L).length (dlR id (L ++ g) L.length)) := by
  obtain ⟨k1, k2, k3⟩ := idxI_spec h
  have ht : (L ++ g).take L.length = L := by simp
  refine mkL_ok (W := default) oldDef gFn_ro (fun _ _ => ?_) fun _ => ?_
  · have := dl_loop (L ++ g) L.length (L.length + g.length) id (by rw [List.length_append]; omega) hC (idxI id L) k1 (by rw [getD_app L g _ k1]; exact k2) (fun j hj => by rw [getD_app L g j (by omega)]; exact k3 j hj)
    rw [ht] at this
    exact this
  · simp only [RT.pick]
    exact closedT rfl rfl (all_cons rfl (all_cons ⟨trivial, rfl, trivial⟩ (all_cons trivial (all_cons trivial all_nil)))) (oIf_cl _ _ _) (all_cons rfl (all_cons trivial all_nil)) (oIf_cl _ _ _)
theorem wk_sl {j k off n n' c : Nat} {cp : Cp} {σ : Nat → Nat} (hj : σ k = j) (ho : off = 0) (hn : n = n') (hc : c ≤ cp.least) : Wk (.slice j off n 1 cp) (AV.ren σ (sI k n' c)) := by
  subst hj ho hn
  simp only [sI, AV.ren]
  exact wk_cap hc
theorem wk_slE {j off n n' c : Nat} {cp : Cp} (ho : off = 0) (hn : n = n') (hc : c ≤ cp.least) : Wk (.slice j off n 1 cp) (.slice j 0 n' 1 (.lo c)) := by
  subst ho hn
  exact wk_cap hc
/-- Cells that tell less. -/
theorem ow_cellsW {cs cs' : List AV} {e : TypeId} (hl : cs.length = cs'.length) (h : VW cs cs') : OW (.cells cs e) (.cells cs' e) := by
  intro N i D w hw
  obtain ⟨l, arr, fz, q1, q2, q3, q4, q5, q6, q7, q8⟩ := hw
  exact ⟨l, arr, fz, q1, q2, q3, q4, by rw [← hl]; exact q5, q6, by rw [← hl]; exact h _ _ q7, q8⟩
/-- The heading with another turn. -/
theorem hdrQ_ow {σ : Nat → Nat} {s s' : AV} {e : TypeId} (h : Wk s (s'.ren σ)) (he : e = tQ) : OW (.cells [.any, .any, .any, .any, .any, .any, .any, .any, .any, .any, .any, .any, .any, .any, s] e) ((hdrQ s').ren σ) := by
  subst he
  exact ow_cellsW rfl (VW.cons (Wk.refl _) (VW.cons (Wk.refl _) (VW.cons (Wk.refl _) (VW.cons (Wk.refl _) (VW.cons (Wk.refl _) (VW.cons (Wk.refl _) (VW.cons (Wk.refl _) (VW.cons (Wk.refl _) (VW.cons (Wk.refl _) (VW.cons (Wk.refl _) (VW.cons (Wk.refl _) (VW.cons (Wk.refl _) (VW.cons (Wk.refl _) (VW.cons (Wk.refl _) (VW.cons h VW.nil)))))))))))))))
/-! Join -/
def RoomT (n : Nat) : Prop := (n + 1) * 8 ≤ 140737488355328
theorem RoomT.cnt {n : Nat} (h : RoomT n) : Cnt n := by unfold RoomT at h; unfold Cnt; omega
theorem joinF_tri (L g : List Int) (id : Int) (h : id ∈ L) (hR : RoomT L.length) : Tri Try.prog default fJoin [.ptr 0 0, iv id] (uQ L g) (.v (.bool false)) (uQ L g) := by
  refine tri_run (con := []) (hints := hintL [(fJoin, 1, 5, hv (.lit true))]) (lc := [(fIndex, 2, loopN fIndex 2, lIx (L ++ g) L.length (L.length + g.length) id .ret [(4, iv (Int.ofNat (idxI id L)))])]) [0, 1001, 1100, 1101] rfl (fun _ _ => noC) (fun F _ => one_l (lIx_hit L g id h hR.cnt F)) fun F => ?_
  refine cast (congrArg (VAll _) (oJoinF_eq L g id (idxI id L) F).symm) ⟨⟨?_, (fit_mk (vs' := [.v (.bool false)]) (H' := uQ L g) [(1001, 1001)] rfl rfl (VW.refl _) ⟨⟨_, rfl, hdrQ_ow (Wk.refl _) rfl⟩, ⟨_, rfl, rI_ow (rens_rowV _ _) rfl⟩, trivial⟩).fits rfl⟩⟩
  simp only [Cnd.holds, rens_rowV, Nat.blt_eq, true_and, and_true]
  and_intros
  all_goals first
    | (with_reducible exact trivial)
    | (with_reducible exact rfl)
    | (with_reducible exact Wk.refl _)
    | (with_reducible exact VW.refl _)
    | (with_reducible exact OW.refl _)
    | (with_reducible exact wk_lit _)
    | (with_reducible assumption)
    | exact rfl
    | exact Wk.refl _
    | exact VW.refl _
    | exact OW.refl _
    | ((repeat (first | exact VW.nil | refine VW.cons (Wk.refl _) ?_ | refine VW.cons (Wk.any _) ?_ | refine VW.cons (wk_cap (Nat.le_refl _)) ?_)); done)
theorem joinN_tri (L g : List Int) (id : Int) (h : id ∉ L) (hR : RoomT L.length) : Tri Try.prog default fJoin [.ptr 0 0, iv id] (uQ L g) (.v (.bool true)) (uQ (L ++ [id]) []) := by
  refine tri_run (con := []) (hints := hintL [(fJoin, 1, 5, hv (.lit false))]) (lc := [(fIndex, 2, loopN fIndex 2, lIx (L ++ g) L.length (L.length + g.length) id (.exit 0) [])]) [0, 1001, 1100, 1101] rfl (fun _ _ => noC) (fun F _ => one_l (lIx_miss L g id h hR.cnt F)) fun F => ?_
  have hl : (L ++ [id]).length = L.length + 1 := by rw [List.length_append]; rfl
  have ht : List.take (L.length * 1) (List.drop 0 (rowV encI (L ++ g))) = rowV encI L := by
    rw [List.drop_zero, rowV_take encI_len]; simp
  refine cast (congrArg (VAll _) (oJoinN_eq L g id F).symm) ⟨⟨?_, (fit_mk (vs' := [.v (.bool true)]) (H' := uQ (L ++ [id]) []) [(1001, 1101)] rfl rfl (VW.refl _) ⟨⟨_, rfl, hdrQ_ow (wk_sl rfl rfl hl.symm (by rw [hl]; exact Nat.le_refl _)) rfl⟩, ⟨_, rfl, rI_ow (by rw [rens_rowV, ht, List.append_nil, rowV_append]; rfl) rfl⟩, trivial⟩).fits rfl⟩⟩
  have hB : ((L.length + 1) * 8).ble 140737488355328 = true := by rw [Nat.ble_eq]; exact hR
  have hM : (L.length + 1).ble 9223372036854775807 = true := by rw [Nat.ble_eq]; unfold RoomT at hR; omega
  have hin : (0 + L.length * 1).ble (rowV encI (L ++ g)).length = true := by rw [rI_len, Nat.ble_eq, List.length_append]; omega
  have hfull : (rowV encI L).length.beq (L.length * 1) = true := by rw [rI_len, Nat.mul_one]; exact Nat.beq_refl _
  clear hR
  simp only [Cnd.holds, rens_rowV, ht, hB, hM, hin, hfull, Nat.blt_eq, true_and, and_true]
  and_intros
  all_goals first
    | (with_reducible exact trivial)
    | (with_reducible exact rfl)
    | (with_reducible exact Wk.refl _)
    | (with_reducible exact VW.refl _)
    | (with_reducible exact OW.refl _)
    | (with_reducible exact wk_lit _)
    | (with_reducible assumption)
    | exact rfl
    | exact Wk.refl _
    | exact VW.refl _
    | exact OW.refl _
    | ((repeat (first | exact VW.nil | refine VW.cons (Wk.refl _) ?_ | refine VW.cons (Wk.any _) ?_ | refine VW.cons (wk_cap (Nat.le_refl _)) ?_)); done)
theorem joinZ_tri (id : Int) : Tri Try.prog default fJoin [.ptr 0 0, iv id] uQ0 (.v (.bool true)) (uQ [id] []) := by
  refine tri_run (con := []) (hints := hintL [(fJoin, 1, 5, hv (.lit false)), (fIndex, 2, 0, hv (.lit false))]) (lc := []) [0, 1001, 1100, 1101] rfl (fun _ _ => noC) (fun F _ => noL) fun F => ?_
  refine cast (congrArg (VAll _) (oJoinZ_eq id F).symm) ⟨⟨?_, (fit_mk (vs' := [.v (.bool true)]) (H' := uQ [id] []) [(1001, 1101)] rfl rfl (VW.refl _) ⟨⟨_, rfl, hdrQ_ow (wk_sl rfl rfl rfl (Nat.le_refl _)) rfl⟩, ⟨_, rfl, rI_ow rfl rfl⟩, trivial⟩).fits rfl⟩⟩
  simp only [Cnd.holds, Nat.blt_eq, true_and, and_true]
  and_intros
  all_goals first
    | (with_reducible exact trivial)
    | (with_reducible exact rfl)
    | (with_reducible exact Wk.refl _)
    | (with_reducible exact VW.refl _)
    | (with_reducible exact OW.refl _)
    | (with_reducible exact wk_lit _)
    | (with_reducible assumption)
    | exact rfl
    | exact Wk.refl _
    | exact VW.refl _
    | exact OW.refl _
    | ((repeat (first | exact VW.nil | refine VW.cons (Wk.refl _) ?_ | refine VW.cons (Wk.any _) ?_ | refine VW.cons (wk_cap (Nat.le_refl _)) ?_)); done)
/-! Leave -/
theorem rI_map (L : List Int) : rowV encI L = L.map iv := by
  unfold rowV vmap
  induction L with
  | nil => rfl
  | cons x L ih => rw [List.flatMap_cons, List.map_append, ih]; rfl
theorem rep_I (k : Nat) : rep [AV.v (.int .i64 (Int.ofNat 0))] k = (List.replicate k (0 : Int)).map iv := by
  induction k with
  | zero => rfl
  | succ k ih => rw [rep, ih, List.replicate_succ, List.map_cons]; rfl
theorem wo_lt {v : Int} : ∀ {L : List Int}, v ∈ L → (wo v L).length < L.length
  | [], h => by cases h
  | x :: L, h => by
    unfold wo
    rw [List.filter_cons]
    by_cases e : x = v
    · rw [beqT e]
      have := wo_len v L
      unfold wo at this
      simp only [Bool.not_true, Bool.false_eq_true, if_false, List.length_cons]
      omega
    · rw [beqF e]
      have := wo_lt (v := v) (L := L) (by
        rcases List.mem_cons.1 h with h | h
        · exact absurd h.symm e
        · exact h)
      unfold wo at this
      simp only [Bool.not_false, if_true, List.length_cons]
      omega
theorem wo_none {v : Int} {L : List Int} (h : v ∉ L) : wo v L = L := by
  unfold wo
  rw [List.filter_eq_self]
  intro x hx
  have : x ≠ v := fun e => h (e ▸ hx)
  rw [beqF this]; rfl
theorem leaveF_tri (L g : List Int) (id : Int) (h : id ∈ L) (hR : RoomT L.length) : Tri Try.prog default fLeave [.ptr 0 0, iv id] (uQ L g) (.v (.bool true)) (uQ (wo id L) (List.replicate (L.length - (wo id L).length) 0 ++ g)) := by
  obtain ⟨k1, k2, k3⟩ := idxI_spec h
  have hlt := wo_lt h
  obtain ⟨r, hr⟩ : ∃ r, L.length - (wo id L).length = r + 1 := ⟨L.length - (wo id L).length - 1, by omega⟩
  have ht : (L ++ g).take L.length = L := by simp
  rw [hr]
  refine tri_run (con := []) (hints := hintL [(fDel, 2, 1, hv (.lit false)), (fDel, 4, 1, hv (iv (Int.ofNat (idxI id L + 1)))), (fDel, 11, 2, hv (.slice 1001 (wo id L).length (r + 1) 1 (.lo (r + 1)))), (fLeave, 3, 6, hv (bv true))]) (lc := [(fIndexF, 2, loopN fIndexF 2, lIf (L ++ g) L.length (L.length + g.length) id .ret [(4, iv (Int.ofNat (idxI id L)))]), (fDel, 5, loopN fDel 5, lDl (L ++ g) L.length (L.length + g.length) id (idxI id L) (wo id L).length (dlR id (L ++ g) L.length))]) [0, 1001, 1100, 1101] rfl (fun _ _ => noC) (fun F _ => con_consL (lIf_hit L g id h hR.cnt F) (one_l (lDl_ok L g id h hR.cnt F))) fun F => ?_
  have hlen : (dlR id (L ++ g) L.length).length = L.length + g.length := by rw [dlR_len, List.length_append]
  have hrow : splice (rowV encI (dlR id (L ++ g) L.length)) (wo id L).length (rep [AV.v (.int .i64 (Int.ofNat 0))] (r + 1)) = rowV encI (wo id L ++ (List.replicate (r + 1) 0 ++ g)) := by
    have hd : dlR id (L ++ g) L.length = wo id L ++ ((L.drop (wo id L).length) ++ g) := by
      unfold dlR
      rw [ht, List.drop_append, show (wo id L).length - L.length = 0 from by omega]
      rfl
    rw [hd, rep_I, rI_map, rI_map]
    unfold splice
    simp only [List.map_append, List.length_map, List.length_replicate, List.append_assoc]
    rw [List.take_left' (by rw [List.length_map]), ← List.drop_drop, List.drop_left' (by rw [List.length_map]), List.drop_left' (by rw [List.length_map, List.length_drop]; omega)]
  refine cast (congrArg (VAll _) (oLeaveF_eq L g (dlR id (L ++ g) L.length) id (idxI id L) (wo id L).length r F).symm) ⟨⟨?_, (fit_mk (vs' := [.v (.bool true)]) (H' := uQ (wo id L) (List.replicate (r + 1) 0 ++ g)) [(1001, 1001)] rfl rfl (VW.refl _) ⟨⟨_, rfl, hdrQ_ow (wk_sl rfl rfl rfl (by show _ ≤ L.length + g.length - 0; rw [List.length_append, List.length_replicate]; omega)) rfl⟩, ⟨_, rfl, rI_ow (by rw [rens_rowV, hrow]) rfl⟩, trivial⟩).fits rfl⟩⟩
  have hw := wrap_succ (idxI id L) (hR.cnt.lt k1)
  have e1 : (Int.ofNat (idxI id L) == -1) = false := beqF (by simp only [Int.ofNat_eq_natCast]; omega)
  have e2 : decide (((wo id L).length : Int) < (L.length : Int)) = true := decide_eq_true (by omega)
  have b1 : (wo id L).length.ble L.length = true := by rw [Nat.ble_eq]; omega
  have b2 : L.length.ble (L.length + g.length) = true := by rw [Nat.ble_eq]; omega
  have b3 : (L.length + g.length).ble (L.length + g.length) = true := by rw [Nat.ble_eq]; omega
  have b4 : (wo id L).length.ble (L.length + g.length) = true := by rw [Nat.ble_eq]; omega
  have b5 : ((wo id L).length + (r + 1) * 1).ble (rowV encI (dlR id (L ++ g) L.length)).length = true := by rw [rI_len, hlen, Nat.ble_eq]; omega
  have b6 : r + 1 ≤ L.length + g.length - (wo id L).length := by omega
  have b7 : 0 + (wo id L).length * 1 = (wo id L).length := by omega
  clear hR
  simp only [b7, hr]
  simp only [Cnd.holds, rens_rowV, e1, e2, b1, b2, b3, b4, b5, Nat.blt_eq, true_and, and_true]
  and_intros
  all_goals first
    | (with_reducible exact wk_int hw)
    | ((with_reducible refine wk_cap ?_); exact b6)
    | (with_reducible exact wk_litE e1)
    | (with_reducible exact trivial)
    | (with_reducible exact rfl)
    | (with_reducible exact Wk.refl _)
    | (with_reducible exact VW.refl _)
    | (with_reducible exact OW.refl _)
    | (with_reducible exact wk_lit _)
    | (with_reducible assumption)
    | exact rfl
    | exact Wk.refl _
    | exact VW.refl _
    | exact OW.refl _
    | ((repeat (first | exact VW.nil | refine VW.cons (Wk.refl _) ?_ | refine VW.cons (Wk.any _) ?_ | refine VW.cons (wk_cap (Nat.le_refl _)) ?_)); done)
theorem leaveN_tri (L g : List Int) (id : Int) (h : id ∉ L) (hR : RoomT L.length) : Tri Try.prog default fLeave [.ptr 0 0, iv id] (uQ L g) (.v (.bool false)) (uQ L g) := by
  refine tri_run (con := []) (hints := hintL [(fDel, 2, 1, hv (.lit true)), (fLeave, 3, 6, hv (bv false))]) (lc := [(fIndexF, 2, loopN fIndexF 2, lIf (L ++ g) L.length (L.length + g.length) id (.exit 0) [])]) [0, 1001, 1100, 1101] rfl (fun _ _ => noC) (fun F _ => one_l (lIf_miss L g id h hR.cnt F)) fun F => ?_
  refine cast (congrArg (VAll _) (oLeaveN_eq L g id F).symm) ⟨⟨?_, (fit_mk (vs' := [.v (.bool false)]) (H' := uQ L g) [(1001, 1001)] rfl rfl (VW.refl _) ⟨⟨_, rfl, hdrQ_ow (Wk.refl _) rfl⟩, ⟨_, rfl, rI_ow (rens_rowV _ _) rfl⟩, trivial⟩).fits rfl⟩⟩
  have e2 : decide ((L.length : Int) < (L.length : Int)) = false := decide_eq_false (Int.lt_irrefl _)
  simp only [Cnd.holds, rens_rowV, e2, Nat.blt_eq, true_and, and_true]
  and_intros
  all_goals first
    | (with_reducible exact trivial)
    | (with_reducible exact rfl)
    | (with_reducible exact Wk.refl _)
    | (with_reducible exact VW.refl _)
    | (with_reducible exact OW.refl _)
    | (with_reducible exact wk_lit _)
    | (with_reducible assumption)
    | exact rfl
    | exact Wk.refl _
    | exact VW.refl _
    | exact OW.refl _
    | ((repeat (first | exact VW.nil | refine VW.cons (Wk.refl _) ?_ | refine VW.cons (Wk.any _) ?_ | refine VW.cons (wk_cap (Nat.le_refl _)) ?_)); done)
theorem leaveZ_tri (id : Int) : Tri Try.prog default fLeave [.ptr 0 0, iv id] uQ0 (.v (.bool false)) uQ0 := by
  refine tri_run (con := []) (hints := hintL [(fDel, 2, 1, hv (.lit true)), (fLeave, 3, 6, hv (bv false)), (fIndexF, 2, 0, hv (.lit false))]) (lc := []) [0, 1001, 1100, 1101] rfl (fun _ _ => noC) (fun F _ => noL) fun F => ?_
  refine cast (congrArg (VAll _) (oLeaveZ_eq id F).symm) ⟨⟨?_, (fit_mk (vs' := [.v (.bool false)]) (H' := uQ0) [] rfl rfl (VW.refl _) ⟨⟨_, rfl, hdrQ_ow (Wk.refl _) rfl⟩, trivial⟩).fits rfl⟩⟩
  simp only [Cnd.holds, Nat.blt_eq, true_and, and_true]
  and_intros
  all_goals first
    | (with_reducible exact trivial)
    | (with_reducible exact rfl)
    | (with_reducible exact Wk.refl _)
    | (with_reducible exact VW.refl _)
    | (with_reducible exact OW.refl _)
    | (with_reducible exact wk_lit _)
    | (with_reducible assumption)
    | exact rfl
    | exact Wk.refl _
    | exact VW.refl _
    | exact OW.refl _
    | ((repeat (first | exact VW.nil | refine VW.cons (Wk.refl _) ?_ | refine VW.cons (Wk.any _) ?_ | refine VW.cons (wk_cap (Nat.le_refl _)) ?_)); done)
/-! Consumers -/
noncomputable def uQC (L g : List Int) : LH := [(0, hdrQ (sI 1001 L.length (L.length + g.length))), (1001, rI (L ++ g)), (1002, rI L)]
theorem cons_tri (L g : List Int) (h0 : L ≠ []) (hR : RoomT L.length) : Tri Try.prog default fCons [.ptr 0 0] (uQ L g) (sI 1002 L.length L.length) (uQC L g) := by
  refine tri_run (con := []) (hints := hintL [(29, 1, 1, hv (.lit false))]) (lc := []) [0, 1001, 1100, 1101] rfl (fun _ _ => noC) (fun F _ => noL) fun F => ?_
  have ht : List.take (L.length * 1) (List.drop 0 (rowV encI (L ++ g))) = rowV encI L := by
    rw [List.drop_zero, rowV_take encI_len]; simp
  refine cast (congrArg (VAll _) (oCons_eq L g F).symm) ⟨⟨?_, (fit_mk (vs' := [sI 1002 L.length L.length]) (H' := uQC L g) [(1001, 1001), (1002, 1101)] rfl rfl (VW.cons (wk_sl rfl rfl (Nat.zero_add _) (by rw [Nat.zero_add]; exact Nat.le_refl _)) VW.nil) ⟨⟨_, rfl, hdrQ_ow (Wk.refl _) rfl⟩, ⟨_, rfl, rI_ow rfl rfl⟩, ⟨_, rfl, rI_ow (by rw [ht]; rfl) rfl⟩, trivial⟩).fits rfl⟩⟩
  have hp : 0 < L.length := by cases L with | nil => exact absurd rfl h0 | cons x l => exact Nat.zero_lt_succ _
  have hB : (L.length * 8).ble 140737488355328 = true := by rw [Nat.ble_eq]; unfold RoomT at hR; omega
  have hM : L.length.ble 9223372036854775807 = true := by rw [Nat.ble_eq]; unfold RoomT at hR; omega
  have b2 : L.length.ble L.length = true := by rw [Nat.ble_eq]; omega
  have hfull : (rowV encI L).length.beq (L.length * 1) = true := by rw [rI_len, Nat.mul_one]; exact Nat.beq_refl _
  have hone : (rowV encI L).all AV.one = true := one_rowV (fun _ => rfl) L
  clear hR
  simp only [Cnd.holds, ht, Nat.zero_add, hB, hM, b2, hfull, hone, hp, Nat.blt_eq, true_and, and_true]
  and_intros
  all_goals first
    | (with_reducible exact trivial)
    | (with_reducible exact rfl)
    | (with_reducible exact Wk.refl _)
    | (with_reducible exact VW.refl _)
    | (with_reducible exact OW.refl _)
    | (with_reducible exact wk_lit _)
    | (with_reducible assumption)
    | exact rfl
    | exact Wk.refl _
    | exact VW.refl _
    | exact OW.refl _
    | ((repeat (first | exact VW.nil | refine VW.cons (Wk.refl _) ?_ | refine VW.cons (Wk.any _) ?_ | refine VW.cons (wk_cap (Nat.le_refl _)) ?_)); done)
theorem consZ_tri : Tri Try.prog default fCons [.ptr 0 0] uQ0 nilV uQ0 := by
  refine tri_run (con := []) (hints := hintL [(29, 1, 1, hv (.lit true))]) (lc := []) [0, 1001, 1100, 1101] rfl (fun _ _ => noC) (fun F _ => noL) fun F => ?_
  refine cast (congrArg (VAll _) (oConsZ_eq F).symm) ⟨⟨?_, (fit_mk (vs' := [nilV]) (H' := uQ0) [] rfl rfl (VW.refl _) ⟨⟨_, rfl, hdrQ_ow (Wk.refl _) rfl⟩, trivial⟩).fits rfl⟩⟩
  simp only [Cnd.holds, Nat.blt_eq, true_and, and_true]
  and_intros
  all_goals first
    | (with_reducible exact trivial)
    | (with_reducible exact rfl)
    | (with_reducible exact Wk.refl _)
    | (with_reducible exact VW.refl _)
    | (with_reducible exact OW.refl _)
    | (with_reducible exact wk_lit _)
    | (with_reducible assumption)
    | exact rfl
    | exact Wk.refl _
    | exact VW.refl _
    | exact OW.refl _
    | ((repeat (first | exact VW.nil | refine VW.cons (Wk.refl _) ?_ | refine VW.cons (Wk.any _) ?_ | refine VW.cons (wk_cap (Nat.le_refl _)) ?_)); done)
end Go.Proofs.Ytjjjchmkonnpfaa.Que

/- Queue: the consumers in their turn, a queue whole: runs. -/
set_option linter.unusedVariables false
set_option linter.unusedSimpArgs false
set_option maxRecDepth 100000
namespace Go.Proofs.Ytjjjchmkonnpfaa.Que
open Go Go.RowKit Go.Proofs.Ytjjjchmkonnpfaa.Eng Go.Proofs.Ytjjjchmkonnpfaa.Kit
noncomputable section
def gQ : List AV → AP (Nat × Nat) := fun args => match args with
  | .ptr r0 _ :: _ => .read r0 fun o => match o with
    | .cells cs _ => match getL cs 14 with
      | .slice r1 _ _ _ _ => .ret (r0, r1)
      | _ => .fail "queue"
    | _ => .fail "queue"
  | _ => .fail "queue"
def cLvU (L g L' g' : List Int) (id : Int) : List AV → Option (AP AV) := mkC gQ (fun _ => True) (fun p => nm2 p.1 p.2) (fun _ => [.ptr 0 0, iv id]) (fun _ => uQ L g) (fun _ => .leaf .ret [.v (.bool true)] (uQ L' g'))
def cJnU (L g : List Int) (id : Int) : List AV → Option (AP AV) := mkC gQ (fun _ => True) (fun p => nm2 p.1 p.2) (fun _ => [.ptr 0 0, iv id]) (fun _ => uQ L g) (fun _ => .leaf .ret [.v (.bool true)] (uQ (L ++ [id]) []))
abbrev fYes : Nat := 10
def yesF : AV := .v (.func (.func fYes) #[] #[])
theorem oTurnY_eq (x : Int) (L R g g' : List Int) (F : HP) : wRun [(fLeave, cLvU L g R g' x), (fJoin, cJnU R g' x)] (hintL [(fTurn, 2, 0, hv (.lit true)), (fTurn, 3, 1, hv (iv x)), (fTurn, 4, 2, hv (.lit true))]) [] default fTurn [.ptr 0 0, yesF] (uQ L g) [0, 1001, 1100, 1101, 1102] F = VT.leaf (AV.tuple [AV.v (Value.int IntKind.i64 x), AV.v (Value.bool true)]) [some (AO.cells [AV.any, AV.any, AV.any, AV.any, AV.any, AV.any, AV.any, AV.any, AV.any, AV.any, AV.any, AV.any, AV.any, AV.any, AV.slice 1101 0 (R ++ [x]).length 1 (Cp.lo ((R ++ [x]).length + 0))] 128), none, none, some (AO.cells (AV.rens (sgN (nm2 0 1100) [1001] 1101) (rowV encI (R ++ [x] ++ []))) 6), none] 1102 (((Cnd.p (true = true)).a Cnd.t).a (((Cnd.p (Wk (AV.v (Value.bool (decide (Int.ofNat 0 < ↑L.length)))) (AV.lit true))).a Cnd.t).a (((Cnd.p (Nat.blt 0 L.length = true)).a Cnd.t).a (((Cnd.p (Nat.blt 0 (rowV encI (L ++ g)).length = true)).a ((Cnd.p ((rowV encI (L ++ g)).getD 0 (AV.v (Value.tuple (Array.mk []))) = AV.v (Value.int IntKind.i64 ((rowV encI (L ++ g)).getD 0 (AV.v (Value.tuple (Array.mk [])))).intOf))).a ((Cnd.p (Wk (AV.v (Value.int IntKind.i64 ((rowV encI (L ++ g)).getD 0 (AV.v (Value.tuple (Array.mk [])))).intOf)) (AV.v (Value.int IntKind.i64 x)))).a Cnd.t))).a (((Cnd.p (Wk (AV.v (Value.bool true)) (AV.lit true))).a Cnd.t).a (((Cnd.p True).a ((Cnd.p (VW [AV.ptr 0 0, AV.v (Value.int IntKind.i64 x)] [AV.ptr 0 0, AV.v (Value.int IntKind.i64 x)])).a ((Cnd.p (OW (AO.cells [AV.any, AV.any, AV.any, AV.any, AV.any, AV.any, AV.any, AV.any, AV.any, AV.any, AV.any, AV.any, AV.any, AV.any, AV.slice 1001 0 L.length 1 (Cp.lo (L.length + g.length))] 128) (AO.cells [AV.any, AV.any, AV.any, AV.any, AV.any, AV.any, AV.any, AV.any, AV.any, AV.any, AV.any, AV.any, AV.any, AV.any, AV.slice 1001 0 L.length 1 (Cp.lo (L.length + g.length))] 128))).a ((Cnd.p (OW (AO.cells (rowV encI (L ++ g)) 6) (AO.cells (AV.rens (nm2 0 1001) (rowV encI (L ++ g))) 6))).a Cnd.t)))).a (((Cnd.p True).a ((Cnd.p (VW [AV.ptr 0 0, AV.v (Value.int IntKind.i64 x)] [AV.ptr 0 0, AV.v (Value.int IntKind.i64 x)])).a ((Cnd.p (OW (AO.cells [AV.any, AV.any, AV.any, AV.any, AV.any, AV.any, AV.any, AV.any, AV.any, AV.any, AV.any, AV.any, AV.any, AV.any, AV.slice 1100 0 R.length 1 (Cp.lo (R.length + g'.length))] 128) (AO.cells [AV.any, AV.any, AV.any, AV.any, AV.any, AV.any, AV.any, AV.any, AV.any, AV.any, AV.any, AV.any, AV.any, AV.any, AV.slice 1100 0 R.length 1 (Cp.lo (R.length + g'.length))] 128))).a ((Cnd.p (OW (AO.cells (AV.rens (sgN (nm2 0 1001) [1001] 1100) (rowV encI (R ++ g'))) 6) (AO.cells (AV.rens (nm2 0 1100) (rowV encI (R ++ g'))) 6))).a Cnd.t)))).a Cnd.t))))))) := by kernel_rfl
/-! New -/
theorem oNew_eq (F : HP) : wRun [] noHints [] default fNew [.agg [iv 0, iv 0, iv (-1), iv 0, sv .empty, sv .empty, sv .empty, bv false, bv false, bv false]] [] [1100, 1101, 1102, 1103, 1104, 1105, 1106] F = VT.leaf (AV.ptr 1105 0) [some (AO.cells [AV.v (Value.int IntKind.i64 (Int.ofNat 0)), AV.v (Value.int IntKind.i64 (Int.ofNat 0)), AV.v (Value.int IntKind.i64 (Int.negSucc 0)), AV.v (Value.int IntKind.i64 (Int.ofNat 0)), AV.v (Value.string ByteArray.empty), AV.v (Value.string ByteArray.empty), AV.v (Value.string ByteArray.empty), AV.v (Value.bool false), AV.v (Value.bool false), AV.v (Value.bool false)] 54), some (AO.map [] 0), some (AO.map [] 0), some (AO.cells [AV.v (Value.slice none 0 0), AV.map 1102] 170), some (AO.map [] 0), some (AO.cells [AV.v (Value.int IntKind.i64 (Int.ofNat 0)), AV.v (Value.int IntKind.i64 (Int.ofNat 0)), AV.v (Value.int IntKind.i64 (Int.negSucc 0)), AV.v (Value.int IntKind.i64 (Int.ofNat 0)), AV.v (Value.string ByteArray.empty), AV.v (Value.string ByteArray.empty), AV.v (Value.string ByteArray.empty), AV.v (Value.bool false), AV.v (Value.bool false), AV.v (Value.bool false), AV.map 1101, AV.ptr 1103 0, AV.map 1104, AV.v (Value.int IntKind.i64 (Int.ofNat 0)), AV.v (Value.slice none 0 0)] 128), none] 1106 (((Cnd.p (true = true)).a ((Cnd.p ([AV.v (Value.int IntKind.i64 (Int.ofNat 0)), AV.v (Value.int IntKind.i64 (Int.ofNat 0)), AV.v (Value.int IntKind.i64 (Int.negSucc 0)), AV.v (Value.int IntKind.i64 (Int.ofNat 0)), AV.v (Value.string ByteArray.empty), AV.v (Value.string ByteArray.empty), AV.v (Value.string ByteArray.empty), AV.v (Value.bool false), AV.v (Value.bool false), AV.v (Value.bool false)] = [AV.v (Value.int IntKind.i64 (Int.ofNat 0)), AV.v (Value.int IntKind.i64 (Int.ofNat 0)), AV.v (Value.int IntKind.i64 (Int.negSucc 0)), AV.v (Value.int IntKind.i64 (Int.ofNat 0)), AV.v (Value.string ByteArray.empty), AV.v (Value.string ByteArray.empty), AV.v (Value.string ByteArray.empty), AV.v (Value.bool false), AV.v (Value.bool false), AV.v (Value.bool false)])).a Cnd.t)).a Cnd.t) := by kernel_rfl
/-! A queue whole. -/
def qL (L : List Int) : Option (List Int) → LH
  | none => uQ0
  | some g => uQ L g
def qR (L : List Int) (z : Option (List Int)) : Prop := (z = none → L = []) ∧ (z ≠ none → L ≠ [])
def qH (L : List Int) : Nat → Nat → HP := exHP (qR L) (qL L)
def qO (L : List Int) : AO := .own (.turns L) (qH L)
end
end Go.Proofs.Ytjjjchmkonnpfaa.Que

/- Queue: the consumers in their turn, a queue whole. -/
set_option linter.unusedVariables false
set_option linter.unusedSimpArgs false
set_option maxRecDepth 100000
namespace Go.Proofs.Ytjjjchmkonnpfaa.Que
open Go Go.RowKit Go.Proofs.Ytjjjchmkonnpfaa.Eng Go.Proofs.Ytjjjchmkonnpfaa.Kit
theorem gQ_ro : ∀ args, RO (gQ args) := by
  intro args
  unfold gQ
  split
  · refine RO.read _ _ fun o => ?_
    split
    · split
      · exact RO.ret _
      · exact RO.fail _
    · exact RO.fail _
  · exact RO.fail _
theorem hdrQ_cl (K : Nat → Bool) (s : AV) (h : AV.cl K s) : (hdrQ s).cl K := ⟨trivial, trivial, trivial, trivial, trivial, trivial, trivial, trivial, trivial, trivial, trivial, trivial, trivial, trivial, h, trivial⟩
theorem uQ_cl (K : Nat → Bool) (h : K 1001 = true) (L g : List Int) : ∀ x ∈ uQ L g, x.2.cl K := all_cons (hdrQ_cl K _ h) (all_cons (rI_cl _ _) all_nil)
theorem uQ0_cl (K : Nat → Bool) : ∀ x ∈ uQ0, x.2.cl K := all_cons (hdrQ_cl K _ trivial) all_nil
theorem cLvU_ok (L g : List Int) (id : Int) (h : id ∈ L) (hR : RoomT L.length) (F : HP) : C1OK Try.prog F fLeave (cLvU L g (wo id L) (List.replicate (L.length - (wo id L).length) 0 ++ g) id) :=
  mkC_ok (W := default) oldDef (fun _ => .v (.bool true)) gQ_ro (fun _ => rfl) (fun _ _ => leaveF_tri L g id h hR) fun _ => ⟨rfl, rfl, ⟨rfl, trivial, trivial⟩, uQ_cl _ rfl _ _, ⟨trivial, trivial⟩, uQ_cl _ rfl _ _⟩
theorem cJnU_ok (L g : List Int) (id : Int) (h : id ∉ L) (hR : RoomT L.length) (F : HP) : C1OK Try.prog F fJoin (cJnU L g id) :=
  mkC_ok (W := default) oldDef (fun _ => .v (.bool true)) gQ_ro (fun _ => rfl) (fun _ _ => joinN_tri L g id h hR) fun _ => ⟨rfl, rfl, ⟨rfl, trivial, trivial⟩, uQ_cl _ rfl _ _, ⟨trivial, trivial⟩, uQ_cl _ rfl _ _⟩
theorem turnY_tri (x : Int) (R g : List Int) (h : x ∉ R) (hR : RoomT (R.length + 1)) : Tri Try.prog default fTurn [.ptr 0 0, yesF] (uQ (x :: R) g) (.tuple [iv x, .v (.bool true)]) (uQ (R ++ [x]) []) := by
  have hw : wo x (x :: R) = R := by
    have := wo_none h
    unfold wo at this ⊢
    rw [List.filter_cons, beqT rfl]
    simpa using this
  have hc := fun F => cLvU_ok (x :: R) g x List.mem_cons_self hR F
  rw [hw] at hc
  generalize List.replicate ((x :: R).length - R.length) (0 : Int) ++ g = g' at hc
  have hR2 : RoomT R.length := by unfold RoomT at *; omega
  refine tri_run (con := [(fLeave, cLvU (x :: R) g R g' x), (fJoin, cJnU R g' x)]) (hints := hintL [(fTurn, 2, 0, hv (.lit true)), (fTurn, 3, 1, hv (iv x)), (fTurn, 4, 2, hv (.lit true))]) (lc := []) [0, 1001, 1100, 1101, 1102] rfl (fun F _ => con_cons (hc F) (one_c (cJnU_ok R g' x h hR2 F))) (fun F _ => noL) fun F => ?_
  refine cast (congrArg (VAll _) (oTurnY_eq x (x :: R) R g g' F).symm) ⟨⟨?_, (fit_mk (vs' := [.tuple [iv x, .v (.bool true)]]) (H' := uQ (R ++ [x]) []) [(1001, 1101)] rfl rfl (VW.refl _) ⟨⟨_, rfl, hdrQ_ow (Wk.refl _) rfl⟩, ⟨_, rfl, rI_ow (rens_rowV _ _) rfl⟩, trivial⟩).fits rfl⟩⟩
  have e1 : decide (Int.ofNat 0 < ((x :: R).length : Int)) = true := ltTC (Nat.zero_lt_succ _)
  have e2 : 0 < (x :: R).length := Nat.zero_lt_succ _
  have e3 : 0 < (rowV encI (x :: R ++ g)).length := by rw [rI_len]; exact Nat.zero_lt_succ _
  have g0 : ∀ d, (rowV encI (x :: R ++ g)).getD 0 d = iv x := fun d => rfl
  clear hR hR2 hc
  simp only [Cnd.holds, rens_rowV, e1, e2, e3, g0, Nat.blt_eq, true_and, and_true]
  and_intros
  all_goals first
    | (with_reducible exact trivial)
    | (with_reducible exact rfl)
    | (with_reducible exact Wk.refl _)
    | (with_reducible exact VW.refl _)
    | (with_reducible exact OW.refl _)
    | (with_reducible exact wk_lit _)
    | (with_reducible assumption)
    | exact rfl
    | exact Wk.refl _
    | exact VW.refl _
    | exact OW.refl _
    | ((repeat (first | exact VW.nil | refine VW.cons (Wk.refl _) ?_ | refine VW.cons (Wk.any _) ?_ | refine VW.cons (wk_cap (Nat.le_refl _)) ?_)); done)
/-! A queue whole. -/
theorem open_q {f : FuncId} {A : List AV} {L : List Int} {v : AV} {H' : LH} (h1 : L ≠ [] → ∀ g, Tri Try.prog default f A (uQ L g) v H') (h0 : L = [] → Tri Try.prog default f A uQ0 v H') : Tri Try.prog default f A [(0, qO L)] v H' := by
  refine Tri.open (σ := Option (List Int)) (R := qR L) (L := qL L) (H0 := []) (fun z => ?_) (fun z => ?_) (fun z => ?_) (fun z hz => ?_)
  · cases z with
    | none => exact (by kernel_rfl : ownL [] uQ0 = true)
    | some g => exact (by kernel_rfl : ownL [] (uQ L g) = true)
  · cases z with
    | none => exact uQ0_cl _
    | some g => exact uQ_cl _ rfl _ _
  · cases z with
    | none => exact ⟨_, rfl⟩
    | some g => exact ⟨_, rfl⟩
  · rw [List.append_nil]
    cases z with
    | none => exact h0 (hz.1 rfl)
    | some g => exact h1 (hz.2 (by intro h; cases h)) g
theorem shut_q {L : List Int} (hL : L ≠ []) (g : List Int) (v : AV) (hv : ∀ K : Nat → Bool, AV.cls K [v]) : Goes [v] (uQ L g) [v] [(0, qO L)] := by
  have := Goes.shut (σ := Option (List Int)) (R := qR L) (L := qL L) (m := .turns L) (H0 := []) (vs := [v]) (some g) ⟨(by intro h; cases h), fun _ => hL⟩ (by kernel_rfl : ownL [] (uQ L g) = true) ⟨_, _, rfl, rfl⟩ (hv _) (fun x hx => by cases hx)
  rwa [List.append_nil] at this
theorem shut_q0 (v : AV) (hv : ∀ K : Nat → Bool, AV.cls K [v]) : Goes [v] uQ0 [v] [(0, qO [])] := by
  have := Goes.shut (σ := Option (List Int)) (R := qR []) (L := qL []) (m := .turns []) (H0 := []) (vs := [v]) none ⟨fun _ => rfl, fun h => absurd rfl h⟩ (by kernel_rfl : ownL [] uQ0 = true) ⟨_, _, rfl, rfl⟩ (hv _) (fun x hx => by cases hx)
  rwa [List.append_nil] at this
theorem AjoinN_tri (L : List Int) (id : Int) (h : id ∉ L) (hR : RoomT L.length) : Tri Try.prog default fJoin [.ptr 0 0, iv id] [(0, qO L)] (.v (.bool true)) [(0, qO (L ++ [id]))] := by
  refine open_q (fun hL g => Tri.post (joinN_tri L g id h hR) (shut_q (by simp) _ _ fun K => ⟨trivial, trivial⟩)) (fun hL => ?_)
  subst hL
  exact Tri.post (joinZ_tri id) (shut_q (by simp) _ _ fun K => ⟨trivial, trivial⟩)
theorem AjoinF_tri (L : List Int) (id : Int) (h : id ∈ L) (hR : RoomT L.length) : Tri Try.prog default fJoin [.ptr 0 0, iv id] [(0, qO L)] (.v (.bool false)) [(0, qO L)] :=
  open_q (fun hL g => Tri.post (joinF_tri L g id h hR) (shut_q hL _ _ fun K => ⟨trivial, trivial⟩)) (fun hL => by rw [hL] at h; cases h)
theorem Aturn_tri (x : Int) (R : List Int) (h : x ∉ R) (hR : RoomT (R.length + 1)) : Tri Try.prog default fTurn [.ptr 0 0, yesF] [(0, qO (x :: R))] (.tuple [iv x, .v (.bool true)]) [(0, qO (R ++ [x]))] :=
  open_q (fun hL g => Tri.post (turnY_tri x R g h hR) (shut_q (by simp) _ _ fun K => ⟨⟨trivial, trivial, trivial⟩, trivial⟩)) (fun hL => by cases hL)
theorem Acons_tri (L : List Int) (hL : L ≠ []) (hR : RoomT L.length) : Tri Try.prog default fCons [.ptr 0 0] [(0, qO L)] (sI 1002 L.length L.length) [(0, qO L), (1002, rI L)] :=
  open_q (fun hL g => Tri.post (cons_tri L g hL hR) (Goes.shut (σ := Option (List Int)) (R := qR L) (L := qL L) (m := .turns L) (H0 := [(1002, rI L)]) (vs := [sI 1002 L.length L.length]) (some g) ⟨(by intro h; cases h), fun _ => hL⟩ (by kernel_rfl : ownL [(1002, rI L)] (uQ L g) = true) ⟨_, _, rfl, rfl⟩ ⟨rfl, trivial⟩ (all_cons (rI_cl _ _) all_nil))) (fun h => absurd h hL)
theorem AconsZ_tri : Tri Try.prog default fCons [.ptr 0 0] [(0, qO [])] nilV [(0, qO [])] :=
  open_q (fun hL g => absurd rfl hL) (fun h => Tri.post consZ_tri (shut_q0 _ fun K => ⟨trivial, trivial⟩))
theorem Anew_tri : Tri Try.prog default fNew [.agg [iv 0, iv 0, iv (-1), iv 0, sv .empty, sv .empty, sv .empty, bv false, bv false, bv false]] [] (.ptr 1000 0) [(1000, qO [])] := by
  refine tri_run (con := []) (hints := noHints) (lc := []) [1100, 1101, 1102, 1103, 1104, 1105, 1106] rfl (fun F _ => noC) (fun _ _ => noL) fun F => ?_
  refine cast (congrArg (VAll _) (oNew_eq F).symm) ⟨⟨?_, [.ptr 1000 0], renL 1000 uQ0, [(1000, 1105)], by kernel_rfl, fit_mk _ (by kernel_rfl) (by kernel_rfl) (VW.refl _) ⟨⟨_, rfl, ?_⟩, trivial⟩, ?_⟩⟩
  · simp only [Cnd.holds, Nat.blt_eq, true_and, and_true]
    and_intros
    all_goals first
      | (with_reducible exact trivial)
      | (with_reducible exact rfl)
      | (with_reducible exact Wk.refl _)
      | (with_reducible exact VW.refl _)
      | (with_reducible exact OW.refl _)
      | (with_reducible exact wk_lit _)
      | (with_reducible assumption)
      | exact rfl
      | exact Wk.refl _
      | exact VW.refl _
      | exact OW.refl _
      | ((repeat (first | exact VW.nil | refine VW.cons (Wk.refl _) ?_ | refine VW.cons (Wk.any _) ?_ | refine VW.cons (wk_cap (Nat.le_refl _)) ?_)); done)
  · exact ow_cellsW rfl (VW.cons (Wk.any _) (VW.cons (Wk.any _) (VW.cons (Wk.any _) (VW.cons (Wk.any _) (VW.cons (Wk.any _) (VW.cons (Wk.any _) (VW.cons (Wk.any _) (VW.cons (Wk.any _) (VW.cons (Wk.any _) (VW.cons (Wk.any _) (VW.cons (Wk.any _) (VW.cons (Wk.any _) (VW.cons (Wk.any _) (VW.cons (Wk.any _) (VW.cons (Wk.refl _) VW.nil)))))))))))))))
  · exact Goes.shutNew (σ := Option (List Int)) (R := qR []) (L := qL []) (m := .turns []) 1000 (by decide) (vs := [.ptr 1000 0]) none ⟨fun _ => rfl, fun h => absurd rfl h⟩ rfl rfl ⟨_, _, rfl, rfl⟩ ⟨rfl, trivial⟩
end Go.Proofs.Ytjjjchmkonnpfaa.Que

/- QueueFair: runs. -/
set_option linter.unusedVariables false
set_option linter.unusedSimpArgs false
set_option maxRecDepth 100000
namespace Go.Proofs.Ytjjjchmkonnpfaa.Que
open Go Go.RowKit Go.Proofs.Ytjjjchmkonnpfaa.Eng Go.Proofs.Ytjjjchmkonnpfaa.Kit
noncomputable section
abbrev fFair : Nat := 3
abbrev fSpk : Nat := 6
def cSpk : List AV → Option (AP AV) := mkC (fun _ => .ret ()) (fun _ => True) (fun _ i => i) (fun _ => []) (fun _ => []) (fun _ => .leaf .ret [.v (.bool true)] [])
def gPtr : List AV → AP Nat := fun args => match args with
  | .ptr r0 _ :: _ => .ret r0
  | _ => .fail "pointer"
def cNew : List AV → Option (AP AV) := mkC (fun _ => .ret ()) (fun _ => True) (fun _ i => i) (fun _ => [.agg [iv 0, iv 0, iv (-1), iv 0, sv .empty, sv .empty, sv .empty, bv false, bv false, bv false]]) (fun _ => []) (fun _ => .leaf .ret [.ptr 1000 0] [(1000, qO [])])
def cJn (L L' : List Int) (id : Int) (b : Bool) : List AV → Option (AP AV) := mkC gPtr (fun _ => True) (fun p _ => p) (fun _ => [.ptr 0 0, iv id]) (fun _ => [(0, qO L)]) (fun _ => .leaf .ret [bv b] [(0, qO L')])
def cTn (L L' : List Int) (x : Int) : List AV → Option (AP AV) := mkC gPtr (fun _ => True) (fun p _ => p) (fun _ => [.ptr 0 0, yesF]) (fun _ => [(0, qO L)]) (fun _ => .leaf .ret [.tuple [iv x, .v (.bool true)]] [(0, qO L')])
def cCsS (L : List Int) : List AV → Option (AP AV) := mkC gPtr (fun _ => True) (fun p _ => p) (fun _ => [.ptr 0 0]) (fun _ => [(0, qO L)]) (fun _ => .leaf .ret [sI 1002 L.length L.length] [(0, qO L), (1002, rI L)])
def cCsZ : List AV → Option (AP AV) := mkC gPtr (fun _ => True) (fun p _ => p) (fun _ => [.ptr 0 0]) (fun _ => [(0, qO [])]) (fun _ => .leaf .ret [nilV] [(0, qO [])])
/-! All join. -/
def aJ (V : AV) (r : Int) (n m k : Nat) : List (Nat × AV) := [(1, iv r), (5, .ptr 0 0), (6, iv (Int.ofNat m)), (20, V), (21, iv (Int.ofNat n)), (22, iv (Int.ofNat k))]
def hJ (k : Nat) (x : Int) (b : Bool) (m' : Nat) : ClaimT := hintL [(fFair, 8, 0, hv (.lit true)), (fFair, 9, 1, hv (iv x)), (fFair, 10, 2, hv (.lit b)), (fFair, 11, 1, hv (iv (Int.ofNat m'))), (fFair, 12, 0, hv (iv (Int.ofNat (k + 1))))]
theorem oJT_eq (W : World) (ad : Addr) (n c m m' k : Nat) (r : Int) (L L' : List Int) (x : Int) (F : HP) : wLoop [(fJoin, cJn L L' x true)] (hJ k x true m') [] W fFair (loopN fFair 8) (tms 0 79 (aJ (slV (some ad) n c) r n m k)) [(0, qO L)] [0] [1, 5, 6, 20, 21, 22] F = VT.leaf (AX.normal, [AV.v (Value.int IntKind.i64 r), AV.ptr 0 0, AV.v (Value.int IntKind.i64 (Int.ofNat m')), AV.v (Value.slice (some ad) n c), AV.v (Value.int IntKind.i64 (Int.ofNat n)), AV.v (Value.int IntKind.i64 (Int.ofNat (k + 1)))], 79) [some (AO.own (Md.turns L') (qH L'))] 1100 (((Cnd.p (Wk (AV.v (Value.bool (decide (Int.ofNat k < Int.ofNat n)))) (AV.lit true))).a Cnd.t).a (((Cnd.p (k.blt n = true)).a Cnd.t).a (((Cnd.p ((W.cell? (ad.add (k * 1))).isSome = true)).a ((Cnd.p (AV.v ((W.cell? (ad.add (k * 1))).getD (Value.tuple (Array.mk []))) = AV.v (Value.int IntKind.i64 (AV.v ((W.cell? (ad.add (k * 1))).getD (Value.tuple (Array.mk [])))).intOf))).a ((Cnd.p (Wk (AV.v (Value.int IntKind.i64 (AV.v ((W.cell? (ad.add (k * 1))).getD (Value.tuple (Array.mk [])))).intOf)) (AV.v (Value.int IntKind.i64 x)))).a Cnd.t))).a (((Cnd.p True).a ((Cnd.p (VW [AV.ptr 0 0, AV.v (Value.int IntKind.i64 x)] [AV.ptr 0 0, AV.v (Value.int IntKind.i64 x)])).a ((Cnd.p (OW (AO.own (Md.turns L) (qH L)) (AO.own (Md.turns L) (qH L)))).a ((Cnd.p (Wk (AV.v (Value.bool true)) (AV.lit true))).a Cnd.t)))).a (((Cnd.p (Wk (AV.v (Value.int IntKind.i64 (IntKind.i64.wrap (Int.ofNat m + Int.ofNat 1)))) (AV.v (Value.int IntKind.i64 (Int.ofNat m'))))).a Cnd.t).a (((Cnd.p (Wk (AV.v (Value.int IntKind.i64 (IntKind.i64.wrap (Int.ofNat k + Int.ofNat 1)))) (AV.v (Value.int IntKind.i64 (Int.ofNat (k + 1)))))).a Cnd.t).a Cnd.t)))))) := by kernel_rfl
theorem oJF_eq (W : World) (ad : Addr) (n c m k : Nat) (r : Int) (L : List Int) (x : Int) (F : HP) : wLoop [(fJoin, cJn L L x false)] (hJ k x false 0) [] W fFair (loopN fFair 8) (tms 0 79 (aJ (slV (some ad) n c) r n m k)) [(0, qO L)] [0] [1, 5, 6, 20, 21, 22] F = VT.leaf (AX.normal, [AV.v (Value.int IntKind.i64 r), AV.ptr 0 0, AV.v (Value.int IntKind.i64 (Int.ofNat m)), AV.v (Value.slice (some ad) n c), AV.v (Value.int IntKind.i64 (Int.ofNat n)), AV.v (Value.int IntKind.i64 (Int.ofNat (k + 1)))], 79) [some (AO.own (Md.turns L) (qH L))] 1100 (((Cnd.p (Wk (AV.v (Value.bool (decide (Int.ofNat k < Int.ofNat n)))) (AV.lit true))).a Cnd.t).a (((Cnd.p (k.blt n = true)).a Cnd.t).a (((Cnd.p ((W.cell? (ad.add (k * 1))).isSome = true)).a ((Cnd.p (AV.v ((W.cell? (ad.add (k * 1))).getD (Value.tuple (Array.mk []))) = AV.v (Value.int IntKind.i64 (AV.v ((W.cell? (ad.add (k * 1))).getD (Value.tuple (Array.mk [])))).intOf))).a ((Cnd.p (Wk (AV.v (Value.int IntKind.i64 (AV.v ((W.cell? (ad.add (k * 1))).getD (Value.tuple (Array.mk [])))).intOf)) (AV.v (Value.int IntKind.i64 x)))).a Cnd.t))).a (((Cnd.p True).a ((Cnd.p (VW [AV.ptr 0 0, AV.v (Value.int IntKind.i64 x)] [AV.ptr 0 0, AV.v (Value.int IntKind.i64 x)])).a ((Cnd.p (OW (AO.own (Md.turns L) (qH L)) (AO.own (Md.turns L) (qH L)))).a ((Cnd.p (Wk (AV.v (Value.bool false)) (AV.lit false))).a Cnd.t)))).a (((Cnd.p (Wk (AV.v (Value.int IntKind.i64 (IntKind.i64.wrap (Int.ofNat k + Int.ofNat 1)))) (AV.v (Value.int IntKind.i64 (Int.ofNat (k + 1)))))).a Cnd.t).a Cnd.t))))) := by kernel_rfl
theorem oJE_eq (W : World) (V : AV) (n m k : Nat) (r : Int) (L : List Int) (F : HP) : wLoop [] (hintL [(fFair, 8, 0, hv (.lit false))]) [] W fFair (loopN fFair 8) (tms 0 79 (aJ V r n m k)) [(0, qO L)] [0] [1, 5, 6, 20, 21, 22] F = VT.leaf (AX.exit 0, [AV.v (Value.int IntKind.i64 r), AV.ptr 0 0, AV.v (Value.int IntKind.i64 (Int.ofNat m)), getL [AV.any, AV.v (Value.int IntKind.i64 r), AV.any, AV.any, AV.any, AV.ptr 0 0, AV.v (Value.int IntKind.i64 (Int.ofNat m)), AV.any, AV.any, AV.any, AV.any, AV.any, AV.any, AV.any, AV.any, AV.any, AV.any, AV.any, AV.any, AV.any, V, AV.v (Value.int IntKind.i64 (Int.ofNat n)), AV.v (Value.int IntKind.i64 (Int.ofNat k)), AV.lit false, AV.any, AV.any, AV.any, AV.any, AV.any, AV.any, AV.any, AV.any, AV.any, AV.any, AV.any, AV.any, AV.any, AV.any, AV.any, AV.any, AV.any, AV.any, AV.any, AV.any, AV.any, AV.any, AV.any, AV.any, AV.any, AV.any, AV.any, AV.any, AV.any, AV.any, AV.any, AV.any, AV.any, AV.any, AV.any, AV.any, AV.any, AV.any, AV.any, AV.any, AV.any, AV.any, AV.any, AV.any, AV.any, AV.any, AV.any, AV.any, AV.any, AV.any, AV.any, AV.any, AV.any, AV.any, AV.any] 20, AV.v (Value.int IntKind.i64 (Int.ofNat n)), AV.v (Value.int IntKind.i64 (Int.ofNat k))], 79) [some (AO.own (Md.turns L) (qH L))] 1100 (((Cnd.p (Wk (AV.v (Value.bool (decide (Int.ofNat k < Int.ofNat n)))) (AV.lit false))).a Cnd.t).a Cnd.t) := by kernel_rfl
def lJ (V : AV) (r : Int) (n : Nat) (L : List Int) : List AV → AP (AX × List AV) := mkL (fun tmps => gPtr [getL tmps 5]) (fun _ => True) (fun p _ => p) (fun _ => tms 0 79 (aJ V r n 0 0)) (fun _ => [(0, qO [])]) (fun _ => .leaf (.exit 0) (tms 0 79 [(1, iv r), (5, .ptr 0 0), (6, iv (Int.ofNat L.length))]) [(0, qO L)])
/-! Who was told lately. -/
def aI (r x : Int) (n i m : Nat) (k : Int) : List (Nat × AV) := [(1, iv r), (5, .ptr 0 0), (6, iv (Int.ofNat n)), (9, sI 1 m m), (10, iv (Int.ofNat i)), (11, iv x), (13, iv k)]
def zI (r x : Int) (n i m : Nat) : List (Nat × AV) := [(1, iv r), (5, .ptr 0 0), (6, iv (Int.ofNat n)), (9, sI 1 m m), (10, iv (Int.ofNat i)), (11, iv x)]
def oI (Q T : List Int) : LH := [(0, qO Q), (1, rI T)]
def hI (b1 b2 : Bool) (d y k' : Int) : ClaimT := hintL [(fFair, 21, 2, hv (.lit b1)), (fFair, 21, 7, hv (iv d)), (fFair, 21, 8, hv (.lit b2)), (fFair, 21, 9, hv (.lit (b1 && b2))), (fFair, 23, 3, hv (iv y)), (fFair, 23, 5, hv (.lit false)), (fFair, 22, 1, hv (iv k'))]
theorem oIR_eq (r x : Int) (n i m k : Nat) (d y k' : Int) (Q T : List Int) (F : HP) : wLoop [] (hI true true d y k') [] default fFair (loopN fFair 21) (tms 0 79 (aI r x n i m (Int.ofNat k))) (oI Q T) [0, 1] [1, 5, 6, 9, 10, 11, 13] F = VT.leaf (AX.normal, [AV.v (Value.int IntKind.i64 r), AV.ptr 0 0, AV.v (Value.int IntKind.i64 (Int.ofNat n)), AV.slice 1 0 m 1 (Cp.lo m), AV.v (Value.int IntKind.i64 (Int.ofNat i)), AV.v (Value.int IntKind.i64 x), AV.v (Value.int IntKind.i64 k')], 79) [some (AO.own (Md.turns Q) (qH Q)), some (AO.cells (rowV encI T) 6)] 1100 (((Cnd.p (Wk (AV.v (Value.bool true)) (AV.lit true))).a Cnd.t).a (((Cnd.p (Wk (AV.v (Value.int IntKind.i64 (IntKind.i64.wrap (↑m - Int.ofNat n)))) (AV.v (Value.int IntKind.i64 d)))).a Cnd.t).a (((Cnd.p (Wk (AV.v (Value.bool (decide (Int.ofNat k > d)))) (AV.lit true))).a Cnd.t).a (((Cnd.p (Wk (AV.lit true) (AV.lit true))).a Cnd.t).a (((Cnd.p (k.blt m = true)).a Cnd.t).a (((Cnd.p ((0 + k * 1).blt (rowV encI T).length = true)).a ((Cnd.p ((rowV encI T).getD (0 + k * 1) (AV.v (Value.tuple (Array.mk []))) = AV.v (Value.int IntKind.i64 ((rowV encI T).getD (0 + k * 1) (AV.v (Value.tuple (Array.mk [])))).intOf))).a ((Cnd.p (Wk (AV.v (Value.int IntKind.i64 ((rowV encI T).getD (0 + k * 1) (AV.v (Value.tuple (Array.mk [])))).intOf)) (AV.v (Value.int IntKind.i64 y)))).a Cnd.t))).a (((Cnd.p (Wk (AV.v (Value.bool (y == x))) (AV.lit false))).a Cnd.t).a (((Cnd.p (Wk (AV.v (Value.int IntKind.i64 (IntKind.i64.wrap (Int.ofNat k - Int.ofNat 1)))) (AV.v (Value.int IntKind.i64 k')))).a Cnd.t).a Cnd.t)))))))) := by kernel_rfl
theorem oIE_eq (r x : Int) (n i m : Nat) (k d : Int) (Q T : List Int) (F : HP) : wLoop [] (hI true false d 0 0) [] default fFair (loopN fFair 21) (tms 0 79 (aI r x n i m k)) (oI Q T) [0, 1] [1, 5, 6, 9, 10, 11, 13] F = VT.leaf (AX.exit 4, [AV.v (Value.int IntKind.i64 r), AV.ptr 0 0, AV.v (Value.int IntKind.i64 (Int.ofNat n)), AV.slice 1 0 m 1 (Cp.lo m), AV.v (Value.int IntKind.i64 (Int.ofNat i)), AV.v (Value.int IntKind.i64 x), AV.v (Value.int IntKind.i64 k)], 79) [some (AO.own (Md.turns Q) (qH Q)), some (AO.cells (rowV encI T) 6)] 1100 (((Cnd.p (Wk (AV.v (Value.bool (decide (k ≥ Int.ofNat 0)))) (AV.lit true))).a Cnd.t).a (((Cnd.p (Wk (AV.v (Value.int IntKind.i64 (IntKind.i64.wrap (↑m - Int.ofNat n)))) (AV.v (Value.int IntKind.i64 d)))).a Cnd.t).a (((Cnd.p (Wk (AV.v (Value.bool (decide (k > d)))) (AV.lit false))).a Cnd.t).a (((Cnd.p (Wk (AV.lit false) (AV.lit false))).a Cnd.t).a Cnd.t)))) := by kernel_rfl
theorem oIN_eq (r x : Int) (n i m : Nat) (k : Int) (Q T : List Int) (F : HP) : wLoop [] (hI false false 0 0 0) [] default fFair (loopN fFair 21) (tms 0 79 (aI r x n i m k)) (oI Q T) [0, 1] [1, 5, 6, 9, 10, 11, 13] F = VT.leaf (AX.exit 4, [AV.v (Value.int IntKind.i64 r), AV.ptr 0 0, AV.v (Value.int IntKind.i64 (Int.ofNat n)), AV.slice 1 0 m 1 (Cp.lo m), AV.v (Value.int IntKind.i64 (Int.ofNat i)), AV.v (Value.int IntKind.i64 x), AV.v (Value.int IntKind.i64 k)], 79) [some (AO.own (Md.turns Q) (qH Q)), some (AO.cells (rowV encI T) 6)] 1100 (((Cnd.p (Wk (AV.v (Value.bool (decide (k ≥ Int.ofNat 0)))) (AV.lit false))).a Cnd.t).a (((Cnd.p (Wk (AV.lit false) (AV.lit false))).a Cnd.t).a Cnd.t)) := by kernel_rfl
def gI : List AV → AP (Nat × Nat) := fun tmps => match getL tmps 5 with
  | .ptr r0 _ => match getL tmps 9 with
    | .slice r1 _ _ _ _ => .ret (r0, r1)
    | _ => .fail "told"
  | _ => .fail "told"
def lI (r x : Int) (n i m : Nat) (k : Int) (Q T : List Int) : List AV → AP (AX × List AV) := mkL gI (fun _ => True) (fun p => nm2 p.1 p.2) (fun _ => tms 0 79 (aI r x n i m k)) (fun _ => oI Q T) (fun _ => .leaf (.exit 4) (tms 0 79 (zI r x n i m)) (oI Q T))
/-! The turns. -/
def aT (r : Int) (n m i : Nat) : List (Nat × AV) := [(1, iv r), (5, .ptr 0 0), (6, iv (Int.ofNat n)), (9, sI 1000 m m), (10, iv (Int.ofNat i))]
def oT (Q T : List Int) : LH := [(0, qO Q), (1000, rI T)]
def hT (N i : Nat) (x k : Int) : ClaimT := hintL [(fFair, 15, 5, hv (iv (Int.ofNat N))), (fFair, 15, 6, hv (.lit true)), (fFair, 17, 1, hv (.tuple [iv x, .lit true])), (fFair, 18, 1, hv (.lit false)), (fFair, 20, 2, hv (iv k)), (fFair, 16, 1, hv (iv (Int.ofNat (i + 1))))]
theorem oTR_eq (r x k : Int) (N n m i : Nat) (Q Q' T : List Int) (F : HP) : wLoop [(fTurn, cTn Q Q' x)] (hT N i x k) [(fFair, 21, loopN fFair 21, lI r x n i m k Q' T)] default fFair (loopN fFair 15) (tms 0 79 (aT r n m i)) (oT Q T) [0, 1000, 1100, 1101, 1102, 1103] [1, 5, 6, 9, 10] F = VT.leaf (AX.normal, [AV.v (Value.int IntKind.i64 r), AV.ptr 0 0, AV.v (Value.int IntKind.i64 (Int.ofNat n)), AV.slice 1101 0 (m + 1) 1 (Cp.lo (m + 1)), AV.v (Value.int IntKind.i64 (Int.ofNat (i + 1)))], 79) [some (AO.own (Md.turns Q') (qH Q')), none, some (AO.cells [AV.v (Value.int IntKind.i64 x)] 6), some (AO.cells (List.take (m * 1) (List.drop 0 (AV.rens (sgN (nm2 0 1000) [] 0) (rowV encI T))) ++ [AV.v (Value.int IntKind.i64 x)]) 6), none, none] 1102 (((Cnd.p (Wk (AV.v (Value.int IntKind.i64 (IntKind.i64.wrap (Int.ofNat n * IntKind.i64.wrap (Int.ofNat 1 + IntKind.i64.wrap ↑(BitVec.ofInt 64 r &&& BitVec.ofInt 64 (Int.ofNat 7)).toNat))))) (AV.v (Value.int IntKind.i64 (Int.ofNat N))))).a Cnd.t).a (((Cnd.p (Wk (AV.v (Value.bool (decide (Int.ofNat i < Int.ofNat N)))) (AV.lit true))).a Cnd.t).a (((Cnd.p True).a ((Cnd.p (VW [AV.ptr 0 0, AV.v (Value.func (Fn.func 10) (Array.mk []) (Array.mk []))] [AV.ptr 0 0, AV.v (Value.func (Fn.func 10) (Array.mk []) (Array.mk []))])).a ((Cnd.p (OW (AO.own (Md.turns Q) (qH Q)) (AO.own (Md.turns Q) (qH Q)))).a ((Cnd.p (Wk (AV.tuple [AV.v (Value.int IntKind.i64 x), AV.v (Value.bool true)]) (AV.tuple [AV.v (Value.int IntKind.i64 x), AV.lit true]))).a Cnd.t)))).a (((Cnd.p (Wk (AV.v (Value.bool false)) (AV.lit false))).a Cnd.t).a (((Cnd.p (Wk (AV.v (Value.int IntKind.i64 (IntKind.i64.wrap (↑m - Int.ofNat 1)))) (AV.v (Value.int IntKind.i64 k)))).a Cnd.t).a ((Cnd.p ((fFair, 21, loopN fFair 21, lI r x n i m k Q' T).snd.snd.fst = (fFair, 21, loopN fFair 21, lI r x n i m k Q' T).snd.snd.fst)).a ((Cnd.p True).a ((Cnd.p (VW [AV.any, AV.v (Value.int IntKind.i64 r), AV.any, AV.any, AV.any, AV.ptr 0 0, AV.v (Value.int IntKind.i64 (Int.ofNat n)), AV.any, AV.any, AV.slice 1000 0 m 1 (Cp.lo m), AV.v (Value.int IntKind.i64 (Int.ofNat i)), AV.v (Value.int IntKind.i64 x), AV.lit true, AV.v (Value.int IntKind.i64 k), AV.any, AV.any, AV.any, AV.any, AV.any, AV.any, AV.any, AV.any, AV.any, AV.any, AV.any, AV.any, AV.any, AV.any, AV.any, AV.any, AV.any, AV.any, AV.any, AV.v (Value.int IntKind.i64 (Int.ofNat i)), AV.v (Value.int IntKind.i64 (Int.ofNat n)), AV.v (Value.int IntKind.i64 r), AV.v (Value.int IntKind.i64 (IntKind.i64.wrap ↑(BitVec.ofInt 64 r &&& BitVec.ofInt 64 (Int.ofNat 7)).toNat)), AV.v (Value.int IntKind.i64 (IntKind.i64.wrap (Int.ofNat 1 + IntKind.i64.wrap ↑(BitVec.ofInt 64 r &&& BitVec.ofInt 64 (Int.ofNat 7)).toNat))), AV.v (Value.int IntKind.i64 (Int.ofNat N)), AV.lit true, AV.any, AV.any, AV.tuple [AV.v (Value.int IntKind.i64 x), AV.lit true], AV.ptr 0 0, AV.tuple [AV.v (Value.int IntKind.i64 x), AV.lit true], AV.v (Value.int IntKind.i64 x), AV.lit true, AV.lit true, AV.lit false, AV.slice 1000 0 m 1 (Cp.lo m), AV.v (Value.int IntKind.i64 ↑m), AV.v (Value.int IntKind.i64 k), AV.any, AV.any, AV.any, AV.any, AV.any, AV.any, AV.any, AV.any, AV.any, AV.any, AV.any, AV.any, AV.any, AV.any, AV.any, AV.any, AV.any, AV.any, AV.any, AV.any, AV.any, AV.any, AV.any, AV.any, AV.any, AV.any, AV.any] [AV.any, AV.v (Value.int IntKind.i64 r), AV.any, AV.any, AV.any, AV.ptr 0 0, AV.v (Value.int IntKind.i64 (Int.ofNat n)), AV.any, AV.any, AV.slice 1000 0 m 1 (Cp.lo m), AV.v (Value.int IntKind.i64 (Int.ofNat i)), AV.v (Value.int IntKind.i64 x), AV.any, AV.v (Value.int IntKind.i64 k), AV.any, AV.any, AV.any, AV.any, AV.any, AV.any, AV.any, AV.any, AV.any, AV.any, AV.any, AV.any, AV.any, AV.any, AV.any, AV.any, AV.any, AV.any, AV.any, AV.any, AV.any, AV.any, AV.any, AV.any, AV.any, AV.any, AV.any, AV.any, AV.any, AV.any, AV.any, AV.any, AV.any, AV.any, AV.any, AV.any, AV.any, AV.any, AV.any, AV.any, AV.any, AV.any, AV.any, AV.any, AV.any, AV.any, AV.any, AV.any, AV.any, AV.any, AV.any, AV.any, AV.any, AV.any, AV.any, AV.any, AV.any, AV.any, AV.any, AV.any, AV.any, AV.any, AV.any, AV.any, AV.any])).a ((Cnd.p (OW (AO.own (Md.turns Q') (qH Q')) (AO.own (Md.turns Q') (qH Q')))).a ((Cnd.p (OW (AO.cells (rowV encI T) 6) (AO.cells (AV.rens (nm2 0 1000) (rowV encI T)) 6))).a (((Cnd.p (true = true)).a ((Cnd.p (true = true)).a ((Cnd.p (true = true)).a ((Cnd.p (true = true)).a ((Cnd.p ((0 + m * 1).ble (AV.rens (sgN (nm2 0 1000) [] 0) (rowV encI T)).length = true)).a ((Cnd.p (((m + 1) * 8).ble 140737488355328 = true)).a ((Cnd.p ((m + 1).ble 9223372036854775807 = true)).a ((Cnd.p ((List.take (m * 1) (List.drop 0 (AV.rens (sgN (nm2 0 1000) [] 0) (rowV encI T)))).length.beq (m * 1) = true)).a Cnd.t)))))))).a (((Cnd.p (Wk (AV.v (Value.int IntKind.i64 (IntKind.i64.wrap (Int.ofNat i + Int.ofNat 1)))) (AV.v (Value.int IntKind.i64 (Int.ofNat (i + 1)))))).a Cnd.t).a Cnd.t)))))))))))) := by kernel_rfl
theorem oTE_eq (r : Int) (N n m i : Nat) (Q T : List Int) (F : HP) : wLoop [] (hintL [(fFair, 15, 5, hv (iv (Int.ofNat N))), (fFair, 15, 6, hv (.lit false))]) [] default fFair (loopN fFair 15) (tms 0 79 (aT r n m i)) (oT Q T) [0, 1000, 1100, 1101, 1102, 1103] [1, 5, 6, 9, 10] F = VT.leaf (AX.exit 2, [AV.v (Value.int IntKind.i64 r), AV.ptr 0 0, AV.v (Value.int IntKind.i64 (Int.ofNat n)), AV.slice 1000 0 m 1 (Cp.lo m), AV.v (Value.int IntKind.i64 (Int.ofNat i))], 79) [some (AO.own (Md.turns Q) (qH Q)), some (AO.cells (rowV encI T) 6), none, none, none, none] 1100 (((Cnd.p (Wk (AV.v (Value.int IntKind.i64 (IntKind.i64.wrap (Int.ofNat n * IntKind.i64.wrap (Int.ofNat 1 + IntKind.i64.wrap ↑(BitVec.ofInt 64 r &&& BitVec.ofInt 64 (Int.ofNat 7)).toNat))))) (AV.v (Value.int IntKind.i64 (Int.ofNat N))))).a Cnd.t).a (((Cnd.p (Wk (AV.v (Value.bool (decide (Int.ofNat i < Int.ofNat N)))) (AV.lit false))).a Cnd.t).a Cnd.t)) := by kernel_rfl
def gT : List AV → AP (Nat × Nat) := gI
def lT (r : Int) (n : Nat) (L Q : List Int) : List AV → AP (AX × List AV) := mkL gI (fun _ => True) (fun p => nm2 p.1 p.2) (fun _ => tms 0 79 (aT r n 0 0)) (fun _ => oT L []) (fun _ => .leaf (.exit 2) (tms 0 79 [(5, .ptr 0 0), (6, iv (Int.ofNat n))]) [(0, qO Q)])
theorem oFairS_eq (W : World) (oa : Option Addr) (n c : Nat) (r : Int) (L Q : List Int) (F : HP) : wRun [(fSpk, cSpk), (fNew, cNew), (fCons, cCsS Q)] (hintL [(fFair, 1, 1, hv (.lit false)), (fFair, 4, 1, hv (.lit false)), (fFair, 7, 1, hv (iv (Int.ofNat n))), (fFair, 26, 4, hv (bv true))]) [(fFair, 8, loopN fFair 8, lJ (slV oa n c) r n L), (fFair, 15, loopN fFair 15, lT r L.length L Q)] W fFair [slV oa n c, iv r] [] [] F = VT.leaf (AV.v (Value.bool true)) [] 1103 (((Cnd.p True).a ((Cnd.p (VW [] [])).a Cnd.t)).a (((Cnd.p (Wk (AV.v (Value.bool false)) (AV.lit false))).a Cnd.t).a (((Cnd.p True).a ((Cnd.p (VW [AV.agg [AV.v (Value.int IntKind.i64 (Int.ofNat 0)), AV.v (Value.int IntKind.i64 (Int.ofNat 0)), AV.v (Value.int IntKind.i64 (Int.negSucc 0)), AV.v (Value.int IntKind.i64 (Int.ofNat 0)), AV.v (Value.string (ByteArray.mk (Array.mk []))), AV.v (Value.string (ByteArray.mk (Array.mk []))), AV.v (Value.string (ByteArray.mk (Array.mk []))), AV.v (Value.bool false), AV.v (Value.bool false), AV.v (Value.bool false)]] [AV.agg [AV.v (Value.int IntKind.i64 (Int.ofNat 0)), AV.v (Value.int IntKind.i64 (Int.ofNat 0)), AV.v (Value.int IntKind.i64 (Int.negSucc 0)), AV.v (Value.int IntKind.i64 (Int.ofNat 0)), AV.v (Value.string ByteArray.empty), AV.v (Value.string ByteArray.empty), AV.v (Value.string ByteArray.empty), AV.v (Value.bool false), AV.v (Value.bool false), AV.v (Value.bool false)]])).a Cnd.t)).a (((Cnd.p (Wk (AV.v (Value.bool false)) (AV.lit false))).a Cnd.t).a (((Cnd.p (Wk (AV.v (Value.int IntKind.i64 ↑n)) (AV.v (Value.int IntKind.i64 (Int.ofNat n))))).a Cnd.t).a ((Cnd.p ((fFair, 8, loopN fFair 8, lJ (slV oa n c) r n L).snd.snd.fst = (fFair, 8, loopN fFair 8, lJ (slV oa n c) r n L).snd.snd.fst)).a ((Cnd.p True).a ((Cnd.p (VW [AV.v (Value.slice oa n c), AV.v (Value.int IntKind.i64 r), AV.v (Value.tuple (Array.mk [])), AV.v (Value.tuple (Array.mk [])), AV.v (Value.bool false), AV.ptr 1100 0, AV.v (Value.int IntKind.i64 (Int.ofNat 0)), AV.v (Value.tuple (Array.mk [])), AV.v (Value.tuple (Array.mk [])), AV.v (Value.tuple (Array.mk [])), AV.v (Value.tuple (Array.mk [])), AV.v (Value.tuple (Array.mk [])), AV.v (Value.tuple (Array.mk [])), AV.v (Value.tuple (Array.mk [])), AV.v (Value.bool true), AV.lit false, AV.agg [AV.v (Value.int IntKind.i64 (Int.ofNat 0)), AV.v (Value.int IntKind.i64 (Int.ofNat 0)), AV.v (Value.int IntKind.i64 (Int.negSucc 0)), AV.v (Value.int IntKind.i64 (Int.ofNat 0)), AV.v (Value.string (ByteArray.mk (Array.mk []))), AV.v (Value.string (ByteArray.mk (Array.mk []))), AV.v (Value.string (ByteArray.mk (Array.mk []))), AV.v (Value.bool false), AV.v (Value.bool false), AV.v (Value.bool false)], AV.ptr 1100 0, AV.ptr 1100 0, AV.lit false, AV.v (Value.slice oa n c), AV.v (Value.int IntKind.i64 (Int.ofNat n)), AV.v (Value.int IntKind.i64 (Int.ofNat 0)), AV.v (Value.tuple (Array.mk [])), AV.v (Value.tuple (Array.mk [])), AV.v (Value.tuple (Array.mk [])), AV.v (Value.tuple (Array.mk [])), AV.v (Value.tuple (Array.mk [])), AV.v (Value.tuple (Array.mk [])), AV.v (Value.tuple (Array.mk [])), AV.v (Value.tuple (Array.mk [])), AV.v (Value.tuple (Array.mk [])), AV.v (Value.tuple (Array.mk [])), AV.v (Value.tuple (Array.mk [])), AV.v (Value.tuple (Array.mk [])), AV.v (Value.tuple (Array.mk [])), AV.v (Value.tuple (Array.mk [])), AV.v (Value.tuple (Array.mk [])), AV.v (Value.tuple (Array.mk [])), AV.v (Value.tuple (Array.mk [])), AV.v (Value.tuple (Array.mk [])), AV.v (Value.tuple (Array.mk [])), AV.v (Value.tuple (Array.mk [])), AV.v (Value.tuple (Array.mk [])), AV.v (Value.tuple (Array.mk [])), AV.v (Value.tuple (Array.mk [])), AV.v (Value.tuple (Array.mk [])), AV.v (Value.tuple (Array.mk [])), AV.v (Value.tuple (Array.mk [])), AV.v (Value.tuple (Array.mk [])), AV.v (Value.tuple (Array.mk [])), AV.v (Value.tuple (Array.mk [])), AV.v (Value.tuple (Array.mk [])), AV.v (Value.tuple (Array.mk [])), AV.v (Value.tuple (Array.mk [])), AV.v (Value.tuple (Array.mk [])), AV.v (Value.tuple (Array.mk [])), AV.v (Value.tuple (Array.mk [])), AV.v (Value.tuple (Array.mk [])), AV.v (Value.tuple (Array.mk [])), AV.v (Value.tuple (Array.mk [])), AV.v (Value.tuple (Array.mk [])), AV.v (Value.tuple (Array.mk [])), AV.v (Value.tuple (Array.mk [])), AV.v (Value.tuple (Array.mk [])), AV.v (Value.tuple (Array.mk [])), AV.v (Value.tuple (Array.mk [])), AV.v (Value.tuple (Array.mk [])), AV.v (Value.tuple (Array.mk [])), AV.v (Value.tuple (Array.mk [])), AV.v (Value.tuple (Array.mk [])), AV.v (Value.tuple (Array.mk [])), AV.v (Value.tuple (Array.mk [])), AV.v (Value.tuple (Array.mk [])), AV.v (Value.tuple (Array.mk [])), AV.v (Value.tuple (Array.mk [])), AV.v (Value.tuple (Array.mk [])), AV.v (Value.tuple (Array.mk [])), AV.v (Value.tuple (Array.mk []))] [AV.any, AV.v (Value.int IntKind.i64 r), AV.any, AV.any, AV.any, AV.ptr 1100 0, AV.v (Value.int IntKind.i64 (Int.ofNat 0)), AV.any, AV.any, AV.any, AV.any, AV.any, AV.any, AV.any, AV.any, AV.any, AV.any, AV.any, AV.any, AV.any, AV.v (Value.slice oa n c), AV.v (Value.int IntKind.i64 (Int.ofNat n)), AV.v (Value.int IntKind.i64 (Int.ofNat 0)), AV.any, AV.any, AV.any, AV.any, AV.any, AV.any, AV.any, AV.any, AV.any, AV.any, AV.any, AV.any, AV.any, AV.any, AV.any, AV.any, AV.any, AV.any, AV.any, AV.any, AV.any, AV.any, AV.any, AV.any, AV.any, AV.any, AV.any, AV.any, AV.any, AV.any, AV.any, AV.any, AV.any, AV.any, AV.any, AV.any, AV.any, AV.any, AV.any, AV.any, AV.any, AV.any, AV.any, AV.any, AV.any, AV.any, AV.any, AV.any, AV.any, AV.any, AV.any, AV.any, AV.any, AV.any, AV.any, AV.any])).a ((Cnd.p (OW (AO.own (Md.turns []) (qH [])) (AO.own (Md.turns []) (qH [])))).a ((Cnd.p ((fFair, 15, loopN fFair 15, lT r L.length L Q).snd.snd.fst = (fFair, 15, loopN fFair 15, lT r L.length L Q).snd.snd.fst)).a ((Cnd.p True).a ((Cnd.p (VW [AV.any, AV.v (Value.int IntKind.i64 r), AV.any, AV.any, AV.any, AV.ptr 1100 0, AV.v (Value.int IntKind.i64 (Int.ofNat L.length)), AV.any, AV.any, AV.slice 1101 0 0 1 (Cp.ex 0), AV.v (Value.int IntKind.i64 (Int.ofNat 0)), AV.any, AV.any, AV.any, AV.any, AV.any, AV.any, AV.any, AV.any, AV.any, AV.any, AV.any, AV.any, AV.any, AV.any, AV.any, AV.any, AV.any, AV.any, AV.any, AV.any, AV.any, AV.slice 1101 0 0 1 (Cp.ex 0), AV.any, AV.any, AV.any, AV.any, AV.any, AV.any, AV.any, AV.any, AV.any, AV.any, AV.any, AV.any, AV.any, AV.any, AV.any, AV.any, AV.any, AV.any, AV.any, AV.any, AV.any, AV.any, AV.any, AV.any, AV.any, AV.any, AV.any, AV.any, AV.any, AV.any, AV.any, AV.any, AV.any, AV.any, AV.any, AV.any, AV.any, AV.any, AV.any, AV.any, AV.any, AV.any, AV.any, AV.any, AV.any, AV.any] [AV.any, AV.v (Value.int IntKind.i64 r), AV.any, AV.any, AV.any, AV.ptr 1100 0, AV.v (Value.int IntKind.i64 (Int.ofNat L.length)), AV.any, AV.any, AV.slice 1101 0 0 1 (Cp.lo 0), AV.v (Value.int IntKind.i64 (Int.ofNat 0)), AV.any, AV.any, AV.any, AV.any, AV.any, AV.any, AV.any, AV.any, AV.any, AV.any, AV.any, AV.any, AV.any, AV.any, AV.any, AV.any, AV.any, AV.any, AV.any, AV.any, AV.any, AV.any, AV.any, AV.any, AV.any, AV.any, AV.any, AV.any, AV.any, AV.any, AV.any, AV.any, AV.any, AV.any, AV.any, AV.any, AV.any, AV.any, AV.any, AV.any, AV.any, AV.any, AV.any, AV.any, AV.any, AV.any, AV.any, AV.any, AV.any, AV.any, AV.any, AV.any, AV.any, AV.any, AV.any, AV.any, AV.any, AV.any, AV.any, AV.any, AV.any, AV.any, AV.any, AV.any, AV.any, AV.any, AV.any, AV.any])).a ((Cnd.p (OW (AO.own (Md.turns L) (qH L)) (AO.own (Md.turns L) (qH L)))).a ((Cnd.p (OW (AO.cells (rep [AV.v (Value.int IntKind.i64 (Int.ofNat 0))] 0) 6) (AO.cells [] 6))).a (((Cnd.p True).a ((Cnd.p (VW [AV.ptr 1100 0] [AV.ptr 1100 0])).a ((Cnd.p (OW (AO.own (Md.turns Q) (qH Q)) (AO.own (Md.turns Q) (qH Q)))).a Cnd.t))).a (((Cnd.p (Wk (AV.v (Value.bool (↑Q.length == Int.ofNat L.length))) (AV.v (Value.bool true)))).a Cnd.t).a Cnd.t)))))))))))))))) := by kernel_rfl
theorem oFairZ_eq (W : World) (oa : Option Addr) (n c : Nat) (r : Int) (F : HP) : wRun [(fSpk, cSpk), (fNew, cNew), (fCons, cCsZ)] (hintL [(fFair, 1, 1, hv (.lit false)), (fFair, 4, 1, hv (.lit false)), (fFair, 7, 1, hv (iv (Int.ofNat n))), (fFair, 26, 4, hv (bv true))]) [(fFair, 8, loopN fFair 8, lJ (slV oa n c) r n []), (fFair, 15, loopN fFair 15, lT r 0 [] [])] W fFair [slV oa n c, iv r] [] [] F = VT.leaf (AV.v (Value.bool true)) [] 1102 (((Cnd.p True).a ((Cnd.p (VW [] [])).a Cnd.t)).a (((Cnd.p (Wk (AV.v (Value.bool false)) (AV.lit false))).a Cnd.t).a (((Cnd.p True).a ((Cnd.p (VW [AV.agg [AV.v (Value.int IntKind.i64 (Int.ofNat 0)), AV.v (Value.int IntKind.i64 (Int.ofNat 0)), AV.v (Value.int IntKind.i64 (Int.negSucc 0)), AV.v (Value.int IntKind.i64 (Int.ofNat 0)), AV.v (Value.string (ByteArray.mk (Array.mk []))), AV.v (Value.string (ByteArray.mk (Array.mk []))), AV.v (Value.string (ByteArray.mk (Array.mk []))), AV.v (Value.bool false), AV.v (Value.bool false), AV.v (Value.bool false)]] [AV.agg [AV.v (Value.int IntKind.i64 (Int.ofNat 0)), AV.v (Value.int IntKind.i64 (Int.ofNat 0)), AV.v (Value.int IntKind.i64 (Int.negSucc 0)), AV.v (Value.int IntKind.i64 (Int.ofNat 0)), AV.v (Value.string ByteArray.empty), AV.v (Value.string ByteArray.empty), AV.v (Value.string ByteArray.empty), AV.v (Value.bool false), AV.v (Value.bool false), AV.v (Value.bool false)]])).a Cnd.t)).a (((Cnd.p (Wk (AV.v (Value.bool false)) (AV.lit false))).a Cnd.t).a (((Cnd.p (Wk (AV.v (Value.int IntKind.i64 ↑n)) (AV.v (Value.int IntKind.i64 (Int.ofNat n))))).a Cnd.t).a ((Cnd.p ((fFair, 8, loopN fFair 8, lJ (slV oa n c) r n []).snd.snd.fst = (fFair, 8, loopN fFair 8, lJ (slV oa n c) r n []).snd.snd.fst)).a ((Cnd.p True).a ((Cnd.p (VW [AV.v (Value.slice oa n c), AV.v (Value.int IntKind.i64 r), AV.v (Value.tuple (Array.mk [])), AV.v (Value.tuple (Array.mk [])), AV.v (Value.bool false), AV.ptr 1100 0, AV.v (Value.int IntKind.i64 (Int.ofNat 0)), AV.v (Value.tuple (Array.mk [])), AV.v (Value.tuple (Array.mk [])), AV.v (Value.tuple (Array.mk [])), AV.v (Value.tuple (Array.mk [])), AV.v (Value.tuple (Array.mk [])), AV.v (Value.tuple (Array.mk [])), AV.v (Value.tuple (Array.mk [])), AV.v (Value.bool true), AV.lit false, AV.agg [AV.v (Value.int IntKind.i64 (Int.ofNat 0)), AV.v (Value.int IntKind.i64 (Int.ofNat 0)), AV.v (Value.int IntKind.i64 (Int.negSucc 0)), AV.v (Value.int IntKind.i64 (Int.ofNat 0)), AV.v (Value.string (ByteArray.mk (Array.mk []))), AV.v (Value.string (ByteArray.mk (Array.mk []))), AV.v (Value.string (ByteArray.mk (Array.mk []))), AV.v (Value.bool false), AV.v (Value.bool false), AV.v (Value.bool false)], AV.ptr 1100 0, AV.ptr 1100 0, AV.lit false, AV.v (Value.slice oa n c), AV.v (Value.int IntKind.i64 (Int.ofNat n)), AV.v (Value.int IntKind.i64 (Int.ofNat 0)), AV.v (Value.tuple (Array.mk [])), AV.v (Value.tuple (Array.mk [])), AV.v (Value.tuple (Array.mk [])), AV.v (Value.tuple (Array.mk [])), AV.v (Value.tuple (Array.mk [])), AV.v (Value.tuple (Array.mk [])), AV.v (Value.tuple (Array.mk [])), AV.v (Value.tuple (Array.mk [])), AV.v (Value.tuple (Array.mk [])), AV.v (Value.tuple (Array.mk [])), AV.v (Value.tuple (Array.mk [])), AV.v (Value.tuple (Array.mk [])), AV.v (Value.tuple (Array.mk [])), AV.v (Value.tuple (Array.mk [])), AV.v (Value.tuple (Array.mk [])), AV.v (Value.tuple (Array.mk [])), AV.v (Value.tuple (Array.mk [])), AV.v (Value.tuple (Array.mk [])), AV.v (Value.tuple (Array.mk [])), AV.v (Value.tuple (Array.mk [])), AV.v (Value.tuple (Array.mk [])), AV.v (Value.tuple (Array.mk [])), AV.v (Value.tuple (Array.mk [])), AV.v (Value.tuple (Array.mk [])), AV.v (Value.tuple (Array.mk [])), AV.v (Value.tuple (Array.mk [])), AV.v (Value.tuple (Array.mk [])), AV.v (Value.tuple (Array.mk [])), AV.v (Value.tuple (Array.mk [])), AV.v (Value.tuple (Array.mk [])), AV.v (Value.tuple (Array.mk [])), AV.v (Value.tuple (Array.mk [])), AV.v (Value.tuple (Array.mk [])), AV.v (Value.tuple (Array.mk [])), AV.v (Value.tuple (Array.mk [])), AV.v (Value.tuple (Array.mk [])), AV.v (Value.tuple (Array.mk [])), AV.v (Value.tuple (Array.mk [])), AV.v (Value.tuple (Array.mk [])), AV.v (Value.tuple (Array.mk [])), AV.v (Value.tuple (Array.mk [])), AV.v (Value.tuple (Array.mk [])), AV.v (Value.tuple (Array.mk [])), AV.v (Value.tuple (Array.mk [])), AV.v (Value.tuple (Array.mk [])), AV.v (Value.tuple (Array.mk [])), AV.v (Value.tuple (Array.mk [])), AV.v (Value.tuple (Array.mk [])), AV.v (Value.tuple (Array.mk [])), AV.v (Value.tuple (Array.mk [])), AV.v (Value.tuple (Array.mk [])), AV.v (Value.tuple (Array.mk [])), AV.v (Value.tuple (Array.mk [])), AV.v (Value.tuple (Array.mk [])), AV.v (Value.tuple (Array.mk [])), AV.v (Value.tuple (Array.mk []))] [AV.any, AV.v (Value.int IntKind.i64 r), AV.any, AV.any, AV.any, AV.ptr 1100 0, AV.v (Value.int IntKind.i64 (Int.ofNat 0)), AV.any, AV.any, AV.any, AV.any, AV.any, AV.any, AV.any, AV.any, AV.any, AV.any, AV.any, AV.any, AV.any, AV.v (Value.slice oa n c), AV.v (Value.int IntKind.i64 (Int.ofNat n)), AV.v (Value.int IntKind.i64 (Int.ofNat 0)), AV.any, AV.any, AV.any, AV.any, AV.any, AV.any, AV.any, AV.any, AV.any, AV.any, AV.any, AV.any, AV.any, AV.any, AV.any, AV.any, AV.any, AV.any, AV.any, AV.any, AV.any, AV.any, AV.any, AV.any, AV.any, AV.any, AV.any, AV.any, AV.any, AV.any, AV.any, AV.any, AV.any, AV.any, AV.any, AV.any, AV.any, AV.any, AV.any, AV.any, AV.any, AV.any, AV.any, AV.any, AV.any, AV.any, AV.any, AV.any, AV.any, AV.any, AV.any, AV.any, AV.any, AV.any, AV.any, AV.any])).a ((Cnd.p (OW (AO.own (Md.turns []) (qH [])) (AO.own (Md.turns []) (qH [])))).a ((Cnd.p ((fFair, 15, loopN fFair 15, lT r 0 [] []).snd.snd.fst = (fFair, 15, loopN fFair 15, lT r 0 [] []).snd.snd.fst)).a ((Cnd.p True).a ((Cnd.p (VW [AV.any, AV.v (Value.int IntKind.i64 r), AV.any, AV.any, AV.any, AV.ptr 1100 0, AV.v (Value.int IntKind.i64 (Int.ofNat 0)), AV.any, AV.any, AV.slice 1101 0 0 1 (Cp.ex 0), AV.v (Value.int IntKind.i64 (Int.ofNat 0)), AV.any, AV.any, AV.any, AV.any, AV.any, AV.any, AV.any, AV.any, AV.any, AV.any, AV.any, AV.any, AV.any, AV.any, AV.any, AV.any, AV.any, AV.any, AV.any, AV.any, AV.any, AV.slice 1101 0 0 1 (Cp.ex 0), AV.any, AV.any, AV.any, AV.any, AV.any, AV.any, AV.any, AV.any, AV.any, AV.any, AV.any, AV.any, AV.any, AV.any, AV.any, AV.any, AV.any, AV.any, AV.any, AV.any, AV.any, AV.any, AV.any, AV.any, AV.any, AV.any, AV.any, AV.any, AV.any, AV.any, AV.any, AV.any, AV.any, AV.any, AV.any, AV.any, AV.any, AV.any, AV.any, AV.any, AV.any, AV.any, AV.any, AV.any, AV.any, AV.any] [AV.any, AV.v (Value.int IntKind.i64 r), AV.any, AV.any, AV.any, AV.ptr 1100 0, AV.v (Value.int IntKind.i64 (Int.ofNat 0)), AV.any, AV.any, AV.slice 1101 0 0 1 (Cp.lo 0), AV.v (Value.int IntKind.i64 (Int.ofNat 0)), AV.any, AV.any, AV.any, AV.any, AV.any, AV.any, AV.any, AV.any, AV.any, AV.any, AV.any, AV.any, AV.any, AV.any, AV.any, AV.any, AV.any, AV.any, AV.any, AV.any, AV.any, AV.any, AV.any, AV.any, AV.any, AV.any, AV.any, AV.any, AV.any, AV.any, AV.any, AV.any, AV.any, AV.any, AV.any, AV.any, AV.any, AV.any, AV.any, AV.any, AV.any, AV.any, AV.any, AV.any, AV.any, AV.any, AV.any, AV.any, AV.any, AV.any, AV.any, AV.any, AV.any, AV.any, AV.any, AV.any, AV.any, AV.any, AV.any, AV.any, AV.any, AV.any, AV.any, AV.any, AV.any, AV.any, AV.any, AV.any])).a ((Cnd.p (OW (AO.own (Md.turns []) (qH [])) (AO.own (Md.turns []) (qH [])))).a ((Cnd.p (OW (AO.cells (rep [AV.v (Value.int IntKind.i64 (Int.ofNat 0))] 0) 6) (AO.cells [] 6))).a (((Cnd.p True).a ((Cnd.p (VW [AV.ptr 1100 0] [AV.ptr 1100 0])).a ((Cnd.p (OW (AO.own (Md.turns []) (qH [])) (AO.own (Md.turns []) (qH [])))).a Cnd.t))).a (((Cnd.p (Wk (AV.v (Value.bool true)) (AV.v (Value.bool true)))).a Cnd.t).a Cnd.t)))))))))))))))) := by kernel_rfl
end
end Go.Proofs.Ytjjjchmkonnpfaa.Que

/- Queue: the document's examples, a closed run. -/
set_option linter.unusedVariables false
set_option linter.unusedSimpArgs false
namespace Go.Proofs.Ytjjjchmkonnpfaa.Que
open Go Go.RowKit Go.Proofs.Ytjjjchmkonnpfaa.Eng Go.Proofs.Ytjjjchmkonnpfaa.Kit
abbrev fSpeaks : Nat := 6
theorem speaks_calls (w : World) : Calls Try.prog fSpeaks (List.toArray []) w fun e w' => e = .returned (.bool true) ∧ Below w.heap.size w w' :=
  closed_call (args := []) (by kernel_rfl) (fuel := 100000) (fun w => by kernel_rfl) w
noncomputable def cSpeaks : List AV → Option (AP AV) := mkC (fun _ => .ret ()) (fun _ => True) (fun _ i => i) (fun _ => []) (fun _ => []) (fun _ => .leaf .ret [.v (.bool true)] [])
theorem cSpeaks_ok (F : HP) : C1OK Try.prog F fSpeaks cSpeaks :=
  mkC_ok (W := default) oldDef (fun _ => .v (.bool true)) (fun _ => RO.ret _) (fun _ => rfl) (fun _ _ => tri_closed (args := []) speaks_calls) fun _ => ⟨rfl, rfl, trivial, all_nil, ⟨trivial, trivial⟩, all_nil⟩
end Go.Proofs.Ytjjjchmkonnpfaa.Que

/- QueueFair: every call answers true. -/
set_option linter.unusedVariables false
set_option linter.unusedSimpArgs false
set_option maxRecDepth 100000
namespace Go.Proofs.Ytjjjchmkonnpfaa.Que
open Go Go.RowKit Go.Proofs.Ytjjjchmkonnpfaa.Eng Go.Proofs.Ytjjjchmkonnpfaa.Kit
/-- Numbers that come in. -/
structure InI (W : World) (oa : Option Addr) (l : List Int) : Prop where
  here : l ≠ [] → ∃ a, oa = some a
  at_ : ∀ a, oa = some a → ∀ k, k < l.length → W.cell? (a.add (k * 1)) = some (.int .i64 (l.getD k 0))
  few : l.length ≤ 1048576
def ded (l : List Int) : List Int := l.foldl (fun acc x => if x ∈ acc then acc else acc ++ [x]) []
theorem ded_next (l : List Int) (k : Nat) (hk : k < l.length) : ded (l.take (k + 1)) = if l.getD k 0 ∈ ded (l.take k) then ded (l.take k) else ded (l.take k) ++ [l.getD k 0] := by
  unfold ded
  rw [take_next l 0 k hk, List.foldl_append]
  rfl
theorem ded_spec (l : List Int) : ∀ k, k ≤ l.length → (ded (l.take k)).Nodup ∧ (ded (l.take k)).length ≤ k
  | 0, _ => ⟨List.nodup_nil, Nat.le_refl _⟩
  | k + 1, hk => by
    obtain ⟨h1, h2⟩ := ded_spec l k (by omega)
    rw [ded_next l k (by omega)]
    by_cases h : l.getD k 0 ∈ ded (l.take k)
    · rw [if_pos h]; exact ⟨h1, by omega⟩
    · rw [if_neg h]
      refine ⟨?_, by rw [List.length_append]; simp only [List.length_singleton]; omega⟩
      rw [List.nodup_append]
      refine ⟨h1, by simp, fun a ha b hb => ?_⟩
      simp only [List.mem_singleton] at hb
      subst hb
      intro e; subst e; exact h ha
theorem gPtr_ro : ∀ args, RO (gPtr args) := by
  intro args
  unfold gPtr
  split
  · exact RO.ret _
  · exact RO.fail _
theorem gI_ro : ∀ args, RO (gI args) := by
  intro args
  unfold gI
  repeat' split
  all_goals first | exact RO.ret _ | exact RO.fail _
theorem qO_cl (K : Nat → Bool) (L : List Int) : (qO L).cl K := trivial
theorem roomT {n : Nat} (h : n ≤ 8388608) : RoomT n := by unfold RoomT; omega
theorem cJnT_ok (L : List Int) (id : Int) (h : id ∉ L) (hR : RoomT L.length) (F : HP) : C1OK Try.prog F fJoin (cJn L (L ++ [id]) id true) :=
  mkC_ok (W := default) oldDef (fun _ => bv true) gPtr_ro (fun _ => rfl) (fun _ _ => AjoinN_tri L id h hR) fun _ => ⟨rfl, rfl, ⟨rfl, trivial, trivial⟩, all_cons (qO_cl _ _) all_nil, ⟨trivial, trivial⟩, all_cons (qO_cl _ _) all_nil⟩
theorem cJnF_ok (L : List Int) (id : Int) (h : id ∈ L) (hR : RoomT L.length) (F : HP) : C1OK Try.prog F fJoin (cJn L L id false) :=
  mkC_ok (W := default) oldDef (fun _ => bv false) gPtr_ro (fun _ => rfl) (fun _ _ => AjoinF_tri L id h hR) fun _ => ⟨rfl, rfl, ⟨rfl, trivial, trivial⟩, all_cons (qO_cl _ _) all_nil, ⟨trivial, trivial⟩, all_cons (qO_cl _ _) all_nil⟩
theorem cTn_ok (x : Int) (R : List Int) (h : x ∉ R) (hR : RoomT (R.length + 1)) (F : HP) : C1OK Try.prog F fTurn (cTn (x :: R) (R ++ [x]) x) :=
  mkC_ok (W := default) oldDef (fun _ => .tuple [iv x, .v (.bool true)]) gPtr_ro (fun _ => rfl) (fun _ _ => Aturn_tri x R h hR) fun _ => ⟨rfl, rfl, ⟨rfl, trivial, trivial⟩, all_cons (qO_cl _ _) all_nil, ⟨⟨trivial, trivial, trivial⟩, trivial⟩, all_cons (qO_cl _ _) all_nil⟩
theorem cCsS_ok (L : List Int) (hL : L ≠ []) (hR : RoomT L.length) (F : HP) : C1OK Try.prog F fCons (cCsS L) :=
  mkC_ok (W := default) oldDef (fun _ => sI 1002 L.length L.length) gPtr_ro (fun _ => rfl) (fun _ _ => Acons_tri L hL hR) fun _ => ⟨rfl, rfl, ⟨rfl, trivial⟩, all_cons (qO_cl _ _) all_nil, ⟨rfl, trivial⟩, all_cons (qO_cl _ _) (all_cons (rI_cl _ _) all_nil)⟩
theorem cCsZ_ok (F : HP) : C1OK Try.prog F fCons cCsZ :=
  mkC_ok (W := default) oldDef (fun _ => nilV) gPtr_ro (fun _ => rfl) (fun _ _ => AconsZ_tri) fun _ => ⟨rfl, rfl, ⟨rfl, trivial⟩, all_cons (qO_cl _ _) all_nil, ⟨trivial, trivial⟩, all_cons (qO_cl _ _) all_nil⟩
theorem cNew_ok (F : HP) : C1OK Try.prog F fNew cNew :=
  mkC_ok (W := default) oldDef (fun _ => .ptr 1000 0) (fun _ => RO.ret _) (fun _ => rfl) (fun _ _ => Anew_tri) fun _ => ⟨rfl, rfl, ⟨⟨trivial, trivial, trivial, trivial, trivial, trivial, trivial, trivial, trivial, trivial, trivial⟩, trivial⟩, all_nil, ⟨rfl, trivial⟩, all_cons (qO_cl _ _) all_nil⟩
theorem cSpk_ok (F : HP) : C1OK Try.prog F fSpk cSpk := cSpeaks_ok F
/-! All join. -/
theorem j_loop (W : World) (oa : Option Addr) (l : List Int) (c : Nat) (r : Int) (hI : InI W oa l) : LTri Try.prog W (loopN fFair 8) (tms 0 79 (aJ (slV oa l.length c) r l.length 0 0)) [(0, qO [])] (.exit 0) (tms 0 79 [(1, iv r), (5, .ptr 0 0), (6, iv (Int.ofNat (ded l).length))]) [(0, qO (ded l))] := by
  refine ltri_run (W := W) (g := fFair) (b := loopN fFair 8) (σ := {k : Nat // k ≤ l.length}) 79 (fun k => aJ (slV oa l.length c) r l.length (ded (l.take k.1)).length k.1) (fun k => [(0, qO (ded (l.take k.1)))]) (.exit 0) _ _ (fun k => l.length - k.1) [0] [1, 5, 6, 20, 21, 22] (by intro h; cases h) (fun _ => rfl) rfl ?_ ⟨0, Nat.zero_le _⟩
  rintro ⟨k, hk⟩
  obtain ⟨hnd, hle⟩ := ded_spec l k hk
  have hfew := hI.few
  have hR : RoomT (ded (l.take k)).length := roomT (by omega)
  by_cases h1 : k < l.length
  · obtain ⟨ad, rfl⟩ := hI.here (fun e => by rw [e] at h1; cases h1)
    have e0 := hI.at_ ad rfl k h1
    have e1 := ltT h1
    have hw := wrap_succ k (by omega)
    have hnx := ded_next l k h1
    have hw2 := wrap_succ (ded (l.take k)).length (by omega)
    clear hfew
    generalize l.getD k 0 = x at *
    by_cases hx : x ∈ ded (l.take k)
    · rw [if_pos hx] at hnx
      refine ⟨[(fJoin, cJn (ded (l.take k)) (ded (l.take k)) x false)], hJ k x false 0, [], fun F _ => one_c (cJnF_ok _ x hx hR F), fun _ _ => noL, fun F => ?_⟩
      refine cast (congrArg (VAll _) (oJF_eq W ad l.length c (ded (l.take k)).length k r (ded (l.take k)) x F).symm) ⟨⟨?_, rfl, .inl ⟨rfl, ⟨k + 1, h1⟩, sub_down h1, [], rfl, rfl, ⟨Wk.refl _, Wk.refl _, wk_int (by rw [hnx]), Wk.refl _, Wk.refl _, Wk.refl _, trivial⟩, ⟨_, rfl, OW.of_eq (by rw [hnx]; rfl)⟩, trivial⟩⟩⟩
      simp only [Cnd.holds, e0, e1, h1, Option.isSome_some, Option.getD_some, Nat.blt_eq, true_and, and_true]
      and_intros
      all_goals first
        | (with_reducible exact wk_int hw)
        | (with_reducible exact trivial)
        | (with_reducible exact rfl)
        | (with_reducible exact Wk.refl _)
        | (with_reducible exact VW.refl _)
        | (with_reducible exact OW.refl _)
        | (with_reducible exact wk_lit _)
        | (with_reducible assumption)
        | exact rfl
        | exact Wk.refl _
        | exact VW.refl _
        | exact OW.refl _
        | ((repeat (first | exact VW.nil | refine VW.cons (Wk.refl _) ?_ | refine VW.cons (Wk.any _) ?_ | refine VW.cons (wk_cap (Nat.le_refl _)) ?_)); done)
    · rw [if_neg hx] at hnx
      refine ⟨[(fJoin, cJn (ded (l.take k)) (ded (l.take k) ++ [x]) x true)], hJ k x true ((ded (l.take k)).length + 1), [], fun F _ => one_c (cJnT_ok _ x hx hR F), fun _ _ => noL, fun F => ?_⟩
      refine cast (congrArg (VAll _) (oJT_eq W ad l.length c (ded (l.take k)).length _ k r (ded (l.take k)) (ded (l.take k) ++ [x]) x F).symm) ⟨⟨?_, rfl, .inl ⟨rfl, ⟨k + 1, h1⟩, sub_down h1, [], rfl, rfl, ⟨Wk.refl _, Wk.refl _, wk_int (by rw [hnx, List.length_append]; rfl), Wk.refl _, Wk.refl _, Wk.refl _, trivial⟩, ⟨_, rfl, OW.of_eq (by rw [hnx]; rfl)⟩, trivial⟩⟩⟩
      simp only [Cnd.holds, e0, e1, h1, Option.isSome_some, Option.getD_some, Nat.blt_eq, true_and, and_true]
      and_intros
      all_goals first
        | (with_reducible exact wk_int hw)
        | (with_reducible exact wk_int hw2)
        | (with_reducible exact trivial)
        | (with_reducible exact rfl)
        | (with_reducible exact Wk.refl _)
        | (with_reducible exact VW.refl _)
        | (with_reducible exact OW.refl _)
        | (with_reducible exact wk_lit _)
        | (with_reducible assumption)
        | exact rfl
        | exact Wk.refl _
        | exact VW.refl _
        | exact OW.refl _
        | ((repeat (first | exact VW.nil | refine VW.cons (Wk.refl _) ?_ | refine VW.cons (Wk.any _) ?_ | refine VW.cons (wk_cap (Nat.le_refl _)) ?_)); done)
  · have hke : k = l.length := by omega
    subst hke
    refine ⟨[], hintL [(fFair, 8, 0, hv (.lit false))], [], fun _ _ => noC, fun _ _ => noL, fun F => ?_⟩
    have ht : l.take l.length = l := List.take_length
    refine cast (congrArg (VAll _) (oJE_eq W (slV oa l.length c) l.length (ded (l.take l.length)).length l.length r (ded (l.take l.length)) F).symm) ⟨⟨?_, rfl, .inr ⟨rfl, [], rfl, rfl, ⟨Wk.refl _, Wk.refl _, wk_int (by rw [ht]), trivial⟩, ⟨_, rfl, OW.of_eq (by rw [ht]; rfl)⟩, trivial⟩⟩⟩
    simp only [Cnd.holds, and_true]
    exact wk_litE ltF
theorem lJ_ok (W : World) (oa : Option Addr) (l : List Int) (c : Nat) (r : Int) (hI : InI W oa l) (F : HP) (hF : OldOK W F) : L1OK Try.prog F (loopN fFair 8) (lJ (slV oa l.length c) r l.length (ded l)) :=
  mkL_ok hF (fun _ => gPtr_ro _) (fun _ _ => j_loop W oa l c r hI) fun _ => by
    simp only [RT.pick]
    exact closedT rfl rfl (all_cons trivial (all_cons rfl (all_cons trivial (all_cons trivial (all_cons trivial (all_cons trivial all_nil)))))) (all_cons (qO_cl _ _) all_nil) (all_cons trivial (all_cons rfl (all_cons trivial all_nil))) (all_cons (qO_cl _ _) all_nil)
/-! Who was told lately. -/
theorem i64_small {a : Int} (h1 : -9223372036854775808 ≤ a) (h2 : a ≤ 9223372036854775807) : IntKind.i64.wrap a = a := IntWalk.i64_in _ (by omega)
theorem i_loop (r x : Int) (n i m : Nat) (Q T : List Int) (hm : m = T.length) (hmb : m ≤ 8388608) (hnb : n ≤ 1048576) (hno : ∀ k, k < m → m < k + n → T.getD k 0 ≠ x) :
    LTri Try.prog default (loopN fFair 21) (tms 0 79 (aI r x n i m ((m : Int) - 1))) (oI Q T) (.exit 4) (tms 0 79 (zI r x n i m)) (oI Q T) := by
  have key := ltri_run (W := default) (g := fFair) (b := loopN fFair 21) (σ := {j : Nat // j ≤ m}) 79 (fun j => aI r x n i m ((m : Int) - 1 - j.1)) (fun _ => oI Q T) (.exit 4) (zI r x n i m) (oI Q T) (fun j => m - j.1) [0, 1] [1, 5, 6, 9, 10, 11, 13] (by intro h; cases h) (fun _ => rfl) rfl ?_ ⟨0, Nat.zero_le _⟩
  · have e : ((m : Int) - 1 - ((0 : Nat) : Int)) = (m : Int) - 1 := by omega
    have key' : LTri Try.prog default (loopN fFair 21) (tms 0 79 (aI r x n i m ((m : Int) - 1 - ((0 : Nat) : Int)))) (oI Q T) (.exit 4) (tms 0 79 (zI r x n i m)) (oI Q T) := key
    rw [e] at key'
    exact key'
  rintro ⟨j, hj⟩
  by_cases h0 : j < m
  · obtain ⟨k, hk⟩ : ∃ k, m = k + 1 + j := ⟨m - 1 - j, by omega⟩
    have hkI : ((m : Int) - 1 - j) = Int.ofNat k := by rw [Int.ofNat_eq_natCast]; omega
    have hd : IntKind.i64.wrap ((m : Int) - Int.ofNat n) = (m : Int) - n := i64_small (by rw [Int.ofNat_eq_natCast]; omega) (by rw [Int.ofNat_eq_natCast]; omega)
    by_cases h1 : m < k + n
    · have hkm : k < T.length := by omega
      have g0 : ∀ d, (rowV encI T).getD (0 + k * 1) d = iv (T.getD k 0) := rI_get T k hkm
      have g1 := rI_lt T k hkm
      have hx := hno k (by omega) h1
      have hw : IntKind.i64.wrap (Int.ofNat k - Int.ofNat 1) = (m : Int) - 1 - (j + 1 : Nat) := by rw [i64_small (by simp only [Int.ofNat_eq_natCast]; omega) (by simp only [Int.ofNat_eq_natCast]; omega)]; simp only [Int.ofNat_eq_natCast]; omega
      refine ⟨[], hI true true ((m : Int) - n) (T.getD k 0) ((m : Int) - 1 - (j + 1 : Nat)), [], fun _ _ => noC, fun _ _ => noL, fun F => ?_⟩
      simp only [hkI]
      refine cast (congrArg (VAll _) (oIR_eq r x n i m k ((m : Int) - n) (T.getD k 0) ((m : Int) - 1 - (j + 1 : Nat)) Q T F).symm) ⟨⟨?_, rfl, .inl ⟨rfl, ⟨j + 1, h0⟩, sub_down h0, [], rfl, rfl, ⟨Wk.refl _, Wk.refl _, Wk.refl _, Wk.refl _, Wk.refl _, Wk.refl _, Wk.refl _, trivial⟩, ⟨_, rfl, OW.refl _⟩, ⟨_, rfl, rI_ow rfl rfl⟩, trivial⟩⟩⟩
      have b1 : decide (Int.ofNat k > (m : Int) - n) = true := decide_eq_true (by rw [Int.ofNat_eq_natCast]; omega)
      have b2 : k < m := by omega
      have b3 : (T.getD k 0 == x) = false := beqF hx
      simp only [Cnd.holds, g0, g1, b1, b2, b3, hd, Nat.blt_eq, true_and, and_true]
      and_intros
      all_goals first
        | (with_reducible exact wk_int hw)
        | (with_reducible exact trivial)
        | (with_reducible exact rfl)
        | (with_reducible exact Wk.refl _)
        | (with_reducible exact VW.refl _)
        | (with_reducible exact OW.refl _)
        | (with_reducible exact wk_lit _)
        | (with_reducible assumption)
        | exact rfl
        | exact Wk.refl _
        | exact VW.refl _
        | exact OW.refl _
        | ((repeat (first | exact VW.nil | refine VW.cons (Wk.refl _) ?_ | refine VW.cons (Wk.any _) ?_ | refine VW.cons (wk_cap (Nat.le_refl _)) ?_)); done)
    · refine ⟨[], hI true false ((m : Int) - n) 0 0, [], fun _ _ => noC, fun _ _ => noL, fun F => ?_⟩
      refine cast (congrArg (VAll _) (oIE_eq r x n i m ((m : Int) - 1 - j) ((m : Int) - n) Q T F).symm) ⟨⟨?_, rfl, .inr ⟨rfl, [], rfl, rfl, ⟨Wk.refl _, Wk.refl _, Wk.refl _, Wk.refl _, Wk.refl _, Wk.refl _, trivial⟩, ⟨_, rfl, OW.refl _⟩, ⟨_, rfl, rI_ow rfl rfl⟩, trivial⟩⟩⟩
      have b0 : decide ((m : Int) - 1 - j ≥ Int.ofNat 0) = true := decide_eq_true (by rw [Int.ofNat_eq_natCast]; omega)
      have b1 : decide ((m : Int) - 1 - j > (m : Int) - n) = false := decide_eq_false (by omega)
      simp only [Cnd.holds, b0, b1, hd, Nat.blt_eq, true_and, and_true]
      and_intros
      all_goals first
        | (with_reducible exact wk_litE b0)
        | (with_reducible exact wk_litE b1)
        | (with_reducible exact trivial)
        | (with_reducible exact rfl)
        | (with_reducible exact Wk.refl _)
        | (with_reducible exact VW.refl _)
        | (with_reducible exact OW.refl _)
        | (with_reducible exact wk_lit _)
        | (with_reducible assumption)
        | exact rfl
        | exact Wk.refl _
        | exact VW.refl _
        | exact OW.refl _
        | ((repeat (first | exact VW.nil | refine VW.cons (Wk.refl _) ?_ | refine VW.cons (Wk.any _) ?_ | refine VW.cons (wk_cap (Nat.le_refl _)) ?_)); done)
  · have hje : j = m := by omega
    subst hje
    refine ⟨[], hI false false 0 0 0, [], fun _ _ => noC, fun _ _ => noL, fun F => ?_⟩
    refine cast (congrArg (VAll _) (oIN_eq r x n i j ((j : Int) - 1 - j) Q T F).symm) ⟨⟨?_, rfl, .inr ⟨rfl, [], rfl, rfl, ⟨Wk.refl _, Wk.refl _, Wk.refl _, Wk.refl _, Wk.refl _, Wk.refl _, trivial⟩, ⟨_, rfl, OW.refl _⟩, ⟨_, rfl, rI_ow rfl rfl⟩, trivial⟩⟩⟩
    have b0 : decide ((j : Int) - 1 - j ≥ Int.ofNat 0) = false := decide_eq_false (by rw [Int.ofNat_eq_natCast]; omega)
    simp only [Cnd.holds, b0, Nat.blt_eq, true_and, and_true]
    and_intros
    all_goals first
      | (with_reducible exact wk_litE b0)
      | (with_reducible exact trivial)
      | (with_reducible exact rfl)
      | (with_reducible exact Wk.refl _)
      | (with_reducible exact VW.refl _)
      | (with_reducible exact OW.refl _)
      | (with_reducible exact wk_lit _)
      | (with_reducible assumption)
      | exact rfl
      | exact Wk.refl _
      | exact VW.refl _
      | exact OW.refl _
      | ((repeat (first | exact VW.nil | refine VW.cons (Wk.refl _) ?_ | refine VW.cons (Wk.any _) ?_ | refine VW.cons (wk_cap (Nat.le_refl _)) ?_)); done)
theorem aI_cl (K : Nat → Bool) (h0 : K 0 = true) (h1 : K 1 = true) (r x : Int) (n i m : Nat) (k : Int) : ∀ y ∈ aI r x n i m k, AV.cl K y.2 := all_cons trivial (all_cons h0 (all_cons trivial (all_cons h1 (all_cons trivial (all_cons trivial (all_cons trivial all_nil))))))
theorem zI_cl (K : Nat → Bool) (h0 : K 0 = true) (h1 : K 1 = true) (r x : Int) (n i m : Nat) : ∀ y ∈ zI r x n i m, AV.cl K y.2 := all_cons trivial (all_cons h0 (all_cons trivial (all_cons h1 (all_cons trivial (all_cons trivial all_nil)))))
theorem lI_ok (r x : Int) (n i m : Nat) (Q T : List Int) (hm : m = T.length) (hmb : m ≤ 8388608) (hnb : n ≤ 1048576) (hno : ∀ k, k < m → m < k + n → T.getD k 0 ≠ x) (F : HP) : L1OK Try.prog F (loopN fFair 21) (lI r x n i m ((m : Int) - 1) Q T) :=
  mkL_ok (W := default) oldDef gI_ro (fun _ _ => i_loop r x n i m Q T hm hmb hnb hno) fun _ => by
    simp only [RT.pick]
    exact closedT rfl rfl (aI_cl _ rfl rfl _ _ _ _ _ _) (all_cons (qO_cl _ _) (all_cons (rI_cl _ _) all_nil)) (zI_cl _ rfl rfl _ _ _ _ _) (all_cons (qO_cl _ _) (all_cons (rI_cl _ _) all_nil))
end Go.Proofs.Ytjjjchmkonnpfaa.Que

/- QueueFair: the turns; every call answers true. -/
set_option linter.unusedVariables false
set_option linter.unusedSimpArgs false
set_option maxRecDepth 100000
namespace Go.Proofs.Ytjjjchmkonnpfaa.Que
open Go Go.RowKit Go.Proofs.Ytjjjchmkonnpfaa.Eng Go.Proofs.Ytjjjchmkonnpfaa.Kit
/-- So many turns. -/
def and7 (r : Int) : Int := IntKind.i64.wrap ↑(BitVec.ofInt 64 r &&& BitVec.ofInt 64 (Int.ofNat 7)).toNat
theorem and7_bound (r : Int) : 0 ≤ and7 r ∧ and7 r ≤ 7 := by
  have h : (BitVec.ofInt 64 r &&& BitVec.ofInt 64 (Int.ofNat 7)).toNat ≤ 7 := by
    rw [BitVec.toNat_and]
    exact Nat.le_trans Nat.and_le_right (by decide)
  unfold and7
  rw [i64_small (by omega) (by omega)]
  omega
def nT (n : Nat) (r : Int) : Nat := n * (1 + (and7 r).toNat)
theorem nT_le (n : Nat) (r : Int) (h : n ≤ 1048576) : nT n r ≤ 8388608 := by
  obtain ⟨h1, h2⟩ := and7_bound r
  unfold nT
  have : 1 + (and7 r).toNat ≤ 8 := by omega
  exact Nat.le_trans (Nat.mul_le_mul h this) (by decide)
theorem nT_wrap (n : Nat) (r : Int) (h : n ≤ 1048576) : IntKind.i64.wrap (Int.ofNat n * IntKind.i64.wrap (Int.ofNat 1 + IntKind.i64.wrap ↑(BitVec.ofInt 64 r &&& BitVec.ofInt 64 (Int.ofNat 7)).toNat)) = Int.ofNat (nT n r) := by
  obtain ⟨h1, h2⟩ := and7_bound r
  have hle := nT_le n r h
  show IntKind.i64.wrap (Int.ofNat n * IntKind.i64.wrap (Int.ofNat 1 + and7 r)) = _
  obtain ⟨q, hq⟩ := Int.eq_ofNat_of_zero_le h1
  have hn : nT n r = n * (1 + q) := by unfold nT; rw [hq]; rfl
  rw [hn] at hle ⊢
  rw [hq] at h2 ⊢
  have e1 : Int.ofNat 1 + (q : Int) = Int.ofNat (1 + q) := by simp only [Int.ofNat_eq_natCast]; omega
  have e3 : IntKind.i64.wrap (Int.ofNat (1 + q)) = Int.ofNat (1 + q) := i64_small (by simp only [Int.ofNat_eq_natCast]; omega) (by simp only [Int.ofNat_eq_natCast]; omega)
  rw [e1, e3]
  have e2 : Int.ofNat n * Int.ofNat (1 + q) = Int.ofNat (n * (1 + q)) := by simp only [Int.ofNat_eq_natCast, Int.natCast_mul]
  rw [e2, i64_small (by simp only [Int.ofNat_eq_natCast]; omega) (by simp only [Int.ofNat_eq_natCast]; omega)]
def turn1 : List Int → List Int
  | [] => []
  | x :: R => R ++ [x]
def rotN : Nat → List Int → List Int
  | 0, Q => Q
  | k + 1, Q => rotN k (turn1 Q)
theorem turn1_len (Q : List Int) : (turn1 Q).length = Q.length := by cases Q <;> simp [turn1]
theorem rotN_len : ∀ k Q, (rotN k Q).length = Q.length
  | 0, Q => rfl
  | k + 1, Q => (rotN_len k _).trans (turn1_len Q)
/-- Who was told lately stands at the end. -/
structure FS (N n : Nat) (Qf : List Int) (i : Nat) (Q T : List Int) : Prop where
  le : i ≤ N
  t : T.length = i
  q : Q.length = n
  nd : Q.Nodup
  f : rotN (N - i) Q = Qf
  late : ∀ j, 1 ≤ j → j ≤ n → j ≤ T.length → T.getD (T.length - j) 0 = Q.getD (n - j) 0
theorem FS.no {N n : Nat} {Qf : List Int} {i : Nat} {x : Int} {R T : List Int} (h : FS N n Qf i (x :: R) T) : ∀ k, k < T.length → T.length < k + n → T.getD k 0 ≠ x := by
  intro k hk hkn e
  have hq := h.q
  have := h.late (T.length - k) (by omega) (by omega) (by omega)
  rw [show T.length - (T.length - k) = k from by omega, e] at this
  obtain ⟨p, hp⟩ : ∃ p, n - (T.length - k) = p + 1 := ⟨n - (T.length - k) - 1, by omega⟩
  rw [hp, List.getD_cons_succ] at this
  simp only [List.length_cons] at hq
  have hpR : p < R.length := by omega
  have hx : x ∉ R := (List.nodup_cons.1 h.nd).1
  exact hx (this ▸ getD_lt hpR)
theorem FS.next {N n : Nat} {Qf : List Int} {i : Nat} {x : Int} {R T : List Int} (h : FS N n Qf i (x :: R) T) (hi : i < N) : FS N n Qf (i + 1) (R ++ [x]) (T ++ [x]) := by
  have hq := h.q
  simp only [List.length_cons] at hq
  have hnd := List.nodup_cons.1 h.nd
  refine ⟨hi, by rw [List.length_append, h.t]; rfl, by rw [List.length_append]; simp only [List.length_singleton]; omega, ?_, ?_, ?_⟩
  · rw [List.nodup_append]
    refine ⟨hnd.2, by simp, fun a ha b hb => ?_⟩
    simp only [List.mem_singleton] at hb
    subst hb
    intro e; subst e; exact hnd.1 ha
  · have := h.f
    rw [show N - i = (N - (i + 1)) + 1 from by omega] at this
    exact this
  · intro j h1 h2 h3
    simp only [List.length_append, List.length_singleton] at h3 ⊢
    by_cases e : j = 1
    · subst e
      have e1 : T.length + 1 - 1 = T.length := by omega
      have e2 : n - 1 = R.length := by omega
      rw [e1, e2]
      simp [List.getD]
    · have e1 : (T ++ [x]).getD (T.length + 1 - j) 0 = T.getD (T.length - (j - 1)) 0 := by
        rw [show T.length + 1 - j = T.length - (j - 1) from by omega, getD_app T [x] _ (by omega)]
      have e2 : (R ++ [x]).getD (n - j) 0 = (x :: R).getD (n - (j - 1)) 0 := by
        rw [show n - (j - 1) = (n - j) + 1 from by omega, List.getD_cons_succ, getD_app R [x] _ (by omega)]
      rw [e1, e2]
      exact h.late (j - 1) (by omega) (by omega) (by omega)
theorem t_loop (r : Int) (L : List Int) (hnd : L.Nodup) (hn : L.length ≤ 1048576) : LTri Try.prog default (loopN fFair 15) (tms 0 79 (aT r L.length 0 0)) (oT L []) (.exit 2) (tms 0 79 [(5, .ptr 0 0), (6, iv (Int.ofNat L.length))]) [(0, qO (rotN (nT L.length r) L))] := by
  obtain ⟨n, hne⟩ : ∃ n, L.length = n := ⟨_, rfl⟩
  obtain ⟨Qf, hQf⟩ : ∃ Qf, rotN (nT n r) L = Qf := ⟨_, rfl⟩
  rw [hne] at hn ⊢
  rw [hQf]
  have hNb := nT_le n r hn
  have hwN := nT_wrap n r hn
  have h0 : n = 0 → nT n r = 0 := fun h => by unfold nT; rw [h, Nat.zero_mul]
  generalize nT n r = N at *
  have key := ltri_run (W := default) (g := fFair) (b := loopN fFair 15) (σ := {z : Nat × List Int × List Int // FS N n Qf z.1 z.2.1 z.2.2}) 79 (fun z => aT r n z.1.1 z.1.1) (fun z => oT z.1.2.1 z.1.2.2) (.exit 2) [(5, .ptr 0 0), (6, iv (Int.ofNat n))] [(0, qO Qf)] (fun z => N - z.1.1) [0, 1000, 1100, 1101, 1102, 1103] [1, 5, 6, 9, 10] (by intro h; cases h) (fun _ => rfl) rfl ?_ ⟨(0, L, []), Nat.zero_le _, rfl, hne, hnd, hQf, fun j h1 h2 h3 => by simp only [List.length_nil] at h3; omega⟩
  · exact key
  rintro ⟨⟨i, Q, T⟩, hS⟩
  have hS : FS N n Qf i Q T := hS
  show ∃ (con : ConsL) (hints : ClaimT) (lc : LcL), _ ∧ _ ∧ ∀ F, VAll _ (wLoop con hints lc _ _ _ (tms 0 79 (aT r n i i)) (oT Q T) _ _ F)
  have hiN := hS.le
  by_cases h1 : i < N
  · cases Q with
    | nil =>
      have := hS.q
      have := h0 this.symm
      omega
    | cons x R =>
      have hx : x ∉ R := (List.nodup_cons.1 hS.nd).1
      have hq := hS.q
      simp only [List.length_cons] at hq
      have hno := hS.no
      have hnx := hS.next h1
      have hTl := hS.t
      rw [hTl] at hno
      have e1 := ltT h1
      have hw := wrap_succ i (by omega)
      have hkw : IntKind.i64.wrap ((i : Int) - Int.ofNat 1) = (i : Int) - 1 := i64_small (by simp only [Int.ofNat_eq_natCast]; omega) (by simp only [Int.ofNat_eq_natCast]; omega)
      have hRt : RoomT (R.length + 1) := roomT (by omega)
      have hRi : RoomT i := roomT (by omega)
      have hib : i ≤ 8388608 := by omega
      have hl : (T ++ [x]).length = i + 1 := by rw [List.length_append, hTl]; rfl
      have ht : List.take (i * 1) (List.drop 0 (rowV encI T)) = rowV encI T := row_whole (k := 1) encI_len T i hTl.symm
      have hin : (0 + i * 1).ble (rowV encI T).length = true := by rw [rI_len, Nat.ble_eq]; omega
      have hfull : (rowV encI T).length.beq (i * 1) = true := by rw [rI_len, hTl, Nat.mul_one]; exact Nat.beq_refl _
      have hM : (i + 1).ble 9223372036854775807 = true := by rw [Nat.ble_eq]; omega
      have hB : ((i + 1) * 8).ble 140737488355328 = true := by rw [Nat.ble_eq]; exact hRi
      refine ⟨[(fTurn, cTn (x :: R) (R ++ [x]) x)], hT N i x ((i : Int) - 1), [(fFair, 21, loopN fFair 21, lI r x n i i ((i : Int) - 1) (R ++ [x]) T)], fun F _ => one_c (cTn_ok x R hx hRt F), fun F _ => one_l (lI_ok r x n i i (R ++ [x]) T hTl.symm hib hn hno F), fun F => ?_⟩
      clear hRi hRt hNb hib
      refine cast (congrArg (VAll _) (oTR_eq r x ((i : Int) - 1) N n i i (x :: R) (R ++ [x]) T F).symm) ⟨⟨?_, rfl, .inl ⟨rfl, ⟨(i + 1, R ++ [x], T ++ [x]), hnx⟩, sub_down h1, [(1000, 1101)], rfl, rfl, ⟨Wk.refl _, Wk.refl _, Wk.refl _, Wk.refl _, Wk.refl _, trivial⟩, ⟨_, rfl, OW.refl _⟩, ⟨_, rfl, rI_ow (by rw [rens_rowV, ht, rowV_append]; rfl) rfl⟩, trivial⟩⟩⟩
      simp only [Cnd.holds, rens_rowV, hwN, e1, ht, hin, hfull, hB, hM, Nat.blt_eq, true_and, and_true]
      and_intros
      all_goals first
        | (with_reducible exact wk_int hw)
        | (with_reducible exact wk_int hkw)
        | exact wk_int hkw
        | exact (fun N y hy => hy)
        | (with_reducible exact trivial)
        | (with_reducible exact rfl)
        | (with_reducible exact Wk.refl _)
        | (with_reducible exact VW.refl _)
        | (with_reducible exact OW.refl _)
        | (with_reducible exact wk_lit _)
        | (with_reducible assumption)
        | exact rfl
        | exact Wk.refl _
        | exact VW.refl _
        | exact OW.refl _
        | ((repeat (first | exact VW.nil | refine VW.cons (Wk.refl _) ?_ | refine VW.cons (Wk.any _) ?_ | refine VW.cons (wk_cap (Nat.le_refl _)) ?_)); done)
  · have hie : i = N := by omega
    subst hie
    have hf := hS.f
    rw [Nat.sub_self] at hf
    have hf : Q = Qf := hf
    subst hf
    refine ⟨[], hintL [(fFair, 15, 5, hv (iv (Int.ofNat i))), (fFair, 15, 6, hv (.lit false))], [], fun _ _ => noC, fun _ _ => noL, fun F => ?_⟩
    refine cast (congrArg (VAll _) (oTE_eq r i n i i Q T F).symm) ⟨⟨?_, rfl, .inr ⟨rfl, [], rfl, rfl, ⟨Wk.refl _, Wk.refl _, trivial⟩, ⟨_, rfl, OW.refl _⟩, trivial⟩⟩⟩
    simp only [Cnd.holds, hwN, and_true]
    exact ⟨Wk.refl _, wk_litE ltF⟩
theorem lT_ok (r : Int) (L : List Int) (hnd : L.Nodup) (hn : L.length ≤ 1048576) (F : HP) : L1OK Try.prog F (loopN fFair 15) (lT r L.length L (rotN (nT L.length r) L)) :=
  mkL_ok (W := default) oldDef gI_ro (fun _ _ => t_loop r L hnd hn) fun _ => by
    simp only [RT.pick]
    exact closedT rfl rfl (all_cons trivial (all_cons rfl (all_cons trivial (all_cons rfl (all_cons trivial all_nil))))) (all_cons (qO_cl _ _) (all_cons (rI_cl _ _) all_nil)) (all_cons rfl (all_cons trivial all_nil)) (all_cons (qO_cl _ _) all_nil)
theorem fair_tri (W : World) (oa : Option Addr) (l : List Int) (c : Nat) (r : Int) (hI : InI W oa l) : Tri Try.prog W fFair [slV oa l.length c, iv r] [] (.v (.bool true)) [] := by
  obtain ⟨hnd, hle⟩ := ded_spec l l.length (Nat.le_refl _)
  rw [List.take_length] at hnd hle
  have hfew := hI.few
  have hlJ := fun F hF => lJ_ok W oa l c r hI F hF
  have hlT := fun F => lT_ok r (ded l) hnd (by omega) F
  have hql : (rotN (nT (ded l).length r) (ded l)).length = (ded l).length := rotN_len _ _
  have hRq : RoomT (rotN (nT (ded l).length r) (ded l)).length := roomT (by omega)
  generalize rotN (nT (ded l).length r) (ded l) = Q at *
  generalize ded l = L at *
  by_cases h0 : L = []
  · subst h0
    have hQ : Q = [] := List.eq_nil_of_length_eq_zero hql
    subst hQ
    refine tri_run (con := [(fSpk, cSpk), (fNew, cNew), (fCons, cCsZ)]) (hints := hintL [(fFair, 1, 1, hv (.lit false)), (fFair, 4, 1, hv (.lit false)), (fFair, 7, 1, hv (iv (Int.ofNat l.length))), (fFair, 26, 4, hv (bv true))]) (lc := [(fFair, 8, loopN fFair 8, lJ (slV oa l.length c) r l.length []), (fFair, 15, loopN fFair 15, lT r 0 [] [])]) [] rfl (fun F _ => con_cons (cSpk_ok F) (con_cons (cNew_ok F) (one_c (cCsZ_ok F)))) (fun F hF => con_consL (hlJ F hF) (one_l (hlT F))) fun F => ?_
    refine cast (congrArg (VAll _) (oFairZ_eq W oa l.length c r F).symm) ⟨⟨?_, fits_true⟩⟩
    simp only [Cnd.holds, Nat.blt_eq, true_and, and_true]
    and_intros
    all_goals first
      | (with_reducible exact trivial)
      | (with_reducible exact rfl)
      | (with_reducible exact Wk.refl _)
      | (with_reducible exact VW.refl _)
      | (with_reducible exact OW.refl _)
      | (with_reducible exact wk_lit _)
      | (with_reducible assumption)
      | exact rfl
      | exact Wk.refl _
      | exact VW.refl _
      | exact OW.refl _
      | ((repeat (first | exact VW.nil | refine VW.cons (Wk.refl _) ?_ | refine VW.cons (Wk.any _) ?_ | refine VW.cons (wk_cap (Nat.le_refl _)) ?_)); done)
  · have hQ : Q ≠ [] := by
      intro e; subst e
      exact h0 (List.eq_nil_of_length_eq_zero hql.symm)
    refine tri_run (con := [(fSpk, cSpk), (fNew, cNew), (fCons, cCsS Q)]) (hints := hintL [(fFair, 1, 1, hv (.lit false)), (fFair, 4, 1, hv (.lit false)), (fFair, 7, 1, hv (iv (Int.ofNat l.length))), (fFair, 26, 4, hv (bv true))]) (lc := [(fFair, 8, loopN fFair 8, lJ (slV oa l.length c) r l.length L), (fFair, 15, loopN fFair 15, lT r L.length L Q)]) [] rfl (fun F _ => con_cons (cSpk_ok F) (con_cons (cNew_ok F) (one_c (cCsS_ok Q hQ hRq F)))) (fun F hF => con_consL (hlJ F hF) (one_l (hlT F))) fun F => ?_
    refine cast (congrArg (VAll _) (oFairS_eq W oa l.length c r L Q F).symm) ⟨⟨?_, fits_true⟩⟩
    have e1 : ((Q.length : Int) == Int.ofNat L.length) = true := beqT (by rw [hql]; rfl)
    clear hRq hfew
    simp only [Cnd.holds, e1, Nat.blt_eq, true_and, and_true]
    and_intros
    all_goals first
      | (with_reducible exact trivial)
      | (with_reducible exact rfl)
      | (with_reducible exact Wk.refl _)
      | (with_reducible exact VW.refl _)
      | (with_reducible exact OW.refl _)
      | (with_reducible exact wk_lit _)
      | (with_reducible assumption)
      | exact rfl
      | exact Wk.refl _
      | exact VW.refl _
      | exact OW.refl _
      | ((repeat (first | exact VW.nil | refine VW.cons (Wk.refl _) ?_ | refine VW.cons (Wk.any _) ?_ | refine VW.cons (wk_cap (Nat.le_refl _)) ?_)); done)
end Go.Proofs.Ytjjjchmkonnpfaa.Que

/- For every list of consumers and every number of rounds, where what is read is of bulk at most 1048576: all that can take something get their turns one behind the other. -/
set_option linter.unusedVariables false
set_option linter.unusedSimpArgs false
namespace Go.Proofs.Ytjjjchmkonnpfaa.queueFair
open Go.ChangeShapes Go.WideShapes Go.ChangeAt Go.RowKit Go.Deep Go.Proofs.Ytjjjchmkonnpfaa.Eng Go.Proofs.Ytjjjchmkonnpfaa.Kit

theorem own : ownKnob Try.prog.godebug = none := by kernel_rfl
theorem laidOut : laidOutB Try.prog = true := by kernel_rfl
/-- A cell that is a number. -/
theorem cells_int {H : Type} {enc : TypeId × Value → H} {w : World} {base : Nat} {spare : Nat → Bool} {held : Bool} (n : Nat) (cs : List Value) (x : DataW H × List MemPlace) (h : DataW.trod enc Try.prog w base spare held n 3 cs = some x) (_ : Light Try.prog 3 x.1) : ∃ p : Int, cs = Que.encI p ∧ True := by
  obtain ⟨a0, e0, x0, b0⟩ := DataW.trod_int Try.underlying3 h
  exact ⟨a0, e0, trivial⟩
theorem inI_of_rd {W : World} {A : Option Addr} {l : List Int} (h : Rd W A l.length 1 (l.flatMap Que.encI)) (hb : l.length ≤ 1048576) : Que.InI W A l := by
  refine ⟨fun hne => h.here (by cases l with | nil => exact absurd rfl hne | cons x l => simp), fun a ha k hk => ?_, hb⟩
  refine h.cells a ha _ _ ?_
  have := Go.Proofs.Ytjjjchmkonnpfaa.pieces_get Que.encI_len l k 0 hk (by decide)
  rw [Nat.add_zero] at this
  rw [this]
  simp [Que.encI, List.getD, List.getElem?_eq_getElem hk]

set_option maxRecDepth 100000 in
theorem lifted (os : Os) (started : os.Started) (H : Type) (enc : TypeId × Value → H) (F : Stop.Interp) :
    ReturnsInHanded {} Try.checked os 3 .any ((Rows.OpenSpec.upto Rows.queueFairSpec).pre6 enc Try.prog Try.f3 Rows.queueFairUptoRow.domain false) (((Rows.OpenSpec.upto Rows.queueFairSpec).at F).post enc Try.prog Try.f3 false true false false) := by
  refine returnsInHanded_of_cond_sized (C := Try.checked) (s := Rows.OpenSpec.upto Rows.queueFairSpec) (k := Rows.uptoSmall) rfl own started (by kernel_rfl) Try.func3
    (OpenSpec.witness (enc := enc) (C := Try.checked) (s := Rows.OpenSpec.upto Rows.queueFairSpec) (k := Rows.uptoSmall) rfl false ⟨#[], #[.slice none 0 0, .int .i64 0], []⟩ 8 (by kernel_rfl) (by kernel_rfl) (by kernel_rfl)
      (x := ([.nil, .lit (.int .i64 0)], [], [])) (by kernel_rfl) rfl (by kernel_rfl)) ?_
  intro W base args ds gs before hval0 hW _ hk hsz0 _
  have hval : ∀ (j : Nat) t v, Try.f3.params[j]? = some t → args[j]? = some v → Value.okWide Try.prog W .any base t v := hval0
  have hsz : (DataW.weightsEach Try.prog (Try.f3.params.toList ++ Rows.queueFairSpec.plain.varTypes Try.prog) (ds ++ gs)).all (· ≤ reachBytes) = true := hsz0
  have hW' := hW
  obtain ⟨p, q, hA0, hV, rfl, hfz, hnd⟩ := hW
  have hA : DataW.TrodAll enc Try.prog W 0 (fun _ => true) true Try.f3.params.toList args.toList ds p := hA0
  rw [Try.params3] at hA hval hsz
  obtain ⟨v0, vs0, d0, ds0, p0, q0, hargs, rfl, rfl, h0, r0⟩ := trodAll_cons hA
  obtain ⟨v1, vs1, d1, ds1, p1, q1, rfl, rfl, rfl, h1, r1⟩ := trodAll_cons r0
  obtain ⟨rfl, rfl, rfl⟩ := trodAll_nil r1
  obtain rfl : args = #[v0, v1] := by cases args; simp_all
  obtain ⟨rfl, rfl⟩ := trodVars_none hV
  obtain ⟨a1, rfl, rfl, rfl, w1⟩ := open_int Try.underlying3 (hval 1 3 v1 rfl rfl) h1
  have k0 := h0
  have lt0 : ∀ x ∈ p0, x.block < W.heap.size := by obtain ⟨m, hm⟩ := k0; exact DataW.trod_lt m _ _ _ hm
  obtain ⟨A0, len0, cap0, rfl⟩ := okWide_slice Try.underlying22 (hval 0 22 v0 rfl rfl)
  obtain ⟨fu0, hf0⟩ := h0
  obtain ⟨l0, rfl, _, _, hrd0, _⟩ := open_rd Que.encI (by decide) Que.encI_len Try.underlying22 (by kernel_rfl) (fun n cs x h hL => cells_int n cs x h hL) hf0 (light_args hsz (j := 0) rfl rfl)
  have hb0 := Upto.slice_len Try.underlying22 hf0
  have hbd := Upto.bound hk
  have hp := Upto.part_le (H := H) (d := d0) (l := [d0, .lit (.int .i64 a1)] ++ []) (by simp)
  have hs0 : l0.length ≤ 1048576 := by
    have hb0' : l0.length + 1 ≤ Rows.uptoBulk d0 := hb0
    have hbd' : Rows.uptoBulkAll ([d0, .lit (.int .i64 a1)] ++ []) ≤ 1048576 := hbd
    omega
  clear hA0 hval0
  refine (law_calls (Que.fair_tri W A0 l0 cap0 a1 (inI_of_rd hrd0 hs0))).mono fun e W' ⟨he, bel⟩ => ?_
  subst he
  exact ⟨_, rfl, _, _, _, [], _, [], hW', trodAll_mk1 (shut_bool Try.underlying4 _), (trodAll_cons_mk (Below.trod laidOut (by kernel_rfl) (of_decide_eq_true (by kernel_rfl)) k0 bel lt0) (trodAll_cons_mk (shut_int Try.underlying3 w1) trodAll_mk0)), rfl, bel.frame _, fun h => by cases h⟩

theorem proved : Rows.QueueFairUptoSaid :=
  OpenClaim.holds_of_cond 3 Try.f3 rfl rfl rfl rfl rfl rfl rfl ⟨rfl, rfl, rfl, rfl, rfl⟩ rfl rfl rfl rfl rfl (by kernel_rfl) Try.func3 (by kernel_rfl)
    (of_decide_eq_true (by kernel_rfl)) (by unfold Func.isWrapper; first | (rw [if_pos (by decide +kernel)]; kernel_rfl) | (rw [if_neg (by decide +kernel)]; exact ⟨rfl, rfl⟩))
    (fun os started H enc _ F => lifted os started H enc F)
#print axioms proved
end Go.Proofs.Ytjjjchmkonnpfaa.queueFair

