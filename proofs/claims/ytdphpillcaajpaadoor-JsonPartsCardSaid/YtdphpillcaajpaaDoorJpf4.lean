/- Parts of the proof, merged. -/
import Derived.Test.YtdphpillcaajpaaDoorJpf3
import Derived.Test.YtdphpillcaajpaaDoorEngXJpf
import Derived.Lib.Strings
import Derived.Test.YtdphpillcaajpaaDoorJpf1
import Derived.Test.YtdphpillcaajpaaDoorEngDefer
import Derived.Test.YtdphpillcaajpaaDoorProg
import Derived.KernelRfl
import Derived.Laws.Externs
import Derived.Test.YtdphpillcaajpaaDoorMem
import Derived.Deep.Slices
import Derived.SizedLaws
import Derived.Test.YtdphpillcaajpaaDoorRows
import Derived.ProofKit
import Derived.OpenShut
import Derived.Deep.Fields
/- Json: whole numbers: the document's Int. -/
set_option linter.unusedVariables false
set_option linter.unusedSimpArgs false
set_option maxRecDepth 100000
namespace Go.Proofs.YtdphpillcaajpaaDoor.Js
open Go Go.RowKit Go.Proofs.YtdphpillcaajpaaDoor.Eng Go.Proofs.YtdphpillcaajpaaDoor.Kit
theorem neg_wrap {n : Nat} (h : n < 1000000000000000000) : IntKind.i64.wrap (Int.ofNat 0 - Int.ofNat n) = -(n : Int) := by
  rw [i64_ok] <;> simp only [Int.ofNat_eq_natCast] <;> omega
structure BodyT (l : List UInt8) (b : ByteArray) : Prop where
  eq : bts b = body l
theorem BodyT.len {l : List UInt8} {b : ByteArray} (h : BodyT l b) : (body l).length = b.size := by rw [← h.eq]; rfl
theorem c_size {l : List UInt8} {b : ByteArray} {k : Int} (h : BodyT l b) (hc : ((b.size : Int) == Int.ofNat 0) = true) : intT k l = false := by
  refine no_ok ?_
  have h0 : b.size = 0 := by have := beq_iff_eq.1 hc; simp only [Int.ofNat_eq_natCast] at this; omega
  have : body l = [] := List.eq_nil_of_length_eq_zero (by rw [h.len, h0])
  rw [this]; rfl
theorem c_long {l : List UInt8} {b : ByteArray} {k : Int} (h : BodyT l b) (hc : decide ((b.size : Int) > Int.ofNat 18) = true) : intT k l = false := by
  have := of_decide_eq_true hc
  simp only [Int.ofNat_eq_natCast] at this
  exact no_len (by rw [h.len]; omega)
theorem head_get {b : ByteArray} {y : UInt8} (hy : (bts b).getD 0 0 = y) (h0 : 0 < b.size) : (bts b).head? = some y := by
  rw [List.head?_eq_getElem?, bts_get h0, hy]
theorem y48 {y : UInt8} (h : ((y.toNat : Int) == Int.ofNat 48) = true) : y = 48 := by
  have := beq_iff_eq.1 h
  simp only [Int.ofNat_eq_natCast] at this
  have h2 : y.toNat = 48 := by omega
  exact UInt8.toNat_inj.1 h2
theorem c_zero {l : List UInt8} {b : ByteArray} {k : Int} {y : UInt8} (h : BodyT l b) (hy : (bts b).getD 0 0 = y) (h1 : decide ((b.size : Int) > Int.ofNat 1) = true) (hc : ((y.toNat : Int) == Int.ofNat 48) = true) : intT k l = false := by
  have h1 := of_decide_eq_true h1
  simp only [Int.ofNat_eq_natCast] at h1
  refine no_ok ?_
  unfold intOK zeroHead
  rw [← h.eq, head_get hy (by omega), y48 hc, decide_eq_true (show 1 < (bts b).length by rw [bts_len]; omega)]
  simp
theorem c_dig {l : List UInt8} {b : ByteArray} {k : Int} (h : BodyT l b) (hc : (Int.ofNat (digE (bts b) 0) != (b.size : Int)) = true) : intT k l = false := by
  refine no_ok ?_
  have hne : digE (bts b) 0 ≠ (bts b).length := fun e => by rw [e, bts_len] at hc; simp at hc
  have hall : ¬ (bts b).all isD = true := fun ha => hne ((digE_all (Nat.zero_le _)).2 (by rw [List.drop_zero]; exact ha))
  unfold intOK
  rw [← h.eq]
  have : (bts b).all isD = false := by simpa using hall
  rw [this, Bool.and_false]; rfl
theorem all_of_dig {b : ByteArray} (hc : (Int.ofNat (digE (bts b) 0) != (b.size : Int)) = false) : (bts b).all isD = true := by
  have e := bne_eq_false_iff_eq.1 hc
  simp only [Int.ofNat_eq_natCast] at e
  have := (digE_all (l := bts b) (n := 0) (Nat.zero_le _)).1 (by rw [bts_len]; omega)
  rwa [List.drop_zero] at this
theorem c_yes {l : List UInt8} {b : ByteArray} {k : Int} {y : UInt8} (h : BodyT l b) (hk : (k != Int.ofNat 3) = false) (h0 : ((b.size : Int) == Int.ofNat 0) = false) (h18 : decide ((b.size : Int) > Int.ofNat 18) = false) (hy : (bts b).getD 0 0 = y)
    (hz : decide ((b.size : Int) > Int.ofNat 1) = false ∨ ((y.toNat : Int) == Int.ofNat 48) = false) (hd : (Int.ofNat (digE (bts b) 0) != (b.size : Int)) = false) : intT k l = true := by
  have h0 := beq_eq_false_iff_ne.1 h0
  have h18 := of_decide_eq_false h18
  simp only [Int.ofNat_eq_natCast] at h0 h18
  refine yes_int hk ?_ (by rw [h.len]; omega)
  have hall := all_of_dig hd
  unfold intOK zeroHead
  rw [← h.eq, hall, head_get hy (by omega)]
  have hemp : (bts b).isEmpty = false := by
    rw [List.isEmpty_eq_false_iff]
    exact fun e => by have : b.size = 0 := congrArg List.length e; omega
  rw [hemp]
  rcases hz with hz | hz
  · have := of_decide_eq_false hz
    simp only [Int.ofNat_eq_natCast] at this
    rw [decide_eq_false (show ¬ 1 < (bts b).length by rw [bts_len]; omega)]
    rfl
  · have hne : ¬ y = 48 := fun e => by subst e; exact absurd hz (by decide)
    have : ((some y : Option UInt8) == some 48) = false := by simpa using hne
    rw [this, Bool.and_false]; rfl
theorem c_pre {b : ByteArray} (h18 : decide ((b.size : Int) > Int.ofNat 18) = false) (hd : (Int.ofNat (digE (bts b) 0) != (b.size : Int)) = false) : b.size ≤ 18 ∧ (bts b).all isD = true := by
  have h18 := of_decide_eq_false h18
  simp only [Int.ofNat_eq_natCast] at h18
  exact ⟨by omega, all_of_dig hd⟩
theorem c_val {l : List UInt8} {b : ByteArray} (h : BodyT l b) (hb : below l = false) : ival l = Int.ofNat (dval 0 (bts b)) := by
  unfold ival; rw [hb, h.eq]; rfl
theorem c_neg {l : List UInt8} {b : ByteArray} (h : BodyT l b) (hb : below l = true) (hp : b.size ≤ 18 ∧ (bts b).all isD = true) : ival l = IntKind.i64.wrap (Int.ofNat 0 - Int.ofNat (dval 0 (bts b))) := by
  rw [neg_wrap (dval_lt hp.2 hp.1)]
  unfold ival; rw [hb, h.eq]; rfl
theorem pos_n {s : ByteArray} (h : decide ((s.size : Int) > Int.ofNat 1) = true) : 0 < s.size := by
  have := of_decide_eq_true h
  simp only [Int.ofNat_eq_natCast] at this
  omega
theorem RInt_tri {W : World} (r : Rj) (hs : r.t.size ≤ 4611686018427387904) : Tri Tryd.prog W fRInt [aggJ r] [] (intR r.k (bts r.t)) [] := by
  have hf : Few r.t.size := by unfold Few; omega
  obtain ⟨x, hx⟩ : ∃ x, (bts r.t).getD 0 0 = x := ⟨_, rfl⟩
  have hbx := by_wk hx
  by_cases h0 : 0 < r.t.size
  · have hg := bts_get h0
    rw [hx] at hg
    have e1 : decide ((r.t.size : Int) > Int.ofNat 0) = true := decide_eq_true (by simp only [Int.ofNat_eq_natCast]; omega)
    by_cases h45 : x = 45
    · have hz : ((x.toNat : Int) == Int.ofNat 45) = true := by rw [h45]; rfl
      have hbel : below (bts r.t) = true := by unfold below sgn; rw [hg, h45]; rfl
      obtain ⟨b, hB, hbsl⟩ : ∃ b, BodyT (bts r.t) b ∧ r.t.extract 1 r.t.size = b := by
        refine ⟨_, ⟨?_⟩, rfl⟩
        show (r.t.extract 1 r.t.size).data.toList = _
        rw [Lib.extract_to_end]
        rcases below_cases (bts r.t) with ⟨_, c, hl, hb⟩ | ⟨h, _⟩
        · rw [hb]
          show List.drop 1 (bts r.t) = c
          rw [hl]; rfl
        · rw [hbel] at h; cases h
      obtain ⟨y, hy⟩ : ∃ y, (bts b).getD 0 0 = y := ⟨_, rfl⟩
      have hby := by_wk hy
      have hlb : b.size ≤ r.t.size := by rw [← hbsl, ByteArray.size_extract]; omega
      refine tri_run (con := conR) (hints := hRI x y b true true) (lc := [(fRInt, 8, loopN fRInt 8, lRI)]) [] rfl (fun F hF => one_c (cRDgs_ok F hF)) (fun F hF => one_l (lRI_ok F hF)) fun F => ?_
      refine cast (congrArg (VAll _) (oRiM_eq W r b x y F).symm) ?_
      repeat' refine VAll.ite (fun hq => ?_) (fun hq => ?_)
      all_goals try (exact absurd hq (by decide))
      all_goals
        refine ⟨⟨?_, (fit_mk (vs' := [intR r.k (bts r.t)]) (H' := []) [] rfl rfl (by first
          | exact int_no (no_k (by assumption))
          | exact int_no (c_size hB (by assumption))
          | exact int_no (c_long hB (by assumption))
          | exact int_no (c_zero hB hy (by assumption) (by assumption))
          | exact int_no (c_dig hB (by assumption))
          | exact int_yes (c_yes hB (by assumption) (by assumption) (by assumption) hy (.inl (by assumption)) (by assumption)) (c_neg hB hbel (c_pre (by assumption) (by assumption)))
          | exact int_yes (c_yes hB (by assumption) (by assumption) (by assumption) hy (.inr (by assumption)) (by assumption)) (c_neg hB hbel (c_pre (by assumption) (by assumption)))) trivial).fits rfl⟩⟩
        simp only [Cnd.holds, Nat.blt_eq, true_and, and_true]
        and_intros
        all_goals first
          | (with_reducible exact trivial)
          | (with_reducible exact rfl)
          | (with_reducible exact Wk.refl _)
          | (with_reducible exact VW.refl _)
          | exact h0
          | exact hbx
          | exact hby
          | exact h0
          | exact Nat.le_refl _
          | exact pos_n (by assumption)
          | exact Wk.of_eq (by rw [hbsl])
          | exact few_le hf hlb
          | exact hf
          | exact Nat.zero_le _
          | exact wk_litE e1
          | exact wk_litE hz
          | exact (c_pre (by assumption) (by assumption)).1
          | exact (c_pre (by assumption) (by assumption)).2
          | exact rfl
          | ((repeat (first | exact VW.nil | refine VW.cons (Wk.refl _) ?_ | refine VW.cons (Wk.any _) ?_)); done)
    · have hz : ((x.toNat : Int) == Int.ofNat 45) = false := beq_eq_false_iff_ne.2 fun e => h45 (UInt8.toNat_inj.1 (by simp only [Int.ofNat_eq_natCast] at e; exact (Int.natCast_inj.1 e)))
      have hbel : below (bts r.t) = false := by unfold below sgn; rw [hg]; simpa using h45
      have hB : BodyT (bts r.t) r.t := ⟨by
        rcases below_cases (bts r.t) with ⟨h, _⟩ | ⟨_, h⟩
        · rw [hbel] at h; cases h
        · exact h.symm⟩
      refine tri_run (con := conR) (hints := hRI x x nil0 true false) (lc := [(fRInt, 8, loopN fRInt 8, lRI)]) [] rfl (fun F hF => one_c (cRDgs_ok F hF)) (fun F hF => one_l (lRI_ok F hF)) fun F => ?_
      refine cast (congrArg (VAll _) (oRiP_eq W r x x F).symm) ?_
      repeat' refine VAll.ite (fun hq => ?_) (fun hq => ?_)
      all_goals try (exact absurd hq (by decide))
      all_goals
        refine ⟨⟨?_, (fit_mk (vs' := [intR r.k (bts r.t)]) (H' := []) [] rfl rfl (by first
          | exact int_no (no_k (by assumption))
          | exact int_no (c_size hB (by assumption))
          | exact int_no (c_long hB (by assumption))
          | exact int_no (c_zero hB hx (by assumption) (by assumption))
          | exact int_no (c_dig hB (by assumption))
          | exact int_yes (c_yes hB (by assumption) (by assumption) (by assumption) hx (.inl (by assumption)) (by assumption)) (c_val hB hbel)
          | exact int_yes (c_yes hB (by assumption) (by assumption) (by assumption) hx (.inr (by assumption)) (by assumption)) (c_val hB hbel)) trivial).fits rfl⟩⟩
        simp only [Cnd.holds, Nat.blt_eq, true_and, and_true]
        and_intros
        all_goals first
          | (with_reducible exact trivial)
          | (with_reducible exact rfl)
          | (with_reducible exact Wk.refl _)
          | (with_reducible exact VW.refl _)
          | exact h0
          | exact hbx
          | exact hf
          | exact Nat.zero_le _
          | exact wk_litE e1
          | exact wk_litE hz
          | exact (c_pre (by assumption) (by assumption)).1
          | exact (c_pre (by assumption) (by assumption)).2
          | exact rfl
          | ((repeat (first | exact VW.nil | refine VW.cons (Wk.refl _) ?_ | refine VW.cons (Wk.any _) ?_)); done)
  · have hz0 : r.t.size = 0 := by omega
    have e1 : decide ((r.t.size : Int) > Int.ofNat 0) = false := decide_eq_false (by simp only [Int.ofNat_eq_natCast]; omega)
    have e0 : ((r.t.size : Int) == Int.ofNat 0) = true := beq_iff_eq.2 (by rw [hz0]; rfl)
    have hbel : below (bts r.t) = false := by
      have : bts r.t = [] := List.eq_nil_of_length_eq_zero (by rw [bts_len]; exact hz0)
      rw [this]; rfl
    have hB : BodyT (bts r.t) r.t := ⟨by
      rcases below_cases (bts r.t) with ⟨h, _⟩ | ⟨_, h⟩
      · rw [hbel] at h; cases h
      · exact h.symm⟩
    refine tri_run (con := conR) (hints := hRI x x nil0 false false) (lc := [(fRInt, 8, loopN fRInt 8, lRI)]) [] rfl (fun F hF => one_c (cRDgs_ok F hF)) (fun F hF => one_l (lRI_ok F hF)) fun F => ?_
    refine cast (congrArg (VAll _) (oRiZ_eq W r x x F).symm) ?_
    refine VAll.ite (fun hq => ?_) (fun hq => VAll.ite (fun hq2 => ?_) (fun hq2 => absurd e0 (by rw [hq2]; decide)))
    · refine ⟨⟨?_, (fit_mk (vs' := [intR r.k (bts r.t)]) (H' := []) [] rfl rfl (int_no (no_k hq)) trivial).fits rfl⟩⟩
      simp only [Cnd.holds, Nat.blt_eq, true_and, and_true]
      and_intros
      all_goals first
        | exact wk_litE e1
        | (with_reducible exact trivial)
        | (with_reducible exact rfl)
        | (with_reducible exact Wk.refl _)
        | (with_reducible exact VW.refl _)
        | (with_reducible exact OW.refl _)
        | (with_reducible exact wk_lit _)
        | (with_reducible assumption)
        | exact rfl
        | exact Wk.refl _
        | exact VW.refl _
        | exact OW.refl _
        | ((repeat (first | exact VW.nil | refine VW.cons (Wk.refl _) ?_ | refine VW.cons (Wk.any _) ?_ | refine VW.cons (wk_cap (Nat.le_refl _)) ?_)); done)
    · refine ⟨⟨?_, (fit_mk (vs' := [intR r.k (bts r.t)]) (H' := []) [] rfl rfl (int_no (c_size hB hq2)) trivial).fits rfl⟩⟩
      simp only [Cnd.holds, Nat.blt_eq, true_and, and_true]
      and_intros
      all_goals first
        | exact wk_litE e1
        | (with_reducible exact trivial)
        | (with_reducible exact rfl)
        | (with_reducible exact Wk.refl _)
        | (with_reducible exact VW.refl _)
        | (with_reducible exact OW.refl _)
        | (with_reducible exact wk_lit _)
        | (with_reducible assumption)
        | exact rfl
        | exact Wk.refl _
        | exact VW.refl _
        | exact OW.refl _
        | ((repeat (first | exact VW.nil | refine VW.cons (Wk.refl _) ?_ | refine VW.cons (Wk.any _) ?_ | refine VW.cons (wk_cap (Nat.le_refl _)) ?_)); done)
end Go.Proofs.YtdphpillcaajpaaDoor.Js

/- Json: two values that are one: Same: runs. -/
set_option linter.unusedVariables false
set_option linter.unusedSimpArgs false
set_option maxRecDepth 100000
namespace Go.Proofs.YtdphpillcaajpaaDoor.Js
open Go Go.RowKit Go.Proofs.YtdphpillcaajpaaDoor.Eng Go.Proofs.YtdphpillcaajpaaDoor.Kit
noncomputable section
abbrev fSa : Nat := 12
abbrev tJs : TypeId := 2 * 26
def cSa (r r' : Rj) : List AV → Option (AP AV) := mkC (fun _ => .ret ()) (fun _ => True) (fun _ k => k) (fun _ => [aggJ r, aggJ r']) (fun _ => []) (fun _ => .leaf .ret [bv true] [])
def oSa (r r' : Rj) : LH := [(1000, .cells (vmap r.cells) tJs), (1001, .cells (vmap r'.cells) tJs)]
def aSn (i : Nat) : List (Nat × AV) := [(2, .ptr 1000 0), (3, .ptr 1001 0), (5, iv (Int.ofNat i))]
def aSl (i : Nat) : List (Nat × AV) := [(2, .ptr 1000 0), (3, .ptr 1001 0), (6, iv (Int.ofNat i))]
def hSn (i : Nat) (nm : ByteArray) : ClaimT := hintL [(fSa, 4, 4, hv (.lit true)), (fSa, 6, 4, hv (sv nm)), (fSa, 6, 9, hv (sv nm)), (fSa, 6, 10, hv (.lit false)), (fSa, 5, 1, hv (iv (Int.ofNat (i + 1))))]
def hSl (i : Nat) (x x' : Rj) : ClaimT := hintL [(fSa, 9, 4, hv (.lit true)), (fSa, 11, 4, hv (aggJ x)), (fSa, 11, 9, hv (aggJ x')), (fSa, 11, 11, hv (.lit false)), (fSa, 10, 1, hv (iv (Int.ofNat (i + 1))))]
theorem oSnR_eq (W : World) (r r' : Rj) (nm : ByteArray) (a b : Addr) (i : Nat) (F : HP) : wLoop [] (hSn i nm) [] W fSa (loopN fSa 4) (tms 0 81 (aSn i)) (oSa { r with na := some a } { r' with na := some b }) [1000, 1001] [2, 3, 5] F = VT.leaf (AX.normal, [AV.ptr 1000 0, AV.ptr 1001 0, AV.v (Value.int IntKind.i64 (Int.ofNat (i + 1)))], 81) [some (AO.cells [AV.v (Value.int IntKind.i64 r.k), AV.v (Value.int IntKind.i64 r.n), AV.v (Value.string r.t), AV.v (Value.slice r.la r.ll r.lc), AV.v (Value.slice (some a) r.nl r.nc)] 52), some (AO.cells [AV.v (Value.int IntKind.i64 r'.k), AV.v (Value.int IntKind.i64 r'.n), AV.v (Value.string r'.t), AV.v (Value.slice r'.la r'.ll r'.lc), AV.v (Value.slice (some b) r'.nl r'.nc)] 52)] 1100 (((Cnd.p (true = true)).a Cnd.t).a (((Cnd.p (Wk (AV.v (Value.bool (decide (Int.ofNat i < ↑r.nl)))) (AV.lit true))).a Cnd.t).a (((Cnd.p (true = true)).a Cnd.t).a (((Cnd.p (i.blt r.nl = true)).a Cnd.t).a (((Cnd.p ((W.cell? (a.add (i * 1))).isSome = true)).a ((Cnd.p (AV.v ((W.cell? (a.add (i * 1))).getD (Value.tuple (Array.mk []))) = AV.v (Value.string (AV.v ((W.cell? (a.add (i * 1))).getD (Value.tuple (Array.mk [])))).strOf))).a ((Cnd.p (Wk (AV.v (Value.string (AV.v ((W.cell? (a.add (i * 1))).getD (Value.tuple (Array.mk [])))).strOf)) (AV.v (Value.string nm)))).a Cnd.t))).a (((Cnd.p (true = true)).a Cnd.t).a (((Cnd.p (i.blt r'.nl = true)).a Cnd.t).a (((Cnd.p ((W.cell? (b.add (i * 1))).isSome = true)).a ((Cnd.p (AV.v ((W.cell? (b.add (i * 1))).getD (Value.tuple (Array.mk []))) = AV.v (Value.string (AV.v ((W.cell? (b.add (i * 1))).getD (Value.tuple (Array.mk [])))).strOf))).a ((Cnd.p (Wk (AV.v (Value.string (AV.v ((W.cell? (b.add (i * 1))).getD (Value.tuple (Array.mk [])))).strOf)) (AV.v (Value.string nm)))).a Cnd.t))).a (((Cnd.p (Wk (AV.v (Value.bool !nm.toList == nm.toList)) (AV.lit false))).a Cnd.t).a (((Cnd.p (Wk (AV.v (Value.int IntKind.i64 (IntKind.i64.wrap (Int.ofNat i + Int.ofNat 1)))) (AV.v (Value.int IntKind.i64 (Int.ofNat (i + 1)))))).a Cnd.t).a Cnd.t)))))))))) := by kernel_rfl
theorem oSnE_eq (W : World) (r r' : Rj) (F : HP) : wLoop [] (hintL [(fSa, 4, 4, hv (.lit false))]) [] W fSa (loopN fSa 4) (tms 0 81 (aSn r.nl)) (oSa r r') [1000, 1001] [2, 3, 5] F = VT.leaf (AX.exit 0, [AV.ptr 1000 0, AV.ptr 1001 0, AV.v (Value.int IntKind.i64 (Int.ofNat r.nl))], 81) [some (AO.cells [AV.v (Value.int IntKind.i64 r.k), AV.v (Value.int IntKind.i64 r.n), AV.v (Value.string r.t), AV.v (Value.slice r.la r.ll r.lc), AV.v (Value.slice r.na r.nl r.nc)] 52), some (AO.cells [AV.v (Value.int IntKind.i64 r'.k), AV.v (Value.int IntKind.i64 r'.n), AV.v (Value.string r'.t), AV.v (Value.slice r'.la r'.ll r'.lc), AV.v (Value.slice r'.na r'.nl r'.nc)] 52)] 1100 (((Cnd.p (true = true)).a Cnd.t).a (((Cnd.p (Wk (AV.v (Value.bool (decide (Int.ofNat r.nl < ↑r.nl)))) (AV.lit false))).a Cnd.t).a Cnd.t)) := by kernel_rfl
theorem oSlR_eq (W : World) (r r' x x' : Rj) (a b : Addr) (i : Nat) (F : HP) : wLoop [(fSa, cSa x x')] (hSl i x x') [] W fSa (loopN fSa 9) (tms 0 81 (aSl i)) (oSa { r with la := some a } { r' with la := some b }) [1000, 1001] [2, 3, 6] F = VT.leaf (AX.normal, [AV.ptr 1000 0, AV.ptr 1001 0, AV.v (Value.int IntKind.i64 (Int.ofNat (i + 1)))], 81) [some (AO.cells [AV.v (Value.int IntKind.i64 r.k), AV.v (Value.int IntKind.i64 r.n), AV.v (Value.string r.t), AV.v (Value.slice (some a) r.ll r.lc), AV.v (Value.slice r.na r.nl r.nc)] 52), some (AO.cells [AV.v (Value.int IntKind.i64 r'.k), AV.v (Value.int IntKind.i64 r'.n), AV.v (Value.string r'.t), AV.v (Value.slice (some b) r'.ll r'.lc), AV.v (Value.slice r'.na r'.nl r'.nc)] 52)] 1100 (((Cnd.p (true = true)).a Cnd.t).a (((Cnd.p (Wk (AV.v (Value.bool (decide (Int.ofNat i < ↑r.ll)))) (AV.lit true))).a Cnd.t).a (((Cnd.p (true = true)).a Cnd.t).a (((Cnd.p (i.blt r.ll = true)).a Cnd.t).a (((Cnd.p (([0, 1, 2, 3, 4].all fun j => (W.cell? ((a.add (i * 5)).add j)).isSome) = true)).a ((Cnd.p ([AV.v ((W.cell? ((a.add (i * 5)).add 0)).getD (Value.tuple (Array.mk []))), AV.v ((W.cell? (Addr.mk (a.add (i * 5)).block ((a.add (i * 5)).off + 1) none)).getD (Value.tuple (Array.mk []))), AV.v ((W.cell? (Addr.mk (a.add (i * 5)).block ((a.add (i * 5)).off + 2) none)).getD (Value.tuple (Array.mk []))), AV.v ((W.cell? (Addr.mk (a.add (i * 5)).block ((a.add (i * 5)).off + 3) none)).getD (Value.tuple (Array.mk []))), AV.v ((W.cell? (Addr.mk (a.add (i * 5)).block ((a.add (i * 5)).off + 4) none)).getD (Value.tuple (Array.mk [])))] = [AV.v (Value.int IntKind.i64 (AV.v ((W.cell? ((a.add (i * 5)).add 0)).getD (Value.tuple (Array.mk [])))).intOf), AV.v (Value.int IntKind.i64 (AV.v ((W.cell? (Addr.mk (a.add (i * 5)).block ((a.add (i * 5)).off + 1) none)).getD (Value.tuple (Array.mk [])))).intOf), AV.v (Value.string (AV.v ((W.cell? (Addr.mk (a.add (i * 5)).block ((a.add (i * 5)).off + 2) none)).getD (Value.tuple (Array.mk [])))).strOf), AV.v ((W.cell? (Addr.mk (a.add (i * 5)).block ((a.add (i * 5)).off + 3) none)).getD (Value.tuple (Array.mk []))), AV.v ((W.cell? (Addr.mk (a.add (i * 5)).block ((a.add (i * 5)).off + 4) none)).getD (Value.tuple (Array.mk [])))])).a ((Cnd.p (Wk (AV.agg [AV.v (Value.int IntKind.i64 (AV.v ((W.cell? ((a.add (i * 5)).add 0)).getD (Value.tuple (Array.mk [])))).intOf), AV.v (Value.int IntKind.i64 (AV.v ((W.cell? (Addr.mk (a.add (i * 5)).block ((a.add (i * 5)).off + 1) none)).getD (Value.tuple (Array.mk [])))).intOf), AV.v (Value.string (AV.v ((W.cell? (Addr.mk (a.add (i * 5)).block ((a.add (i * 5)).off + 2) none)).getD (Value.tuple (Array.mk [])))).strOf), AV.v ((W.cell? (Addr.mk (a.add (i * 5)).block ((a.add (i * 5)).off + 3) none)).getD (Value.tuple (Array.mk []))), AV.v ((W.cell? (Addr.mk (a.add (i * 5)).block ((a.add (i * 5)).off + 4) none)).getD (Value.tuple (Array.mk [])))]) (AV.agg [AV.v (Value.int IntKind.i64 x.k), AV.v (Value.int IntKind.i64 x.n), AV.v (Value.string x.t), AV.v (Value.slice x.la x.ll x.lc), AV.v (Value.slice x.na x.nl x.nc)]))).a Cnd.t))).a (((Cnd.p (true = true)).a Cnd.t).a (((Cnd.p (i.blt r'.ll = true)).a Cnd.t).a (((Cnd.p (([0, 1, 2, 3, 4].all fun j => (W.cell? ((b.add (i * 5)).add j)).isSome) = true)).a ((Cnd.p ([AV.v ((W.cell? ((b.add (i * 5)).add 0)).getD (Value.tuple (Array.mk []))), AV.v ((W.cell? (Addr.mk (b.add (i * 5)).block ((b.add (i * 5)).off + 1) none)).getD (Value.tuple (Array.mk []))), AV.v ((W.cell? (Addr.mk (b.add (i * 5)).block ((b.add (i * 5)).off + 2) none)).getD (Value.tuple (Array.mk []))), AV.v ((W.cell? (Addr.mk (b.add (i * 5)).block ((b.add (i * 5)).off + 3) none)).getD (Value.tuple (Array.mk []))), AV.v ((W.cell? (Addr.mk (b.add (i * 5)).block ((b.add (i * 5)).off + 4) none)).getD (Value.tuple (Array.mk [])))] = [AV.v (Value.int IntKind.i64 (AV.v ((W.cell? ((b.add (i * 5)).add 0)).getD (Value.tuple (Array.mk [])))).intOf), AV.v (Value.int IntKind.i64 (AV.v ((W.cell? (Addr.mk (b.add (i * 5)).block ((b.add (i * 5)).off + 1) none)).getD (Value.tuple (Array.mk [])))).intOf), AV.v (Value.string (AV.v ((W.cell? (Addr.mk (b.add (i * 5)).block ((b.add (i * 5)).off + 2) none)).getD (Value.tuple (Array.mk [])))).strOf), AV.v ((W.cell? (Addr.mk (b.add (i * 5)).block ((b.add (i * 5)).off + 3) none)).getD (Value.tuple (Array.mk []))), AV.v ((W.cell? (Addr.mk (b.add (i * 5)).block ((b.add (i * 5)).off + 4) none)).getD (Value.tuple (Array.mk [])))])).a ((Cnd.p (Wk (AV.agg [AV.v (Value.int IntKind.i64 (AV.v ((W.cell? ((b.add (i * 5)).add 0)).getD (Value.tuple (Array.mk [])))).intOf), AV.v (Value.int IntKind.i64 (AV.v ((W.cell? (Addr.mk (b.add (i * 5)).block ((b.add (i * 5)).off + 1) none)).getD (Value.tuple (Array.mk [])))).intOf), AV.v (Value.string (AV.v ((W.cell? (Addr.mk (b.add (i * 5)).block ((b.add (i * 5)).off + 2) none)).getD (Value.tuple (Array.mk [])))).strOf), AV.v ((W.cell? (Addr.mk (b.add (i * 5)).block ((b.add (i * 5)).off + 3) none)).getD (Value.tuple (Array.mk []))), AV.v ((W.cell? (Addr.mk (b.add (i * 5)).block ((b.add (i * 5)).off + 4) none)).getD (Value.tuple (Array.mk [])))]) (AV.agg [AV.v (Value.int IntKind.i64 x'.k), AV.v (Value.int IntKind.i64 x'.n), AV.v (Value.string x'.t), AV.v (Value.slice x'.la x'.ll x'.lc), AV.v (Value.slice x'.na x'.nl x'.nc)]))).a Cnd.t))).a (((Cnd.p True).a ((Cnd.p (VW [AV.agg [AV.v (Value.int IntKind.i64 x.k), AV.v (Value.int IntKind.i64 x.n), AV.v (Value.string x.t), AV.v (Value.slice x.la x.ll x.lc), AV.v (Value.slice x.na x.nl x.nc)], AV.agg [AV.v (Value.int IntKind.i64 x'.k), AV.v (Value.int IntKind.i64 x'.n), AV.v (Value.string x'.t), AV.v (Value.slice x'.la x'.ll x'.lc), AV.v (Value.slice x'.na x'.nl x'.nc)]] [AV.agg [AV.v (Value.int IntKind.i64 x.k), AV.v (Value.int IntKind.i64 x.n), AV.v (Value.string x.t), AV.v (Value.slice x.la x.ll x.lc), AV.v (Value.slice x.na x.nl x.nc)], AV.agg [AV.v (Value.int IntKind.i64 x'.k), AV.v (Value.int IntKind.i64 x'.n), AV.v (Value.string x'.t), AV.v (Value.slice x'.la x'.ll x'.lc), AV.v (Value.slice x'.na x'.nl x'.nc)]])).a Cnd.t)).a (((Cnd.p (Wk (AV.v (Value.bool false)) (AV.lit false))).a Cnd.t).a (((Cnd.p (Wk (AV.v (Value.int IntKind.i64 (IntKind.i64.wrap (Int.ofNat i + Int.ofNat 1)))) (AV.v (Value.int IntKind.i64 (Int.ofNat (i + 1)))))).a Cnd.t).a Cnd.t))))))))))) := by kernel_rfl
theorem oSlE_eq (W : World) (r r' : Rj) (F : HP) : wLoop [] (hintL [(fSa, 9, 4, hv (.lit false))]) [] W fSa (loopN fSa 9) (tms 0 81 (aSl r.ll)) (oSa r r') [1000, 1001] [2, 3, 6] F = VT.leaf (AX.exit 2, [AV.ptr 1000 0, AV.ptr 1001 0, AV.v (Value.int IntKind.i64 (Int.ofNat r.ll))], 81) [some (AO.cells [AV.v (Value.int IntKind.i64 r.k), AV.v (Value.int IntKind.i64 r.n), AV.v (Value.string r.t), AV.v (Value.slice r.la r.ll r.lc), AV.v (Value.slice r.na r.nl r.nc)] 52), some (AO.cells [AV.v (Value.int IntKind.i64 r'.k), AV.v (Value.int IntKind.i64 r'.n), AV.v (Value.string r'.t), AV.v (Value.slice r'.la r'.ll r'.lc), AV.v (Value.slice r'.na r'.nl r'.nc)] 52)] 1100 (((Cnd.p (true = true)).a Cnd.t).a (((Cnd.p (Wk (AV.v (Value.bool (decide (Int.ofNat r.ll < ↑r.ll)))) (AV.lit false))).a Cnd.t).a Cnd.t)) := by kernel_rfl
def gSaP (tmps : List AV) : AP (Nat × Nat) := match getL tmps 2 with
  | .ptr a _ => match getL tmps 3 with
    | .ptr b _ => .ret (a, b)
    | _ => .fail "same"
  | _ => .fail "same"
def nmSa (a b : Nat) : Nat → Nat := fun k => match Nat.beq k 1000 with
  | true => a
  | false => b
def lSn (r r' : Rj) : List AV → AP (AX × List AV) := mkL gSaP (fun _ => True) (fun q => nmSa q.1 q.2) (fun _ => tms 0 81 (aSn 0)) (fun _ => oSa r r') (fun _ => .leaf (.exit 0) (tms 0 81 [(2, .ptr 1000 0), (3, .ptr 1001 0)]) (oSa r r'))
def lSl (r r' : Rj) : List AV → AP (AX × List AV) := mkL gSaP (fun _ => True) (fun q => nmSa q.1 q.2) (fun _ => tms 0 81 (aSl 0)) (fun _ => oSa r r') (fun _ => .leaf (.exit 2) (tms 0 81 [(2, .ptr 1000 0), (3, .ptr 1001 0)]) (oSa r r'))
def hSaF : ClaimT := hintL [(fSa, 1, 4, hv (.lit false)), (fSa, 1, 10, hv (.lit false)), (fSa, 1, 17, hv (.lit false)), (fSa, 1, 26, hv (.lit false)), (fSa, 1, 35, hv (.lit false))]
theorem oSa_eq (W : World) (r r' : Rj) (F : HP) : wRun [] hSaF [(fSa, 4, loopN fSa 4, lSn r r'), (fSa, 9, loopN fSa 9, lSl r r')] W fSa [aggJ r, aggJ r'] [] [] F = VT.leaf (AV.v (Value.bool true)) [] 1106 (((Cnd.p (true = true)).a ((Cnd.p (AV.v (Value.int IntKind.i64 r.k) = AV.v (Value.int IntKind.i64 r.k))).a Cnd.t)).a (((Cnd.p (true = true)).a ((Cnd.p (AV.v (Value.int IntKind.i64 r'.k) = AV.v (Value.int IntKind.i64 r'.k))).a Cnd.t)).a (((Cnd.p (Wk (AV.v (Value.bool (r.k != r'.k))) (AV.lit false))).a Cnd.t).a (((Cnd.p (true = true)).a ((Cnd.p (AV.v (Value.int IntKind.i64 r.n) = AV.v (Value.int IntKind.i64 r.n))).a Cnd.t)).a (((Cnd.p (true = true)).a ((Cnd.p (AV.v (Value.int IntKind.i64 r'.n) = AV.v (Value.int IntKind.i64 r'.n))).a Cnd.t)).a (((Cnd.p (Wk (AV.v (Value.bool (r.n != r'.n))) (AV.lit false))).a Cnd.t).a (((Cnd.p (true = true)).a ((Cnd.p (AV.v (Value.string r.t) = AV.v (Value.string r.t))).a Cnd.t)).a (((Cnd.p (true = true)).a ((Cnd.p (AV.v (Value.string r'.t) = AV.v (Value.string r'.t))).a Cnd.t)).a (((Cnd.p (Wk (AV.v (Value.bool !r.t.toList == r'.t.toList)) (AV.lit false))).a Cnd.t).a (((Cnd.p (true = true)).a Cnd.t).a (((Cnd.p (true = true)).a Cnd.t).a (((Cnd.p (Wk (AV.v (Value.bool ((↑r.ll : Int) != ↑r'.ll))) (AV.lit false))).a Cnd.t).a (((Cnd.p (true = true)).a Cnd.t).a (((Cnd.p (true = true)).a Cnd.t).a (((Cnd.p (Wk (AV.v (Value.bool ((↑r.nl : Int) != ↑r'.nl))) (AV.lit false))).a Cnd.t).a ((Cnd.p ((fSa, 4, loopN fSa 4, lSn r r').snd.snd.fst = (fSa, 4, loopN fSa 4, lSn r r').snd.snd.fst)).a ((Cnd.p True).a ((Cnd.p (VW [AV.agg [AV.v (Value.int IntKind.i64 r.k), AV.v (Value.int IntKind.i64 r.n), AV.v (Value.string r.t), AV.v (Value.slice r.la r.ll r.lc), AV.v (Value.slice r.na r.nl r.nc)], AV.agg [AV.v (Value.int IntKind.i64 r'.k), AV.v (Value.int IntKind.i64 r'.n), AV.v (Value.string r'.t), AV.v (Value.slice r'.la r'.ll r'.lc), AV.v (Value.slice r'.na r'.nl r'.nc)], AV.ptr 1100 0, AV.ptr 1101 0, AV.v (Value.bool false), AV.v (Value.int IntKind.i64 (Int.ofNat 0)), AV.undef, AV.ptr 1100 0, AV.v (Value.int IntKind.i64 r.k), AV.ptr 1101 0, AV.v (Value.int IntKind.i64 r'.k), AV.lit false, AV.lit false, AV.ptr 1100 1, AV.v (Value.int IntKind.i64 r.n), AV.ptr 1101 1, AV.v (Value.int IntKind.i64 r'.n), AV.lit false, AV.lit false, AV.lit false, AV.ptr 1100 2, AV.v (Value.string r.t), AV.ptr 1101 2, AV.v (Value.string r'.t), AV.lit false, AV.lit false, AV.lit false, AV.ptr 1100 3, AV.v (Value.slice r.la r.ll r.lc), AV.v (Value.int IntKind.i64 ↑r.ll), AV.ptr 1101 3, AV.v (Value.slice r'.la r'.ll r'.lc), AV.v (Value.int IntKind.i64 ↑r'.ll), AV.lit false, AV.lit false, AV.lit false, AV.ptr 1100 4, AV.v (Value.slice r.na r.nl r.nc), AV.v (Value.int IntKind.i64 ↑r.nl), AV.ptr 1101 4, AV.v (Value.slice r'.na r'.nl r'.nc), AV.v (Value.int IntKind.i64 ↑r'.nl), AV.lit false, AV.lit false, AV.undef, AV.undef, AV.undef, AV.undef, AV.undef, AV.undef, AV.undef, AV.undef, AV.undef, AV.undef, AV.undef, AV.undef, AV.undef, AV.undef, AV.undef, AV.undef, AV.undef, AV.undef, AV.undef, AV.undef, AV.undef, AV.undef, AV.undef, AV.undef, AV.undef, AV.undef, AV.undef, AV.undef, AV.undef, AV.undef, AV.undef, AV.undef, AV.undef, AV.undef, AV.undef, AV.undef, AV.undef] [AV.any, AV.any, AV.ptr 1100 0, AV.ptr 1101 0, AV.any, AV.v (Value.int IntKind.i64 (Int.ofNat 0)), AV.any, AV.any, AV.any, AV.any, AV.any, AV.any, AV.any, AV.any, AV.any, AV.any, AV.any, AV.any, AV.any, AV.any, AV.any, AV.any, AV.any, AV.any, AV.any, AV.any, AV.any, AV.any, AV.any, AV.any, AV.any, AV.any, AV.any, AV.any, AV.any, AV.any, AV.any, AV.any, AV.any, AV.any, AV.any, AV.any, AV.any, AV.any, AV.any, AV.any, AV.any, AV.any, AV.any, AV.any, AV.any, AV.any, AV.any, AV.any, AV.any, AV.any, AV.any, AV.any, AV.any, AV.any, AV.any, AV.any, AV.any, AV.any, AV.any, AV.any, AV.any, AV.any, AV.any, AV.any, AV.any, AV.any, AV.any, AV.any, AV.any, AV.any, AV.any, AV.any, AV.any, AV.any, AV.any])).a ((Cnd.p (OW (AO.cells [AV.v (Value.int IntKind.i64 r.k), AV.v (Value.int IntKind.i64 r.n), AV.v (Value.string r.t), AV.v (Value.slice r.la r.ll r.lc), AV.v (Value.slice r.na r.nl r.nc)] 52) (AO.cells [AV.v (Value.int IntKind.i64 r.k), AV.v (Value.int IntKind.i64 r.n), AV.v (Value.string r.t), AV.v (Value.slice r.la r.ll r.lc), AV.v (Value.slice r.na r.nl r.nc)] 52))).a ((Cnd.p (OW (AO.cells [AV.v (Value.int IntKind.i64 r'.k), AV.v (Value.int IntKind.i64 r'.n), AV.v (Value.string r'.t), AV.v (Value.slice r'.la r'.ll r'.lc), AV.v (Value.slice r'.na r'.nl r'.nc)] 52) (AO.cells [AV.v (Value.int IntKind.i64 r'.k), AV.v (Value.int IntKind.i64 r'.n), AV.v (Value.string r'.t), AV.v (Value.slice r'.la r'.ll r'.lc), AV.v (Value.slice r'.na r'.nl r'.nc)] 52))).a ((Cnd.p ((fSa, 9, loopN fSa 9, lSl r r').snd.snd.fst = (fSa, 9, loopN fSa 9, lSl r r').snd.snd.fst)).a ((Cnd.p True).a ((Cnd.p (VW [AV.any, AV.any, AV.ptr 1102 0, AV.ptr 1103 0, AV.any, AV.any, AV.v (Value.int IntKind.i64 (Int.ofNat 0)), AV.any, AV.any, AV.any, AV.any, AV.any, AV.any, AV.any, AV.any, AV.any, AV.any, AV.any, AV.any, AV.any, AV.any, AV.any, AV.any, AV.any, AV.any, AV.any, AV.any, AV.any, AV.any, AV.any, AV.any, AV.any, AV.any, AV.any, AV.any, AV.any, AV.any, AV.any, AV.any, AV.any, AV.any, AV.any, AV.any, AV.any, AV.any, AV.any, AV.any, AV.any, AV.any, AV.any, AV.any, AV.any, AV.any, AV.any, AV.any, AV.any, AV.any, AV.any, AV.any, AV.any, AV.any, AV.any, AV.any, AV.any, AV.any, AV.any, AV.any, AV.any, AV.any, AV.any, AV.any, AV.any, AV.any, AV.any, AV.any, AV.any, AV.any, AV.any, AV.any, AV.any, AV.any] [AV.any, AV.any, AV.ptr 1102 0, AV.ptr 1103 0, AV.any, AV.any, AV.v (Value.int IntKind.i64 (Int.ofNat 0)), AV.any, AV.any, AV.any, AV.any, AV.any, AV.any, AV.any, AV.any, AV.any, AV.any, AV.any, AV.any, AV.any, AV.any, AV.any, AV.any, AV.any, AV.any, AV.any, AV.any, AV.any, AV.any, AV.any, AV.any, AV.any, AV.any, AV.any, AV.any, AV.any, AV.any, AV.any, AV.any, AV.any, AV.any, AV.any, AV.any, AV.any, AV.any, AV.any, AV.any, AV.any, AV.any, AV.any, AV.any, AV.any, AV.any, AV.any, AV.any, AV.any, AV.any, AV.any, AV.any, AV.any, AV.any, AV.any, AV.any, AV.any, AV.any, AV.any, AV.any, AV.any, AV.any, AV.any, AV.any, AV.any, AV.any, AV.any, AV.any, AV.any, AV.any, AV.any, AV.any, AV.any, AV.any])).a ((Cnd.p (OW (AO.cells [AV.v (Value.int IntKind.i64 r.k), AV.v (Value.int IntKind.i64 r.n), AV.v (Value.string r.t), AV.v (Value.slice r.la r.ll r.lc), AV.v (Value.slice r.na r.nl r.nc)] 52) (AO.cells [AV.v (Value.int IntKind.i64 r.k), AV.v (Value.int IntKind.i64 r.n), AV.v (Value.string r.t), AV.v (Value.slice r.la r.ll r.lc), AV.v (Value.slice r.na r.nl r.nc)] 52))).a ((Cnd.p (OW (AO.cells [AV.v (Value.int IntKind.i64 r'.k), AV.v (Value.int IntKind.i64 r'.n), AV.v (Value.string r'.t), AV.v (Value.slice r'.la r'.ll r'.lc), AV.v (Value.slice r'.na r'.nl r'.nc)] 52) (AO.cells [AV.v (Value.int IntKind.i64 r'.k), AV.v (Value.int IntKind.i64 r'.n), AV.v (Value.string r'.t), AV.v (Value.slice r'.la r'.ll r'.lc), AV.v (Value.slice r'.na r'.nl r'.nc)] 52))).a Cnd.t))))))))))))))))))))))))) := by kernel_rfl
end
end Go.Proofs.YtdphpillcaajpaaDoor.Js

/- Json: two values that are one: Same. -/
set_option linter.unusedVariables false
set_option linter.unusedSimpArgs false
set_option maxRecDepth 100000
namespace Go.Proofs.YtdphpillcaajpaaDoor.Js
open Go Go.RowKit Go.Proofs.YtdphpillcaajpaaDoor.Eng Go.Proofs.YtdphpillcaajpaaDoor.Kit
theorem ltF' {n : Nat} : decide (Int.ofNat n < (n : Int)) = false := decide_eq_false (by simp only [Int.ofNat_eq_natCast]; omega)
theorem ltT' {j n : Nat} (h : j < n) : decide (Int.ofNat j < (n : Int)) = true := decide_eq_true (by simp only [Int.ofNat_eq_natCast]; omega)
theorem c5 {C : Mem} {A : Addr} {r : Rj} (h : Cells C A r.cells) : C (A.add 0) = some (.int .i64 r.k) ∧ C (Addr.mk A.block (A.off + 1) none) = some (.int .i64 r.n) ∧ C (Addr.mk A.block (A.off + 2) none) = some (.string r.t) ∧ C (Addr.mk A.block (A.off + 3) none) = some (.slice r.la r.ll r.lc) ∧ C (Addr.mk A.block (A.off + 4) none) = some (.slice r.na r.nl r.nc) :=
  ⟨h 0 _ rfl, h 1 _ rfl, h 2 _ rfl, h 3 _ rfl, h 4 _ rfl⟩
theorem all5 {W : World} {A : Addr} {r : Rj} (h : Cells W.cell? A r.cells) : ([0, 1, 2, 3, 4].all fun j => (W.cell? (A.add j)).isSome) = true := by
  have e0 : W.cell? (A.add 0) = some _ := h 0 _ rfl
  have e1 : W.cell? (A.add 1) = some _ := h 1 _ rfl
  have e2 : W.cell? (A.add 2) = some _ := h 2 _ rfl
  have e3 : W.cell? (A.add 3) = some _ := h 3 _ rfl
  have e4 : W.cell? (A.add 4) = some _ := h 4 _ rfl
  simp only [List.all_cons, List.all_nil, e0, e1, e2, e3, e4, Bool.and_true, Option.isSome_some]
theorem agg_wk {r : Rj} {x0 x1 : Int} {x2 : ByteArray} {x3 x4 : Value} (h0 : x0 = r.k) (h1 : x1 = r.n) (h2 : x2 = r.t) (h3 : x3 = .slice r.la r.ll r.lc) (h4 : x4 = .slice r.na r.nl r.nc) : Wk (.agg [.v (.int .i64 x0), .v (.int .i64 x1), .v (.string x2), .v x3, .v x4]) (aggJ r) := by
  subst h0 h1 h2 h3 h4; exact Wk.refl _
theorem get_some {α : Type} {l : List α} {i : Nat} (h : i < l.length) : ∃ x, l[i]? = some x := ⟨_, List.getElem?_eq_getElem h⟩
theorem big_nat {n k : Nat} (h : n * k ≤ big) (hk : 0 < k) : n ≤ 140737488351232 := Nat.le_trans (Nat.le_mul_of_pos_right n hk) h
theorem cSa_ok {W : World} {r r' : Rj} (h : Tri Tryd.prog W fSa [aggJ r, aggJ r'] [] (bv true) []) (F : HP) (hF : OldOK W F) : C1OK Tryd.prog F fSa (cSa r r') :=
  mkC_ok hF (fun _ => bv true) (fun _ => RO.ret _) (fun _ => rfl) (fun _ _ => h) fun _ => ⟨rfl, rfl, ⟨⟨trivial, trivial, trivial, trivial, trivial, trivial⟩, ⟨trivial, trivial, trivial, trivial, trivial, trivial⟩, trivial⟩, all_nil, ⟨trivial, trivial⟩, all_nil⟩
theorem gSaP_ro (args : List AV) : RO (gSaP args) := by
  unfold gSaP
  split
  · split
    · exact RO.ret _
    · exact RO.fail _
  · exact RO.fail _
theorem oSa_cl (K : Nat → Bool) (r r' : Rj) : ∀ x ∈ oSa r r', x.2.cl K := all_cons ⟨trivial, trivial, trivial, trivial, trivial, trivial⟩ (all_cons ⟨trivial, trivial, trivial, trivial, trivial, trivial⟩ all_nil)
theorem two_l {F : HP} {f g : FuncId} {i j : Nat} {b c : Code} {p q : List AV → AP (AX × List AV)} (h : L1OK Tryd.prog F b p) (h2 : L1OK Tryd.prog F c q) : ∀ x ∈ ([(f, i, b, p), (g, j, c, q)] : LcL), L1OK Tryd.prog F x.2.2.1 x.2.2.2 := fun x hx => by
  rcases List.mem_cons.1 hx with rfl | hx
  · exact h
  · simp only [List.mem_singleton] at hx; subst hx; exact h2
theorem sa_step (W : World) (d : Nat) (hV : ∀ v r r', JAt W.cell? d v r → JAt W.cell? d v r' → Tri Tryd.prog W fSa [aggJ r, aggJ r'] [] (bv true) []) (v : Jv) (r r' : Rj) (ha : JAt W.cell? (d + 1) v r) (hb : JAt W.cell? (d + 1) v r') :
    Tri Tryd.prog W fSa [aggJ r, aggJ r'] [] (bv true) [] := by
  obtain ⟨⟨i1, i2, i3, i4, i5⟩, al, af⟩ := ha
  obtain ⟨⟨j1, j2, j3, j4, j5⟩, bl, bf⟩ := hb
  have hlen := big_nat al.1 (by decide)
  have hlen2 := big_nat af.1 (by decide)
  have k1 : r.k = r'.k := i1.trans j1.symm
  have k2 : r.n = r'.n := i2.trans j2.symm
  have k3 : r.t = r'.t := i3.trans j3.symm
  have k4 : r'.ll = r.ll := j4.trans i4.symm
  have k5 : r'.nl = r.nl := j5.trans i5.symm
  have hnl : LTri Tryd.prog W (loopN fSa 4) (tms 0 81 (aSn 0)) (oSa r r') (.exit 0) (tms 0 81 [(2, .ptr 1000 0), (3, .ptr 1001 0)]) (oSa r r') := by
    refine ltri_run (W := W) (g := fSa) (b := loopN fSa 4) (σ := {j : Nat // j ≤ r.nl}) 81 (fun j => aSn j.1) (fun j => oSa r r') (.exit 0) [(2, .ptr 1000 0), (3, .ptr 1001 0)] (oSa r r') (fun j => r.nl - j.1) [1000, 1001] [2, 3, 5] (by intro h; cases h) (fun _ => rfl) rfl ?_ ⟨0, Nat.zero_le _⟩
    rintro ⟨j, hj⟩
    simp only
    by_cases h1 : j < r.nl
    · obtain ⟨nm, hx⟩ := get_some (l := v.names) (i := j) (by omega)
      obtain ⟨a, ea, q1⟩ := af.2 j nm hx
      obtain ⟨b, eb, p1⟩ := bf.2 j nm hx
      rw [show j = j * 1 by omega] at q1 p1
      have hw := wrap_succ j (by omega)
      have e1 : decide (Int.ofNat j < (r.nl : Int)) = true := ltT' h1
      have c1 : (!(nm.toList == nm.toList)) = false := by rw [beq_self_eq_true]; rfl
      have h2 : j < r'.nl := by omega
      obtain ⟨rk, rn, rt, rla, rll, rlc, rta, rtl, rtc⟩ := r
      obtain ⟨rk', rn', rt', rla', rll', rlc', rta', rtl', rtc'⟩ := r'
      simp only at ea eb
      subst ea eb
      refine ⟨[], hSn j nm, [], fun F hF => noC, fun _ _ => noL, fun F => ?_⟩
      refine cast (congrArg (VAll _) (oSnR_eq W ⟨rk, rn, rt, rla, rll, rlc, none, rtl, rtc⟩ ⟨rk', rn', rt', rla', rll', rlc', none, rtl', rtc'⟩ nm a b j F).symm) ⟨⟨?_, rfl, .inl ⟨rfl, ⟨j + 1, h1⟩, sub_down h1, [(1000, 1000), (1001, 1001)], by kernel_rfl, by kernel_rfl, ⟨Wk.refl _, Wk.refl _, Wk.refl _, trivial⟩, ⟨_, rfl, OW.refl _⟩, ⟨_, rfl, OW.refl _⟩, trivial⟩⟩⟩
      simp only [Cnd.holds, e1, h1, h2, q1, p1, Option.getD_some, Option.isSome_some, Nat.blt_eq, true_and, and_true]
      and_intros
      all_goals first
        | (with_reducible exact wk_int hw)
        | exact wk_litE e1
        | exact wk_litE c1
        | (with_reducible exact trivial)
        | (with_reducible exact rfl)
        | (with_reducible exact Wk.refl _)
        | (with_reducible exact VW.refl _)
        | (with_reducible exact OW.refl _)
        | (with_reducible exact wk_lit _)
        | (with_reducible assumption)
        | exact rfl
        | exact Wk.refl _
        | exact VW.refl _
        | exact OW.refl _
        | ((repeat (first | exact VW.nil | refine VW.cons (Wk.refl _) ?_ | refine VW.cons (Wk.any _) ?_ | refine VW.cons (wk_cap (Nat.le_refl _)) ?_)); done)
    · have hje : j = r.nl := by omega
      subst hje
      refine ⟨[], hintL [(fSa, 4, 4, hv (.lit false))], [], fun _ _ => noC, fun _ _ => noL, fun F => ?_⟩
      refine cast (congrArg (VAll _) (oSnE_eq W r r' F).symm) ⟨⟨?_, rfl, .inr ⟨rfl, [(1000, 1000), (1001, 1001)], by kernel_rfl, by kernel_rfl, ⟨Wk.refl _, Wk.refl _, trivial⟩, ⟨_, rfl, OW.refl _⟩, ⟨_, rfl, OW.refl _⟩, trivial⟩⟩⟩
      simp only [Cnd.holds, and_true, true_and]
      exact wk_litE ltF'
  have hll : LTri Tryd.prog W (loopN fSa 9) (tms 0 81 (aSl 0)) (oSa r r') (.exit 2) (tms 0 81 [(2, .ptr 1000 0), (3, .ptr 1001 0)]) (oSa r r') := by
    refine ltri_run (W := W) (g := fSa) (b := loopN fSa 9) (σ := {j : Nat // j ≤ r.ll}) 81 (fun j => aSl j.1) (fun j => oSa r r') (.exit 2) [(2, .ptr 1000 0), (3, .ptr 1001 0)] (oSa r r') (fun j => r.ll - j.1) [1000, 1001] [2, 3, 6] (by intro h; cases h) (fun _ => rfl) rfl ?_ ⟨0, Nat.zero_le _⟩
    rintro ⟨j, hj⟩
    simp only
    by_cases h1 : j < r.ll
    · obtain ⟨x, hx⟩ := get_some (l := v.list) (i := j) (by omega)
      obtain ⟨a, s, ea, q1, q2⟩ := al.2 j x hx
      obtain ⟨b, s', eb, p1, p2⟩ := bl.2 j x hx
      have hsv := cSa_ok (hV x s s' q2 p2)
      have aA := all5 q1
      have bA := all5 p1
      obtain ⟨a1, a2, a3, a4, a5⟩ := c5 q1
      obtain ⟨b1, b2, b3, b4, b5⟩ := c5 p1
      have hw := wrap_succ j (by omega)
      have e1 : decide (Int.ofNat j < (r.ll : Int)) = true := ltT' h1
      have h2 : j < r'.ll := by omega
      obtain ⟨rk, rn, rt, rla, rll, rlc, rta, rtl, rtc⟩ := r
      obtain ⟨rk', rn', rt', rla', rll', rlc', rta', rtl', rtc'⟩ := r'
      simp only at ea eb
      subst ea eb
      refine ⟨[(fSa, cSa s s')], hSl j s s', [], fun F hF => one_c (hsv F hF), fun _ _ => noL, fun F => ?_⟩
      refine cast (congrArg (VAll _) (oSlR_eq W ⟨rk, rn, rt, none, rll, rlc, rta, rtl, rtc⟩ ⟨rk', rn', rt', none, rll', rlc', rta', rtl', rtc'⟩ s s' a b j F).symm) ⟨⟨?_, rfl, .inl ⟨rfl, ⟨j + 1, h1⟩, sub_down h1, [(1000, 1000), (1001, 1001)], by kernel_rfl, by kernel_rfl, ⟨Wk.refl _, Wk.refl _, Wk.refl _, trivial⟩, ⟨_, rfl, OW.refl _⟩, ⟨_, rfl, OW.refl _⟩, trivial⟩⟩⟩
      simp only [Cnd.holds, e1, h1, h2, aA, bA, a1, a2, a3, a4, a5, b1, b2, b3, b4, b5, Option.getD_some, Option.isSome_some, Nat.blt_eq, true_and, and_true]
      and_intros
      all_goals first
        | (with_reducible exact wk_int hw)
        | exact wk_litE e1
        | exact wk_litE rfl
        | exact agg_wk rfl rfl rfl rfl rfl
        | (with_reducible exact trivial)
        | (with_reducible exact rfl)
        | (with_reducible exact Wk.refl _)
        | (with_reducible exact VW.refl _)
        | (with_reducible exact OW.refl _)
        | (with_reducible exact wk_lit _)
        | (with_reducible assumption)
        | exact rfl
        | exact Wk.refl _
        | exact VW.refl _
        | exact OW.refl _
        | ((repeat (first | exact VW.nil | refine VW.cons (Wk.refl _) ?_ | refine VW.cons (Wk.any _) ?_ | refine VW.cons (wk_cap (Nat.le_refl _)) ?_)); done)
    · have hje : j = r.ll := by omega
      subst hje
      refine ⟨[], hintL [(fSa, 9, 4, hv (.lit false))], [], fun _ _ => noC, fun _ _ => noL, fun F => ?_⟩
      refine cast (congrArg (VAll _) (oSlE_eq W r r' F).symm) ⟨⟨?_, rfl, .inr ⟨rfl, [(1000, 1000), (1001, 1001)], by kernel_rfl, by kernel_rfl, ⟨Wk.refl _, Wk.refl _, trivial⟩, ⟨_, rfl, OW.refl _⟩, ⟨_, rfl, OW.refl _⟩, trivial⟩⟩⟩
      simp only [Cnd.holds, and_true, true_and]
      exact wk_litE ltF'
  have hl1 : ∀ F, OldOK W F → L1OK Tryd.prog F (loopN fSa 4) (lSn r r') := fun F hF =>
    mkL_ok hF gSaP_ro (fun _ _ => hnl) fun _ => by
      simp only [RT.pick]
      exact closedT rfl rfl (all_cons rfl (all_cons rfl (all_cons trivial all_nil))) (oSa_cl _ _ _) (all_cons rfl (all_cons rfl all_nil)) (oSa_cl _ _ _)
  have hl2 : ∀ F, OldOK W F → L1OK Tryd.prog F (loopN fSa 9) (lSl r r') := fun F hF =>
    mkL_ok hF gSaP_ro (fun _ _ => hll) fun _ => by
      simp only [RT.pick]
      exact closedT rfl rfl (all_cons rfl (all_cons rfl (all_cons trivial all_nil))) (oSa_cl _ _ _) (all_cons rfl (all_cons rfl all_nil)) (oSa_cl _ _ _)
  refine tri_run (con := []) (hints := hSaF) (lc := [(fSa, 4, loopN fSa 4, lSn r r'), (fSa, 9, loopN fSa 9, lSl r r')]) [] rfl (fun F hF => noC) (fun F hF => two_l (hl1 F hF) (hl2 F hF)) fun F => ?_
  refine cast (congrArg (VAll _) (oSa_eq W r r' F).symm) ⟨⟨?_, (fit_mk (vs' := [bv true]) (H' := []) [] rfl rfl (VW.refl _) trivial).fits rfl⟩⟩
  have c1 : (!(r.t.toList == r'.t.toList)) = false := by rw [k3, beq_self_eq_true]; rfl
  have c2 : (r.k != r'.k) = false := by rw [k1]; exact bne_self_eq_false _
  have c3 : (r.n != r'.n) = false := by rw [k2]; exact bne_self_eq_false _
  have c4 : ((r.ll : Int) != (r'.ll : Int)) = false := by rw [k4]; exact bne_self_eq_false _
  have c5 : ((r.nl : Int) != (r'.nl : Int)) = false := by rw [k5]; exact bne_self_eq_false _
  simp only [Cnd.holds, Nat.blt_eq, true_and, and_true]
  and_intros
  all_goals first
    | exact wk_litE c1
    | exact wk_litE c2
    | exact wk_litE c3
    | exact wk_litE c4
    | exact wk_litE c5
    | (with_reducible exact trivial)
    | (with_reducible exact rfl)
    | (with_reducible exact Wk.refl _)
    | (with_reducible exact VW.refl _)
    | (with_reducible exact OW.refl _)
    | (with_reducible exact wk_lit _)
    | (with_reducible assumption)
    | exact rfl
    | exact Wk.refl _
    | exact VW.refl _
    | exact OW.refl _
    | ((repeat (first | exact VW.nil | refine VW.cons (Wk.refl _) ?_ | refine VW.cons (Wk.any _) ?_ | refine VW.cons (wk_cap (Nat.le_refl _)) ?_)); done)
theorem Same_tri (W : World) : ∀ (d : Nat) (v : Jv) (r r' : Rj), JAt W.cell? d v r → JAt W.cell? d v r' → Tri Tryd.prog W fSa [aggJ r, aggJ r'] [] (bv true) []
  | 0, _, _, _, h, _ => h.elim
  | d + 1, v, r, r', h, h' => sa_step W d (Same_tri W d) v r r' h h'
end Go.Proofs.YtdphpillcaajpaaDoor.Js

/- Json: members: runs. -/
set_option linter.unusedVariables false
set_option linter.unusedSimpArgs false
set_option maxRecDepth 100000
namespace Go.Proofs.YtdphpillcaajpaaDoor.Js
open Go Go.RowKit Go.Proofs.YtdphpillcaajpaaDoor.Eng Go.Proofs.YtdphpillcaajpaaDoor.Kit
noncomputable section
abbrev fMe : Nat := 13
abbrev fRMe : Nat := 14
abbrev fIx : Nat := 28
/-! slices.Index over old names -/
def aIx (oa : Option Addr) (n c : Nat) (t : ByteArray) (i : Nat) : List (Nat × AV) := [(0, slV oa n c), (1, sv t), (7, iv (Int.ofNat n)), (8, iv (Int.ofNat i))]
def hIx (i : Nat) (nm : ByteArray) (b : Bool) : ClaimT := hintL [(fIx, 2, 0, hv (.lit true)), (fIx, 4, 4, hv (sv nm)), (fIx, 4, 5, hv (.lit b)), (fIx, 6, 0, hv (iv (Int.ofNat (i + 1))))]
def iIx : List Nat := [0, 1, 4, 7, 8]
theorem oIxH_eq (W : World) (a : Addr) (n c : Nat) (t nm : ByteArray) (i : Nat) (F : HP) : wLoop [] (hIx i nm true) [] W fIx (loopN fIx 2) (tms 0 19 (aIx (some a) n c t i)) [] [] iIx F = VT.leaf (AX.ret, [AV.v (Value.slice (some a) n c), AV.v (Value.string t), AV.v (Value.int IntKind.i64 (Int.ofNat i)), AV.v (Value.int IntKind.i64 (Int.ofNat n)), AV.v (Value.int IntKind.i64 (Int.ofNat i))], 19) [] 1100 (((Cnd.p (Wk (AV.v (Value.bool (decide (Int.ofNat i < Int.ofNat n)))) (AV.lit true))).a Cnd.t).a (((Cnd.p (i.blt n = true)).a Cnd.t).a (((Cnd.p ((W.cell? (a.add (i * 1))).isSome = true)).a ((Cnd.p (AV.v ((W.cell? (a.add (i * 1))).getD (Value.tuple (Array.mk []))) = AV.v (Value.string (AV.v ((W.cell? (a.add (i * 1))).getD (Value.tuple (Array.mk [])))).strOf))).a ((Cnd.p (Wk (AV.v (Value.string (AV.v ((W.cell? (a.add (i * 1))).getD (Value.tuple (Array.mk [])))).strOf)) (AV.v (Value.string nm)))).a Cnd.t))).a (((Cnd.p (Wk (AV.v (Value.bool (t.toList == nm.toList))) (AV.lit true))).a Cnd.t).a Cnd.t)))) := by kernel_rfl
theorem oIxN_eq (W : World) (a : Addr) (n c : Nat) (t nm : ByteArray) (i : Nat) (F : HP) : wLoop [] (hIx i nm false) [] W fIx (loopN fIx 2) (tms 0 19 (aIx (some a) n c t i)) [] [] iIx F = VT.leaf (AX.normal, [AV.v (Value.slice (some a) n c), AV.v (Value.string t), AV.any, AV.v (Value.int IntKind.i64 (Int.ofNat n)), AV.v (Value.int IntKind.i64 (Int.ofNat (i + 1)))], 19) [] 1100 (((Cnd.p (Wk (AV.v (Value.bool (decide (Int.ofNat i < Int.ofNat n)))) (AV.lit true))).a Cnd.t).a (((Cnd.p (i.blt n = true)).a Cnd.t).a (((Cnd.p ((W.cell? (a.add (i * 1))).isSome = true)).a ((Cnd.p (AV.v ((W.cell? (a.add (i * 1))).getD (Value.tuple (Array.mk []))) = AV.v (Value.string (AV.v ((W.cell? (a.add (i * 1))).getD (Value.tuple (Array.mk [])))).strOf))).a ((Cnd.p (Wk (AV.v (Value.string (AV.v ((W.cell? (a.add (i * 1))).getD (Value.tuple (Array.mk [])))).strOf)) (AV.v (Value.string nm)))).a Cnd.t))).a (((Cnd.p (Wk (AV.v (Value.bool (t.toList == nm.toList))) (AV.lit false))).a Cnd.t).a (((Cnd.p (Wk (AV.v (Value.int IntKind.i64 (IntKind.i64.wrap (Int.ofNat i + Int.ofNat 1)))) (AV.v (Value.int IntKind.i64 (Int.ofNat (i + 1)))))).a Cnd.t).a Cnd.t))))) := by kernel_rfl
theorem oIxE_eq (W : World) (oa : Option Addr) (n c : Nat) (t : ByteArray) (F : HP) : wLoop [] (hintL [(fIx, 2, 0, hv (.lit false))]) [] W fIx (loopN fIx 2) (tms 0 19 (aIx oa n c t n)) [] [] iIx F = VT.leaf (AX.exit 0, [AV.v (Value.slice oa n c), AV.v (Value.string t), AV.any, AV.v (Value.int IntKind.i64 (Int.ofNat n)), AV.v (Value.int IntKind.i64 (Int.ofNat n))], 19) [] 1100 (((Cnd.p (Wk (AV.v (Value.bool (decide (Int.ofNat n < Int.ofNat n)))) (AV.lit false))).a Cnd.t).a Cnd.t) := by kernel_rfl
def lIxH (oa : Option Addr) (n c : Nat) (t : ByteArray) (i : Nat) : List AV → AP (AX × List AV) := mkL (fun _ => .ret ()) (fun _ => True) (fun _ k => k) (fun _ => tms 0 19 (aIx oa n c t 0)) (fun _ => []) (fun _ => .leaf .ret (tms 0 19 [(4, iv (Int.ofNat i))]) [])
def lIxE (oa : Option Addr) (n c : Nat) (t : ByteArray) : List AV → AP (AX × List AV) := mkL (fun _ => .ret ()) (fun _ => True) (fun _ k => k) (fun _ => tms 0 19 (aIx oa n c t 0)) (fun _ => []) (fun _ => .leaf (.exit 0) (tms 0 19 []) [])
theorem oIxFH_eq (W : World) (oa : Option Addr) (n c : Nat) (t : ByteArray) (i : Nat) (F : HP) : wRun [] noHints [(fIx, 2, loopN fIx 2, lIxH oa n c t i)] W fIx [slV oa n c, sv t] [] [] F = VT.leaf (AV.v (Value.int IntKind.i64 (Int.ofNat i))) [] 1100 ((Cnd.p ((fIx, 2, loopN fIx 2, lIxH oa n c t i).snd.snd.fst = (fIx, 2, loopN fIx 2, lIxH oa n c t i).snd.snd.fst)).a ((Cnd.p True).a ((Cnd.p (VW [AV.v (Value.slice oa n c), AV.v (Value.string t), AV.undef, AV.undef, AV.v (Value.int IntKind.i64 (Int.ofNat 0)), AV.undef, AV.v (Value.slice oa n c), AV.v (Value.int IntKind.i64 ↑n), AV.v (Value.int IntKind.i64 (Int.ofNat 0)), AV.undef, AV.undef, AV.undef, AV.undef, AV.undef, AV.undef, AV.undef, AV.undef, AV.undef, AV.undef] [AV.v (Value.slice oa n c), AV.v (Value.string t), AV.any, AV.any, AV.any, AV.any, AV.any, AV.v (Value.int IntKind.i64 (Int.ofNat n)), AV.v (Value.int IntKind.i64 (Int.ofNat 0)), AV.any, AV.any, AV.any, AV.any, AV.any, AV.any, AV.any, AV.any, AV.any, AV.any])).a Cnd.t))) := by kernel_rfl
theorem oIxFE_eq (W : World) (oa : Option Addr) (n c : Nat) (t : ByteArray) (F : HP) : wRun [] noHints [(fIx, 2, loopN fIx 2, lIxE oa n c t)] W fIx [slV oa n c, sv t] [] [] F = VT.leaf (AV.v (Value.int IntKind.i64 (Int.negSucc 0))) [] 1100 ((Cnd.p ((fIx, 2, loopN fIx 2, lIxE oa n c t).snd.snd.fst = (fIx, 2, loopN fIx 2, lIxE oa n c t).snd.snd.fst)).a ((Cnd.p True).a ((Cnd.p (VW [AV.v (Value.slice oa n c), AV.v (Value.string t), AV.undef, AV.undef, AV.v (Value.int IntKind.i64 (Int.ofNat 0)), AV.undef, AV.v (Value.slice oa n c), AV.v (Value.int IntKind.i64 ↑n), AV.v (Value.int IntKind.i64 (Int.ofNat 0)), AV.undef, AV.undef, AV.undef, AV.undef, AV.undef, AV.undef, AV.undef, AV.undef, AV.undef, AV.undef] [AV.v (Value.slice oa n c), AV.v (Value.string t), AV.any, AV.any, AV.any, AV.any, AV.any, AV.v (Value.int IntKind.i64 (Int.ofNat n)), AV.v (Value.int IntKind.i64 (Int.ofNat 0)), AV.any, AV.any, AV.any, AV.any, AV.any, AV.any, AV.any, AV.any, AV.any, AV.any])).a Cnd.t))) := by kernel_rfl
def cIx (oa : Option Addr) (n c : Nat) (t : ByteArray) (z : Int) : List AV → Option (AP AV) := mkC (fun _ => .ret ()) (fun _ => True) (fun _ k => k) (fun _ => [slV oa n c, sv t]) (fun _ => []) (fun _ => .leaf .ret [iv z] [])
/-! json.Member -/
def hMe (k l g : Bool) (x : Rj) : ClaimT := hintL [(fMe, 2, 2, hv (.lit k)), (fMe, 2, 5, hv (.lit l)), (fMe, 2, 12, hv (.lit g)), (fMe, 4, 4, hv (aggJ x))]
def zJ : Rj := ⟨0, 0, nil0, none, 0, 0, none, 0, 0⟩
theorem oMeK_eq (W : World) (r : Rj) (t : ByteArray) (z : Int) (F : HP) : wRun [(fIx, cIx r.na r.nl r.nc t z)] (hMe true false false zJ) [] W fMe [aggJ r, sv t] [] [] F = VT.leaf (AV.tuple [AV.agg [AV.v (Value.int IntKind.i64 (Int.ofNat 0)), AV.v (Value.int IntKind.i64 (Int.ofNat 0)), AV.v (Value.string (ByteArray.mk (Array.mk []))), AV.v (Value.slice none 0 0), AV.v (Value.slice none 0 0)], AV.v (Value.bool false)]) [] 1102 (((Cnd.p (true = true)).a Cnd.t).a (((Cnd.p True).a ((Cnd.p (VW [AV.v (Value.slice r.na r.nl r.nc), AV.v (Value.string t)] [AV.v (Value.slice r.na r.nl r.nc), AV.v (Value.string t)])).a Cnd.t)).a (((Cnd.p (true = true)).a ((Cnd.p (AV.v (Value.int IntKind.i64 r.k) = AV.v (Value.int IntKind.i64 r.k))).a Cnd.t)).a (((Cnd.p (Wk (AV.v (Value.bool (r.k != Int.ofNat 6))) (AV.lit true))).a Cnd.t).a (((Cnd.p (true = true)).a Cnd.t).a ((Cnd.p (true = true)).a ((Cnd.p ([AV.v (Value.int IntKind.i64 (Int.ofNat 0)), AV.v (Value.int IntKind.i64 (Int.ofNat 0)), AV.v (Value.string (ByteArray.mk (Array.mk []))), AV.v (Value.slice none 0 0), AV.v (Value.slice none 0 0)] = [AV.v (Value.int IntKind.i64 (Int.ofNat 0)), AV.v (Value.int IntKind.i64 (Int.ofNat 0)), AV.v (Value.string (ByteArray.mk (Array.mk []))), AV.v (Value.slice none 0 0), AV.v (Value.slice none 0 0)])).a Cnd.t))))))) := by kernel_rfl
theorem oMeL_eq (W : World) (r : Rj) (t : ByteArray) (z : Int) (F : HP) : wRun [(fIx, cIx r.na r.nl r.nc t z)] (hMe false true false zJ) [] W fMe [aggJ r, sv t] [] [] F = VT.leaf (AV.tuple [AV.agg [AV.v (Value.int IntKind.i64 (Int.ofNat 0)), AV.v (Value.int IntKind.i64 (Int.ofNat 0)), AV.v (Value.string (ByteArray.mk (Array.mk []))), AV.v (Value.slice none 0 0), AV.v (Value.slice none 0 0)], AV.v (Value.bool false)]) [] 1102 (((Cnd.p (true = true)).a Cnd.t).a (((Cnd.p True).a ((Cnd.p (VW [AV.v (Value.slice r.na r.nl r.nc), AV.v (Value.string t)] [AV.v (Value.slice r.na r.nl r.nc), AV.v (Value.string t)])).a Cnd.t)).a (((Cnd.p (true = true)).a ((Cnd.p (AV.v (Value.int IntKind.i64 r.k) = AV.v (Value.int IntKind.i64 r.k))).a Cnd.t)).a (((Cnd.p (Wk (AV.v (Value.bool (r.k != Int.ofNat 6))) (AV.lit false))).a Cnd.t).a (((Cnd.p (Wk (AV.v (Value.bool (decide (z < Int.ofNat 0)))) (AV.lit true))).a Cnd.t).a (((Cnd.p (true = true)).a Cnd.t).a ((Cnd.p (true = true)).a ((Cnd.p ([AV.v (Value.int IntKind.i64 (Int.ofNat 0)), AV.v (Value.int IntKind.i64 (Int.ofNat 0)), AV.v (Value.string (ByteArray.mk (Array.mk []))), AV.v (Value.slice none 0 0), AV.v (Value.slice none 0 0)] = [AV.v (Value.int IntKind.i64 (Int.ofNat 0)), AV.v (Value.int IntKind.i64 (Int.ofNat 0)), AV.v (Value.string (ByteArray.mk (Array.mk []))), AV.v (Value.slice none 0 0), AV.v (Value.slice none 0 0)])).a Cnd.t)))))))) := by kernel_rfl
theorem oMeG_eq (W : World) (r : Rj) (t : ByteArray) (i : Nat) (F : HP) : wRun [(fIx, cIx r.na r.nl r.nc t (Int.ofNat i))] (hMe false false true zJ) [] W fMe [aggJ r, sv t] [] [] F = VT.leaf (AV.tuple [AV.agg [AV.v (Value.int IntKind.i64 (Int.ofNat 0)), AV.v (Value.int IntKind.i64 (Int.ofNat 0)), AV.v (Value.string (ByteArray.mk (Array.mk []))), AV.v (Value.slice none 0 0), AV.v (Value.slice none 0 0)], AV.v (Value.bool false)]) [] 1102 (((Cnd.p (true = true)).a Cnd.t).a (((Cnd.p True).a ((Cnd.p (VW [AV.v (Value.slice r.na r.nl r.nc), AV.v (Value.string t)] [AV.v (Value.slice r.na r.nl r.nc), AV.v (Value.string t)])).a Cnd.t)).a (((Cnd.p (true = true)).a ((Cnd.p (AV.v (Value.int IntKind.i64 r.k) = AV.v (Value.int IntKind.i64 r.k))).a Cnd.t)).a (((Cnd.p (Wk (AV.v (Value.bool (r.k != Int.ofNat 6))) (AV.lit false))).a Cnd.t).a (((Cnd.p (Wk (AV.v (Value.bool false)) (AV.lit false))).a Cnd.t).a (((Cnd.p (true = true)).a Cnd.t).a (((Cnd.p (Wk (AV.v (Value.bool (decide (Int.ofNat i ≥ ↑r.ll)))) (AV.lit true))).a Cnd.t).a (((Cnd.p (true = true)).a Cnd.t).a ((Cnd.p (true = true)).a ((Cnd.p ([AV.v (Value.int IntKind.i64 (Int.ofNat 0)), AV.v (Value.int IntKind.i64 (Int.ofNat 0)), AV.v (Value.string (ByteArray.mk (Array.mk []))), AV.v (Value.slice none 0 0), AV.v (Value.slice none 0 0)] = [AV.v (Value.int IntKind.i64 (Int.ofNat 0)), AV.v (Value.int IntKind.i64 (Int.ofNat 0)), AV.v (Value.string (ByteArray.mk (Array.mk []))), AV.v (Value.slice none 0 0), AV.v (Value.slice none 0 0)])).a Cnd.t)))))))))) := by kernel_rfl
theorem oMeY_eq (W : World) (r x : Rj) (a : Addr) (t : ByteArray) (i : Nat) (F : HP) : wRun [(fIx, cIx r.na r.nl r.nc t (Int.ofNat i))] (hMe false false false x) [] W fMe [aggJ { r with la := some a }, sv t] [] [] F = VT.leaf (AV.tuple [AV.agg [AV.v (Value.int IntKind.i64 x.k), AV.v (Value.int IntKind.i64 x.n), AV.v (Value.string x.t), AV.v (Value.slice x.la x.ll x.lc), AV.v (Value.slice x.na x.nl x.nc)], AV.v (Value.bool true)]) [] 1102 (((Cnd.p (true = true)).a Cnd.t).a (((Cnd.p True).a ((Cnd.p (VW [AV.v (Value.slice r.na r.nl r.nc), AV.v (Value.string t)] [AV.v (Value.slice r.na r.nl r.nc), AV.v (Value.string t)])).a Cnd.t)).a (((Cnd.p (true = true)).a ((Cnd.p (AV.v (Value.int IntKind.i64 r.k) = AV.v (Value.int IntKind.i64 r.k))).a Cnd.t)).a (((Cnd.p (Wk (AV.v (Value.bool (r.k != Int.ofNat 6))) (AV.lit false))).a Cnd.t).a (((Cnd.p (Wk (AV.v (Value.bool false)) (AV.lit false))).a Cnd.t).a (((Cnd.p (true = true)).a Cnd.t).a (((Cnd.p (Wk (AV.v (Value.bool (decide (Int.ofNat i ≥ ↑r.ll)))) (AV.lit false))).a Cnd.t).a (((Cnd.p (true = true)).a Cnd.t).a (((Cnd.p (i.blt r.ll = true)).a Cnd.t).a (((Cnd.p (([0, 1, 2, 3, 4].all fun j => (W.cell? ((a.add (i * 5)).add j)).isSome) = true)).a ((Cnd.p ([AV.v ((W.cell? ((a.add (i * 5)).add 0)).getD (Value.tuple (Array.mk []))), AV.v ((W.cell? (Addr.mk (a.add (i * 5)).block ((a.add (i * 5)).off + 1) none)).getD (Value.tuple (Array.mk []))), AV.v ((W.cell? (Addr.mk (a.add (i * 5)).block ((a.add (i * 5)).off + 2) none)).getD (Value.tuple (Array.mk []))), AV.v ((W.cell? (Addr.mk (a.add (i * 5)).block ((a.add (i * 5)).off + 3) none)).getD (Value.tuple (Array.mk []))), AV.v ((W.cell? (Addr.mk (a.add (i * 5)).block ((a.add (i * 5)).off + 4) none)).getD (Value.tuple (Array.mk [])))] = [AV.v (Value.int IntKind.i64 (AV.v ((W.cell? ((a.add (i * 5)).add 0)).getD (Value.tuple (Array.mk [])))).intOf), AV.v (Value.int IntKind.i64 (AV.v ((W.cell? (Addr.mk (a.add (i * 5)).block ((a.add (i * 5)).off + 1) none)).getD (Value.tuple (Array.mk [])))).intOf), AV.v (Value.string (AV.v ((W.cell? (Addr.mk (a.add (i * 5)).block ((a.add (i * 5)).off + 2) none)).getD (Value.tuple (Array.mk [])))).strOf), AV.v ((W.cell? (Addr.mk (a.add (i * 5)).block ((a.add (i * 5)).off + 3) none)).getD (Value.tuple (Array.mk []))), AV.v ((W.cell? (Addr.mk (a.add (i * 5)).block ((a.add (i * 5)).off + 4) none)).getD (Value.tuple (Array.mk [])))])).a ((Cnd.p (Wk (AV.agg [AV.v (Value.int IntKind.i64 (AV.v ((W.cell? ((a.add (i * 5)).add 0)).getD (Value.tuple (Array.mk [])))).intOf), AV.v (Value.int IntKind.i64 (AV.v ((W.cell? (Addr.mk (a.add (i * 5)).block ((a.add (i * 5)).off + 1) none)).getD (Value.tuple (Array.mk [])))).intOf), AV.v (Value.string (AV.v ((W.cell? (Addr.mk (a.add (i * 5)).block ((a.add (i * 5)).off + 2) none)).getD (Value.tuple (Array.mk [])))).strOf), AV.v ((W.cell? (Addr.mk (a.add (i * 5)).block ((a.add (i * 5)).off + 3) none)).getD (Value.tuple (Array.mk []))), AV.v ((W.cell? (Addr.mk (a.add (i * 5)).block ((a.add (i * 5)).off + 4) none)).getD (Value.tuple (Array.mk [])))]) (AV.agg [AV.v (Value.int IntKind.i64 x.k), AV.v (Value.int IntKind.i64 x.n), AV.v (Value.string x.t), AV.v (Value.slice x.la x.ll x.lc), AV.v (Value.slice x.na x.nl x.nc)]))).a Cnd.t))).a (((Cnd.p (true = true)).a Cnd.t).a ((Cnd.p (true = true)).a ((Cnd.p ([AV.v (Value.int IntKind.i64 x.k), AV.v (Value.int IntKind.i64 x.n), AV.v (Value.string x.t), AV.v (Value.slice x.la x.ll x.lc), AV.v (Value.slice x.na x.nl x.nc)] = [AV.v (Value.int IntKind.i64 x.k), AV.v (Value.int IntKind.i64 x.n), AV.v (Value.string x.t), AV.v (Value.slice x.la x.ll x.lc), AV.v (Value.slice x.na x.nl x.nc)])).a Cnd.t))))))))))))) := by kernel_rfl
/-! the document's -/
def oRm (r : Rj) : LH := [(1000, .cells (vmap r.cells) tJs), (1001, .cells (vmap zJ.cells) tJs)]
def aRm (t : ByteArray) (i : Nat) : List (Nat × AV) := [(1, sv t), (2, .ptr 1000 0), (4, .ptr 1001 0), (6, iv (Int.ofNat i))]
def iRm : List Nat := [1, 2, 4, 5, 6]
def hRm (i : Nat) (nm : ByteArray) (lt k b g : Bool) (x : Rj) : ClaimT := hintL [(fRMe, 2, 4, hv (.lit lt)), (fRMe, 2, 8, hv (.lit k)), (fRMe, 4, 4, hv (sv nm)), (fRMe, 4, 6, hv (.lit b)), (fRMe, 5, 4, hv (.lit g)), (fRMe, 6, 4, hv (aggJ x)), (fRMe, 3, 1, hv (iv (Int.ofNat (i + 1))))]
theorem oRmE_eq (W : World) (r : Rj) (t : ByteArray) (i : Nat) (F : HP) : wLoop [] (hRm i nil0 false false false false zJ) [] W fRMe (loopN fRMe 2) (tms 0 38 (aRm t i)) (oRm r) [1000, 1001] iRm F = VT.leaf (AX.exit 0, [AV.v (Value.string t), AV.ptr 1000 0, AV.ptr 1001 0, AV.any, AV.v (Value.int IntKind.i64 (Int.ofNat i))], 38) [some (AO.cells [AV.v (Value.int IntKind.i64 r.k), AV.v (Value.int IntKind.i64 r.n), AV.v (Value.string r.t), AV.v (Value.slice r.la r.ll r.lc), AV.v (Value.slice r.na r.nl r.nc)] 52), some (AO.cells [AV.v (Value.int IntKind.i64 (Int.ofNat 0)), AV.v (Value.int IntKind.i64 (Int.ofNat 0)), AV.v (Value.string nil0), AV.v (Value.slice none 0 0), AV.v (Value.slice none 0 0)] 52)] 1100 (((Cnd.p (true = true)).a Cnd.t).a (((Cnd.p (Wk (AV.v (Value.bool (decide (Int.ofNat i < ↑r.nl)))) (AV.lit false))).a Cnd.t).a Cnd.t)) := by kernel_rfl
theorem oRmK_eq (W : World) (r : Rj) (t : ByteArray) (i : Nat) (F : HP) : wLoop [] (hRm i nil0 true false false false zJ) [] W fRMe (loopN fRMe 2) (tms 0 38 (aRm t i)) (oRm r) [1000, 1001] iRm F = VT.leaf (AX.exit 0, [AV.v (Value.string t), AV.ptr 1000 0, AV.ptr 1001 0, AV.any, AV.v (Value.int IntKind.i64 (Int.ofNat i))], 38) [some (AO.cells [AV.v (Value.int IntKind.i64 r.k), AV.v (Value.int IntKind.i64 r.n), AV.v (Value.string r.t), AV.v (Value.slice r.la r.ll r.lc), AV.v (Value.slice r.na r.nl r.nc)] 52), some (AO.cells [AV.v (Value.int IntKind.i64 (Int.ofNat 0)), AV.v (Value.int IntKind.i64 (Int.ofNat 0)), AV.v (Value.string nil0), AV.v (Value.slice none 0 0), AV.v (Value.slice none 0 0)] 52)] 1100 (((Cnd.p (true = true)).a Cnd.t).a (((Cnd.p (Wk (AV.v (Value.bool (decide (Int.ofNat i < ↑r.nl)))) (AV.lit true))).a Cnd.t).a (((Cnd.p (true = true)).a ((Cnd.p (AV.v (Value.int IntKind.i64 r.k) = AV.v (Value.int IntKind.i64 r.k))).a Cnd.t)).a (((Cnd.p (Wk (AV.v (Value.bool (r.k == Int.ofNat 6))) (AV.lit false))).a Cnd.t).a Cnd.t)))) := by kernel_rfl
theorem oRmN_eq (W : World) (r : Rj) (a : Addr) (t nm : ByteArray) (i : Nat) (F : HP) : wLoop [] (hRm i nm true true false false zJ) [] W fRMe (loopN fRMe 2) (tms 0 38 (aRm t i)) (oRm { r with na := some a }) [1000, 1001] iRm F = VT.leaf (AX.normal, [AV.v (Value.string t), AV.ptr 1000 0, AV.ptr 1001 0, AV.any, AV.v (Value.int IntKind.i64 (Int.ofNat (i + 1)))], 38) [some (AO.cells [AV.v (Value.int IntKind.i64 r.k), AV.v (Value.int IntKind.i64 r.n), AV.v (Value.string r.t), AV.v (Value.slice r.la r.ll r.lc), AV.v (Value.slice (some a) r.nl r.nc)] 52), some (AO.cells [AV.v (Value.int IntKind.i64 (Int.ofNat 0)), AV.v (Value.int IntKind.i64 (Int.ofNat 0)), AV.v (Value.string nil0), AV.v (Value.slice none 0 0), AV.v (Value.slice none 0 0)] 52)] 1100 (((Cnd.p (true = true)).a Cnd.t).a (((Cnd.p (Wk (AV.v (Value.bool (decide (Int.ofNat i < ↑r.nl)))) (AV.lit true))).a Cnd.t).a (((Cnd.p (true = true)).a ((Cnd.p (AV.v (Value.int IntKind.i64 r.k) = AV.v (Value.int IntKind.i64 r.k))).a Cnd.t)).a (((Cnd.p (Wk (AV.v (Value.bool (r.k == Int.ofNat 6))) (AV.lit true))).a Cnd.t).a (((Cnd.p (true = true)).a Cnd.t).a (((Cnd.p (i.blt r.nl = true)).a Cnd.t).a (((Cnd.p ((W.cell? (a.add (i * 1))).isSome = true)).a ((Cnd.p (AV.v ((W.cell? (a.add (i * 1))).getD (Value.tuple (Array.mk []))) = AV.v (Value.string (AV.v ((W.cell? (a.add (i * 1))).getD (Value.tuple (Array.mk [])))).strOf))).a ((Cnd.p (Wk (AV.v (Value.string (AV.v ((W.cell? (a.add (i * 1))).getD (Value.tuple (Array.mk [])))).strOf)) (AV.v (Value.string nm)))).a Cnd.t))).a (((Cnd.p (Wk (AV.v (Value.bool (nm.toList == t.toList))) (AV.lit false))).a Cnd.t).a (((Cnd.p (Wk (AV.v (Value.int IntKind.i64 (IntKind.i64.wrap (Int.ofNat i + Int.ofNat 1)))) (AV.v (Value.int IntKind.i64 (Int.ofNat (i + 1)))))).a Cnd.t).a Cnd.t))))))))) := by kernel_rfl
theorem oRmG_eq (W : World) (r : Rj) (a : Addr) (t nm : ByteArray) (i : Nat) (F : HP) : wLoop [] (hRm i nm true true true false zJ) [] W fRMe (loopN fRMe 2) (tms 0 38 (aRm t i)) (oRm { r with na := some a }) [1000, 1001] iRm F = VT.leaf (AX.ret, [AV.v (Value.string t), AV.ptr 1000 0, AV.ptr 1001 0, AV.v (Value.bool false), AV.v (Value.int IntKind.i64 (Int.ofNat i))], 38) [some (AO.cells [AV.v (Value.int IntKind.i64 r.k), AV.v (Value.int IntKind.i64 r.n), AV.v (Value.string r.t), AV.v (Value.slice r.la r.ll r.lc), AV.v (Value.slice (some a) r.nl r.nc)] 52), some (AO.cells [AV.v (Value.int IntKind.i64 (Int.ofNat 0)), AV.v (Value.int IntKind.i64 (Int.ofNat 0)), AV.v (Value.string (ByteArray.mk (Array.mk []))), AV.v (Value.slice none 0 0), AV.v (Value.slice none 0 0)] 52)] 1100 (((Cnd.p (true = true)).a Cnd.t).a (((Cnd.p (Wk (AV.v (Value.bool (decide (Int.ofNat i < ↑r.nl)))) (AV.lit true))).a Cnd.t).a (((Cnd.p (true = true)).a ((Cnd.p (AV.v (Value.int IntKind.i64 r.k) = AV.v (Value.int IntKind.i64 r.k))).a Cnd.t)).a (((Cnd.p (Wk (AV.v (Value.bool (r.k == Int.ofNat 6))) (AV.lit true))).a Cnd.t).a (((Cnd.p (true = true)).a Cnd.t).a (((Cnd.p (i.blt r.nl = true)).a Cnd.t).a (((Cnd.p ((W.cell? (a.add (i * 1))).isSome = true)).a ((Cnd.p (AV.v ((W.cell? (a.add (i * 1))).getD (Value.tuple (Array.mk []))) = AV.v (Value.string (AV.v ((W.cell? (a.add (i * 1))).getD (Value.tuple (Array.mk [])))).strOf))).a ((Cnd.p (Wk (AV.v (Value.string (AV.v ((W.cell? (a.add (i * 1))).getD (Value.tuple (Array.mk [])))).strOf)) (AV.v (Value.string nm)))).a Cnd.t))).a (((Cnd.p (Wk (AV.v (Value.bool (nm.toList == t.toList))) (AV.lit true))).a Cnd.t).a (((Cnd.p (true = true)).a Cnd.t).a (((Cnd.p (Wk (AV.v (Value.bool (decide (Int.ofNat i < ↑r.ll)))) (AV.lit false))).a Cnd.t).a (((Cnd.p (true = true)).a Cnd.t).a Cnd.t))))))))))) := by kernel_rfl
theorem oRmY_eq (W : World) (r x : Rj) (a b : Addr) (t nm : ByteArray) (i : Nat) (F : HP) : wLoop [] (hRm i nm true true true true x) [] W fRMe (loopN fRMe 2) (tms 0 38 (aRm t i)) (oRm { r with na := some a, la := some b }) [1000, 1001] iRm F = VT.leaf (AX.ret, [AV.v (Value.string t), AV.ptr 1000 0, AV.ptr 1001 0, AV.v (Value.bool true), AV.v (Value.int IntKind.i64 (Int.ofNat i))], 38) [some (AO.cells [AV.v (Value.int IntKind.i64 r.k), AV.v (Value.int IntKind.i64 r.n), AV.v (Value.string r.t), AV.v (Value.slice (some b) r.ll r.lc), AV.v (Value.slice (some a) r.nl r.nc)] 52), some (AO.cells [AV.v (Value.int IntKind.i64 x.k), AV.v (Value.int IntKind.i64 x.n), AV.v (Value.string x.t), AV.v (Value.slice x.la x.ll x.lc), AV.v (Value.slice x.na x.nl x.nc)] 52)] 1100 (((Cnd.p (true = true)).a Cnd.t).a (((Cnd.p (Wk (AV.v (Value.bool (decide (Int.ofNat i < ↑r.nl)))) (AV.lit true))).a Cnd.t).a (((Cnd.p (true = true)).a ((Cnd.p (AV.v (Value.int IntKind.i64 r.k) = AV.v (Value.int IntKind.i64 r.k))).a Cnd.t)).a (((Cnd.p (Wk (AV.v (Value.bool (r.k == Int.ofNat 6))) (AV.lit true))).a Cnd.t).a (((Cnd.p (true = true)).a Cnd.t).a (((Cnd.p (i.blt r.nl = true)).a Cnd.t).a (((Cnd.p ((W.cell? (a.add (i * 1))).isSome = true)).a ((Cnd.p (AV.v ((W.cell? (a.add (i * 1))).getD (Value.tuple (Array.mk []))) = AV.v (Value.string (AV.v ((W.cell? (a.add (i * 1))).getD (Value.tuple (Array.mk [])))).strOf))).a ((Cnd.p (Wk (AV.v (Value.string (AV.v ((W.cell? (a.add (i * 1))).getD (Value.tuple (Array.mk [])))).strOf)) (AV.v (Value.string nm)))).a Cnd.t))).a (((Cnd.p (Wk (AV.v (Value.bool (nm.toList == t.toList))) (AV.lit true))).a Cnd.t).a (((Cnd.p (true = true)).a Cnd.t).a (((Cnd.p (Wk (AV.v (Value.bool (decide (Int.ofNat i < ↑r.ll)))) (AV.lit true))).a Cnd.t).a (((Cnd.p (true = true)).a Cnd.t).a (((Cnd.p (i.blt r.ll = true)).a Cnd.t).a (((Cnd.p (([0, 1, 2, 3, 4].all fun j => (W.cell? ((b.add (i * 5)).add j)).isSome) = true)).a ((Cnd.p ([AV.v ((W.cell? ((b.add (i * 5)).add 0)).getD (Value.tuple (Array.mk []))), AV.v ((W.cell? (Addr.mk (b.add (i * 5)).block ((b.add (i * 5)).off + 1) none)).getD (Value.tuple (Array.mk []))), AV.v ((W.cell? (Addr.mk (b.add (i * 5)).block ((b.add (i * 5)).off + 2) none)).getD (Value.tuple (Array.mk []))), AV.v ((W.cell? (Addr.mk (b.add (i * 5)).block ((b.add (i * 5)).off + 3) none)).getD (Value.tuple (Array.mk []))), AV.v ((W.cell? (Addr.mk (b.add (i * 5)).block ((b.add (i * 5)).off + 4) none)).getD (Value.tuple (Array.mk [])))] = [AV.v (Value.int IntKind.i64 (AV.v ((W.cell? ((b.add (i * 5)).add 0)).getD (Value.tuple (Array.mk [])))).intOf), AV.v (Value.int IntKind.i64 (AV.v ((W.cell? (Addr.mk (b.add (i * 5)).block ((b.add (i * 5)).off + 1) none)).getD (Value.tuple (Array.mk [])))).intOf), AV.v (Value.string (AV.v ((W.cell? (Addr.mk (b.add (i * 5)).block ((b.add (i * 5)).off + 2) none)).getD (Value.tuple (Array.mk [])))).strOf), AV.v ((W.cell? (Addr.mk (b.add (i * 5)).block ((b.add (i * 5)).off + 3) none)).getD (Value.tuple (Array.mk []))), AV.v ((W.cell? (Addr.mk (b.add (i * 5)).block ((b.add (i * 5)).off + 4) none)).getD (Value.tuple (Array.mk [])))])).a ((Cnd.p (Wk (AV.agg [AV.v (Value.int IntKind.i64 (AV.v ((W.cell? ((b.add (i * 5)).add 0)).getD (Value.tuple (Array.mk [])))).intOf), AV.v (Value.int IntKind.i64 (AV.v ((W.cell? (Addr.mk (b.add (i * 5)).block ((b.add (i * 5)).off + 1) none)).getD (Value.tuple (Array.mk [])))).intOf), AV.v (Value.string (AV.v ((W.cell? (Addr.mk (b.add (i * 5)).block ((b.add (i * 5)).off + 2) none)).getD (Value.tuple (Array.mk [])))).strOf), AV.v ((W.cell? (Addr.mk (b.add (i * 5)).block ((b.add (i * 5)).off + 3) none)).getD (Value.tuple (Array.mk []))), AV.v ((W.cell? (Addr.mk (b.add (i * 5)).block ((b.add (i * 5)).off + 4) none)).getD (Value.tuple (Array.mk [])))]) (AV.agg [AV.v (Value.int IntKind.i64 x.k), AV.v (Value.int IntKind.i64 x.n), AV.v (Value.string x.t), AV.v (Value.slice x.la x.ll x.lc), AV.v (Value.slice x.na x.nl x.nc)]))).a Cnd.t))).a (((Cnd.p (true = true)).a Cnd.t).a Cnd.t)))))))))))))) := by kernel_rfl
def gRm (tmps : List AV) : AP (Nat × Nat) := match getL tmps 2 with
  | .ptr a _ => match getL tmps 4 with
    | .ptr b _ => .ret (a, b)
    | _ => .fail "member"
  | _ => .fail "member"
def oRm2 (r x : Rj) : LH := [(1000, .cells (vmap r.cells) tJs), (1001, .cells (vmap x.cells) tJs)]
def lRmE (r : Rj) (t : ByteArray) : List AV → AP (AX × List AV) := mkL gRm (fun _ => True) (fun q => nmSa q.1 q.2) (fun _ => tms 0 38 (aRm t 0)) (fun _ => oRm r) (fun _ => .leaf (.exit 0) (tms 0 38 [(4, .ptr 1001 0)]) (oRm r))
def lRmR (r x : Rj) (t : ByteArray) (b : Bool) : List AV → AP (AX × List AV) := mkL gRm (fun _ => True) (fun q => nmSa q.1 q.2) (fun _ => tms 0 38 (aRm t 0)) (fun _ => oRm r) (fun _ => .leaf .ret (tms 0 38 [(4, .ptr 1001 0), (5, bv b)]) (oRm2 r x))
theorem oRmFE_eq (W : World) (r : Rj) (t : ByteArray) (F : HP) : wRun [] noHints [(fRMe, 2, loopN fRMe 2, lRmE r t)] W fRMe [aggJ r, sv t] [] [] F = VT.leaf (AV.tuple [AV.agg [AV.v (Value.int IntKind.i64 (Int.ofNat 0)), AV.v (Value.int IntKind.i64 (Int.ofNat 0)), AV.v (Value.string (ByteArray.mk (Array.mk []))), AV.v (Value.slice none 0 0), AV.v (Value.slice none 0 0)], AV.v (Value.bool false)]) [] 1104 ((Cnd.p ((fRMe, 2, loopN fRMe 2, lRmE r t).snd.snd.fst = (fRMe, 2, loopN fRMe 2, lRmE r t).snd.snd.fst)).a ((Cnd.p True).a ((Cnd.p (VW [AV.agg [AV.v (Value.int IntKind.i64 r.k), AV.v (Value.int IntKind.i64 r.n), AV.v (Value.string r.t), AV.v (Value.slice r.la r.ll r.lc), AV.v (Value.slice r.na r.nl r.nc)], AV.v (Value.string t), AV.ptr 1100 0, AV.undef, AV.ptr 1101 0, AV.v (Value.bool false), AV.v (Value.int IntKind.i64 (Int.ofNat 0)), AV.undef, AV.undef, AV.undef, AV.undef, AV.undef, AV.undef, AV.undef, AV.undef, AV.undef, AV.undef, AV.undef, AV.undef, AV.undef, AV.undef, AV.undef, AV.undef, AV.undef, AV.undef, AV.undef, AV.undef, AV.undef, AV.undef, AV.undef, AV.undef, AV.undef, AV.undef, AV.undef, AV.undef, AV.undef, AV.undef, AV.undef] [AV.any, AV.v (Value.string t), AV.ptr 1100 0, AV.any, AV.ptr 1101 0, AV.any, AV.v (Value.int IntKind.i64 (Int.ofNat 0)), AV.any, AV.any, AV.any, AV.any, AV.any, AV.any, AV.any, AV.any, AV.any, AV.any, AV.any, AV.any, AV.any, AV.any, AV.any, AV.any, AV.any, AV.any, AV.any, AV.any, AV.any, AV.any, AV.any, AV.any, AV.any, AV.any, AV.any, AV.any, AV.any, AV.any, AV.any])).a ((Cnd.p (OW (AO.cells [AV.v (Value.int IntKind.i64 r.k), AV.v (Value.int IntKind.i64 r.n), AV.v (Value.string r.t), AV.v (Value.slice r.la r.ll r.lc), AV.v (Value.slice r.na r.nl r.nc)] 52) (AO.cells [AV.v (Value.int IntKind.i64 r.k), AV.v (Value.int IntKind.i64 r.n), AV.v (Value.string r.t), AV.v (Value.slice r.la r.ll r.lc), AV.v (Value.slice r.na r.nl r.nc)] 52))).a ((Cnd.p (OW (AO.cells [AV.v (Value.int IntKind.i64 (Int.ofNat 0)), AV.v (Value.int IntKind.i64 (Int.ofNat 0)), AV.v (Value.string (ByteArray.mk (Array.mk []))), AV.v (Value.slice none 0 0), AV.v (Value.slice none 0 0)] 52) (AO.cells [AV.v (Value.int IntKind.i64 (Int.ofNat 0)), AV.v (Value.int IntKind.i64 (Int.ofNat 0)), AV.v (Value.string nil0), AV.v (Value.slice none 0 0), AV.v (Value.slice none 0 0)] 52))).a (((Cnd.p (true = true)).a Cnd.t).a ((Cnd.p (true = true)).a ((Cnd.p ([AV.v (Value.int IntKind.i64 (Int.ofNat 0)), AV.v (Value.int IntKind.i64 (Int.ofNat 0)), AV.v (Value.string (ByteArray.mk (Array.mk []))), AV.v (Value.slice none 0 0), AV.v (Value.slice none 0 0)] = [AV.v (Value.int IntKind.i64 (Int.ofNat 0)), AV.v (Value.int IntKind.i64 (Int.ofNat 0)), AV.v (Value.string (ByteArray.mk (Array.mk []))), AV.v (Value.slice none 0 0), AV.v (Value.slice none 0 0)])).a Cnd.t)))))))) := by kernel_rfl
theorem oRmFR_eq (W : World) (r x : Rj) (t : ByteArray) (b : Bool) (F : HP) : wRun [] noHints [(fRMe, 2, loopN fRMe 2, lRmR r x t b)] W fRMe [aggJ r, sv t] [] [] F = VT.leaf (AV.tuple [AV.agg [AV.v (Value.int IntKind.i64 x.k), AV.v (Value.int IntKind.i64 x.n), AV.v (Value.string x.t), AV.v (Value.slice x.la x.ll x.lc), AV.v (Value.slice x.na x.nl x.nc)], AV.v (Value.bool b)]) [] 1104 ((Cnd.p ((fRMe, 2, loopN fRMe 2, lRmR r x t b).snd.snd.fst = (fRMe, 2, loopN fRMe 2, lRmR r x t b).snd.snd.fst)).a ((Cnd.p True).a ((Cnd.p (VW [AV.agg [AV.v (Value.int IntKind.i64 r.k), AV.v (Value.int IntKind.i64 r.n), AV.v (Value.string r.t), AV.v (Value.slice r.la r.ll r.lc), AV.v (Value.slice r.na r.nl r.nc)], AV.v (Value.string t), AV.ptr 1100 0, AV.undef, AV.ptr 1101 0, AV.v (Value.bool false), AV.v (Value.int IntKind.i64 (Int.ofNat 0)), AV.undef, AV.undef, AV.undef, AV.undef, AV.undef, AV.undef, AV.undef, AV.undef, AV.undef, AV.undef, AV.undef, AV.undef, AV.undef, AV.undef, AV.undef, AV.undef, AV.undef, AV.undef, AV.undef, AV.undef, AV.undef, AV.undef, AV.undef, AV.undef, AV.undef, AV.undef, AV.undef, AV.undef, AV.undef, AV.undef, AV.undef] [AV.any, AV.v (Value.string t), AV.ptr 1100 0, AV.any, AV.ptr 1101 0, AV.any, AV.v (Value.int IntKind.i64 (Int.ofNat 0)), AV.any, AV.any, AV.any, AV.any, AV.any, AV.any, AV.any, AV.any, AV.any, AV.any, AV.any, AV.any, AV.any, AV.any, AV.any, AV.any, AV.any, AV.any, AV.any, AV.any, AV.any, AV.any, AV.any, AV.any, AV.any, AV.any, AV.any, AV.any, AV.any, AV.any, AV.any])).a ((Cnd.p (OW (AO.cells [AV.v (Value.int IntKind.i64 r.k), AV.v (Value.int IntKind.i64 r.n), AV.v (Value.string r.t), AV.v (Value.slice r.la r.ll r.lc), AV.v (Value.slice r.na r.nl r.nc)] 52) (AO.cells [AV.v (Value.int IntKind.i64 r.k), AV.v (Value.int IntKind.i64 r.n), AV.v (Value.string r.t), AV.v (Value.slice r.la r.ll r.lc), AV.v (Value.slice r.na r.nl r.nc)] 52))).a ((Cnd.p (OW (AO.cells [AV.v (Value.int IntKind.i64 (Int.ofNat 0)), AV.v (Value.int IntKind.i64 (Int.ofNat 0)), AV.v (Value.string (ByteArray.mk (Array.mk []))), AV.v (Value.slice none 0 0), AV.v (Value.slice none 0 0)] 52) (AO.cells [AV.v (Value.int IntKind.i64 (Int.ofNat 0)), AV.v (Value.int IntKind.i64 (Int.ofNat 0)), AV.v (Value.string nil0), AV.v (Value.slice none 0 0), AV.v (Value.slice none 0 0)] 52))).a ((Cnd.p (true = true)).a ((Cnd.p ([AV.v (Value.int IntKind.i64 x.k), AV.v (Value.int IntKind.i64 x.n), AV.v (Value.string x.t), AV.v (Value.slice x.la x.ll x.lc), AV.v (Value.slice x.na x.nl x.nc)] = [AV.v (Value.int IntKind.i64 x.k), AV.v (Value.int IntKind.i64 x.n), AV.v (Value.string x.t), AV.v (Value.slice x.la x.ll x.lc), AV.v (Value.slice x.na x.nl x.nc)])).a Cnd.t))))))) := by kernel_rfl
end
end Go.Proofs.YtdphpillcaajpaaDoor.Js

/- Json: members. -/
set_option linter.unusedVariables false
set_option linter.unusedSimpArgs false
set_option maxRecDepth 100000
namespace Go.Proofs.YtdphpillcaajpaaDoor.Js
open Go Go.RowKit Go.Proofs.YtdphpillcaajpaaDoor.Eng Go.Proofs.YtdphpillcaajpaaDoor.Kit
theorem txt_ext {a b : ByteArray} (h : a.toList = b.toList) : a = b := by
  rw [Lib.toList_data, Lib.toList_data] at h
  cases a; cases b; congr 1; exact Array.ext' h
theorem txtT {a b : ByteArray} (h : a = b) : (a.toList == b.toList) = true := by subst h; exact beq_self_eq_true _
theorem txtF {a b : ByteArray} (h : a ≠ b) : (a.toList == b.toList) = false := beq_eq_false_iff_ne.2 fun e => h (txt_ext e)
theorem nlt {i n : Nat} (h : i < n) : decide (Int.ofNat i < Int.ofNat n) = true := by rw [nat_lt]; exact decide_eq_true h
theorem nltF {n : Nat} : decide (Int.ofNat n < Int.ofNat n) = false := by rw [nat_lt]; exact decide_eq_false (Nat.lt_irrefl _)
variable {W : World} {l : List ByteArray} {oa : Option Addr} {t : ByteArray}
theorem ix_loop (ha : NOf W.cell? oa l) (c : Nat) (ax : AX) (Z : List (Nat × AV)) (hax : ax ≠ .normal)
    (hhit : ∀ i : Nat, l[i]? = some t → (∀ j, j < i → l[j]? ≠ some t) → ax = .ret ∧ Z = [(4, iv (Int.ofNat i))]) (hmiss : (∀ j, j < l.length → l[j]? ≠ some t) → ax = .exit 0 ∧ Z = []) :
    LTri Tryd.prog W (loopN fIx 2) (tms 0 19 (aIx oa l.length c t 0)) [] ax (tms 0 19 Z) [] := by
  have hlen := big_nat ha.1 (by decide)
  refine ltri_run (W := W) (g := fIx) (b := loopN fIx 2) (σ := {i : Nat // i ≤ l.length ∧ ∀ j, j < i → l[j]? ≠ some t}) 19 (fun i => aIx oa l.length c t i.1) (fun _ => []) ax Z [] (fun i => l.length - i.1) [] iIx hax (fun _ => rfl) rfl ?_ ⟨0, Nat.zero_le _, fun j hj => absurd hj (Nat.not_lt_zero _)⟩
  rintro ⟨i, hi, hA⟩
  simp only
  by_cases h1 : i < l.length
  · obtain ⟨nm, hx⟩ := get_some h1
    obtain ⟨a, rfl, q1⟩ := ha.2 i nm hx
    rw [show i = i * 1 by omega] at q1
    have e1 := nlt h1
    have hw := wrap_succ i (by omega)
    by_cases hn : t = nm
    · obtain ⟨rfl, rfl⟩ := hhit i (by rw [hx, hn]) hA
      have hc := txtT hn
      refine ⟨[], hIx i nm true, [], fun _ _ => noC, fun _ _ => noL, fun F => ?_⟩
      refine cast (congrArg (VAll _) (oIxH_eq W a l.length c t nm i F).symm) ⟨⟨?_, rfl, .inr ⟨rfl, [], rfl, rfl, ⟨Wk.refl _, trivial⟩, trivial⟩⟩⟩
      simp only [Cnd.holds, e1, h1, q1, Option.getD_some, Option.isSome_some, Nat.blt_eq, true_and, and_true]
      and_intros
      all_goals first
        | exact wk_litE e1
        | exact wk_litE hc
        | (with_reducible exact trivial)
        | (with_reducible exact rfl)
        | (with_reducible exact Wk.refl _)
        | (with_reducible exact VW.refl _)
        | (with_reducible exact OW.refl _)
        | (with_reducible exact wk_lit _)
        | (with_reducible assumption)
        | exact rfl
        | exact Wk.refl _
        | exact VW.refl _
        | exact OW.refl _
        | ((repeat (first | exact VW.nil | refine VW.cons (Wk.refl _) ?_ | refine VW.cons (Wk.any _) ?_ | refine VW.cons (wk_cap (Nat.le_refl _)) ?_)); done)
    · have hc := txtF hn
      refine ⟨[], hIx i nm false, [], fun _ _ => noC, fun _ _ => noL, fun F => ?_⟩
      refine cast (congrArg (VAll _) (oIxN_eq W a l.length c t nm i F).symm) ⟨⟨?_, rfl, .inl ⟨rfl, ⟨i + 1, h1, fun j hj => ?_⟩, sub_down h1, [], rfl, rfl, ⟨Wk.refl _, Wk.refl _, Wk.refl _, Wk.refl _, trivial⟩, trivial⟩⟩⟩
      · simp only [Cnd.holds, e1, h1, q1, Option.getD_some, Option.isSome_some, Nat.blt_eq, true_and, and_true]
        and_intros
        all_goals first
          | exact wk_litE e1
          | exact wk_litE hc
          | (with_reducible exact wk_int hw)
          | (with_reducible exact trivial)
          | (with_reducible exact rfl)
          | (with_reducible exact Wk.refl _)
          | (with_reducible exact VW.refl _)
          | (with_reducible exact OW.refl _)
          | (with_reducible exact wk_lit _)
          | (with_reducible assumption)
          | exact rfl
          | exact Wk.refl _
          | exact VW.refl _
          | exact OW.refl _
          | ((repeat (first | exact VW.nil | refine VW.cons (Wk.refl _) ?_ | refine VW.cons (Wk.any _) ?_ | refine VW.cons (wk_cap (Nat.le_refl _)) ?_)); done)
      · by_cases e : j = i
        · rw [e, hx]; exact fun h => hn (Option.some.inj h).symm
        · exact hA j (by omega)
  · have hie : i = l.length := by omega
    subst hie
    obtain ⟨rfl, rfl⟩ := hmiss hA
    refine ⟨[], hintL [(fIx, 2, 0, hv (.lit false))], [], fun _ _ => noC, fun _ _ => noL, fun F => ?_⟩
    refine cast (congrArg (VAll _) (oIxE_eq W oa l.length c t F).symm) ⟨⟨?_, rfl, .inr ⟨rfl, [], rfl, rfl, trivial, trivial⟩⟩⟩
    simp only [Cnd.holds, and_true]
    exact wk_litE nltF
theorem Ix_hit (ha : NOf W.cell? oa l) (c i : Nat) (hi : l[i]? = some t) (hA : ∀ j, j < i → l[j]? ≠ some t) : Tri Tryd.prog W fIx [slV oa l.length c, sv t] [] (iv (Int.ofNat i)) [] := by
  have hil : i < l.length := (List.getElem?_eq_some_iff.1 hi).1
  have hL : LTri Tryd.prog W (loopN fIx 2) (tms 0 19 (aIx oa l.length c t 0)) [] .ret (tms 0 19 [(4, iv (Int.ofNat i))]) [] := ix_loop ha c .ret _ (by intro h; cases h) (fun k hk hB => ⟨rfl, by
      have : k = i := by
        rcases Nat.lt_trichotomy k i with h | h | h
        · exact absurd hk (hA k h)
        · exact h
        · exact absurd hi (hB i h)
      rw [this]⟩) fun hn => absurd hi (hn i hil)
  have hl : ∀ F, OldOK W F → L1OK Tryd.prog F (loopN fIx 2) (lIxH oa l.length c t i) := fun F hF =>
    mkL_ok hF (fun _ => RO.ret _) (fun _ _ => hL) fun _ => by
      simp only [RT.pick]
      exact closedT rfl rfl (all_cons trivial (all_cons trivial (all_cons trivial (all_cons trivial all_nil)))) all_nil (all_cons trivial all_nil) all_nil
  refine tri_run (con := []) (hints := noHints) (lc := [(fIx, 2, loopN fIx 2, lIxH oa l.length c t i)]) [] rfl (fun F _ => noC) (fun F hF => one_l (hl F hF)) fun F => ?_
  refine cast (congrArg (VAll _) (oIxFH_eq W oa l.length c t i F).symm) ⟨⟨?_, (fit_mk (vs' := [iv (Int.ofNat i)]) (H' := []) [] rfl rfl (VW.refl _) trivial).fits rfl⟩⟩
  simp only [Cnd.holds, Nat.blt_eq, true_and, and_true]
  and_intros
  all_goals first
    | (with_reducible exact trivial)
    | (with_reducible exact rfl)
    | (with_reducible exact Wk.refl _)
    | (with_reducible exact VW.refl _)
    | (with_reducible exact OW.refl _)
    | (with_reducible exact wk_lit _)
    | (with_reducible assumption)
    | exact rfl
    | exact Wk.refl _
    | exact VW.refl _
    | exact OW.refl _
    | ((repeat (first | exact VW.nil | refine VW.cons (Wk.refl _) ?_ | refine VW.cons (Wk.any _) ?_ | refine VW.cons (wk_cap (Nat.le_refl _)) ?_)); done)
theorem Ix_miss (ha : NOf W.cell? oa l) (c : Nat) (hA : ∀ j : Nat, l[j]? ≠ some t) : Tri Tryd.prog W fIx [slV oa l.length c, sv t] [] (iv (-1)) [] := by
  have hL : LTri Tryd.prog W (loopN fIx 2) (tms 0 19 (aIx oa l.length c t 0)) [] (.exit 0) (tms 0 19 []) [] := ix_loop ha c (.exit 0) _ (by intro h; cases h) (fun k hk hB => absurd hk (hA k)) fun hn => ⟨rfl, rfl⟩
  have hl : ∀ F, OldOK W F → L1OK Tryd.prog F (loopN fIx 2) (lIxE oa l.length c t) := fun F hF =>
    mkL_ok hF (fun _ => RO.ret _) (fun _ _ => hL) fun _ => by
      simp only [RT.pick]
      exact closedT rfl rfl (all_cons trivial (all_cons trivial (all_cons trivial (all_cons trivial all_nil)))) all_nil all_nil all_nil
  refine tri_run (con := []) (hints := noHints) (lc := [(fIx, 2, loopN fIx 2, lIxE oa l.length c t)]) [] rfl (fun F _ => noC) (fun F hF => one_l (hl F hF)) fun F => ?_
  refine cast (congrArg (VAll _) (oIxFE_eq W oa l.length c t F).symm) ⟨⟨?_, (fit_mk (vs' := [iv (-1)]) (H' := []) [] rfl rfl (VW.refl _) trivial).fits rfl⟩⟩
  simp only [Cnd.holds, Nat.blt_eq, true_and, and_true]
  and_intros
  all_goals first
    | (with_reducible exact trivial)
    | (with_reducible exact rfl)
    | (with_reducible exact Wk.refl _)
    | (with_reducible exact VW.refl _)
    | (with_reducible exact OW.refl _)
    | (with_reducible exact wk_lit _)
    | (with_reducible assumption)
    | exact rfl
    | exact Wk.refl _
    | exact VW.refl _
    | exact OW.refl _
    | ((repeat (first | exact VW.nil | refine VW.cons (Wk.refl _) ?_ | refine VW.cons (Wk.any _) ?_ | refine VW.cons (wk_cap (Nat.le_refl _)) ?_)); done)
theorem cIx_ok {n c : Nat} {z : Int} (h : Tri Tryd.prog W fIx [slV oa n c, sv t] [] (iv z) []) (F : HP) (hF : OldOK W F) : C1OK Tryd.prog F fIx (cIx oa n c t z) :=
  mkC_ok hF (fun _ => iv z) (fun _ => RO.ret _) (fun _ => rfl) (fun _ _ => h) fun _ => ⟨rfl, rfl, ⟨trivial, trivial, trivial⟩, all_nil, ⟨trivial, trivial⟩, all_nil⟩
def memR (x : Rj) (b : Bool) : AV := .tuple [aggJ x, bv b]
theorem first_of (l : List ByteArray) (t : ByteArray) : (∃ i : Nat, l[i]? = some t ∧ ∀ j, j < i → l[j]? ≠ some t) ∨ ∀ j : Nat, l[j]? ≠ some t := by
  by_cases h : ∃ i : Nat, l[i]? = some t
  · left
    obtain ⟨n, hn⟩ := h
    induction n using Nat.strongRecOn with
    | _ n ih =>
      by_cases hj : ∃ j, j < n ∧ l[j]? = some t
      · obtain ⟨j, h1, h2⟩ := hj
        exact ih j h1 h2
      · exact ⟨n, hn, fun j h1 h2 => hj ⟨j, h1, h2⟩⟩
  · exact .inr fun j hj => h ⟨j, hj⟩
theorem rm_loop {d : Nat} {v : Jv} {r : Rj} (ha : JAt W.cell? (d + 1) v r) (t : ByteArray) (ax : AX) (Z : List (Nat × AV)) (HZ : LH) (hZ : namesLt 1100 HZ = true) (hax : ax ≠ .normal)
    (hK : (r.k == Int.ofNat 6) = false → ax = .exit 0 ∧ Z = [(4, .ptr 1001 0)] ∧ HZ = oRm r)
    (hE : (∀ j, j < r.nl → v.names[j]? ≠ some t) → ax = .exit 0 ∧ Z = [(4, .ptr 1001 0)] ∧ HZ = oRm r)
    (hG : ∀ i : Nat, (r.k == Int.ofNat 6) = true → v.names[i]? = some t → (∀ j, j < i → v.names[j]? ≠ some t) → ¬ i < r.ll → ax = .ret ∧ Z = [(4, .ptr 1001 0), (5, bv false)] ∧ HZ = oRm2 r zJ)
    (hY : ∀ (i : Nat), (r.k == Int.ofNat 6) = true → v.names[i]? = some t → (∀ j, j < i → v.names[j]? ≠ some t) → i < r.ll → ∃ x a, r.la = some a ∧ Cells W.cell? (a.add (i * 5)) x.cells ∧ ax = .ret ∧ Z = [(4, .ptr 1001 0), (5, bv true)] ∧ HZ = oRm2 r x) :
    LTri Tryd.prog W (loopN fRMe 2) (tms 0 38 (aRm t 0)) (oRm r) ax (tms 0 38 Z) HZ := by
  obtain ⟨⟨i1, i2, i3, i4, i5⟩, al, af⟩ := ha
  have hlen := big_nat af.1 (by decide)
  refine ltri_run (W := W) (g := fRMe) (b := loopN fRMe 2) (σ := {i : Nat // i ≤ r.nl ∧ ∀ j, j < i → v.names[j]? ≠ some t}) 38 (fun i => aRm t i.1) (fun _ => oRm r) ax Z HZ (fun i => r.nl - i.1) [1000, 1001] iRm hax (fun _ => rfl) hZ ?_ ⟨0, Nat.zero_le _, fun j hj => absurd hj (Nat.not_lt_zero _)⟩
  rintro ⟨i, hi, hA⟩
  simp only
  by_cases h1 : i < r.nl
  · have e1 : decide (Int.ofNat i < (r.nl : Int)) = true := ltT' h1
    cases hk : r.k == Int.ofNat 6 with
    | false =>
      obtain ⟨rfl, rfl, rfl⟩ := hK hk
      refine ⟨[], hRm i nil0 true false false false zJ, [], fun _ _ => noC, fun _ _ => noL, fun F => ?_⟩
      refine cast (congrArg (VAll _) (oRmK_eq W r t i F).symm) ⟨⟨?_, rfl, .inr ⟨rfl, [(1000, 1000), (1001, 1001)], by kernel_rfl, by kernel_rfl, ⟨Wk.refl _, trivial⟩, ⟨_, rfl, OW.refl _⟩, ⟨_, rfl, OW.refl _⟩, trivial⟩⟩⟩
      simp only [Cnd.holds, Nat.blt_eq, true_and, and_true]
      and_intros
      all_goals first
        | exact wk_litE e1
        | exact wk_litE hk
        | (with_reducible exact trivial)
        | (with_reducible exact rfl)
        | (with_reducible exact Wk.refl _)
        | (with_reducible exact VW.refl _)
        | (with_reducible exact OW.refl _)
        | (with_reducible exact wk_lit _)
        | (with_reducible assumption)
        | exact rfl
        | exact Wk.refl _
        | exact VW.refl _
        | exact OW.refl _
        | ((repeat (first | exact VW.nil | refine VW.cons (Wk.refl _) ?_ | refine VW.cons (Wk.any _) ?_ | refine VW.cons (wk_cap (Nat.le_refl _)) ?_)); done)
    | true =>
      obtain ⟨nm, hx⟩ := get_some (l := v.names) (i := i) (by omega)
      obtain ⟨a, ea, q1⟩ := af.2 i nm hx
      rw [show i = i * 1 by omega] at q1
      have hw := wrap_succ i (by omega)
      by_cases hn : nm = t
      · have hc := txtT hn
        subst hn
        by_cases hl : i < r.ll
        · have e2 : decide (Int.ofNat i < (r.ll : Int)) = true := ltT' hl
          obtain ⟨x, b, eb, p1, rfl, rfl, rfl⟩ := hY i hk hx hA hl
          have bA := all5 p1
          obtain ⟨b1, b2, b3, b4, b5⟩ := c5 p1
          obtain ⟨rk, rn, rt, rla, rll, rlc, rta, rtl, rtc⟩ := r
          simp only at ea eb
          subst ea eb
          refine ⟨[], hRm i nm true true true true x, [], fun _ _ => noC, fun _ _ => noL, fun F => ?_⟩
          refine cast (congrArg (VAll _) (oRmY_eq W ⟨rk, rn, rt, none, rll, rlc, none, rtl, rtc⟩ x a b nm nm i F).symm) ⟨⟨?_, rfl, .inr ⟨rfl, [(1000, 1000), (1001, 1001)], by kernel_rfl, by kernel_rfl, ⟨Wk.refl _, Wk.refl _, trivial⟩, ⟨_, rfl, OW.refl _⟩, ⟨_, rfl, OW.refl _⟩, trivial⟩⟩⟩
          simp only [Cnd.holds, e1, h1, hl, q1, bA, b1, b2, b3, b4, b5, Option.getD_some, Option.isSome_some, Nat.blt_eq, true_and, and_true]
          and_intros
          all_goals first
            | exact wk_litE e1
            | exact wk_litE e2
            | exact wk_litE hk
            | exact wk_litE hc
            | exact agg_wk rfl rfl rfl rfl rfl
            | (with_reducible exact trivial)
            | (with_reducible exact rfl)
            | (with_reducible exact Wk.refl _)
            | (with_reducible exact VW.refl _)
            | (with_reducible exact OW.refl _)
            | (with_reducible exact wk_lit _)
            | (with_reducible assumption)
            | exact rfl
            | exact Wk.refl _
            | exact VW.refl _
            | exact OW.refl _
            | ((repeat (first | exact VW.nil | refine VW.cons (Wk.refl _) ?_ | refine VW.cons (Wk.any _) ?_ | refine VW.cons (wk_cap (Nat.le_refl _)) ?_)); done)
        · have e2 : decide (Int.ofNat i < (r.ll : Int)) = false := decide_eq_false (by simp only [Int.ofNat_eq_natCast]; omega)
          obtain ⟨rfl, rfl, rfl⟩ := hG i hk hx hA hl
          obtain ⟨rk, rn, rt, rla, rll, rlc, rta, rtl, rtc⟩ := r
          simp only at ea
          subst ea
          refine ⟨[], hRm i nm true true true false zJ, [], fun _ _ => noC, fun _ _ => noL, fun F => ?_⟩
          refine cast (congrArg (VAll _) (oRmG_eq W ⟨rk, rn, rt, rla, rll, rlc, none, rtl, rtc⟩ a nm nm i F).symm) ⟨⟨?_, rfl, .inr ⟨rfl, [(1000, 1000), (1001, 1001)], by kernel_rfl, by kernel_rfl, ⟨Wk.refl _, Wk.refl _, trivial⟩, ⟨_, rfl, OW.refl _⟩, ⟨_, rfl, OW.refl _⟩, trivial⟩⟩⟩
          simp only [Cnd.holds, e1, h1, q1, Option.getD_some, Option.isSome_some, Nat.blt_eq, true_and, and_true]
          and_intros
          all_goals first
            | exact wk_litE e1
            | exact wk_litE e2
            | exact wk_litE hk
            | exact wk_litE hc
            | (with_reducible exact trivial)
            | (with_reducible exact rfl)
            | (with_reducible exact Wk.refl _)
            | (with_reducible exact VW.refl _)
            | (with_reducible exact OW.refl _)
            | (with_reducible exact wk_lit _)
            | (with_reducible assumption)
            | exact rfl
            | exact Wk.refl _
            | exact VW.refl _
            | exact OW.refl _
            | ((repeat (first | exact VW.nil | refine VW.cons (Wk.refl _) ?_ | refine VW.cons (Wk.any _) ?_ | refine VW.cons (wk_cap (Nat.le_refl _)) ?_)); done)
      · have hc := txtF hn
        obtain ⟨rk, rn, rt, rla, rll, rlc, rta, rtl, rtc⟩ := r
        simp only at ea
        subst ea
        refine ⟨[], hRm i nm true true false false zJ, [], fun _ _ => noC, fun _ _ => noL, fun F => ?_⟩
        refine cast (congrArg (VAll _) (oRmN_eq W ⟨rk, rn, rt, rla, rll, rlc, none, rtl, rtc⟩ a t nm i F).symm) ⟨⟨?_, rfl, .inl ⟨rfl, ⟨i + 1, h1, fun j hj => ?_⟩, sub_down h1, [(1000, 1000), (1001, 1001)], by kernel_rfl, by kernel_rfl, ⟨Wk.refl _, Wk.refl _, Wk.refl _, Wk.refl _, trivial⟩, ⟨_, rfl, OW.refl _⟩, ⟨_, rfl, OW.refl _⟩, trivial⟩⟩⟩
        · simp only [Cnd.holds, e1, h1, q1, Option.getD_some, Option.isSome_some, Nat.blt_eq, true_and, and_true]
          and_intros
          all_goals first
            | exact wk_litE e1
            | exact wk_litE hk
            | exact wk_litE hc
            | (with_reducible exact wk_int hw)
            | (with_reducible exact trivial)
            | (with_reducible exact rfl)
            | (with_reducible exact Wk.refl _)
            | (with_reducible exact VW.refl _)
            | (with_reducible exact OW.refl _)
            | (with_reducible exact wk_lit _)
            | (with_reducible assumption)
            | exact rfl
            | exact Wk.refl _
            | exact VW.refl _
            | exact OW.refl _
            | ((repeat (first | exact VW.nil | refine VW.cons (Wk.refl _) ?_ | refine VW.cons (Wk.any _) ?_ | refine VW.cons (wk_cap (Nat.le_refl _)) ?_)); done)
        · by_cases e : j = i
          · rw [e, hx]; exact fun h => hn (Option.some.inj h)
          · exact hA j (by omega)
  · have hie : i = r.nl := by omega
    subst hie
    obtain ⟨rfl, rfl, rfl⟩ := hE hA
    refine ⟨[], hRm r.nl nil0 false false false false zJ, [], fun _ _ => noC, fun _ _ => noL, fun F => ?_⟩
    refine cast (congrArg (VAll _) (oRmE_eq W r t r.nl F).symm) ⟨⟨?_, rfl, .inr ⟨rfl, [(1000, 1000), (1001, 1001)], by kernel_rfl, by kernel_rfl, ⟨Wk.refl _, trivial⟩, ⟨_, rfl, OW.refl _⟩, ⟨_, rfl, OW.refl _⟩, trivial⟩⟩⟩
    simp only [Cnd.holds, Nat.blt_eq, true_and, and_true]
    and_intros
    all_goals first
      | exact wk_litE ltF'
      | (with_reducible exact trivial)
      | (with_reducible exact rfl)
      | (with_reducible exact Wk.refl _)
      | (with_reducible exact VW.refl _)
      | (with_reducible exact OW.refl _)
      | (with_reducible exact wk_lit _)
      | (with_reducible assumption)
      | exact rfl
      | exact Wk.refl _
      | exact VW.refl _
      | exact OW.refl _
      | ((repeat (first | exact VW.nil | refine VW.cons (Wk.refl _) ?_ | refine VW.cons (Wk.any _) ?_ | refine VW.cons (wk_cap (Nat.le_refl _)) ?_)); done)
theorem gRm_ro (args : List AV) : RO (gRm args) := by
  unfold gRm
  split
  · split
    · exact RO.ret _
    · exact RO.fail _
  · exact RO.fail _
theorem oRm2_cl (K : Nat → Bool) (r x : Rj) : ∀ y ∈ oRm2 r x, y.2.cl K := all_cons ⟨trivial, trivial, trivial, trivial, trivial, trivial⟩ (all_cons ⟨trivial, trivial, trivial, trivial, trivial, trivial⟩ all_nil)
theorem Rm_end {r : Rj} (h : LTri Tryd.prog W (loopN fRMe 2) (tms 0 38 (aRm t 0)) (oRm r) (.exit 0) (tms 0 38 [(4, .ptr 1001 0)]) (oRm r)) : Tri Tryd.prog W fRMe [aggJ r, sv t] [] (memR zJ false) [] := by
  have hl : ∀ F, OldOK W F → L1OK Tryd.prog F (loopN fRMe 2) (lRmE r t) := fun F hF =>
    mkL_ok hF gRm_ro (fun _ _ => h) fun _ => by
      simp only [RT.pick]
      exact closedT rfl rfl (all_cons trivial (all_cons rfl (all_cons rfl (all_cons trivial all_nil)))) (oRm2_cl _ _ _) (all_cons rfl all_nil) (oRm2_cl _ _ _)
  refine tri_run (con := []) (hints := noHints) (lc := [(fRMe, 2, loopN fRMe 2, lRmE r t)]) [] rfl (fun F _ => noC) (fun F hF => one_l (hl F hF)) fun F => ?_
  refine cast (congrArg (VAll _) (oRmFE_eq W r t F).symm) ⟨⟨?_, (fit_mk (vs' := [memR zJ false]) (H' := []) [] rfl rfl (VW.refl _) trivial).fits rfl⟩⟩
  simp only [Cnd.holds, Nat.blt_eq, true_and, and_true]
  and_intros
  all_goals first
    | (with_reducible exact trivial)
    | (with_reducible exact rfl)
    | (with_reducible exact Wk.refl _)
    | (with_reducible exact VW.refl _)
    | (with_reducible exact OW.refl _)
    | (with_reducible exact wk_lit _)
    | (with_reducible assumption)
    | exact rfl
    | exact Wk.refl _
    | exact VW.refl _
    | exact OW.refl _
    | ((repeat (first | exact VW.nil | refine VW.cons (Wk.refl _) ?_ | refine VW.cons (Wk.any _) ?_ | refine VW.cons (wk_cap (Nat.le_refl _)) ?_)); done)
theorem Rm_ret {r x : Rj} {b : Bool} (h : LTri Tryd.prog W (loopN fRMe 2) (tms 0 38 (aRm t 0)) (oRm r) .ret (tms 0 38 [(4, .ptr 1001 0), (5, bv b)]) (oRm2 r x)) : Tri Tryd.prog W fRMe [aggJ r, sv t] [] (memR x b) [] := by
  have hl : ∀ F, OldOK W F → L1OK Tryd.prog F (loopN fRMe 2) (lRmR r x t b) := fun F hF =>
    mkL_ok hF gRm_ro (fun _ _ => h) fun _ => by
      simp only [RT.pick]
      exact closedT rfl rfl (all_cons trivial (all_cons rfl (all_cons rfl (all_cons trivial all_nil)))) (oRm2_cl _ _ _) (all_cons rfl (all_cons trivial all_nil)) (oRm2_cl _ _ _)
  refine tri_run (con := []) (hints := noHints) (lc := [(fRMe, 2, loopN fRMe 2, lRmR r x t b)]) [] rfl (fun F _ => noC) (fun F hF => one_l (hl F hF)) fun F => ?_
  refine cast (congrArg (VAll _) (oRmFR_eq W r x t b F).symm) ⟨⟨?_, (fit_mk (vs' := [memR x b]) (H' := []) [] rfl rfl (VW.refl _) trivial).fits rfl⟩⟩
  simp only [Cnd.holds, Nat.blt_eq, true_and, and_true]
  and_intros
  all_goals first
    | (with_reducible exact trivial)
    | (with_reducible exact rfl)
    | (with_reducible exact Wk.refl _)
    | (with_reducible exact VW.refl _)
    | (with_reducible exact OW.refl _)
    | (with_reducible exact wk_lit _)
    | (with_reducible assumption)
    | exact rfl
    | exact Wk.refl _
    | exact VW.refl _
    | exact OW.refl _
    | ((repeat (first | exact VW.nil | refine VW.cons (Wk.refl _) ?_ | refine VW.cons (Wk.any _) ?_ | refine VW.cons (wk_cap (Nat.le_refl _)) ?_)); done)
theorem Mem_tri {d : Nat} {v : Jv} {r : Rj} (ha : JAt W.cell? (d + 1) v r) (t : ByteArray) : ∃ (x : Rj) (b : Bool) (e : Nat) (u : Jv), JAt W.cell? e u x ∧ Tri Tryd.prog W fMe [aggJ r, sv t] [] (memR x b) [] ∧ Tri Tryd.prog W fRMe [aggJ r, sv t] [] (memR x b) [] := by
  have hz : JAt W.cell? 1 (.mk 0 0 nil0 [] []) zJ := plain_at _ 0 0 nil0
  have ha' := ha
  obtain ⟨⟨i1, i2, i3, i4, i5⟩, al, af⟩ := ha
  have hna : NOf W.cell? r.na v.names := af
  by_cases hk : (r.k != Int.ofNat 6) = true
  · have hk2 : (r.k == Int.ofNat 6) = false := by
      have : r.k ≠ Int.ofNat 6 := by simpa using hk
      exact beq_eq_false_iff_ne.2 this
    refine ⟨zJ, false, 1, _, hz, ?_, ?_⟩
    · obtain ⟨z, hzt⟩ : ∃ z, Tri Tryd.prog W fIx [slV r.na v.names.length r.nc, sv t] [] (iv z) [] := by
        rcases first_of v.names t with ⟨i, h1, h2⟩ | h
        · exact ⟨_, Ix_hit hna r.nc i h1 h2⟩
        · exact ⟨_, Ix_miss hna r.nc h⟩
      rw [← i5] at hzt
      refine tri_run (con := [(fIx, cIx r.na r.nl r.nc t z)]) (hints := hMe true false false zJ) (lc := []) [] rfl (fun F hF => one_c (cIx_ok hzt F hF)) (fun F hF => noL) fun F => ?_
      refine cast (congrArg (VAll _) (oMeK_eq W r t z F).symm) ⟨⟨?_, (fit_mk (vs' := [memR zJ false]) (H' := []) [] rfl rfl (VW.refl _) trivial).fits rfl⟩⟩
      simp only [Cnd.holds, Nat.blt_eq, true_and, and_true]
      and_intros
      all_goals first
        | exact wk_litE hk
        | (with_reducible exact trivial)
        | (with_reducible exact rfl)
        | (with_reducible exact Wk.refl _)
        | (with_reducible exact VW.refl _)
        | (with_reducible exact OW.refl _)
        | (with_reducible exact wk_lit _)
        | (with_reducible assumption)
        | exact rfl
        | exact Wk.refl _
        | exact VW.refl _
        | exact OW.refl _
        | ((repeat (first | exact VW.nil | refine VW.cons (Wk.refl _) ?_ | refine VW.cons (Wk.any _) ?_ | refine VW.cons (wk_cap (Nat.le_refl _)) ?_)); done)
    · refine Rm_end (rm_loop ha' t _ _ _ rfl (by intro h; cases h) (fun _ => ⟨rfl, rfl, rfl⟩) (fun _ => ⟨rfl, rfl, rfl⟩) (fun i hh => by rw [hk2] at hh; cases hh) fun i hh => by rw [hk2] at hh; cases hh)
  · have hk : (r.k != Int.ofNat 6) = false := by simpa using hk
    have hk2 : (r.k == Int.ofNat 6) = true := by
      have : r.k = Int.ofNat 6 := by simpa using hk
      exact beq_iff_eq.2 this
    rcases first_of v.names t with ⟨i, h1, h2⟩ | h
    · have hzt := Ix_hit hna r.nc i h1 h2
      rw [← i5] at hzt
      have hi0 : decide (Int.ofNat i < Int.ofNat 0) = false := decide_eq_false (by simp only [Int.ofNat_eq_natCast]; omega)
      have huniq : ∀ k : Nat, v.names[k]? = some t → (∀ j, j < k → v.names[j]? ≠ some t) → k = i := fun k hk hB => by
        rcases Nat.lt_trichotomy k i with h | h | h
        · exact absurd hk (h2 k h)
        · exact h
        · exact absurd h1 (hB i h)
      have hin : i < r.nl := by rw [i5]; exact (List.getElem?_eq_some_iff.1 h1).1
      by_cases hl : i < r.ll
      · obtain ⟨u, hu⟩ := get_some (l := v.list) (i := i) (by omega)
        obtain ⟨a, x, ea, p1, p2⟩ := al.2 i u hu
        have e2 : decide (Int.ofNat i ≥ (r.ll : Int)) = false := decide_eq_false (by simp only [Int.ofNat_eq_natCast, ge_iff_le]; omega)
        refine ⟨x, true, d, u, p2, ?_, ?_⟩
        · have bA := all5 p1
          obtain ⟨b1, b2, b3, b4, b5⟩ := c5 p1
          obtain ⟨rk, rn, rt, rla, rll, rlc, rta, rtl, rtc⟩ := r
          simp only at ea
          subst ea
          refine tri_run (con := [(fIx, cIx rta rtl rtc t (Int.ofNat i))]) (hints := hMe false false false x) (lc := []) [] rfl (fun F hF => one_c (cIx_ok hzt F hF)) (fun F hF => noL) fun F => ?_
          refine cast (congrArg (VAll _) (oMeY_eq W ⟨rk, rn, rt, none, rll, rlc, rta, rtl, rtc⟩ x a t i F).symm) ⟨⟨?_, (fit_mk (vs' := [memR x true]) (H' := []) [] rfl rfl (VW.refl _) trivial).fits rfl⟩⟩
          simp only [Cnd.holds, hl, bA, b1, b2, b3, b4, b5, Option.getD_some, Option.isSome_some, Nat.blt_eq, true_and, and_true]
          and_intros
          all_goals first
            | exact wk_litE hk
            | exact wk_litE e2
            | exact wk_litE hi0
            | exact agg_wk rfl rfl rfl rfl rfl
            | (with_reducible exact trivial)
            | (with_reducible exact rfl)
            | (with_reducible exact Wk.refl _)
            | (with_reducible exact VW.refl _)
            | (with_reducible exact OW.refl _)
            | (with_reducible exact wk_lit _)
            | (with_reducible assumption)
            | exact rfl
            | exact Wk.refl _
            | exact VW.refl _
            | exact OW.refl _
            | ((repeat (first | exact VW.nil | refine VW.cons (Wk.refl _) ?_ | refine VW.cons (Wk.any _) ?_ | refine VW.cons (wk_cap (Nat.le_refl _)) ?_)); done)
        · exact Rm_ret (rm_loop ha' t _ _ _ rfl (by intro h; cases h) (fun hh => by rw [hk2] at hh; cases hh) (fun hn => absurd h1 (hn i hin)) (fun k _ q1 q2 q3 => absurd (huniq k q1 q2 ▸ hl) q3) fun k _ q1 q2 q3 => by
            obtain rfl := huniq k q1 q2
            exact ⟨x, a, ea, p1, rfl, rfl, rfl⟩)
      · have e2 : decide (Int.ofNat i ≥ (r.ll : Int)) = true := decide_eq_true (by simp only [Int.ofNat_eq_natCast, ge_iff_le]; omega)
        refine ⟨zJ, false, 1, _, hz, ?_, ?_⟩
        · refine tri_run (con := [(fIx, cIx r.na r.nl r.nc t (Int.ofNat i))]) (hints := hMe false false true zJ) (lc := []) [] rfl (fun F hF => one_c (cIx_ok hzt F hF)) (fun F hF => noL) fun F => ?_
          refine cast (congrArg (VAll _) (oMeG_eq W r t i F).symm) ⟨⟨?_, (fit_mk (vs' := [memR zJ false]) (H' := []) [] rfl rfl (VW.refl _) trivial).fits rfl⟩⟩
          simp only [Cnd.holds, Nat.blt_eq, true_and, and_true]
          and_intros
          all_goals first
            | exact wk_litE hk
            | exact wk_litE e2
            | exact wk_litE hi0
            | (with_reducible exact trivial)
            | (with_reducible exact rfl)
            | (with_reducible exact Wk.refl _)
            | (with_reducible exact VW.refl _)
            | (with_reducible exact OW.refl _)
            | (with_reducible exact wk_lit _)
            | (with_reducible assumption)
            | exact rfl
            | exact Wk.refl _
            | exact VW.refl _
            | exact OW.refl _
            | ((repeat (first | exact VW.nil | refine VW.cons (Wk.refl _) ?_ | refine VW.cons (Wk.any _) ?_ | refine VW.cons (wk_cap (Nat.le_refl _)) ?_)); done)
        · exact Rm_ret (rm_loop ha' t _ _ _ rfl (by intro h; cases h) (fun hh => by rw [hk2] at hh; cases hh) (fun hn => absurd h1 (hn i hin)) (fun k _ q1 q2 q3 => ⟨rfl, rfl, rfl⟩) fun k _ q1 q2 q3 => absurd (huniq k q1 q2 ▸ q3) hl)
    · have hzt := Ix_miss hna r.nc h
      rw [← i5] at hzt
      refine ⟨zJ, false, 1, _, hz, ?_, ?_⟩
      · refine tri_run (con := [(fIx, cIx r.na r.nl r.nc t (-1))]) (hints := hMe false true false zJ) (lc := []) [] rfl (fun F hF => one_c (cIx_ok hzt F hF)) (fun F hF => noL) fun F => ?_
        refine cast (congrArg (VAll _) (oMeL_eq W r t (-1) F).symm) ⟨⟨?_, (fit_mk (vs' := [memR zJ false]) (H' := []) [] rfl rfl (VW.refl _) trivial).fits rfl⟩⟩
        simp only [Cnd.holds, Nat.blt_eq, true_and, and_true]
        and_intros
        all_goals first
          | exact wk_litE hk
          | exact wk_litE (by decide)
          | (with_reducible exact trivial)
          | (with_reducible exact rfl)
          | (with_reducible exact Wk.refl _)
          | (with_reducible exact VW.refl _)
          | (with_reducible exact OW.refl _)
          | (with_reducible exact wk_lit _)
          | (with_reducible assumption)
          | exact rfl
          | exact Wk.refl _
          | exact VW.refl _
          | exact OW.refl _
          | ((repeat (first | exact VW.nil | refine VW.cons (Wk.refl _) ?_ | refine VW.cons (Wk.any _) ?_ | refine VW.cons (wk_cap (Nat.le_refl _)) ?_)); done)
      · exact Rm_end (rm_loop ha' t _ _ _ rfl (by intro h; cases h) (fun _ => ⟨rfl, rfl, rfl⟩) (fun _ => ⟨rfl, rfl, rfl⟩) (fun k _ q1 => absurd q1 (h k)) fun k _ q1 => absurd q1 (h k))
end Go.Proofs.YtdphpillcaajpaaDoor.Js

/- Json: strings.Builder's copyCheck as a contract. -/
set_option linter.unusedVariables false
set_option linter.unusedSimpArgs false
set_option maxRecDepth 100000
namespace Go.Proofs.YtdphpillcaajpaaDoor.Js
open Go Go.RowKit Go.Proofs.YtdphpillcaajpaaDoor.Eng Go.Proofs.YtdphpillcaajpaaDoor.Kit
noncomputable section
abbrev fCC : Nat := 54
abbrev tBld : TypeId := 2 * 49
def ccTail (a : Nat) (c0 c1 : AV) (e : TypeId) : AP AV := match c0 with
  | .v (.pointer none) => .write a (.cells [.ptr a 0, c1] e) (.ret (.tuple []))
  | .ptr b ob => match Nat.beq b a with
    | true => match Nat.beq ob 0 with
      | true => .ret (.tuple [])
      | false => .fail "copyCheck"
    | false => .fail "copyCheck"
  | _ => .fail "copyCheck"
def cCC : List AV → Option (AP AV) := fun args => match args with
  | [.ptr a off] => match Nat.beq off 0 with
    | true => some (.read a fun o => match o with
      | .cells [c0, c1] e => match Nat.beq e tBld with
        | true => ccTail a c0 c1 e
        | false => .fail "copyCheck"
      | _ => .fail "copyCheck")
    | false => some (.fail "copyCheck")
  | _ => some (.fail "copyCheck")
theorem cCC_ok {F : HP} : C1OK Tryd.prog F fCC cCC := by
  intro st W0 N h w args vargs v h' n n' lg lg' c p hp he hc r ha hf
  unfold cCC at hp
  split at hp
  · rename_i a off
    split at hp
    · rename_i hoff
      obtain rfl := Nat.eq_of_beq_eq_true hoff
      cases hp
      obtain ⟨o, ho, e1⟩ := run_read he
      obtain ⟨y, rest, ⟨l, hN, rfl⟩, rfl, hl⟩ := (by simpa only [VRs, VR] using ha : ∃ y r, (∃ l, N a = some l ∧ y = .pointer (some ⟨l.blk, l.off + 0, none⟩)) ∧ r = [] ∧ vargs.toList = y :: r)
      split at e1
      · rename_i c0 c1 e
        split at e1
        · rename_i hte
          obtain rfl := Nat.eq_of_beq_eq_true hte
          obtain ⟨D, hO⟩ := r.obj ho
          obtain ⟨l', arr, fz, row, _⟩ := hO.row
          obtain rfl : l' = l := Option.some.inj (row.name.symm.trans hN)
          obtain ⟨hz, hfz⟩ := row.plain rfl
          subst hfz
          have hva : vargs = #[.pointer (some ⟨l'.blk, 0, none⟩)] := by
            apply Array.ext'
            rw [hl, hz]
          subst hva
          have hsz : 2 ≤ arr.size := by have := row.fits; have := row.len; simp at this; omega
          have hcell : ∀ j, w.cell? ⟨l'.blk, j, none⟩ = arr[j]? := fun j => by
            have := row.cell j
            rw [hz, Nat.zero_add, List.drop_zero, Array.getElem?_toList] at this
            exact this
          have hvals := row.vals
          rw [hz, List.drop_zero] at hvals
          obtain ⟨u0, hu0, hv0⟩ := hvals.get (j := 0) (x := c0) rfl
          have hc0 : arr[0]? = some u0 := by
            rw [List.getElem?_take, if_pos (by simp), Array.getElem?_toList] at hu0
            exact hu0
          unfold ccTail at e1
          split at e1
          · obtain ⟨o0, ho0, e2⟩ := run_write e1
            obtain ⟨rfl, rfl, rfl⟩ := inv_ret e2
            have hu : u0 = .pointer none := VR_v.1 hv0
            subst hu
            refine (cc_fresh l'.blk w arr.size hsz (by rw [hcell]; exact hc0) (by simp [World.shape?, row.heap]) (by simp [World.frozen?, row.heap])).mono ?_
            rintro e w' ⟨rfl, rfl⟩
            refine ⟨_, N, rfl, ?_, by simp only [VR, VRs]; exact ⟨[], rfl, rfl⟩, fun _ _ => rfl⟩
            refine r.turn ho rfl rfl rfl fun D hD => ?_
            obtain ⟨l2, arr2, fz2, row2, hD2⟩ := hD.row
            obtain rfl : l2 = l' := Option.some.inj (row2.name.symm.trans hN)
            have hpv : VRs N [AV.ptr a 0] [Value.pointer (some ⟨l2.blk, 0, none⟩)] := VRs_cons.2 ⟨by simp only [VR]; exact ⟨l2, hN, by rw [hz]⟩, VRs_nil⟩
            obtain ⟨arr3, row3, _⟩ := row2.write (k := 0) (r := [AV.ptr a 0]) (by simp) (by have := row2.len; simp at this ⊢; omega) hpv
            have hw : w.setCells l2.blk (l2.off + 0) [Value.pointer (some ⟨l2.blk, 0, none⟩)] = w.setCell ⟨l2.blk, 0, none⟩ (.pointer (some ⟨l2.blk, 0, none⟩)) := by rw [hz]; rfl
            rw [hw] at row3
            exact ⟨fun b hb hd => Below.heap_setCell _ _ _ _ (fun e => hd ((hD2 b).2 e)), _, row3.or, fun b hb => .inl ((hD2 b).2 hb)⟩
          · rename_i b ob
            split at e1
            · rename_i hba
              split at e1
              · rename_i hob
                obtain rfl := Nat.eq_of_beq_eq_true hba
                obtain rfl := Nat.eq_of_beq_eq_true hob
                obtain ⟨rfl, rfl, rfl⟩ := inv_ret e1
                have hu : u0 = .pointer (some ⟨l'.blk, 0, none⟩) := by
                  obtain ⟨l3, h3, rfl⟩ := (by simpa only [VR] using hv0 : ∃ l, N b = some l ∧ u0 = .pointer (some ⟨l.blk, l.off + 0, none⟩))
                  obtain rfl : l3 = l' := Option.some.inj (h3.symm.trans hN)
                  rw [hz]
                subst hu
                refine (cc_used l'.blk w (by rw [hcell]; exact hc0)).mono ?_
                rintro e w' ⟨rfl, rfl⟩
                exact ⟨_, N, rfl, r, by simp only [VR, VRs]; exact ⟨[], rfl, rfl⟩, fun _ _ => rfl⟩
              · cases e1
            · cases e1
          · cases e1
        · cases e1
      · cases e1
    · cases hp; cases he
  · cases hp; cases he
end
end Go.Proofs.YtdphpillcaajpaaDoor.Js

/- Json: strings.Builder's String as a contract. -/
set_option linter.unusedVariables false
set_option linter.unusedSimpArgs false
set_option maxRecDepth 100000
namespace Go.Proofs.YtdphpillcaajpaaDoor.Js
open Go Go.RowKit Go.Proofs.YtdphpillcaajpaaDoor.Eng Go.Proofs.YtdphpillcaajpaaDoor.Kit
noncomputable section
abbrev fSt : Nat := 23
def stTail (s : ByteArray) (c : AV) : AP AV := match c with
  | .slice i off n sz cap => match Nat.beq off 0 with
    | true => .read i fun o => match o with
      | .cells cs e => match Nat.beq e tByt with
        | true => .need ((List.take n cs = txtV s ∧ n ≤ cs.length) ∧ n = s.size ∧ 0 < n ∧ n ≤ 9223372036854775807) (.kill i (.ret (sv s)))
        | false => .fail "String"
      | _ => .fail "String"
    | false => .fail "String"
  | _ => .fail "String"
def cSt (s : ByteArray) : List AV → Option (AP AV) := fun args => match args with
  | [.ptr a off] => match Nat.beq off 0 with
    | true => some (.read a fun o => match o with
      | .cells [c0, c1] e => match Nat.beq e tBld with
        | true => stTail s c1
        | false => .fail "String"
      | _ => .fail "String")
    | false => some (.fail "String")
  | _ => some (.fail "String")
theorem txt_get {s : ByteArray} {j : Nat} {x : UInt8} (hx : s.data.toList[j]? = some x) : (txtV s)[j]? = some (.v (.int .u8 x.toNat)) := by
  have : (txtV s) = (s.data.toList.map fun b => AV.v (.int .u8 b.toNat)) := by
    unfold txtV
    generalize s.data.toList = l
    induction l with
    | nil => rfl
    | cons a l ih => rw [List.map_cons, List.map_cons, ← ih]; rfl
  rw [this, List.getElem?_map, hx]; rfl
theorem cSt_ok {F : HP} (s : ByteArray) : C1OK Tryd.prog F fSt (cSt s) := by
  intro st W0 N h w args vargs v h' n n' lg lg' c p hp he hc r ha hf
  unfold cSt at hp
  split at hp
  · rename_i a off
    split at hp
    · rename_i hoff
      obtain rfl := Nat.eq_of_beq_eq_true hoff
      cases hp
      obtain ⟨o, ho, e1⟩ := run_read he
      obtain ⟨y, rest, ⟨l, hN, rfl⟩, rfl, hl⟩ := (by simpa only [VRs, VR] using ha : ∃ y r, (∃ l, N a = some l ∧ y = .pointer (some ⟨l.blk, l.off + 0, none⟩)) ∧ r = [] ∧ vargs.toList = y :: r)
      split at e1
      · rename_i c0 c1 e
        split at e1
        · rename_i hte
          obtain rfl := Nat.eq_of_beq_eq_true hte
          obtain ⟨D, hO⟩ := r.obj ho
          obtain ⟨l', arr, fz, row, _⟩ := hO.row
          obtain rfl : l' = l := Option.some.inj (row.name.symm.trans hN)
          obtain ⟨hz, hfz⟩ := row.plain rfl
          have hva : vargs = #[.pointer (some ⟨l'.blk, 0, none⟩)] := by
            apply Array.ext'
            rw [hl, hz]
          subst hva
          have hcell : ∀ j, w.cell? ⟨l'.blk, j, none⟩ = arr[j]? := fun j => by
            have := row.cell j
            rw [hz, Nat.zero_add, List.drop_zero, Array.getElem?_toList] at this
            exact this
          have hvals := row.vals
          rw [hz, List.drop_zero] at hvals
          obtain ⟨u1, hu1, hv1⟩ := hvals.get (j := 1) (x := c1) rfl
          have hc1 : arr[1]? = some u1 := by
            rw [List.getElem?_take, if_pos (by simp), Array.getElem?_toList] at hu1
            exact hu1
          unfold stTail at e1
          split at e1
          · rename_i i off2 m sz cap
            split at e1
            · rename_i hof2
              obtain rfl := Nat.eq_of_beq_eq_true hof2
              obtain ⟨o2, ho2, e2⟩ := run_read e1
              split at e2
              · rename_i cs e3
                split at e2
                · rename_i hte2
                  obtain rfl := Nat.eq_of_beq_eq_true hte2
                  obtain ⟨k1, e4, rfl⟩ := run_need e2
                  obtain ⟨⟨⟨ht, hle⟩, hm, hm0, hmx⟩, hk⟩ := (Cnd.and_iff _ _).1 hc
                  obtain ⟨o3, ho3, e5⟩ := run_kill e4
                  obtain ⟨rfl, rfl, rfl⟩ := inv_ret e5
                  obtain ⟨l2, x2, cp, hN2, rfl, hx, hroom, hcap, hlc⟩ := (by simpa only [VR] using hv1 : ∃ l x c, N i = some l ∧ u1 = .slice (some ⟨l.blk, x, none⟩) m c ∧ (x = l.off + 0 ∨ c = 0) ∧ 0 + c * sz ≤ l.room ∧ cap.fits c ∧ m ≤ c)
                  obtain ⟨D2, hO2⟩ := r.obj ho2
                  obtain ⟨l3, arr2, fz2, row2, hD2⟩ := hO2.row
                  obtain rfl : l3 = l2 := Option.some.inj (row2.name.symm.trans hN2)
                  have hz2 := (row2.plain rfl).1
                  have hx0 : x2 = 0 := by rcases hx with h | h <;> omega
                  subst hx0
                  have hv2 := row2.vals
                  rw [hz2, List.drop_zero] at hv2
                  have hall : ∀ j (x : UInt8), s.data.toList[j]? = some x → arr2[j]? = some (Value.int .u8 x.toNat) := fun j x hx => by
                    have hj : j < s.data.toList.length := (List.getElem?_eq_some_iff.1 hx).1
                    have hsz : s.data.toList.length = s.size := rfl
                    have h1 : cs[j]? = some (.v (.int .u8 x.toNat)) := by
                      have : (List.take m cs)[j]? = some (.v (.int .u8 x.toNat)) := by rw [ht]; exact txt_get hx
                      rw [List.getElem?_take, if_pos (by omega)] at this
                      exact this
                    obtain ⟨u, hu, hvu⟩ := hv2.get h1
                    rw [List.getElem?_take, if_pos (by omega), Array.getElem?_toList] at hu
                    rw [hu, VR_v.1 hvu]
                  have hl0 : s.data.toList ≠ [] := fun e => by have : s.size = 0 := congrArg List.length e; omega
                  have hfit := row2.fits
                  have hlen := row2.len
                  have hsh : w.shape? l3.blk = some (5, arr2.size) := by
                    have := row2.heap
                    simp [World.shape?, this]
                  subst hm
                  refine (st_calls l'.blk l3.blk cp arr2.size s.data.toList w hl0 hlc (by show s.size ≤ _; omega) hmx (by rw [hcell]; exact hc1) hsh (fun j x hx => by
                    have := row2.cell j
                    rw [hz2, Nat.zero_add, List.drop_zero, Array.getElem?_toList] at this
                    rw [add_lit, Nat.zero_add, this]
                    exact hall j x hx)).mono ?_
                  rintro e w' ⟨rfl, rfl⟩
                  refine ⟨.string s, N, rfl, ?_, VR_v.2 rfl, fun _ _ => rfl⟩
                  obtain ⟨f1, f2, f3, f4⟩ := freeze_os w.drew ⟨l3.blk, 0, none⟩ s.data.toList.length
                  exact r.kill ho2 f1 f2 f3 fun D3 hD3 b hb hd => f4 b (fun e => hd (by
                    obtain ⟨l4, arr4, fz4, row4, hD4⟩ := hD3.row
                    obtain rfl : l4 = l3 := Option.some.inj (row4.name.symm.trans hN2)
                    exact (hD4 b).2 e))
                · cases e2
              · cases e2
            · cases e1
          · cases e1
        · cases e1
      · cases e1
    · cases hp; cases he
  · cases hp; cases he
end
end Go.Proofs.YtdphpillcaajpaaDoor.Js

/- Json: a number is written: runs. -/
set_option linter.unusedVariables false
set_option linter.unusedSimpArgs false
set_option maxRecDepth 100000
namespace Go.Proofs.YtdphpillcaajpaaDoor.Js
open Go Go.RowKit Go.Proofs.YtdphpillcaajpaaDoor.Eng Go.Proofs.YtdphpillcaajpaaDoor.Kit
noncomputable section
abbrev fWr : Nat := 9
abbrev fwr : Nat := 22
abbrev fCk : Nat := 21
abbrev fWS : Nat := 36
def hWr (s : ByteArray) : ClaimT := hintL [(fCk, 2, 1, hv (.lit false)), (fCk, 2, 4, hv (.lit false)), (fCk, 4, 1, hv (.lit false)), (fCk, 4, 4, hv (.lit false)), (fCk, 8, 1, hv (.lit false)), (fCk, 9, 1, hv (.lit true)), (fCk, 9, 5, hv (.lit false)), (fCk, 10, 1, hv (.lit true)), (fCk, 10, 4, hv (.lit false)), (fCk, 10, 10, hv (.lit false)), (fCk, 11, 1, hv (.lit false)), (fCk, 12, 1, hv (.lit true)), (fCk, 12, 6, hv (.lit false)), (fCk, 13, 1, hv (.lit false)), (fCk, 14, 1, hv (.lit true)), (fCk, 14, 6, hv (.lit false)), (fCk, 18, 0, hv (.lit false)), (fwr, 17, 0, hv (.lit false)), (fwr, 19, 0, hv (.lit false)), (fwr, 21, 0, hv (.lit true)), (fWr, 2, 1, hv (.lit false)), (fWS, 2, 6, ho 1105 (rB (bts s)))]
theorem oWr_eq (W : World) (s : ByteArray) (F : HP) : wRun [(fNum, cNum), (fCC, cCC), (fSt, cSt s)] (hWr s) [] W fWr [aggJ (plainR 3 0 s)] [] [] F = VT.leaf (AV.tuple [AV.v (Value.string s), AV.v (Value.int IntKind.i64 (Int.ofNat 0))]) [] 1106 (((Cnd.p (true = true)).a ((Cnd.p ([AV.v (Value.int IntKind.i64 (Int.ofNat 3)), AV.v (Value.int IntKind.i64 (Int.ofNat 0)), AV.v (Value.string s), AV.v (Value.slice none 0 0), AV.v (Value.slice none 0 0)] = [AV.v (Value.int IntKind.i64 (Int.ofNat 3)), AV.v (Value.int IntKind.i64 (Int.ofNat 0)), AV.v (Value.string s), AV.v (Value.slice none 0 0), AV.v (Value.slice none 0 0)])).a Cnd.t)).a ((((Cnd.p (true = true)).a ((Cnd.p (AV.v (Value.int IntKind.i64 (Int.ofNat 3)) = AV.v (Value.int IntKind.i64 (Int.ofNat 3)))).a Cnd.t)).a (((Cnd.p (Wk (AV.v (Value.bool false)) (AV.lit false))).a Cnd.t).a (((Cnd.p (Wk (AV.v (Value.bool false)) (AV.lit false))).a Cnd.t).a (((Cnd.p (true = true)).a ((Cnd.p (AV.v (Value.string s) = AV.v (Value.string s))).a Cnd.t)).a (((Cnd.p (Few s.size)).a ((Cnd.p (VW [AV.v (Value.string s)] [AV.v (Value.string s)])).a Cnd.t)).a (((Cnd.p (Wk (AV.v (Value.bool false)) (AV.lit false))).a Cnd.t).a (((Cnd.p (Wk (AV.v (Value.bool false)) (AV.lit false))).a Cnd.t).a (((Cnd.p (Wk (AV.v (Value.bool false)) (AV.lit false))).a Cnd.t).a (((Cnd.p (Wk (AV.v (Value.bool true)) (AV.lit true))).a Cnd.t).a (((Cnd.p (true = true)).a ((Cnd.p (AV.v (Value.int IntKind.i64 (Int.ofNat 0)) = AV.v (Value.int IntKind.i64 (Int.ofNat 0)))).a Cnd.t)).a (((Cnd.p (Wk (AV.v (Value.bool false)) (AV.lit false))).a Cnd.t).a (((Cnd.p (Wk (AV.v (Value.bool true)) (AV.lit true))).a Cnd.t).a (((Cnd.p (Wk (AV.v (Value.bool !(num (bts s)).snd)) (AV.lit false))).a Cnd.t).a (((Cnd.p (true = true)).a ((Cnd.p (AV.v (Value.string s) = AV.v (Value.string s))).a Cnd.t)).a (((Cnd.p (Wk (AV.v (Value.bool (Int.ofNat (num (bts s)).fst != ↑s.size))) (AV.lit false))).a Cnd.t).a (((Cnd.p (Wk (AV.v (Value.bool false)) (AV.lit false))).a Cnd.t).a (((Cnd.p (Wk (AV.v (Value.bool true)) (AV.lit true))).a Cnd.t).a (((Cnd.p (true = true)).a Cnd.t).a (((Cnd.p (Wk (AV.v (Value.bool false)) (AV.lit false))).a Cnd.t).a (((Cnd.p (Wk (AV.v (Value.bool false)) (AV.lit false))).a Cnd.t).a (((Cnd.p (Wk (AV.v (Value.bool true)) (AV.lit true))).a Cnd.t).a (((Cnd.p (true = true)).a Cnd.t).a (((Cnd.p (Wk (AV.v (Value.bool false)) (AV.lit false))).a Cnd.t).a (((Cnd.p (true = true)).a Cnd.t).a (((Cnd.p (Wk (AV.v (Value.bool false)) (AV.lit false))).a Cnd.t).a Cnd.t))))))))))))))))))))))))).a (((Cnd.p (Wk (AV.v (Value.bool false)) (AV.lit false))).a Cnd.t).a (((Cnd.p (true = true)).a ((Cnd.p ([AV.v (Value.int IntKind.i64 (Int.ofNat 3)), AV.v (Value.int IntKind.i64 (Int.ofNat 0)), AV.v (Value.string s), AV.v (Value.slice none 0 0), AV.v (Value.slice none 0 0)] = [AV.v (Value.int IntKind.i64 (Int.ofNat 3)), AV.v (Value.int IntKind.i64 (Int.ofNat 0)), AV.v (Value.string s), AV.v (Value.slice none 0 0), AV.v (Value.slice none 0 0)])).a Cnd.t)).a ((((Cnd.p (true = true)).a ((Cnd.p (AV.v (Value.int IntKind.i64 (Int.ofNat 3)) = AV.v (Value.int IntKind.i64 (Int.ofNat 3)))).a Cnd.t)).a (((Cnd.p (Wk (AV.v (Value.bool false)) (AV.lit false))).a Cnd.t).a (((Cnd.p (Wk (AV.v (Value.bool false)) (AV.lit false))).a Cnd.t).a (((Cnd.p (Wk (AV.v (Value.bool true)) (AV.lit true))).a Cnd.t).a (((Cnd.p (true = true)).a ((Cnd.p (AV.v (Value.string s) = AV.v (Value.string s))).a Cnd.t)).a ((((Cnd.p (true = true)).a Cnd.t).a (((Cnd.p (s.size.ble s.size = true)).a ((Cnd.p ((vmap (List.map (fun b => Value.int IntKind.u8 ↑b.toNat) (List.take s.size s.data.toList))).all AV.one = true)).a ((Cnd.p (Nat.blt 0 s.size = true)).a ((Cnd.p ((s.size * 1).ble 140737488355328 = true)).a ((Cnd.p (s.size.ble 9223372036854775807 = true)).a ((Cnd.p (OW (AO.cells (vmap (List.map (fun b => Value.int IntKind.u8 ↑b.toNat) (List.take s.size s.data.toList))) 10) (AO.cells (rowV encB (bts s)) 10))).a Cnd.t)))))).a (((Cnd.p (true = true)).a Cnd.t).a Cnd.t))).a Cnd.t)))))).a (((Cnd.p ((List.take s.size (rowV encB (bts s)) = vmap (List.map (fun b => Value.int IntKind.u8 ↑b.toNat) s.data.toList) ∧ s.size ≤ (rowV encB (bts s)).length) ∧ s.size = s.size ∧ 0 < s.size ∧ s.size ≤ 9223372036854775807)).a Cnd.t).a Cnd.t)))))) := by kernel_rfl
end
end Go.Proofs.YtdphpillcaajpaaDoor.Js

/- Json: a number is written. -/
set_option linter.unusedVariables false
set_option linter.unusedSimpArgs false
set_option maxRecDepth 100000
namespace Go.Proofs.YtdphpillcaajpaaDoor.Js
open Go Go.RowKit Go.Proofs.YtdphpillcaajpaaDoor.Eng Go.Proofs.YtdphpillcaajpaaDoor.Kit
theorem txt_one (l : List UInt8) : (vmap (l.map fun b => Value.int IntKind.u8 (b.toNat : Int))).all AV.one = true := by
  induction l with
  | nil => rfl
  | cons a l ih => exact ih
theorem Write_tri {W : World} (s : ByteArray) (h0 : 0 < s.size) (hs : s.size ≤ 4000000) (hn : num (bts s) = ((bts s).length, true)) : Tri Tryd.prog W fWr [aggJ (plainR 3 0 s)] [] (.tuple [sv s, iv 0]) [] := by
  have hf : Few s.size := by unfold Few; omega
  have hok' : (!(num (bts s)).2) = false := by rw [hn]; rfl
  have hn' : (Int.ofNat (num (bts s)).1 != (s.size : Int)) = false := by rw [hn]; exact bne_self_eq_false _
  have ht : List.take s.size s.data.toList = s.data.toList := List.take_of_length_le (Nat.le_refl _)
  have hrow : rowV encB (bts s) = vmap (s.data.toList.map fun b => Value.int IntKind.u8 (b.toNat : Int)) := rowB_map _
  have hrl : (rowV encB (bts s)).length = s.size := rB_len _
  have htk : List.take s.size (rowV encB (bts s)) = vmap (s.data.toList.map fun b => Value.int IntKind.u8 (b.toNat : Int)) := by rw [List.take_of_length_le (by rw [hrl]; exact Nat.le_refl _), hrow]
  have b1 : s.size.ble s.size = true := by rw [Nat.ble_eq]; exact Nat.le_refl _
  have b3 : (s.size * 1).ble 140737488355328 = true := by rw [Nat.ble_eq]; omega
  have b4 : s.size.ble 9223372036854775807 = true := by rw [Nat.ble_eq]; omega
  have ho : OW (AO.cells (vmap (List.map (fun b => Value.int IntKind.u8 (b.toNat : Int)) (List.take s.size s.data.toList))) tByt) (AO.cells (rowV encB (bts s)) tByt) := by rw [ht, hrow]; exact OW.refl _
  have h1 := txt_one (List.take s.size s.data.toList)
  refine tri_run (con := [(fNum, cNum), (fCC, cCC), (fSt, cSt s)]) (hints := hWr s) (lc := []) [] rfl (fun F hF => con_cons (cNum_ok F hF) (con_cons cCC_ok (one_c (cSt_ok s)))) (fun F _ => noL) fun F => ?_
  refine cast (congrArg (VAll _) (oWr_eq W s F).symm) ⟨⟨?_, (fit_mk (vs' := [.tuple [sv s, iv 0]]) (H' := []) [] rfl rfl (VW.refl _) trivial).fits rfl⟩⟩
  simp only [Cnd.holds, Nat.blt_eq, true_and, and_true]
  and_intros
  all_goals first
    | exact wk_litE rfl
    | exact hf
    | exact wk_litE hok'
    | exact wk_litE hn'
    | exact b1
    | exact h1
    | exact h0
    | exact b3
    | exact b4
    | exact ho
    | exact htk
    | (rw [hrl]; exact Nat.le_refl _)
    | (clear ho h1; omega)
    | (with_reducible exact trivial)
    | (with_reducible exact rfl)
    | (with_reducible exact Wk.refl _)
    | (with_reducible exact VW.refl _)
    | (with_reducible exact OW.refl _)
    | (with_reducible exact wk_lit _)
    | (with_reducible assumption)
    | exact rfl
    | exact Wk.refl _
    | exact VW.refl _
    | exact OW.refl _
    | ((repeat (first | exact VW.nil | refine VW.cons (Wk.refl _) ?_ | refine VW.cons (Wk.any _) ?_ | refine VW.cons (wk_cap (Nat.le_refl _)) ?_)); done)
end Go.Proofs.YtdphpillcaajpaaDoor.Js

/- The run of speaks: it returns true. -/
set_option linter.unusedVariables false
set_option linter.unusedSimpArgs false
namespace Go.Proofs.YtdphpillcaajpaaDoor.Sp
open Go Go.RowKit Go.Proofs.YtdphpillcaajpaaDoor.Eng
theorem run_same {P : Program} {f : FuncId} {fn : Func} (hf : P.funcs[f]? = some fn) (hname : (fn.name == "runtime.NumGoroutine") = false)
    (hb : fn.body.isNone = true) (hn : (Extern.findNext fn).isNone = true) (he : Extern.find fn = some Extern.AbiNoEscape.same) (v : Value) (w : World) :
    (callFunc f #[v]).run P w = .ok (.value v) w := by
  rw [run_callFunc_extern hf hname hb (by simpa using hn) he]
  rfl
def pows : List Int := [1, 10, 100, 1000, 10000, 100000, 1000000, 10000000, 100000000, 1000000000, 10000000000, 100000000000, 1000000000000, 10000000000000, 100000000000000, 1000000000000000, 10000000000000000, 100000000000000000, 1000000000000000000, 10000000000000000000]
def firsts : List Int := [240, 240, 240, 240, 240, 240, 240, 240, 240, 240, 240, 240, 240, 240, 240, 240, 240, 240, 240, 240, 240, 240, 240, 240, 240, 240, 240, 240, 240, 240, 240, 240, 240, 240, 240, 240, 240, 240, 240, 240, 240, 240, 240, 240, 240, 240, 240, 240, 240, 240, 240, 240, 240, 240, 240, 240, 240, 240, 240, 240, 240, 240, 240, 240, 240, 240, 240, 240, 240, 240, 240, 240, 240, 240, 240, 240, 240, 240, 240, 240, 240, 240, 240, 240, 240, 240, 240, 240, 240, 240, 240, 240, 240, 240, 240, 240, 240, 240, 240, 240, 240, 240, 240, 240, 240, 240, 240, 240, 240, 240, 240, 240, 240, 240, 240, 240, 240, 240, 240, 240, 240, 240, 240, 240, 240, 240, 240, 240, 241, 241, 241, 241, 241, 241, 241, 241, 241, 241, 241, 241, 241, 241, 241, 241, 241, 241, 241, 241, 241, 241, 241, 241, 241, 241, 241, 241, 241, 241, 241, 241, 241, 241, 241, 241, 241, 241, 241, 241, 241, 241, 241, 241, 241, 241, 241, 241, 241, 241, 241, 241, 241, 241, 241, 241, 241, 241, 241, 241, 241, 241, 241, 241, 241, 241, 2, 2, 2, 2, 2, 2, 2, 2, 2, 2, 2, 2, 2, 2, 2, 2, 2, 2, 2, 2, 2, 2, 2, 2, 2, 2, 2, 2, 2, 2, 19, 3, 3, 3, 3, 3, 3, 3, 3, 3, 3, 3, 3, 35, 3, 3, 52, 4, 4, 4, 68, 241, 241, 241, 241, 241, 241, 241, 241, 241, 241, 241]
def accepts : List (Int × Int) := [(128, 191), (160, 191), (128, 159), (144, 191), (128, 143), (0, 0), (0, 0), (0, 0), (0, 0), (0, 0), (0, 0), (0, 0), (0, 0), (0, 0), (0, 0), (0, 0)]
def cfg : Cfg := { strs := [], ints := [], same := [75], clone := [], laid := [(5, pows.map (Value.int .u64)), (2, firsts.map (Value.int .u8)), (3, accepts.flatMap fun x => [Value.int .u8 x.1, .int .u8 x.2])] }
theorem cfg_ok : CfgOk Tryd.prog cfg where
  strs := fun x hx => by
    cases hx
  ints := fun x hx => by
    cases hx
  same := fun x hx => by
    obtain rfl := List.mem_singleton.1 hx
    exact run_same Tryd.func75 (by kernel_rfl) (by kernel_rfl) (by kernel_rfl) (by kernel_rfl)
  clone := fun x hx => by
    cases hx
theorem idle : Idle Tryd.prog 24 2 := by
  intro vs w hvs
  obtain ⟨l⟩ := vs
  match l, hvs with
  | [x, y], _ =>
    refine callsD_of_wpS Tryd.func24 rfl fun c₀ cs hu => ?_
    apply wpS_seq
    apply wpS_region
    simp [wpOpsS, go_sem, recoverD, hu, Tryd.ntmps24, Exit.thenS]
    apply wpS_seq
    apply wpS_region
    simp [wpOpsS, go_sem, recoverD, hu, Tryd.ntmps24, Exit.thenS]
    refine wpS_cond (t := false) (by simp [Act.eval, Array.replicate]) ?_
    simp only [Bool.false_eq_true, if_false]
    refine wpS_of_wp (wp_skip ?_)
    cases c₀
    simp_all [bodyPostS, results, Tryd.results24]
set_option maxRecDepth 1000000 in
theorem speaks_closed {w : World} (hL : LaidOk cfg w) : Calls Tryd.prog 7 #[] w fun e w' => e = .returned (.bool true) ∧ Below w.heap.size w w' :=
  closed_callD (fP := 11) (g := 24) (m := 2) (fuel' := 1000000) (args := []) cfg_ok (by kernel_rfl) (fun args w => run_callFunc Tryd.func24 (by kernel_rfl) args w) idle (fuel := 1000000) (fun w => by kernel_rfl) hL
end Go.Proofs.YtdphpillcaajpaaDoor.Sp

/- Json: members, whole numbers and simple values: the law's runs. -/
set_option linter.unusedVariables false
set_option linter.unusedSimpArgs false
set_option maxRecDepth 100000
namespace Go.Proofs.YtdphpillcaajpaaDoor.Js
open Go Go.RowKit Go.Proofs.YtdphpillcaajpaaDoor.Eng Go.Proofs.YtdphpillcaajpaaDoor.Kit
noncomputable section
abbrev fLaw : Nat := 6
abbrev fSpk : Nat := 7
def cSpk : List AV → Option (AP AV) := mkC (fun _ => .ret ()) (fun _ => True) (fun _ k => k) (fun _ => []) (fun _ => []) (fun _ => .leaf .ret [bv true] [])
def gJ (v : AV) : AP Rj := match v with
  | .agg [.v (.int .i64 k), .v (.int .i64 n), .v (.string t), .v (.slice la ll lc), .v (.slice na nl nc)] => .ret ⟨k, n, t, la, ll, lc, na, nl, nc⟩
  | _ => .fail "a value"
def gJ1 : List AV → AP Rj := fun args => match args with
  | [x] => gJ x
  | _ => .fail "one value"
def gJ2 : List AV → AP (Rj × Rj) := fun args => match args with
  | [x, y] => (gJ x).bind fun p => (gJ y).bind fun q => .ret (p, q)
  | _ => .fail "two values"
def cInt : List AV → Option (AP AV) := mkC gJ1 (fun r => r.t.size ≤ 4611686018427387904) (fun _ k => k) (fun r => [aggJ r]) (fun _ => []) (fun r => .leaf .ret [intR r.k (bts r.t)] [])
def cMe (r x : Rj) (t : ByteArray) (b : Bool) : List AV → Option (AP AV) := mkC (fun _ => .ret ()) (fun _ => True) (fun _ k => k) (fun _ => [aggJ r, sv t]) (fun _ => []) (fun _ => .leaf .ret [memR x b] [])
def Alike (W : World) (p q : Rj) : Prop := ∃ d v, JAt W.cell? d v p ∧ JAt W.cell? d v q
def cSm (W : World) : List AV → Option (AP AV) := mkC gJ2 (fun p => Alike W p.1 p.2) (fun _ k => k) (fun p => [aggJ p.1, aggJ p.2]) (fun _ => []) (fun _ => .leaf .ret [bv true] [])
def WrOK (s : ByteArray) : Prop := 0 < s.size ∧ s.size ≤ 4000000 ∧ num (bts s) = ((bts s).length, true)
def cWt : List AV → Option (AP AV) := mkC gJ1 (fun p => WrOK p.t) (fun _ k => k) (fun p => [aggJ (plainR 3 0 p.t)]) (fun _ => []) (fun p => .leaf .ret [.tuple [sv p.t, iv 0]] [])
def hPt (sm p q pos : Bool) (m k : Int) : ClaimT := hintL [(fLaw, 1, 1, hv (.lit false)), (fLaw, 7, 2, hv (.lit false)), (fLaw, 7, 7, hv (.lit false)), (fLaw, 7, 12, hv (.lit false)), (fLaw, 7, 17, hv (.lit false)), (fLaw, 11, 1, hv (.lit false)), (fLaw, 11, 6, hv (.lit false)), (fLaw, 11, 11, hv (.lit false)),
  (fLaw, 13, 6, hv (.lit sm)), (fLaw, 14, 4, hv (.lit false)), (fLaw, 14, 8, hv (.lit (!sm))), (fLaw, 14, 11, hv (.lit p)), (fLaw, 14, 15, hv (.lit q)), (fLaw, 16, 4, hv (.lit true)), (fLaw, 16, 10, hv (.lit true)), (fLaw, 16, 14, hv (.lit pos)), (fLaw, 16, 17, hv (iv m)), (fLaw, 16, 18, hv (iv k))]
def conPt (W : World) (r x : Rj) (t : ByteArray) (b : Bool) : ConsL := [(fSpk, cSpk), (fMe, cMe r x t b), (fRMe, cMe r x t b), (fInt, cInt), (fRInt, cInt), (fSa, cSm W), (fWr, cWt), (fItoa, cItoa)]
theorem oPtSp_eq (W : World) (r x : Rj) (t : ByteArray) (b : Bool) (n m : Int) (F : HP) : wRun (conPt W r x t b) (hPt true false false true m 1) [] W fLaw [aggJ r, sv t, iv n] [] [] F = VT.ite true (VT.leaf (AV.v (Value.bool true)) [] 1108 (((Cnd.p True).a ((Cnd.p (VW [] [])).a Cnd.t)).a (((Cnd.p (Wk (AV.v (Value.bool false)) (AV.lit false))).a Cnd.t).a (((Cnd.p (true = true)).a ((Cnd.p ([AV.v (Value.int IntKind.i64 r.k), AV.v (Value.int IntKind.i64 r.n), AV.v (Value.string r.t), AV.v (Value.slice r.la r.ll r.lc), AV.v (Value.slice r.na r.nl r.nc)] = [AV.v (Value.int IntKind.i64 r.k), AV.v (Value.int IntKind.i64 r.n), AV.v (Value.string r.t), AV.v (Value.slice r.la r.ll r.lc), AV.v (Value.slice r.na r.nl r.nc)])).a Cnd.t)).a (((Cnd.p True).a ((Cnd.p (VW [AV.agg [AV.v (Value.int IntKind.i64 r.k), AV.v (Value.int IntKind.i64 r.n), AV.v (Value.string r.t), AV.v (Value.slice r.la r.ll r.lc), AV.v (Value.slice r.na r.nl r.nc)], AV.v (Value.string t)] [AV.agg [AV.v (Value.int IntKind.i64 r.k), AV.v (Value.int IntKind.i64 r.n), AV.v (Value.string r.t), AV.v (Value.slice r.la r.ll r.lc), AV.v (Value.slice r.na r.nl r.nc)], AV.v (Value.string t)])).a Cnd.t)).a (((Cnd.p (true = true)).a Cnd.t).a (((Cnd.p (true = true)).a ((Cnd.p ([AV.v (Value.int IntKind.i64 r.k), AV.v (Value.int IntKind.i64 r.n), AV.v (Value.string r.t), AV.v (Value.slice r.la r.ll r.lc), AV.v (Value.slice r.na r.nl r.nc)] = [AV.v (Value.int IntKind.i64 r.k), AV.v (Value.int IntKind.i64 r.n), AV.v (Value.string r.t), AV.v (Value.slice r.la r.ll r.lc), AV.v (Value.slice r.na r.nl r.nc)])).a Cnd.t)).a (((Cnd.p True).a ((Cnd.p (VW [AV.agg [AV.v (Value.int IntKind.i64 r.k), AV.v (Value.int IntKind.i64 r.n), AV.v (Value.string r.t), AV.v (Value.slice r.la r.ll r.lc), AV.v (Value.slice r.na r.nl r.nc)], AV.v (Value.string t)] [AV.agg [AV.v (Value.int IntKind.i64 r.k), AV.v (Value.int IntKind.i64 r.n), AV.v (Value.string r.t), AV.v (Value.slice r.la r.ll r.lc), AV.v (Value.slice r.na r.nl r.nc)], AV.v (Value.string t)])).a Cnd.t)).a (((Cnd.p (true = true)).a Cnd.t).a (((Cnd.p (true = true)).a ((Cnd.p ([AV.v (Value.int IntKind.i64 r.k), AV.v (Value.int IntKind.i64 r.n), AV.v (Value.string r.t), AV.v (Value.slice r.la r.ll r.lc), AV.v (Value.slice r.na r.nl r.nc)] = [AV.v (Value.int IntKind.i64 r.k), AV.v (Value.int IntKind.i64 r.n), AV.v (Value.string r.t), AV.v (Value.slice r.la r.ll r.lc), AV.v (Value.slice r.na r.nl r.nc)])).a Cnd.t)).a (((Cnd.p (r.t.size ≤ 4611686018427387904)).a ((Cnd.p (VW [AV.agg [AV.v (Value.int IntKind.i64 r.k), AV.v (Value.int IntKind.i64 r.n), AV.v (Value.string r.t), AV.v (Value.slice r.la r.ll r.lc), AV.v (Value.slice r.na r.nl r.nc)]] [AV.agg [AV.v (Value.int IntKind.i64 r.k), AV.v (Value.int IntKind.i64 r.n), AV.v (Value.string r.t), AV.v (Value.slice r.la r.ll r.lc), AV.v (Value.slice r.na r.nl r.nc)]])).a Cnd.t)).a (((Cnd.p (true = true)).a ((Cnd.p ([AV.v (Value.int IntKind.i64 r.k), AV.v (Value.int IntKind.i64 r.n), AV.v (Value.string r.t), AV.v (Value.slice r.la r.ll r.lc), AV.v (Value.slice r.na r.nl r.nc)] = [AV.v (Value.int IntKind.i64 r.k), AV.v (Value.int IntKind.i64 r.n), AV.v (Value.string r.t), AV.v (Value.slice r.la r.ll r.lc), AV.v (Value.slice r.na r.nl r.nc)])).a Cnd.t)).a (((Cnd.p (r.t.size ≤ 4611686018427387904)).a ((Cnd.p (VW [AV.agg [AV.v (Value.int IntKind.i64 r.k), AV.v (Value.int IntKind.i64 r.n), AV.v (Value.string r.t), AV.v (Value.slice r.la r.ll r.lc), AV.v (Value.slice r.na r.nl r.nc)]] [AV.agg [AV.v (Value.int IntKind.i64 r.k), AV.v (Value.int IntKind.i64 r.n), AV.v (Value.string r.t), AV.v (Value.slice r.la r.ll r.lc), AV.v (Value.slice r.na r.nl r.nc)]])).a Cnd.t)).a (((Cnd.p (Wk (AV.v (Value.bool !b == b)) (AV.lit false))).a Cnd.t).a (((Cnd.p (true = true)).a ((Cnd.p ([AV.v (Value.int IntKind.i64 x.k), AV.v (Value.int IntKind.i64 x.n), AV.v (Value.string x.t), AV.v (Value.slice x.la x.ll x.lc), AV.v (Value.slice x.na x.nl x.nc)] = [AV.v (Value.int IntKind.i64 x.k), AV.v (Value.int IntKind.i64 x.n), AV.v (Value.string x.t), AV.v (Value.slice x.la x.ll x.lc), AV.v (Value.slice x.na x.nl x.nc)])).a Cnd.t)).a (((Cnd.p (true = true)).a ((Cnd.p ([AV.v (Value.int IntKind.i64 x.k), AV.v (Value.int IntKind.i64 x.n), AV.v (Value.string x.t), AV.v (Value.slice x.la x.ll x.lc), AV.v (Value.slice x.na x.nl x.nc)] = [AV.v (Value.int IntKind.i64 x.k), AV.v (Value.int IntKind.i64 x.n), AV.v (Value.string x.t), AV.v (Value.slice x.la x.ll x.lc), AV.v (Value.slice x.na x.nl x.nc)])).a Cnd.t)).a (((Cnd.p (Alike W (Rj.mk x.k x.n x.t x.la x.ll x.lc x.na x.nl x.nc) (Rj.mk x.k x.n x.t x.la x.ll x.lc x.na x.nl x.nc))).a ((Cnd.p (VW [AV.agg [AV.v (Value.int IntKind.i64 x.k), AV.v (Value.int IntKind.i64 x.n), AV.v (Value.string x.t), AV.v (Value.slice x.la x.ll x.lc), AV.v (Value.slice x.na x.nl x.nc)], AV.agg [AV.v (Value.int IntKind.i64 x.k), AV.v (Value.int IntKind.i64 x.n), AV.v (Value.string x.t), AV.v (Value.slice x.la x.ll x.lc), AV.v (Value.slice x.na x.nl x.nc)]] [AV.agg [AV.v (Value.int IntKind.i64 x.k), AV.v (Value.int IntKind.i64 x.n), AV.v (Value.string x.t), AV.v (Value.slice x.la x.ll x.lc), AV.v (Value.slice x.na x.nl x.nc)], AV.agg [AV.v (Value.int IntKind.i64 x.k), AV.v (Value.int IntKind.i64 x.n), AV.v (Value.string x.t), AV.v (Value.slice x.la x.ll x.lc), AV.v (Value.slice x.na x.nl x.nc)]])).a Cnd.t)).a (((Cnd.p (Wk (AV.v (Value.bool false)) (AV.lit false))).a Cnd.t).a (((Cnd.p (Wk (AV.v (Value.bool (intV r.k (bts r.t) != intV r.k (bts r.t)))) (AV.lit false))).a Cnd.t).a (((Cnd.p (Wk (AV.v (Value.bool !intT r.k (bts r.t) == intT r.k (bts r.t))) (AV.lit false))).a Cnd.t).a ((((Cnd.p (Int.negSucc 9223372036854775807 ≤ n ∧ n ≤ Int.ofNat 9223372036854775807)).a Cnd.t).a (((Cnd.p (true = true)).a Cnd.t).a ((Cnd.p (true = true)).a ((Cnd.p ([AV.v (Value.int IntKind.i64 (Int.ofNat 3)), AV.v (Value.int IntKind.i64 (Int.ofNat 0)), AV.v (Value.string (itoaB n)), AV.v (Value.slice none 0 0), AV.v (Value.slice none 0 0)] = [AV.v (Value.int IntKind.i64 (Int.ofNat 3)), AV.v (Value.int IntKind.i64 (Int.ofNat 0)), AV.v (Value.string (itoaB n)), AV.v (Value.slice none 0 0), AV.v (Value.slice none 0 0)])).a Cnd.t)))).a (((Cnd.p (true = true)).a Cnd.t).a (((Cnd.p (true = true)).a ((Cnd.p ([AV.v (Value.int IntKind.i64 (Int.ofNat 3)), AV.v (Value.int IntKind.i64 (Int.ofNat 0)), AV.v (Value.string (itoaB n)), AV.v (Value.slice none 0 0), AV.v (Value.slice none 0 0)] = [AV.v (Value.int IntKind.i64 (Int.ofNat 3)), AV.v (Value.int IntKind.i64 (Int.ofNat 0)), AV.v (Value.string (itoaB n)), AV.v (Value.slice none 0 0), AV.v (Value.slice none 0 0)])).a Cnd.t)).a (((Cnd.p (WrOK (itoaB n))).a ((Cnd.p (VW [AV.agg [AV.v (Value.int IntKind.i64 (Int.ofNat 3)), AV.v (Value.int IntKind.i64 (Int.ofNat 0)), AV.v (Value.string (itoaB n)), AV.v (Value.slice none 0 0), AV.v (Value.slice none 0 0)]] [AV.agg [AV.v (Value.int IntKind.i64 (Int.ofNat 3)), AV.v (Value.int IntKind.i64 (Int.ofNat 0)), AV.v (Value.string (itoaB n)), AV.v (Value.slice none 0 0), AV.v (Value.slice none 0 0)]])).a Cnd.t)).a (((Cnd.p (Wk (AV.v (Value.bool false)) (AV.lit false))).a Cnd.t).a (((Cnd.p (true = true)).a ((Cnd.p (AV.v (Value.string (itoaB n)) = AV.v (Value.string (itoaB n)))).a Cnd.t)).a (((Cnd.p (Wk (AV.v (Value.bool !(itoaB n).toList == (itoaB n).toList)) (AV.lit false))).a Cnd.t).a (((Cnd.p (true = true)).a ((Cnd.p (AV.v (Value.int IntKind.i64 (Int.ofNat 3)) = AV.v (Value.int IntKind.i64 (Int.ofNat 3)))).a Cnd.t)).a (((Cnd.p (Wk (AV.v (Value.bool false)) (AV.lit false))).a Cnd.t).a (((Cnd.p (true = true)).a ((Cnd.p ([AV.v (Value.int IntKind.i64 (Int.ofNat 3)), AV.v (Value.int IntKind.i64 (Int.ofNat 0)), AV.v (Value.string (itoaB n)), AV.v (Value.slice none 0 0), AV.v (Value.slice none 0 0)] = [AV.v (Value.int IntKind.i64 (Int.ofNat 3)), AV.v (Value.int IntKind.i64 (Int.ofNat 0)), AV.v (Value.string (itoaB n)), AV.v (Value.slice none 0 0), AV.v (Value.slice none 0 0)])).a Cnd.t)).a (((Cnd.p ((itoaB n).size ≤ 4611686018427387904)).a ((Cnd.p (VW [AV.agg [AV.v (Value.int IntKind.i64 (Int.ofNat 3)), AV.v (Value.int IntKind.i64 (Int.ofNat 0)), AV.v (Value.string (itoaB n)), AV.v (Value.slice none 0 0), AV.v (Value.slice none 0 0)]] [AV.agg [AV.v (Value.int IntKind.i64 (Int.ofNat 3)), AV.v (Value.int IntKind.i64 (Int.ofNat 0)), AV.v (Value.string (itoaB n)), AV.v (Value.slice none 0 0), AV.v (Value.slice none 0 0)]])).a Cnd.t)).a (((Cnd.p (Wk (AV.v (Value.bool (intT (Int.ofNat 3) (bts (itoaB n))))) (AV.lit true))).a Cnd.t).a (((Cnd.p (Wk (AV.v (Value.bool (intV (Int.ofNat 3) (bts (itoaB n)) != n))) (AV.lit false))).a Cnd.t).a (((Cnd.p (Wk (AV.v (Value.bool false)) (AV.lit false))).a Cnd.t).a ((((Cnd.p (true = true)).a Cnd.t).a ((Cnd.p (true = true)).a ((Cnd.p ([AV.v (Value.int IntKind.i64 (Int.ofNat 4)), AV.v (Value.int IntKind.i64 (Int.ofNat 0)), AV.v (Value.string t), AV.v (Value.slice none 0 0), AV.v (Value.slice none 0 0)] = [AV.v (Value.int IntKind.i64 (Int.ofNat 4)), AV.v (Value.int IntKind.i64 (Int.ofNat 0)), AV.v (Value.string t), AV.v (Value.slice none 0 0), AV.v (Value.slice none 0 0)])).a Cnd.t))).a (((Cnd.p (Wk (AV.v (Value.bool (t.toList == t.toList))) (AV.lit true))).a Cnd.t).a ((((Cnd.p (true = true)).a Cnd.t).a ((Cnd.p (true = true)).a ((Cnd.p ([AV.v (Value.int IntKind.i64 (Int.ofNat 4)), AV.v (Value.int IntKind.i64 (Int.ofNat 0)), AV.v (Value.string t), AV.v (Value.slice none 0 0), AV.v (Value.slice none 0 0)] = [AV.v (Value.int IntKind.i64 (Int.ofNat 4)), AV.v (Value.int IntKind.i64 (Int.ofNat 0)), AV.v (Value.string t), AV.v (Value.slice none 0 0), AV.v (Value.slice none 0 0)])).a Cnd.t))).a (((Cnd.p (Alike W (Rj.mk (Int.ofNat 4) (Int.ofNat 0) t none 0 0 none 0 0) (Rj.mk (Int.ofNat 4) (Int.ofNat 0) t none 0 0 none 0 0))).a ((Cnd.p (VW [AV.agg [AV.v (Value.int IntKind.i64 (Int.ofNat 4)), AV.v (Value.int IntKind.i64 (Int.ofNat 0)), AV.v (Value.string t), AV.v (Value.slice none 0 0), AV.v (Value.slice none 0 0)], AV.agg [AV.v (Value.int IntKind.i64 (Int.ofNat 4)), AV.v (Value.int IntKind.i64 (Int.ofNat 0)), AV.v (Value.string t), AV.v (Value.slice none 0 0), AV.v (Value.slice none 0 0)]] [AV.agg [AV.v (Value.int IntKind.i64 (Int.ofNat 4)), AV.v (Value.int IntKind.i64 (Int.ofNat 0)), AV.v (Value.string t), AV.v (Value.slice none 0 0), AV.v (Value.slice none 0 0)], AV.agg [AV.v (Value.int IntKind.i64 (Int.ofNat 4)), AV.v (Value.int IntKind.i64 (Int.ofNat 0)), AV.v (Value.string t), AV.v (Value.slice none 0 0), AV.v (Value.slice none 0 0)]])).a ((Cnd.p (Wk (AV.v (Value.bool true)) (AV.lit true))).a Cnd.t))).a (((Cnd.p (Wk (AV.v (Value.bool (decide (n > Int.ofNat 0)))) (AV.lit true))).a Cnd.t).a ((((Cnd.p (true = true)).a Cnd.t).a ((Cnd.p (true = true)).a ((Cnd.p ([AV.v (Value.int IntKind.i64 (Int.ofNat 2)), AV.v (Value.int IntKind.i64 (Int.ofNat 1)), AV.v (Value.string (ByteArray.mk (Array.mk []))), AV.v (Value.slice none 0 0), AV.v (Value.slice none 0 0)] = [AV.v (Value.int IntKind.i64 (Int.ofNat 2)), AV.v (Value.int IntKind.i64 (Int.ofNat 1)), AV.v (Value.string (ByteArray.mk (Array.mk []))), AV.v (Value.slice none 0 0), AV.v (Value.slice none 0 0)])).a Cnd.t))).a (((Cnd.p (Wk (AV.v (Value.int IntKind.i64 (if n > Int.ofNat 0 then n else Int.ofNat 0))) (AV.v (Value.int IntKind.i64 m)))).a Cnd.t).a (((Cnd.p (Wk (AV.v (Value.int IntKind.i64 (if m < Int.ofNat 1 then m else Int.ofNat 1))) (AV.v (Value.int IntKind.i64 (Int.ofNat 1))))).a Cnd.t).a (((Cnd.p (Alike W (Rj.mk (Int.ofNat 2) (Int.ofNat 1) (ByteArray.mk (Array.mk [])) none 0 0 none 0 0) (Rj.mk (Int.ofNat 2) (Int.ofNat 1) (ByteArray.mk (Array.mk [])) none 0 0 none 0 0))).a ((Cnd.p (VW [AV.agg [AV.v (Value.int IntKind.i64 (Int.ofNat 2)), AV.v (Value.int IntKind.i64 (Int.ofNat 1)), AV.v (Value.string (ByteArray.mk (Array.mk []))), AV.v (Value.slice none 0 0), AV.v (Value.slice none 0 0)], AV.agg [AV.v (Value.int IntKind.i64 (Int.ofNat 2)), AV.v (Value.int IntKind.i64 (Int.ofNat 1)), AV.v (Value.string (ByteArray.mk (Array.mk []))), AV.v (Value.slice none 0 0), AV.v (Value.slice none 0 0)]] [AV.agg [AV.v (Value.int IntKind.i64 (Int.ofNat 2)), AV.v (Value.int IntKind.i64 (Int.ofNat 1)), AV.v (Value.string (ByteArray.mk (Array.mk []))), AV.v (Value.slice none 0 0), AV.v (Value.slice none 0 0)], AV.agg [AV.v (Value.int IntKind.i64 (Int.ofNat 2)), AV.v (Value.int IntKind.i64 (Int.ofNat 1)), AV.v (Value.string (ByteArray.mk (Array.mk []))), AV.v (Value.slice none 0 0), AV.v (Value.slice none 0 0)]])).a Cnd.t)).a Cnd.t))))))))))))))))))))))))))))))))))))))))))) (VT.leaf (AV.v (Value.bool true)) [] 1108 (((Cnd.p True).a ((Cnd.p (VW [] [])).a Cnd.t)).a (((Cnd.p (Wk (AV.v (Value.bool false)) (AV.lit false))).a Cnd.t).a (((Cnd.p (true = true)).a ((Cnd.p ([AV.v (Value.int IntKind.i64 r.k), AV.v (Value.int IntKind.i64 r.n), AV.v (Value.string r.t), AV.v (Value.slice r.la r.ll r.lc), AV.v (Value.slice r.na r.nl r.nc)] = [AV.v (Value.int IntKind.i64 r.k), AV.v (Value.int IntKind.i64 r.n), AV.v (Value.string r.t), AV.v (Value.slice r.la r.ll r.lc), AV.v (Value.slice r.na r.nl r.nc)])).a Cnd.t)).a (((Cnd.p True).a ((Cnd.p (VW [AV.agg [AV.v (Value.int IntKind.i64 r.k), AV.v (Value.int IntKind.i64 r.n), AV.v (Value.string r.t), AV.v (Value.slice r.la r.ll r.lc), AV.v (Value.slice r.na r.nl r.nc)], AV.v (Value.string t)] [AV.agg [AV.v (Value.int IntKind.i64 r.k), AV.v (Value.int IntKind.i64 r.n), AV.v (Value.string r.t), AV.v (Value.slice r.la r.ll r.lc), AV.v (Value.slice r.na r.nl r.nc)], AV.v (Value.string t)])).a Cnd.t)).a (((Cnd.p (true = true)).a Cnd.t).a (((Cnd.p (true = true)).a ((Cnd.p ([AV.v (Value.int IntKind.i64 r.k), AV.v (Value.int IntKind.i64 r.n), AV.v (Value.string r.t), AV.v (Value.slice r.la r.ll r.lc), AV.v (Value.slice r.na r.nl r.nc)] = [AV.v (Value.int IntKind.i64 r.k), AV.v (Value.int IntKind.i64 r.n), AV.v (Value.string r.t), AV.v (Value.slice r.la r.ll r.lc), AV.v (Value.slice r.na r.nl r.nc)])).a Cnd.t)).a (((Cnd.p True).a ((Cnd.p (VW [AV.agg [AV.v (Value.int IntKind.i64 r.k), AV.v (Value.int IntKind.i64 r.n), AV.v (Value.string r.t), AV.v (Value.slice r.la r.ll r.lc), AV.v (Value.slice r.na r.nl r.nc)], AV.v (Value.string t)] [AV.agg [AV.v (Value.int IntKind.i64 r.k), AV.v (Value.int IntKind.i64 r.n), AV.v (Value.string r.t), AV.v (Value.slice r.la r.ll r.lc), AV.v (Value.slice r.na r.nl r.nc)], AV.v (Value.string t)])).a Cnd.t)).a (((Cnd.p (true = true)).a Cnd.t).a (((Cnd.p (true = true)).a ((Cnd.p ([AV.v (Value.int IntKind.i64 r.k), AV.v (Value.int IntKind.i64 r.n), AV.v (Value.string r.t), AV.v (Value.slice r.la r.ll r.lc), AV.v (Value.slice r.na r.nl r.nc)] = [AV.v (Value.int IntKind.i64 r.k), AV.v (Value.int IntKind.i64 r.n), AV.v (Value.string r.t), AV.v (Value.slice r.la r.ll r.lc), AV.v (Value.slice r.na r.nl r.nc)])).a Cnd.t)).a (((Cnd.p (r.t.size ≤ 4611686018427387904)).a ((Cnd.p (VW [AV.agg [AV.v (Value.int IntKind.i64 r.k), AV.v (Value.int IntKind.i64 r.n), AV.v (Value.string r.t), AV.v (Value.slice r.la r.ll r.lc), AV.v (Value.slice r.na r.nl r.nc)]] [AV.agg [AV.v (Value.int IntKind.i64 r.k), AV.v (Value.int IntKind.i64 r.n), AV.v (Value.string r.t), AV.v (Value.slice r.la r.ll r.lc), AV.v (Value.slice r.na r.nl r.nc)]])).a Cnd.t)).a (((Cnd.p (true = true)).a ((Cnd.p ([AV.v (Value.int IntKind.i64 r.k), AV.v (Value.int IntKind.i64 r.n), AV.v (Value.string r.t), AV.v (Value.slice r.la r.ll r.lc), AV.v (Value.slice r.na r.nl r.nc)] = [AV.v (Value.int IntKind.i64 r.k), AV.v (Value.int IntKind.i64 r.n), AV.v (Value.string r.t), AV.v (Value.slice r.la r.ll r.lc), AV.v (Value.slice r.na r.nl r.nc)])).a Cnd.t)).a (((Cnd.p (r.t.size ≤ 4611686018427387904)).a ((Cnd.p (VW [AV.agg [AV.v (Value.int IntKind.i64 r.k), AV.v (Value.int IntKind.i64 r.n), AV.v (Value.string r.t), AV.v (Value.slice r.la r.ll r.lc), AV.v (Value.slice r.na r.nl r.nc)]] [AV.agg [AV.v (Value.int IntKind.i64 r.k), AV.v (Value.int IntKind.i64 r.n), AV.v (Value.string r.t), AV.v (Value.slice r.la r.ll r.lc), AV.v (Value.slice r.na r.nl r.nc)]])).a Cnd.t)).a (((Cnd.p (Wk (AV.v (Value.bool !b == b)) (AV.lit false))).a Cnd.t).a (((Cnd.p (true = true)).a ((Cnd.p ([AV.v (Value.int IntKind.i64 x.k), AV.v (Value.int IntKind.i64 x.n), AV.v (Value.string x.t), AV.v (Value.slice x.la x.ll x.lc), AV.v (Value.slice x.na x.nl x.nc)] = [AV.v (Value.int IntKind.i64 x.k), AV.v (Value.int IntKind.i64 x.n), AV.v (Value.string x.t), AV.v (Value.slice x.la x.ll x.lc), AV.v (Value.slice x.na x.nl x.nc)])).a Cnd.t)).a (((Cnd.p (true = true)).a ((Cnd.p ([AV.v (Value.int IntKind.i64 x.k), AV.v (Value.int IntKind.i64 x.n), AV.v (Value.string x.t), AV.v (Value.slice x.la x.ll x.lc), AV.v (Value.slice x.na x.nl x.nc)] = [AV.v (Value.int IntKind.i64 x.k), AV.v (Value.int IntKind.i64 x.n), AV.v (Value.string x.t), AV.v (Value.slice x.la x.ll x.lc), AV.v (Value.slice x.na x.nl x.nc)])).a Cnd.t)).a (((Cnd.p (Alike W (Rj.mk x.k x.n x.t x.la x.ll x.lc x.na x.nl x.nc) (Rj.mk x.k x.n x.t x.la x.ll x.lc x.na x.nl x.nc))).a ((Cnd.p (VW [AV.agg [AV.v (Value.int IntKind.i64 x.k), AV.v (Value.int IntKind.i64 x.n), AV.v (Value.string x.t), AV.v (Value.slice x.la x.ll x.lc), AV.v (Value.slice x.na x.nl x.nc)], AV.agg [AV.v (Value.int IntKind.i64 x.k), AV.v (Value.int IntKind.i64 x.n), AV.v (Value.string x.t), AV.v (Value.slice x.la x.ll x.lc), AV.v (Value.slice x.na x.nl x.nc)]] [AV.agg [AV.v (Value.int IntKind.i64 x.k), AV.v (Value.int IntKind.i64 x.n), AV.v (Value.string x.t), AV.v (Value.slice x.la x.ll x.lc), AV.v (Value.slice x.na x.nl x.nc)], AV.agg [AV.v (Value.int IntKind.i64 x.k), AV.v (Value.int IntKind.i64 x.n), AV.v (Value.string x.t), AV.v (Value.slice x.la x.ll x.lc), AV.v (Value.slice x.na x.nl x.nc)]])).a Cnd.t)).a (((Cnd.p (Wk (AV.v (Value.bool false)) (AV.lit false))).a Cnd.t).a (((Cnd.p (Wk (AV.v (Value.bool (intV r.k (bts r.t) != intV r.k (bts r.t)))) (AV.lit false))).a Cnd.t).a (((Cnd.p (Wk (AV.v (Value.bool !intT r.k (bts r.t) == intT r.k (bts r.t))) (AV.lit false))).a Cnd.t).a ((((Cnd.p (Int.negSucc 9223372036854775807 ≤ n ∧ n ≤ Int.ofNat 9223372036854775807)).a Cnd.t).a (((Cnd.p (true = true)).a Cnd.t).a ((Cnd.p (true = true)).a ((Cnd.p ([AV.v (Value.int IntKind.i64 (Int.ofNat 3)), AV.v (Value.int IntKind.i64 (Int.ofNat 0)), AV.v (Value.string (itoaB n)), AV.v (Value.slice none 0 0), AV.v (Value.slice none 0 0)] = [AV.v (Value.int IntKind.i64 (Int.ofNat 3)), AV.v (Value.int IntKind.i64 (Int.ofNat 0)), AV.v (Value.string (itoaB n)), AV.v (Value.slice none 0 0), AV.v (Value.slice none 0 0)])).a Cnd.t)))).a (((Cnd.p (true = true)).a Cnd.t).a (((Cnd.p (true = true)).a ((Cnd.p ([AV.v (Value.int IntKind.i64 (Int.ofNat 3)), AV.v (Value.int IntKind.i64 (Int.ofNat 0)), AV.v (Value.string (itoaB n)), AV.v (Value.slice none 0 0), AV.v (Value.slice none 0 0)] = [AV.v (Value.int IntKind.i64 (Int.ofNat 3)), AV.v (Value.int IntKind.i64 (Int.ofNat 0)), AV.v (Value.string (itoaB n)), AV.v (Value.slice none 0 0), AV.v (Value.slice none 0 0)])).a Cnd.t)).a (((Cnd.p (WrOK (itoaB n))).a ((Cnd.p (VW [AV.agg [AV.v (Value.int IntKind.i64 (Int.ofNat 3)), AV.v (Value.int IntKind.i64 (Int.ofNat 0)), AV.v (Value.string (itoaB n)), AV.v (Value.slice none 0 0), AV.v (Value.slice none 0 0)]] [AV.agg [AV.v (Value.int IntKind.i64 (Int.ofNat 3)), AV.v (Value.int IntKind.i64 (Int.ofNat 0)), AV.v (Value.string (itoaB n)), AV.v (Value.slice none 0 0), AV.v (Value.slice none 0 0)]])).a Cnd.t)).a (((Cnd.p (Wk (AV.v (Value.bool false)) (AV.lit false))).a Cnd.t).a (((Cnd.p (true = true)).a ((Cnd.p (AV.v (Value.string (itoaB n)) = AV.v (Value.string (itoaB n)))).a Cnd.t)).a (((Cnd.p (Wk (AV.v (Value.bool !(itoaB n).toList == (itoaB n).toList)) (AV.lit false))).a Cnd.t).a (((Cnd.p (true = true)).a ((Cnd.p (AV.v (Value.int IntKind.i64 (Int.ofNat 3)) = AV.v (Value.int IntKind.i64 (Int.ofNat 3)))).a Cnd.t)).a (((Cnd.p (Wk (AV.v (Value.bool false)) (AV.lit false))).a Cnd.t).a (((Cnd.p (true = true)).a ((Cnd.p ([AV.v (Value.int IntKind.i64 (Int.ofNat 3)), AV.v (Value.int IntKind.i64 (Int.ofNat 0)), AV.v (Value.string (itoaB n)), AV.v (Value.slice none 0 0), AV.v (Value.slice none 0 0)] = [AV.v (Value.int IntKind.i64 (Int.ofNat 3)), AV.v (Value.int IntKind.i64 (Int.ofNat 0)), AV.v (Value.string (itoaB n)), AV.v (Value.slice none 0 0), AV.v (Value.slice none 0 0)])).a Cnd.t)).a (((Cnd.p ((itoaB n).size ≤ 4611686018427387904)).a ((Cnd.p (VW [AV.agg [AV.v (Value.int IntKind.i64 (Int.ofNat 3)), AV.v (Value.int IntKind.i64 (Int.ofNat 0)), AV.v (Value.string (itoaB n)), AV.v (Value.slice none 0 0), AV.v (Value.slice none 0 0)]] [AV.agg [AV.v (Value.int IntKind.i64 (Int.ofNat 3)), AV.v (Value.int IntKind.i64 (Int.ofNat 0)), AV.v (Value.string (itoaB n)), AV.v (Value.slice none 0 0), AV.v (Value.slice none 0 0)]])).a Cnd.t)).a (((Cnd.p (Wk (AV.v (Value.bool (intT (Int.ofNat 3) (bts (itoaB n))))) (AV.lit true))).a Cnd.t).a (((Cnd.p (Wk (AV.v (Value.bool (intV (Int.ofNat 3) (bts (itoaB n)) != n))) (AV.lit false))).a Cnd.t).a (((Cnd.p (Wk (AV.v (Value.bool false)) (AV.lit false))).a Cnd.t).a ((((Cnd.p (true = true)).a Cnd.t).a ((Cnd.p (true = true)).a ((Cnd.p ([AV.v (Value.int IntKind.i64 (Int.ofNat 4)), AV.v (Value.int IntKind.i64 (Int.ofNat 0)), AV.v (Value.string t), AV.v (Value.slice none 0 0), AV.v (Value.slice none 0 0)] = [AV.v (Value.int IntKind.i64 (Int.ofNat 4)), AV.v (Value.int IntKind.i64 (Int.ofNat 0)), AV.v (Value.string t), AV.v (Value.slice none 0 0), AV.v (Value.slice none 0 0)])).a Cnd.t))).a (((Cnd.p (Wk (AV.v (Value.bool (t.toList == t.toList))) (AV.lit true))).a Cnd.t).a ((((Cnd.p (true = true)).a Cnd.t).a ((Cnd.p (true = true)).a ((Cnd.p ([AV.v (Value.int IntKind.i64 (Int.ofNat 4)), AV.v (Value.int IntKind.i64 (Int.ofNat 0)), AV.v (Value.string t), AV.v (Value.slice none 0 0), AV.v (Value.slice none 0 0)] = [AV.v (Value.int IntKind.i64 (Int.ofNat 4)), AV.v (Value.int IntKind.i64 (Int.ofNat 0)), AV.v (Value.string t), AV.v (Value.slice none 0 0), AV.v (Value.slice none 0 0)])).a Cnd.t))).a (((Cnd.p (Alike W (Rj.mk (Int.ofNat 4) (Int.ofNat 0) t none 0 0 none 0 0) (Rj.mk (Int.ofNat 4) (Int.ofNat 0) t none 0 0 none 0 0))).a ((Cnd.p (VW [AV.agg [AV.v (Value.int IntKind.i64 (Int.ofNat 4)), AV.v (Value.int IntKind.i64 (Int.ofNat 0)), AV.v (Value.string t), AV.v (Value.slice none 0 0), AV.v (Value.slice none 0 0)], AV.agg [AV.v (Value.int IntKind.i64 (Int.ofNat 4)), AV.v (Value.int IntKind.i64 (Int.ofNat 0)), AV.v (Value.string t), AV.v (Value.slice none 0 0), AV.v (Value.slice none 0 0)]] [AV.agg [AV.v (Value.int IntKind.i64 (Int.ofNat 4)), AV.v (Value.int IntKind.i64 (Int.ofNat 0)), AV.v (Value.string t), AV.v (Value.slice none 0 0), AV.v (Value.slice none 0 0)], AV.agg [AV.v (Value.int IntKind.i64 (Int.ofNat 4)), AV.v (Value.int IntKind.i64 (Int.ofNat 0)), AV.v (Value.string t), AV.v (Value.slice none 0 0), AV.v (Value.slice none 0 0)]])).a ((Cnd.p (Wk (AV.v (Value.bool true)) (AV.lit true))).a Cnd.t))).a (((Cnd.p (Wk (AV.v (Value.bool (decide (n > Int.ofNat 0)))) (AV.lit true))).a Cnd.t).a ((((Cnd.p (true = true)).a Cnd.t).a ((Cnd.p (true = true)).a ((Cnd.p ([AV.v (Value.int IntKind.i64 (Int.ofNat 2)), AV.v (Value.int IntKind.i64 (Int.ofNat 0)), AV.v (Value.string (ByteArray.mk (Array.mk []))), AV.v (Value.slice none 0 0), AV.v (Value.slice none 0 0)] = [AV.v (Value.int IntKind.i64 (Int.ofNat 2)), AV.v (Value.int IntKind.i64 (Int.ofNat 0)), AV.v (Value.string (ByteArray.mk (Array.mk []))), AV.v (Value.slice none 0 0), AV.v (Value.slice none 0 0)])).a Cnd.t))).a (((Cnd.p (Wk (AV.v (Value.int IntKind.i64 (if n > Int.ofNat 0 then n else Int.ofNat 0))) (AV.v (Value.int IntKind.i64 m)))).a Cnd.t).a (((Cnd.p (Wk (AV.v (Value.int IntKind.i64 (if m < Int.ofNat 1 then m else Int.ofNat 1))) (AV.v (Value.int IntKind.i64 (Int.ofNat 1))))).a Cnd.t).a (((Cnd.p (Alike W (Rj.mk (Int.ofNat 2) (Int.ofNat 0) (ByteArray.mk (Array.mk [])) none 0 0 none 0 0) (Rj.mk (Int.ofNat 2) (Int.ofNat 1) (ByteArray.mk (Array.mk [])) none 0 0 none 0 0))).a ((Cnd.p (VW [AV.agg [AV.v (Value.int IntKind.i64 (Int.ofNat 2)), AV.v (Value.int IntKind.i64 (Int.ofNat 0)), AV.v (Value.string (ByteArray.mk (Array.mk []))), AV.v (Value.slice none 0 0), AV.v (Value.slice none 0 0)], AV.agg [AV.v (Value.int IntKind.i64 (Int.ofNat 2)), AV.v (Value.int IntKind.i64 (Int.ofNat 1)), AV.v (Value.string (ByteArray.mk (Array.mk []))), AV.v (Value.slice none 0 0), AV.v (Value.slice none 0 0)]] [AV.agg [AV.v (Value.int IntKind.i64 (Int.ofNat 2)), AV.v (Value.int IntKind.i64 (Int.ofNat 0)), AV.v (Value.string (ByteArray.mk (Array.mk []))), AV.v (Value.slice none 0 0), AV.v (Value.slice none 0 0)], AV.agg [AV.v (Value.int IntKind.i64 (Int.ofNat 2)), AV.v (Value.int IntKind.i64 (Int.ofNat 1)), AV.v (Value.string (ByteArray.mk (Array.mk []))), AV.v (Value.slice none 0 0), AV.v (Value.slice none 0 0)]])).a Cnd.t)).a Cnd.t))))))))))))))))))))))))))))))))))))))))))) := by kernel_rfl
theorem oPtSn_eq (W : World) (r x : Rj) (t : ByteArray) (b : Bool) (n m : Int) (F : HP) : wRun (conPt W r x t b) (hPt true false false false m 0) [] W fLaw [aggJ r, sv t, iv n] [] [] F = VT.ite false (VT.leaf (AV.v (Value.bool true)) [] 1108 (((Cnd.p True).a ((Cnd.p (VW [] [])).a Cnd.t)).a (((Cnd.p (Wk (AV.v (Value.bool false)) (AV.lit false))).a Cnd.t).a (((Cnd.p (true = true)).a ((Cnd.p ([AV.v (Value.int IntKind.i64 r.k), AV.v (Value.int IntKind.i64 r.n), AV.v (Value.string r.t), AV.v (Value.slice r.la r.ll r.lc), AV.v (Value.slice r.na r.nl r.nc)] = [AV.v (Value.int IntKind.i64 r.k), AV.v (Value.int IntKind.i64 r.n), AV.v (Value.string r.t), AV.v (Value.slice r.la r.ll r.lc), AV.v (Value.slice r.na r.nl r.nc)])).a Cnd.t)).a (((Cnd.p True).a ((Cnd.p (VW [AV.agg [AV.v (Value.int IntKind.i64 r.k), AV.v (Value.int IntKind.i64 r.n), AV.v (Value.string r.t), AV.v (Value.slice r.la r.ll r.lc), AV.v (Value.slice r.na r.nl r.nc)], AV.v (Value.string t)] [AV.agg [AV.v (Value.int IntKind.i64 r.k), AV.v (Value.int IntKind.i64 r.n), AV.v (Value.string r.t), AV.v (Value.slice r.la r.ll r.lc), AV.v (Value.slice r.na r.nl r.nc)], AV.v (Value.string t)])).a Cnd.t)).a (((Cnd.p (true = true)).a Cnd.t).a (((Cnd.p (true = true)).a ((Cnd.p ([AV.v (Value.int IntKind.i64 r.k), AV.v (Value.int IntKind.i64 r.n), AV.v (Value.string r.t), AV.v (Value.slice r.la r.ll r.lc), AV.v (Value.slice r.na r.nl r.nc)] = [AV.v (Value.int IntKind.i64 r.k), AV.v (Value.int IntKind.i64 r.n), AV.v (Value.string r.t), AV.v (Value.slice r.la r.ll r.lc), AV.v (Value.slice r.na r.nl r.nc)])).a Cnd.t)).a (((Cnd.p True).a ((Cnd.p (VW [AV.agg [AV.v (Value.int IntKind.i64 r.k), AV.v (Value.int IntKind.i64 r.n), AV.v (Value.string r.t), AV.v (Value.slice r.la r.ll r.lc), AV.v (Value.slice r.na r.nl r.nc)], AV.v (Value.string t)] [AV.agg [AV.v (Value.int IntKind.i64 r.k), AV.v (Value.int IntKind.i64 r.n), AV.v (Value.string r.t), AV.v (Value.slice r.la r.ll r.lc), AV.v (Value.slice r.na r.nl r.nc)], AV.v (Value.string t)])).a Cnd.t)).a (((Cnd.p (true = true)).a Cnd.t).a (((Cnd.p (true = true)).a ((Cnd.p ([AV.v (Value.int IntKind.i64 r.k), AV.v (Value.int IntKind.i64 r.n), AV.v (Value.string r.t), AV.v (Value.slice r.la r.ll r.lc), AV.v (Value.slice r.na r.nl r.nc)] = [AV.v (Value.int IntKind.i64 r.k), AV.v (Value.int IntKind.i64 r.n), AV.v (Value.string r.t), AV.v (Value.slice r.la r.ll r.lc), AV.v (Value.slice r.na r.nl r.nc)])).a Cnd.t)).a (((Cnd.p (r.t.size ≤ 4611686018427387904)).a ((Cnd.p (VW [AV.agg [AV.v (Value.int IntKind.i64 r.k), AV.v (Value.int IntKind.i64 r.n), AV.v (Value.string r.t), AV.v (Value.slice r.la r.ll r.lc), AV.v (Value.slice r.na r.nl r.nc)]] [AV.agg [AV.v (Value.int IntKind.i64 r.k), AV.v (Value.int IntKind.i64 r.n), AV.v (Value.string r.t), AV.v (Value.slice r.la r.ll r.lc), AV.v (Value.slice r.na r.nl r.nc)]])).a Cnd.t)).a (((Cnd.p (true = true)).a ((Cnd.p ([AV.v (Value.int IntKind.i64 r.k), AV.v (Value.int IntKind.i64 r.n), AV.v (Value.string r.t), AV.v (Value.slice r.la r.ll r.lc), AV.v (Value.slice r.na r.nl r.nc)] = [AV.v (Value.int IntKind.i64 r.k), AV.v (Value.int IntKind.i64 r.n), AV.v (Value.string r.t), AV.v (Value.slice r.la r.ll r.lc), AV.v (Value.slice r.na r.nl r.nc)])).a Cnd.t)).a (((Cnd.p (r.t.size ≤ 4611686018427387904)).a ((Cnd.p (VW [AV.agg [AV.v (Value.int IntKind.i64 r.k), AV.v (Value.int IntKind.i64 r.n), AV.v (Value.string r.t), AV.v (Value.slice r.la r.ll r.lc), AV.v (Value.slice r.na r.nl r.nc)]] [AV.agg [AV.v (Value.int IntKind.i64 r.k), AV.v (Value.int IntKind.i64 r.n), AV.v (Value.string r.t), AV.v (Value.slice r.la r.ll r.lc), AV.v (Value.slice r.na r.nl r.nc)]])).a Cnd.t)).a (((Cnd.p (Wk (AV.v (Value.bool !b == b)) (AV.lit false))).a Cnd.t).a (((Cnd.p (true = true)).a ((Cnd.p ([AV.v (Value.int IntKind.i64 x.k), AV.v (Value.int IntKind.i64 x.n), AV.v (Value.string x.t), AV.v (Value.slice x.la x.ll x.lc), AV.v (Value.slice x.na x.nl x.nc)] = [AV.v (Value.int IntKind.i64 x.k), AV.v (Value.int IntKind.i64 x.n), AV.v (Value.string x.t), AV.v (Value.slice x.la x.ll x.lc), AV.v (Value.slice x.na x.nl x.nc)])).a Cnd.t)).a (((Cnd.p (true = true)).a ((Cnd.p ([AV.v (Value.int IntKind.i64 x.k), AV.v (Value.int IntKind.i64 x.n), AV.v (Value.string x.t), AV.v (Value.slice x.la x.ll x.lc), AV.v (Value.slice x.na x.nl x.nc)] = [AV.v (Value.int IntKind.i64 x.k), AV.v (Value.int IntKind.i64 x.n), AV.v (Value.string x.t), AV.v (Value.slice x.la x.ll x.lc), AV.v (Value.slice x.na x.nl x.nc)])).a Cnd.t)).a (((Cnd.p (Alike W (Rj.mk x.k x.n x.t x.la x.ll x.lc x.na x.nl x.nc) (Rj.mk x.k x.n x.t x.la x.ll x.lc x.na x.nl x.nc))).a ((Cnd.p (VW [AV.agg [AV.v (Value.int IntKind.i64 x.k), AV.v (Value.int IntKind.i64 x.n), AV.v (Value.string x.t), AV.v (Value.slice x.la x.ll x.lc), AV.v (Value.slice x.na x.nl x.nc)], AV.agg [AV.v (Value.int IntKind.i64 x.k), AV.v (Value.int IntKind.i64 x.n), AV.v (Value.string x.t), AV.v (Value.slice x.la x.ll x.lc), AV.v (Value.slice x.na x.nl x.nc)]] [AV.agg [AV.v (Value.int IntKind.i64 x.k), AV.v (Value.int IntKind.i64 x.n), AV.v (Value.string x.t), AV.v (Value.slice x.la x.ll x.lc), AV.v (Value.slice x.na x.nl x.nc)], AV.agg [AV.v (Value.int IntKind.i64 x.k), AV.v (Value.int IntKind.i64 x.n), AV.v (Value.string x.t), AV.v (Value.slice x.la x.ll x.lc), AV.v (Value.slice x.na x.nl x.nc)]])).a Cnd.t)).a (((Cnd.p (Wk (AV.v (Value.bool false)) (AV.lit false))).a Cnd.t).a (((Cnd.p (Wk (AV.v (Value.bool (intV r.k (bts r.t) != intV r.k (bts r.t)))) (AV.lit false))).a Cnd.t).a (((Cnd.p (Wk (AV.v (Value.bool !intT r.k (bts r.t) == intT r.k (bts r.t))) (AV.lit false))).a Cnd.t).a ((((Cnd.p (Int.negSucc 9223372036854775807 ≤ n ∧ n ≤ Int.ofNat 9223372036854775807)).a Cnd.t).a (((Cnd.p (true = true)).a Cnd.t).a ((Cnd.p (true = true)).a ((Cnd.p ([AV.v (Value.int IntKind.i64 (Int.ofNat 3)), AV.v (Value.int IntKind.i64 (Int.ofNat 0)), AV.v (Value.string (itoaB n)), AV.v (Value.slice none 0 0), AV.v (Value.slice none 0 0)] = [AV.v (Value.int IntKind.i64 (Int.ofNat 3)), AV.v (Value.int IntKind.i64 (Int.ofNat 0)), AV.v (Value.string (itoaB n)), AV.v (Value.slice none 0 0), AV.v (Value.slice none 0 0)])).a Cnd.t)))).a (((Cnd.p (true = true)).a Cnd.t).a (((Cnd.p (true = true)).a ((Cnd.p ([AV.v (Value.int IntKind.i64 (Int.ofNat 3)), AV.v (Value.int IntKind.i64 (Int.ofNat 0)), AV.v (Value.string (itoaB n)), AV.v (Value.slice none 0 0), AV.v (Value.slice none 0 0)] = [AV.v (Value.int IntKind.i64 (Int.ofNat 3)), AV.v (Value.int IntKind.i64 (Int.ofNat 0)), AV.v (Value.string (itoaB n)), AV.v (Value.slice none 0 0), AV.v (Value.slice none 0 0)])).a Cnd.t)).a (((Cnd.p (WrOK (itoaB n))).a ((Cnd.p (VW [AV.agg [AV.v (Value.int IntKind.i64 (Int.ofNat 3)), AV.v (Value.int IntKind.i64 (Int.ofNat 0)), AV.v (Value.string (itoaB n)), AV.v (Value.slice none 0 0), AV.v (Value.slice none 0 0)]] [AV.agg [AV.v (Value.int IntKind.i64 (Int.ofNat 3)), AV.v (Value.int IntKind.i64 (Int.ofNat 0)), AV.v (Value.string (itoaB n)), AV.v (Value.slice none 0 0), AV.v (Value.slice none 0 0)]])).a Cnd.t)).a (((Cnd.p (Wk (AV.v (Value.bool false)) (AV.lit false))).a Cnd.t).a (((Cnd.p (true = true)).a ((Cnd.p (AV.v (Value.string (itoaB n)) = AV.v (Value.string (itoaB n)))).a Cnd.t)).a (((Cnd.p (Wk (AV.v (Value.bool !(itoaB n).toList == (itoaB n).toList)) (AV.lit false))).a Cnd.t).a (((Cnd.p (true = true)).a ((Cnd.p (AV.v (Value.int IntKind.i64 (Int.ofNat 3)) = AV.v (Value.int IntKind.i64 (Int.ofNat 3)))).a Cnd.t)).a (((Cnd.p (Wk (AV.v (Value.bool false)) (AV.lit false))).a Cnd.t).a (((Cnd.p (true = true)).a ((Cnd.p ([AV.v (Value.int IntKind.i64 (Int.ofNat 3)), AV.v (Value.int IntKind.i64 (Int.ofNat 0)), AV.v (Value.string (itoaB n)), AV.v (Value.slice none 0 0), AV.v (Value.slice none 0 0)] = [AV.v (Value.int IntKind.i64 (Int.ofNat 3)), AV.v (Value.int IntKind.i64 (Int.ofNat 0)), AV.v (Value.string (itoaB n)), AV.v (Value.slice none 0 0), AV.v (Value.slice none 0 0)])).a Cnd.t)).a (((Cnd.p ((itoaB n).size ≤ 4611686018427387904)).a ((Cnd.p (VW [AV.agg [AV.v (Value.int IntKind.i64 (Int.ofNat 3)), AV.v (Value.int IntKind.i64 (Int.ofNat 0)), AV.v (Value.string (itoaB n)), AV.v (Value.slice none 0 0), AV.v (Value.slice none 0 0)]] [AV.agg [AV.v (Value.int IntKind.i64 (Int.ofNat 3)), AV.v (Value.int IntKind.i64 (Int.ofNat 0)), AV.v (Value.string (itoaB n)), AV.v (Value.slice none 0 0), AV.v (Value.slice none 0 0)]])).a Cnd.t)).a (((Cnd.p (Wk (AV.v (Value.bool (intT (Int.ofNat 3) (bts (itoaB n))))) (AV.lit true))).a Cnd.t).a (((Cnd.p (Wk (AV.v (Value.bool (intV (Int.ofNat 3) (bts (itoaB n)) != n))) (AV.lit false))).a Cnd.t).a (((Cnd.p (Wk (AV.v (Value.bool false)) (AV.lit false))).a Cnd.t).a ((((Cnd.p (true = true)).a Cnd.t).a ((Cnd.p (true = true)).a ((Cnd.p ([AV.v (Value.int IntKind.i64 (Int.ofNat 4)), AV.v (Value.int IntKind.i64 (Int.ofNat 0)), AV.v (Value.string t), AV.v (Value.slice none 0 0), AV.v (Value.slice none 0 0)] = [AV.v (Value.int IntKind.i64 (Int.ofNat 4)), AV.v (Value.int IntKind.i64 (Int.ofNat 0)), AV.v (Value.string t), AV.v (Value.slice none 0 0), AV.v (Value.slice none 0 0)])).a Cnd.t))).a (((Cnd.p (Wk (AV.v (Value.bool (t.toList == t.toList))) (AV.lit true))).a Cnd.t).a ((((Cnd.p (true = true)).a Cnd.t).a ((Cnd.p (true = true)).a ((Cnd.p ([AV.v (Value.int IntKind.i64 (Int.ofNat 4)), AV.v (Value.int IntKind.i64 (Int.ofNat 0)), AV.v (Value.string t), AV.v (Value.slice none 0 0), AV.v (Value.slice none 0 0)] = [AV.v (Value.int IntKind.i64 (Int.ofNat 4)), AV.v (Value.int IntKind.i64 (Int.ofNat 0)), AV.v (Value.string t), AV.v (Value.slice none 0 0), AV.v (Value.slice none 0 0)])).a Cnd.t))).a (((Cnd.p (Alike W (Rj.mk (Int.ofNat 4) (Int.ofNat 0) t none 0 0 none 0 0) (Rj.mk (Int.ofNat 4) (Int.ofNat 0) t none 0 0 none 0 0))).a ((Cnd.p (VW [AV.agg [AV.v (Value.int IntKind.i64 (Int.ofNat 4)), AV.v (Value.int IntKind.i64 (Int.ofNat 0)), AV.v (Value.string t), AV.v (Value.slice none 0 0), AV.v (Value.slice none 0 0)], AV.agg [AV.v (Value.int IntKind.i64 (Int.ofNat 4)), AV.v (Value.int IntKind.i64 (Int.ofNat 0)), AV.v (Value.string t), AV.v (Value.slice none 0 0), AV.v (Value.slice none 0 0)]] [AV.agg [AV.v (Value.int IntKind.i64 (Int.ofNat 4)), AV.v (Value.int IntKind.i64 (Int.ofNat 0)), AV.v (Value.string t), AV.v (Value.slice none 0 0), AV.v (Value.slice none 0 0)], AV.agg [AV.v (Value.int IntKind.i64 (Int.ofNat 4)), AV.v (Value.int IntKind.i64 (Int.ofNat 0)), AV.v (Value.string t), AV.v (Value.slice none 0 0), AV.v (Value.slice none 0 0)]])).a ((Cnd.p (Wk (AV.v (Value.bool true)) (AV.lit true))).a Cnd.t))).a (((Cnd.p (Wk (AV.v (Value.bool (decide (n > Int.ofNat 0)))) (AV.lit false))).a Cnd.t).a ((((Cnd.p (true = true)).a Cnd.t).a ((Cnd.p (true = true)).a ((Cnd.p ([AV.v (Value.int IntKind.i64 (Int.ofNat 2)), AV.v (Value.int IntKind.i64 (Int.ofNat 1)), AV.v (Value.string (ByteArray.mk (Array.mk []))), AV.v (Value.slice none 0 0), AV.v (Value.slice none 0 0)] = [AV.v (Value.int IntKind.i64 (Int.ofNat 2)), AV.v (Value.int IntKind.i64 (Int.ofNat 1)), AV.v (Value.string (ByteArray.mk (Array.mk []))), AV.v (Value.slice none 0 0), AV.v (Value.slice none 0 0)])).a Cnd.t))).a (((Cnd.p (Wk (AV.v (Value.int IntKind.i64 (if n > Int.ofNat 0 then n else Int.ofNat 0))) (AV.v (Value.int IntKind.i64 m)))).a Cnd.t).a (((Cnd.p (Wk (AV.v (Value.int IntKind.i64 (if m < Int.ofNat 1 then m else Int.ofNat 1))) (AV.v (Value.int IntKind.i64 (Int.ofNat 0))))).a Cnd.t).a (((Cnd.p (Alike W (Rj.mk (Int.ofNat 2) (Int.ofNat 1) (ByteArray.mk (Array.mk [])) none 0 0 none 0 0) (Rj.mk (Int.ofNat 2) (Int.ofNat 0) (ByteArray.mk (Array.mk [])) none 0 0 none 0 0))).a ((Cnd.p (VW [AV.agg [AV.v (Value.int IntKind.i64 (Int.ofNat 2)), AV.v (Value.int IntKind.i64 (Int.ofNat 1)), AV.v (Value.string (ByteArray.mk (Array.mk []))), AV.v (Value.slice none 0 0), AV.v (Value.slice none 0 0)], AV.agg [AV.v (Value.int IntKind.i64 (Int.ofNat 2)), AV.v (Value.int IntKind.i64 (Int.ofNat 0)), AV.v (Value.string (ByteArray.mk (Array.mk []))), AV.v (Value.slice none 0 0), AV.v (Value.slice none 0 0)]] [AV.agg [AV.v (Value.int IntKind.i64 (Int.ofNat 2)), AV.v (Value.int IntKind.i64 (Int.ofNat 1)), AV.v (Value.string (ByteArray.mk (Array.mk []))), AV.v (Value.slice none 0 0), AV.v (Value.slice none 0 0)], AV.agg [AV.v (Value.int IntKind.i64 (Int.ofNat 2)), AV.v (Value.int IntKind.i64 (Int.ofNat 0)), AV.v (Value.string (ByteArray.mk (Array.mk []))), AV.v (Value.slice none 0 0), AV.v (Value.slice none 0 0)]])).a Cnd.t)).a Cnd.t))))))))))))))))))))))))))))))))))))))))))) (VT.leaf (AV.v (Value.bool true)) [] 1108 (((Cnd.p True).a ((Cnd.p (VW [] [])).a Cnd.t)).a (((Cnd.p (Wk (AV.v (Value.bool false)) (AV.lit false))).a Cnd.t).a (((Cnd.p (true = true)).a ((Cnd.p ([AV.v (Value.int IntKind.i64 r.k), AV.v (Value.int IntKind.i64 r.n), AV.v (Value.string r.t), AV.v (Value.slice r.la r.ll r.lc), AV.v (Value.slice r.na r.nl r.nc)] = [AV.v (Value.int IntKind.i64 r.k), AV.v (Value.int IntKind.i64 r.n), AV.v (Value.string r.t), AV.v (Value.slice r.la r.ll r.lc), AV.v (Value.slice r.na r.nl r.nc)])).a Cnd.t)).a (((Cnd.p True).a ((Cnd.p (VW [AV.agg [AV.v (Value.int IntKind.i64 r.k), AV.v (Value.int IntKind.i64 r.n), AV.v (Value.string r.t), AV.v (Value.slice r.la r.ll r.lc), AV.v (Value.slice r.na r.nl r.nc)], AV.v (Value.string t)] [AV.agg [AV.v (Value.int IntKind.i64 r.k), AV.v (Value.int IntKind.i64 r.n), AV.v (Value.string r.t), AV.v (Value.slice r.la r.ll r.lc), AV.v (Value.slice r.na r.nl r.nc)], AV.v (Value.string t)])).a Cnd.t)).a (((Cnd.p (true = true)).a Cnd.t).a (((Cnd.p (true = true)).a ((Cnd.p ([AV.v (Value.int IntKind.i64 r.k), AV.v (Value.int IntKind.i64 r.n), AV.v (Value.string r.t), AV.v (Value.slice r.la r.ll r.lc), AV.v (Value.slice r.na r.nl r.nc)] = [AV.v (Value.int IntKind.i64 r.k), AV.v (Value.int IntKind.i64 r.n), AV.v (Value.string r.t), AV.v (Value.slice r.la r.ll r.lc), AV.v (Value.slice r.na r.nl r.nc)])).a Cnd.t)).a (((Cnd.p True).a ((Cnd.p (VW [AV.agg [AV.v (Value.int IntKind.i64 r.k), AV.v (Value.int IntKind.i64 r.n), AV.v (Value.string r.t), AV.v (Value.slice r.la r.ll r.lc), AV.v (Value.slice r.na r.nl r.nc)], AV.v (Value.string t)] [AV.agg [AV.v (Value.int IntKind.i64 r.k), AV.v (Value.int IntKind.i64 r.n), AV.v (Value.string r.t), AV.v (Value.slice r.la r.ll r.lc), AV.v (Value.slice r.na r.nl r.nc)], AV.v (Value.string t)])).a Cnd.t)).a (((Cnd.p (true = true)).a Cnd.t).a (((Cnd.p (true = true)).a ((Cnd.p ([AV.v (Value.int IntKind.i64 r.k), AV.v (Value.int IntKind.i64 r.n), AV.v (Value.string r.t), AV.v (Value.slice r.la r.ll r.lc), AV.v (Value.slice r.na r.nl r.nc)] = [AV.v (Value.int IntKind.i64 r.k), AV.v (Value.int IntKind.i64 r.n), AV.v (Value.string r.t), AV.v (Value.slice r.la r.ll r.lc), AV.v (Value.slice r.na r.nl r.nc)])).a Cnd.t)).a (((Cnd.p (r.t.size ≤ 4611686018427387904)).a ((Cnd.p (VW [AV.agg [AV.v (Value.int IntKind.i64 r.k), AV.v (Value.int IntKind.i64 r.n), AV.v (Value.string r.t), AV.v (Value.slice r.la r.ll r.lc), AV.v (Value.slice r.na r.nl r.nc)]] [AV.agg [AV.v (Value.int IntKind.i64 r.k), AV.v (Value.int IntKind.i64 r.n), AV.v (Value.string r.t), AV.v (Value.slice r.la r.ll r.lc), AV.v (Value.slice r.na r.nl r.nc)]])).a Cnd.t)).a (((Cnd.p (true = true)).a ((Cnd.p ([AV.v (Value.int IntKind.i64 r.k), AV.v (Value.int IntKind.i64 r.n), AV.v (Value.string r.t), AV.v (Value.slice r.la r.ll r.lc), AV.v (Value.slice r.na r.nl r.nc)] = [AV.v (Value.int IntKind.i64 r.k), AV.v (Value.int IntKind.i64 r.n), AV.v (Value.string r.t), AV.v (Value.slice r.la r.ll r.lc), AV.v (Value.slice r.na r.nl r.nc)])).a Cnd.t)).a (((Cnd.p (r.t.size ≤ 4611686018427387904)).a ((Cnd.p (VW [AV.agg [AV.v (Value.int IntKind.i64 r.k), AV.v (Value.int IntKind.i64 r.n), AV.v (Value.string r.t), AV.v (Value.slice r.la r.ll r.lc), AV.v (Value.slice r.na r.nl r.nc)]] [AV.agg [AV.v (Value.int IntKind.i64 r.k), AV.v (Value.int IntKind.i64 r.n), AV.v (Value.string r.t), AV.v (Value.slice r.la r.ll r.lc), AV.v (Value.slice r.na r.nl r.nc)]])).a Cnd.t)).a (((Cnd.p (Wk (AV.v (Value.bool !b == b)) (AV.lit false))).a Cnd.t).a (((Cnd.p (true = true)).a ((Cnd.p ([AV.v (Value.int IntKind.i64 x.k), AV.v (Value.int IntKind.i64 x.n), AV.v (Value.string x.t), AV.v (Value.slice x.la x.ll x.lc), AV.v (Value.slice x.na x.nl x.nc)] = [AV.v (Value.int IntKind.i64 x.k), AV.v (Value.int IntKind.i64 x.n), AV.v (Value.string x.t), AV.v (Value.slice x.la x.ll x.lc), AV.v (Value.slice x.na x.nl x.nc)])).a Cnd.t)).a (((Cnd.p (true = true)).a ((Cnd.p ([AV.v (Value.int IntKind.i64 x.k), AV.v (Value.int IntKind.i64 x.n), AV.v (Value.string x.t), AV.v (Value.slice x.la x.ll x.lc), AV.v (Value.slice x.na x.nl x.nc)] = [AV.v (Value.int IntKind.i64 x.k), AV.v (Value.int IntKind.i64 x.n), AV.v (Value.string x.t), AV.v (Value.slice x.la x.ll x.lc), AV.v (Value.slice x.na x.nl x.nc)])).a Cnd.t)).a (((Cnd.p (Alike W (Rj.mk x.k x.n x.t x.la x.ll x.lc x.na x.nl x.nc) (Rj.mk x.k x.n x.t x.la x.ll x.lc x.na x.nl x.nc))).a ((Cnd.p (VW [AV.agg [AV.v (Value.int IntKind.i64 x.k), AV.v (Value.int IntKind.i64 x.n), AV.v (Value.string x.t), AV.v (Value.slice x.la x.ll x.lc), AV.v (Value.slice x.na x.nl x.nc)], AV.agg [AV.v (Value.int IntKind.i64 x.k), AV.v (Value.int IntKind.i64 x.n), AV.v (Value.string x.t), AV.v (Value.slice x.la x.ll x.lc), AV.v (Value.slice x.na x.nl x.nc)]] [AV.agg [AV.v (Value.int IntKind.i64 x.k), AV.v (Value.int IntKind.i64 x.n), AV.v (Value.string x.t), AV.v (Value.slice x.la x.ll x.lc), AV.v (Value.slice x.na x.nl x.nc)], AV.agg [AV.v (Value.int IntKind.i64 x.k), AV.v (Value.int IntKind.i64 x.n), AV.v (Value.string x.t), AV.v (Value.slice x.la x.ll x.lc), AV.v (Value.slice x.na x.nl x.nc)]])).a Cnd.t)).a (((Cnd.p (Wk (AV.v (Value.bool false)) (AV.lit false))).a Cnd.t).a (((Cnd.p (Wk (AV.v (Value.bool (intV r.k (bts r.t) != intV r.k (bts r.t)))) (AV.lit false))).a Cnd.t).a (((Cnd.p (Wk (AV.v (Value.bool !intT r.k (bts r.t) == intT r.k (bts r.t))) (AV.lit false))).a Cnd.t).a ((((Cnd.p (Int.negSucc 9223372036854775807 ≤ n ∧ n ≤ Int.ofNat 9223372036854775807)).a Cnd.t).a (((Cnd.p (true = true)).a Cnd.t).a ((Cnd.p (true = true)).a ((Cnd.p ([AV.v (Value.int IntKind.i64 (Int.ofNat 3)), AV.v (Value.int IntKind.i64 (Int.ofNat 0)), AV.v (Value.string (itoaB n)), AV.v (Value.slice none 0 0), AV.v (Value.slice none 0 0)] = [AV.v (Value.int IntKind.i64 (Int.ofNat 3)), AV.v (Value.int IntKind.i64 (Int.ofNat 0)), AV.v (Value.string (itoaB n)), AV.v (Value.slice none 0 0), AV.v (Value.slice none 0 0)])).a Cnd.t)))).a (((Cnd.p (true = true)).a Cnd.t).a (((Cnd.p (true = true)).a ((Cnd.p ([AV.v (Value.int IntKind.i64 (Int.ofNat 3)), AV.v (Value.int IntKind.i64 (Int.ofNat 0)), AV.v (Value.string (itoaB n)), AV.v (Value.slice none 0 0), AV.v (Value.slice none 0 0)] = [AV.v (Value.int IntKind.i64 (Int.ofNat 3)), AV.v (Value.int IntKind.i64 (Int.ofNat 0)), AV.v (Value.string (itoaB n)), AV.v (Value.slice none 0 0), AV.v (Value.slice none 0 0)])).a Cnd.t)).a (((Cnd.p (WrOK (itoaB n))).a ((Cnd.p (VW [AV.agg [AV.v (Value.int IntKind.i64 (Int.ofNat 3)), AV.v (Value.int IntKind.i64 (Int.ofNat 0)), AV.v (Value.string (itoaB n)), AV.v (Value.slice none 0 0), AV.v (Value.slice none 0 0)]] [AV.agg [AV.v (Value.int IntKind.i64 (Int.ofNat 3)), AV.v (Value.int IntKind.i64 (Int.ofNat 0)), AV.v (Value.string (itoaB n)), AV.v (Value.slice none 0 0), AV.v (Value.slice none 0 0)]])).a Cnd.t)).a (((Cnd.p (Wk (AV.v (Value.bool false)) (AV.lit false))).a Cnd.t).a (((Cnd.p (true = true)).a ((Cnd.p (AV.v (Value.string (itoaB n)) = AV.v (Value.string (itoaB n)))).a Cnd.t)).a (((Cnd.p (Wk (AV.v (Value.bool !(itoaB n).toList == (itoaB n).toList)) (AV.lit false))).a Cnd.t).a (((Cnd.p (true = true)).a ((Cnd.p (AV.v (Value.int IntKind.i64 (Int.ofNat 3)) = AV.v (Value.int IntKind.i64 (Int.ofNat 3)))).a Cnd.t)).a (((Cnd.p (Wk (AV.v (Value.bool false)) (AV.lit false))).a Cnd.t).a (((Cnd.p (true = true)).a ((Cnd.p ([AV.v (Value.int IntKind.i64 (Int.ofNat 3)), AV.v (Value.int IntKind.i64 (Int.ofNat 0)), AV.v (Value.string (itoaB n)), AV.v (Value.slice none 0 0), AV.v (Value.slice none 0 0)] = [AV.v (Value.int IntKind.i64 (Int.ofNat 3)), AV.v (Value.int IntKind.i64 (Int.ofNat 0)), AV.v (Value.string (itoaB n)), AV.v (Value.slice none 0 0), AV.v (Value.slice none 0 0)])).a Cnd.t)).a (((Cnd.p ((itoaB n).size ≤ 4611686018427387904)).a ((Cnd.p (VW [AV.agg [AV.v (Value.int IntKind.i64 (Int.ofNat 3)), AV.v (Value.int IntKind.i64 (Int.ofNat 0)), AV.v (Value.string (itoaB n)), AV.v (Value.slice none 0 0), AV.v (Value.slice none 0 0)]] [AV.agg [AV.v (Value.int IntKind.i64 (Int.ofNat 3)), AV.v (Value.int IntKind.i64 (Int.ofNat 0)), AV.v (Value.string (itoaB n)), AV.v (Value.slice none 0 0), AV.v (Value.slice none 0 0)]])).a Cnd.t)).a (((Cnd.p (Wk (AV.v (Value.bool (intT (Int.ofNat 3) (bts (itoaB n))))) (AV.lit true))).a Cnd.t).a (((Cnd.p (Wk (AV.v (Value.bool (intV (Int.ofNat 3) (bts (itoaB n)) != n))) (AV.lit false))).a Cnd.t).a (((Cnd.p (Wk (AV.v (Value.bool false)) (AV.lit false))).a Cnd.t).a ((((Cnd.p (true = true)).a Cnd.t).a ((Cnd.p (true = true)).a ((Cnd.p ([AV.v (Value.int IntKind.i64 (Int.ofNat 4)), AV.v (Value.int IntKind.i64 (Int.ofNat 0)), AV.v (Value.string t), AV.v (Value.slice none 0 0), AV.v (Value.slice none 0 0)] = [AV.v (Value.int IntKind.i64 (Int.ofNat 4)), AV.v (Value.int IntKind.i64 (Int.ofNat 0)), AV.v (Value.string t), AV.v (Value.slice none 0 0), AV.v (Value.slice none 0 0)])).a Cnd.t))).a (((Cnd.p (Wk (AV.v (Value.bool (t.toList == t.toList))) (AV.lit true))).a Cnd.t).a ((((Cnd.p (true = true)).a Cnd.t).a ((Cnd.p (true = true)).a ((Cnd.p ([AV.v (Value.int IntKind.i64 (Int.ofNat 4)), AV.v (Value.int IntKind.i64 (Int.ofNat 0)), AV.v (Value.string t), AV.v (Value.slice none 0 0), AV.v (Value.slice none 0 0)] = [AV.v (Value.int IntKind.i64 (Int.ofNat 4)), AV.v (Value.int IntKind.i64 (Int.ofNat 0)), AV.v (Value.string t), AV.v (Value.slice none 0 0), AV.v (Value.slice none 0 0)])).a Cnd.t))).a (((Cnd.p (Alike W (Rj.mk (Int.ofNat 4) (Int.ofNat 0) t none 0 0 none 0 0) (Rj.mk (Int.ofNat 4) (Int.ofNat 0) t none 0 0 none 0 0))).a ((Cnd.p (VW [AV.agg [AV.v (Value.int IntKind.i64 (Int.ofNat 4)), AV.v (Value.int IntKind.i64 (Int.ofNat 0)), AV.v (Value.string t), AV.v (Value.slice none 0 0), AV.v (Value.slice none 0 0)], AV.agg [AV.v (Value.int IntKind.i64 (Int.ofNat 4)), AV.v (Value.int IntKind.i64 (Int.ofNat 0)), AV.v (Value.string t), AV.v (Value.slice none 0 0), AV.v (Value.slice none 0 0)]] [AV.agg [AV.v (Value.int IntKind.i64 (Int.ofNat 4)), AV.v (Value.int IntKind.i64 (Int.ofNat 0)), AV.v (Value.string t), AV.v (Value.slice none 0 0), AV.v (Value.slice none 0 0)], AV.agg [AV.v (Value.int IntKind.i64 (Int.ofNat 4)), AV.v (Value.int IntKind.i64 (Int.ofNat 0)), AV.v (Value.string t), AV.v (Value.slice none 0 0), AV.v (Value.slice none 0 0)]])).a ((Cnd.p (Wk (AV.v (Value.bool true)) (AV.lit true))).a Cnd.t))).a (((Cnd.p (Wk (AV.v (Value.bool (decide (n > Int.ofNat 0)))) (AV.lit false))).a Cnd.t).a ((((Cnd.p (true = true)).a Cnd.t).a ((Cnd.p (true = true)).a ((Cnd.p ([AV.v (Value.int IntKind.i64 (Int.ofNat 2)), AV.v (Value.int IntKind.i64 (Int.ofNat 0)), AV.v (Value.string (ByteArray.mk (Array.mk []))), AV.v (Value.slice none 0 0), AV.v (Value.slice none 0 0)] = [AV.v (Value.int IntKind.i64 (Int.ofNat 2)), AV.v (Value.int IntKind.i64 (Int.ofNat 0)), AV.v (Value.string (ByteArray.mk (Array.mk []))), AV.v (Value.slice none 0 0), AV.v (Value.slice none 0 0)])).a Cnd.t))).a (((Cnd.p (Wk (AV.v (Value.int IntKind.i64 (if n > Int.ofNat 0 then n else Int.ofNat 0))) (AV.v (Value.int IntKind.i64 m)))).a Cnd.t).a (((Cnd.p (Wk (AV.v (Value.int IntKind.i64 (if m < Int.ofNat 1 then m else Int.ofNat 1))) (AV.v (Value.int IntKind.i64 (Int.ofNat 0))))).a Cnd.t).a (((Cnd.p (Alike W (Rj.mk (Int.ofNat 2) (Int.ofNat 0) (ByteArray.mk (Array.mk [])) none 0 0 none 0 0) (Rj.mk (Int.ofNat 2) (Int.ofNat 0) (ByteArray.mk (Array.mk [])) none 0 0 none 0 0))).a ((Cnd.p (VW [AV.agg [AV.v (Value.int IntKind.i64 (Int.ofNat 2)), AV.v (Value.int IntKind.i64 (Int.ofNat 0)), AV.v (Value.string (ByteArray.mk (Array.mk []))), AV.v (Value.slice none 0 0), AV.v (Value.slice none 0 0)], AV.agg [AV.v (Value.int IntKind.i64 (Int.ofNat 2)), AV.v (Value.int IntKind.i64 (Int.ofNat 0)), AV.v (Value.string (ByteArray.mk (Array.mk []))), AV.v (Value.slice none 0 0), AV.v (Value.slice none 0 0)]] [AV.agg [AV.v (Value.int IntKind.i64 (Int.ofNat 2)), AV.v (Value.int IntKind.i64 (Int.ofNat 0)), AV.v (Value.string (ByteArray.mk (Array.mk []))), AV.v (Value.slice none 0 0), AV.v (Value.slice none 0 0)], AV.agg [AV.v (Value.int IntKind.i64 (Int.ofNat 2)), AV.v (Value.int IntKind.i64 (Int.ofNat 0)), AV.v (Value.string (ByteArray.mk (Array.mk []))), AV.v (Value.slice none 0 0), AV.v (Value.slice none 0 0)]])).a Cnd.t)).a Cnd.t))))))))))))))))))))))))))))))))))))))))))) := by kernel_rfl
theorem oPtLn_eq (W : World) (r x : Rj) (t : ByteArray) (b : Bool) (n m : Int) (F : HP) : wRun (conPt W r x t b) (hPt false false false false m 0) [] W fLaw [aggJ r, sv t, iv n] [] [] F = VT.ite false (VT.leaf (AV.v (Value.bool true)) [] 1108 (((Cnd.p True).a ((Cnd.p (VW [] [])).a Cnd.t)).a (((Cnd.p (Wk (AV.v (Value.bool false)) (AV.lit false))).a Cnd.t).a (((Cnd.p (true = true)).a ((Cnd.p ([AV.v (Value.int IntKind.i64 r.k), AV.v (Value.int IntKind.i64 r.n), AV.v (Value.string r.t), AV.v (Value.slice r.la r.ll r.lc), AV.v (Value.slice r.na r.nl r.nc)] = [AV.v (Value.int IntKind.i64 r.k), AV.v (Value.int IntKind.i64 r.n), AV.v (Value.string r.t), AV.v (Value.slice r.la r.ll r.lc), AV.v (Value.slice r.na r.nl r.nc)])).a Cnd.t)).a (((Cnd.p True).a ((Cnd.p (VW [AV.agg [AV.v (Value.int IntKind.i64 r.k), AV.v (Value.int IntKind.i64 r.n), AV.v (Value.string r.t), AV.v (Value.slice r.la r.ll r.lc), AV.v (Value.slice r.na r.nl r.nc)], AV.v (Value.string t)] [AV.agg [AV.v (Value.int IntKind.i64 r.k), AV.v (Value.int IntKind.i64 r.n), AV.v (Value.string r.t), AV.v (Value.slice r.la r.ll r.lc), AV.v (Value.slice r.na r.nl r.nc)], AV.v (Value.string t)])).a Cnd.t)).a (((Cnd.p (true = true)).a Cnd.t).a (((Cnd.p (true = true)).a ((Cnd.p ([AV.v (Value.int IntKind.i64 r.k), AV.v (Value.int IntKind.i64 r.n), AV.v (Value.string r.t), AV.v (Value.slice r.la r.ll r.lc), AV.v (Value.slice r.na r.nl r.nc)] = [AV.v (Value.int IntKind.i64 r.k), AV.v (Value.int IntKind.i64 r.n), AV.v (Value.string r.t), AV.v (Value.slice r.la r.ll r.lc), AV.v (Value.slice r.na r.nl r.nc)])).a Cnd.t)).a (((Cnd.p True).a ((Cnd.p (VW [AV.agg [AV.v (Value.int IntKind.i64 r.k), AV.v (Value.int IntKind.i64 r.n), AV.v (Value.string r.t), AV.v (Value.slice r.la r.ll r.lc), AV.v (Value.slice r.na r.nl r.nc)], AV.v (Value.string t)] [AV.agg [AV.v (Value.int IntKind.i64 r.k), AV.v (Value.int IntKind.i64 r.n), AV.v (Value.string r.t), AV.v (Value.slice r.la r.ll r.lc), AV.v (Value.slice r.na r.nl r.nc)], AV.v (Value.string t)])).a Cnd.t)).a (((Cnd.p (true = true)).a Cnd.t).a (((Cnd.p (true = true)).a ((Cnd.p ([AV.v (Value.int IntKind.i64 r.k), AV.v (Value.int IntKind.i64 r.n), AV.v (Value.string r.t), AV.v (Value.slice r.la r.ll r.lc), AV.v (Value.slice r.na r.nl r.nc)] = [AV.v (Value.int IntKind.i64 r.k), AV.v (Value.int IntKind.i64 r.n), AV.v (Value.string r.t), AV.v (Value.slice r.la r.ll r.lc), AV.v (Value.slice r.na r.nl r.nc)])).a Cnd.t)).a (((Cnd.p (r.t.size ≤ 4611686018427387904)).a ((Cnd.p (VW [AV.agg [AV.v (Value.int IntKind.i64 r.k), AV.v (Value.int IntKind.i64 r.n), AV.v (Value.string r.t), AV.v (Value.slice r.la r.ll r.lc), AV.v (Value.slice r.na r.nl r.nc)]] [AV.agg [AV.v (Value.int IntKind.i64 r.k), AV.v (Value.int IntKind.i64 r.n), AV.v (Value.string r.t), AV.v (Value.slice r.la r.ll r.lc), AV.v (Value.slice r.na r.nl r.nc)]])).a Cnd.t)).a (((Cnd.p (true = true)).a ((Cnd.p ([AV.v (Value.int IntKind.i64 r.k), AV.v (Value.int IntKind.i64 r.n), AV.v (Value.string r.t), AV.v (Value.slice r.la r.ll r.lc), AV.v (Value.slice r.na r.nl r.nc)] = [AV.v (Value.int IntKind.i64 r.k), AV.v (Value.int IntKind.i64 r.n), AV.v (Value.string r.t), AV.v (Value.slice r.la r.ll r.lc), AV.v (Value.slice r.na r.nl r.nc)])).a Cnd.t)).a (((Cnd.p (r.t.size ≤ 4611686018427387904)).a ((Cnd.p (VW [AV.agg [AV.v (Value.int IntKind.i64 r.k), AV.v (Value.int IntKind.i64 r.n), AV.v (Value.string r.t), AV.v (Value.slice r.la r.ll r.lc), AV.v (Value.slice r.na r.nl r.nc)]] [AV.agg [AV.v (Value.int IntKind.i64 r.k), AV.v (Value.int IntKind.i64 r.n), AV.v (Value.string r.t), AV.v (Value.slice r.la r.ll r.lc), AV.v (Value.slice r.na r.nl r.nc)]])).a Cnd.t)).a (((Cnd.p (Wk (AV.v (Value.bool !b == b)) (AV.lit false))).a Cnd.t).a (((Cnd.p (true = true)).a ((Cnd.p ([AV.v (Value.int IntKind.i64 x.k), AV.v (Value.int IntKind.i64 x.n), AV.v (Value.string x.t), AV.v (Value.slice x.la x.ll x.lc), AV.v (Value.slice x.na x.nl x.nc)] = [AV.v (Value.int IntKind.i64 x.k), AV.v (Value.int IntKind.i64 x.n), AV.v (Value.string x.t), AV.v (Value.slice x.la x.ll x.lc), AV.v (Value.slice x.na x.nl x.nc)])).a Cnd.t)).a (((Cnd.p (true = true)).a ((Cnd.p ([AV.v (Value.int IntKind.i64 x.k), AV.v (Value.int IntKind.i64 x.n), AV.v (Value.string x.t), AV.v (Value.slice x.la x.ll x.lc), AV.v (Value.slice x.na x.nl x.nc)] = [AV.v (Value.int IntKind.i64 x.k), AV.v (Value.int IntKind.i64 x.n), AV.v (Value.string x.t), AV.v (Value.slice x.la x.ll x.lc), AV.v (Value.slice x.na x.nl x.nc)])).a Cnd.t)).a (((Cnd.p (Alike W (Rj.mk x.k x.n x.t x.la x.ll x.lc x.na x.nl x.nc) (Rj.mk x.k x.n x.t x.la x.ll x.lc x.na x.nl x.nc))).a ((Cnd.p (VW [AV.agg [AV.v (Value.int IntKind.i64 x.k), AV.v (Value.int IntKind.i64 x.n), AV.v (Value.string x.t), AV.v (Value.slice x.la x.ll x.lc), AV.v (Value.slice x.na x.nl x.nc)], AV.agg [AV.v (Value.int IntKind.i64 x.k), AV.v (Value.int IntKind.i64 x.n), AV.v (Value.string x.t), AV.v (Value.slice x.la x.ll x.lc), AV.v (Value.slice x.na x.nl x.nc)]] [AV.agg [AV.v (Value.int IntKind.i64 x.k), AV.v (Value.int IntKind.i64 x.n), AV.v (Value.string x.t), AV.v (Value.slice x.la x.ll x.lc), AV.v (Value.slice x.na x.nl x.nc)], AV.agg [AV.v (Value.int IntKind.i64 x.k), AV.v (Value.int IntKind.i64 x.n), AV.v (Value.string x.t), AV.v (Value.slice x.la x.ll x.lc), AV.v (Value.slice x.na x.nl x.nc)]])).a Cnd.t)).a (((Cnd.p (Wk (AV.v (Value.bool false)) (AV.lit false))).a Cnd.t).a (((Cnd.p (Wk (AV.v (Value.bool (intV r.k (bts r.t) != intV r.k (bts r.t)))) (AV.lit false))).a Cnd.t).a (((Cnd.p (Wk (AV.v (Value.bool !intT r.k (bts r.t) == intT r.k (bts r.t))) (AV.lit false))).a Cnd.t).a ((((Cnd.p (Int.negSucc 9223372036854775807 ≤ n ∧ n ≤ Int.ofNat 9223372036854775807)).a Cnd.t).a (((Cnd.p (true = true)).a Cnd.t).a ((Cnd.p (true = true)).a ((Cnd.p ([AV.v (Value.int IntKind.i64 (Int.ofNat 3)), AV.v (Value.int IntKind.i64 (Int.ofNat 0)), AV.v (Value.string (itoaB n)), AV.v (Value.slice none 0 0), AV.v (Value.slice none 0 0)] = [AV.v (Value.int IntKind.i64 (Int.ofNat 3)), AV.v (Value.int IntKind.i64 (Int.ofNat 0)), AV.v (Value.string (itoaB n)), AV.v (Value.slice none 0 0), AV.v (Value.slice none 0 0)])).a Cnd.t)))).a (((Cnd.p (true = true)).a Cnd.t).a (((Cnd.p (true = true)).a ((Cnd.p ([AV.v (Value.int IntKind.i64 (Int.ofNat 3)), AV.v (Value.int IntKind.i64 (Int.ofNat 0)), AV.v (Value.string (itoaB n)), AV.v (Value.slice none 0 0), AV.v (Value.slice none 0 0)] = [AV.v (Value.int IntKind.i64 (Int.ofNat 3)), AV.v (Value.int IntKind.i64 (Int.ofNat 0)), AV.v (Value.string (itoaB n)), AV.v (Value.slice none 0 0), AV.v (Value.slice none 0 0)])).a Cnd.t)).a (((Cnd.p (WrOK (itoaB n))).a ((Cnd.p (VW [AV.agg [AV.v (Value.int IntKind.i64 (Int.ofNat 3)), AV.v (Value.int IntKind.i64 (Int.ofNat 0)), AV.v (Value.string (itoaB n)), AV.v (Value.slice none 0 0), AV.v (Value.slice none 0 0)]] [AV.agg [AV.v (Value.int IntKind.i64 (Int.ofNat 3)), AV.v (Value.int IntKind.i64 (Int.ofNat 0)), AV.v (Value.string (itoaB n)), AV.v (Value.slice none 0 0), AV.v (Value.slice none 0 0)]])).a Cnd.t)).a (((Cnd.p (Wk (AV.v (Value.bool false)) (AV.lit false))).a Cnd.t).a (((Cnd.p (true = true)).a ((Cnd.p (AV.v (Value.string (itoaB n)) = AV.v (Value.string (itoaB n)))).a Cnd.t)).a (((Cnd.p (Wk (AV.v (Value.bool !(itoaB n).toList == (itoaB n).toList)) (AV.lit false))).a Cnd.t).a (((Cnd.p (true = true)).a ((Cnd.p (AV.v (Value.int IntKind.i64 (Int.ofNat 3)) = AV.v (Value.int IntKind.i64 (Int.ofNat 3)))).a Cnd.t)).a (((Cnd.p (Wk (AV.v (Value.bool false)) (AV.lit false))).a Cnd.t).a (((Cnd.p (true = true)).a ((Cnd.p ([AV.v (Value.int IntKind.i64 (Int.ofNat 3)), AV.v (Value.int IntKind.i64 (Int.ofNat 0)), AV.v (Value.string (itoaB n)), AV.v (Value.slice none 0 0), AV.v (Value.slice none 0 0)] = [AV.v (Value.int IntKind.i64 (Int.ofNat 3)), AV.v (Value.int IntKind.i64 (Int.ofNat 0)), AV.v (Value.string (itoaB n)), AV.v (Value.slice none 0 0), AV.v (Value.slice none 0 0)])).a Cnd.t)).a (((Cnd.p ((itoaB n).size ≤ 4611686018427387904)).a ((Cnd.p (VW [AV.agg [AV.v (Value.int IntKind.i64 (Int.ofNat 3)), AV.v (Value.int IntKind.i64 (Int.ofNat 0)), AV.v (Value.string (itoaB n)), AV.v (Value.slice none 0 0), AV.v (Value.slice none 0 0)]] [AV.agg [AV.v (Value.int IntKind.i64 (Int.ofNat 3)), AV.v (Value.int IntKind.i64 (Int.ofNat 0)), AV.v (Value.string (itoaB n)), AV.v (Value.slice none 0 0), AV.v (Value.slice none 0 0)]])).a Cnd.t)).a (((Cnd.p (Wk (AV.v (Value.bool (intT (Int.ofNat 3) (bts (itoaB n))))) (AV.lit false))).a Cnd.t).a (((Cnd.p (Wk (AV.v (Value.bool true)) (AV.lit true))).a Cnd.t).a (((Cnd.p (Wk (AV.v (Value.bool (decide (n > Int.negSucc 999999999999999999)))) (AV.lit false))).a Cnd.t).a ((((Cnd.p (true = true)).a Cnd.t).a ((Cnd.p (true = true)).a ((Cnd.p ([AV.v (Value.int IntKind.i64 (Int.ofNat 4)), AV.v (Value.int IntKind.i64 (Int.ofNat 0)), AV.v (Value.string t), AV.v (Value.slice none 0 0), AV.v (Value.slice none 0 0)] = [AV.v (Value.int IntKind.i64 (Int.ofNat 4)), AV.v (Value.int IntKind.i64 (Int.ofNat 0)), AV.v (Value.string t), AV.v (Value.slice none 0 0), AV.v (Value.slice none 0 0)])).a Cnd.t))).a (((Cnd.p (Wk (AV.v (Value.bool (t.toList == t.toList))) (AV.lit true))).a Cnd.t).a ((((Cnd.p (true = true)).a Cnd.t).a ((Cnd.p (true = true)).a ((Cnd.p ([AV.v (Value.int IntKind.i64 (Int.ofNat 4)), AV.v (Value.int IntKind.i64 (Int.ofNat 0)), AV.v (Value.string t), AV.v (Value.slice none 0 0), AV.v (Value.slice none 0 0)] = [AV.v (Value.int IntKind.i64 (Int.ofNat 4)), AV.v (Value.int IntKind.i64 (Int.ofNat 0)), AV.v (Value.string t), AV.v (Value.slice none 0 0), AV.v (Value.slice none 0 0)])).a Cnd.t))).a (((Cnd.p (Alike W (Rj.mk (Int.ofNat 4) (Int.ofNat 0) t none 0 0 none 0 0) (Rj.mk (Int.ofNat 4) (Int.ofNat 0) t none 0 0 none 0 0))).a ((Cnd.p (VW [AV.agg [AV.v (Value.int IntKind.i64 (Int.ofNat 4)), AV.v (Value.int IntKind.i64 (Int.ofNat 0)), AV.v (Value.string t), AV.v (Value.slice none 0 0), AV.v (Value.slice none 0 0)], AV.agg [AV.v (Value.int IntKind.i64 (Int.ofNat 4)), AV.v (Value.int IntKind.i64 (Int.ofNat 0)), AV.v (Value.string t), AV.v (Value.slice none 0 0), AV.v (Value.slice none 0 0)]] [AV.agg [AV.v (Value.int IntKind.i64 (Int.ofNat 4)), AV.v (Value.int IntKind.i64 (Int.ofNat 0)), AV.v (Value.string t), AV.v (Value.slice none 0 0), AV.v (Value.slice none 0 0)], AV.agg [AV.v (Value.int IntKind.i64 (Int.ofNat 4)), AV.v (Value.int IntKind.i64 (Int.ofNat 0)), AV.v (Value.string t), AV.v (Value.slice none 0 0), AV.v (Value.slice none 0 0)]])).a ((Cnd.p (Wk (AV.v (Value.bool true)) (AV.lit true))).a Cnd.t))).a (((Cnd.p (Wk (AV.v (Value.bool (decide (n > Int.ofNat 0)))) (AV.lit false))).a Cnd.t).a ((((Cnd.p (true = true)).a Cnd.t).a ((Cnd.p (true = true)).a ((Cnd.p ([AV.v (Value.int IntKind.i64 (Int.ofNat 2)), AV.v (Value.int IntKind.i64 (Int.ofNat 1)), AV.v (Value.string (ByteArray.mk (Array.mk []))), AV.v (Value.slice none 0 0), AV.v (Value.slice none 0 0)] = [AV.v (Value.int IntKind.i64 (Int.ofNat 2)), AV.v (Value.int IntKind.i64 (Int.ofNat 1)), AV.v (Value.string (ByteArray.mk (Array.mk []))), AV.v (Value.slice none 0 0), AV.v (Value.slice none 0 0)])).a Cnd.t))).a (((Cnd.p (Wk (AV.v (Value.int IntKind.i64 (if n > Int.ofNat 0 then n else Int.ofNat 0))) (AV.v (Value.int IntKind.i64 m)))).a Cnd.t).a (((Cnd.p (Wk (AV.v (Value.int IntKind.i64 (if m < Int.ofNat 1 then m else Int.ofNat 1))) (AV.v (Value.int IntKind.i64 (Int.ofNat 0))))).a Cnd.t).a (((Cnd.p (Alike W (Rj.mk (Int.ofNat 2) (Int.ofNat 1) (ByteArray.mk (Array.mk [])) none 0 0 none 0 0) (Rj.mk (Int.ofNat 2) (Int.ofNat 0) (ByteArray.mk (Array.mk [])) none 0 0 none 0 0))).a ((Cnd.p (VW [AV.agg [AV.v (Value.int IntKind.i64 (Int.ofNat 2)), AV.v (Value.int IntKind.i64 (Int.ofNat 1)), AV.v (Value.string (ByteArray.mk (Array.mk []))), AV.v (Value.slice none 0 0), AV.v (Value.slice none 0 0)], AV.agg [AV.v (Value.int IntKind.i64 (Int.ofNat 2)), AV.v (Value.int IntKind.i64 (Int.ofNat 0)), AV.v (Value.string (ByteArray.mk (Array.mk []))), AV.v (Value.slice none 0 0), AV.v (Value.slice none 0 0)]] [AV.agg [AV.v (Value.int IntKind.i64 (Int.ofNat 2)), AV.v (Value.int IntKind.i64 (Int.ofNat 1)), AV.v (Value.string (ByteArray.mk (Array.mk []))), AV.v (Value.slice none 0 0), AV.v (Value.slice none 0 0)], AV.agg [AV.v (Value.int IntKind.i64 (Int.ofNat 2)), AV.v (Value.int IntKind.i64 (Int.ofNat 0)), AV.v (Value.string (ByteArray.mk (Array.mk []))), AV.v (Value.slice none 0 0), AV.v (Value.slice none 0 0)]])).a Cnd.t)).a Cnd.t))))))))))))))))))))))))))))))))))))))))))) (VT.leaf (AV.v (Value.bool true)) [] 1108 (((Cnd.p True).a ((Cnd.p (VW [] [])).a Cnd.t)).a (((Cnd.p (Wk (AV.v (Value.bool false)) (AV.lit false))).a Cnd.t).a (((Cnd.p (true = true)).a ((Cnd.p ([AV.v (Value.int IntKind.i64 r.k), AV.v (Value.int IntKind.i64 r.n), AV.v (Value.string r.t), AV.v (Value.slice r.la r.ll r.lc), AV.v (Value.slice r.na r.nl r.nc)] = [AV.v (Value.int IntKind.i64 r.k), AV.v (Value.int IntKind.i64 r.n), AV.v (Value.string r.t), AV.v (Value.slice r.la r.ll r.lc), AV.v (Value.slice r.na r.nl r.nc)])).a Cnd.t)).a (((Cnd.p True).a ((Cnd.p (VW [AV.agg [AV.v (Value.int IntKind.i64 r.k), AV.v (Value.int IntKind.i64 r.n), AV.v (Value.string r.t), AV.v (Value.slice r.la r.ll r.lc), AV.v (Value.slice r.na r.nl r.nc)], AV.v (Value.string t)] [AV.agg [AV.v (Value.int IntKind.i64 r.k), AV.v (Value.int IntKind.i64 r.n), AV.v (Value.string r.t), AV.v (Value.slice r.la r.ll r.lc), AV.v (Value.slice r.na r.nl r.nc)], AV.v (Value.string t)])).a Cnd.t)).a (((Cnd.p (true = true)).a Cnd.t).a (((Cnd.p (true = true)).a ((Cnd.p ([AV.v (Value.int IntKind.i64 r.k), AV.v (Value.int IntKind.i64 r.n), AV.v (Value.string r.t), AV.v (Value.slice r.la r.ll r.lc), AV.v (Value.slice r.na r.nl r.nc)] = [AV.v (Value.int IntKind.i64 r.k), AV.v (Value.int IntKind.i64 r.n), AV.v (Value.string r.t), AV.v (Value.slice r.la r.ll r.lc), AV.v (Value.slice r.na r.nl r.nc)])).a Cnd.t)).a (((Cnd.p True).a ((Cnd.p (VW [AV.agg [AV.v (Value.int IntKind.i64 r.k), AV.v (Value.int IntKind.i64 r.n), AV.v (Value.string r.t), AV.v (Value.slice r.la r.ll r.lc), AV.v (Value.slice r.na r.nl r.nc)], AV.v (Value.string t)] [AV.agg [AV.v (Value.int IntKind.i64 r.k), AV.v (Value.int IntKind.i64 r.n), AV.v (Value.string r.t), AV.v (Value.slice r.la r.ll r.lc), AV.v (Value.slice r.na r.nl r.nc)], AV.v (Value.string t)])).a Cnd.t)).a (((Cnd.p (true = true)).a Cnd.t).a (((Cnd.p (true = true)).a ((Cnd.p ([AV.v (Value.int IntKind.i64 r.k), AV.v (Value.int IntKind.i64 r.n), AV.v (Value.string r.t), AV.v (Value.slice r.la r.ll r.lc), AV.v (Value.slice r.na r.nl r.nc)] = [AV.v (Value.int IntKind.i64 r.k), AV.v (Value.int IntKind.i64 r.n), AV.v (Value.string r.t), AV.v (Value.slice r.la r.ll r.lc), AV.v (Value.slice r.na r.nl r.nc)])).a Cnd.t)).a (((Cnd.p (r.t.size ≤ 4611686018427387904)).a ((Cnd.p (VW [AV.agg [AV.v (Value.int IntKind.i64 r.k), AV.v (Value.int IntKind.i64 r.n), AV.v (Value.string r.t), AV.v (Value.slice r.la r.ll r.lc), AV.v (Value.slice r.na r.nl r.nc)]] [AV.agg [AV.v (Value.int IntKind.i64 r.k), AV.v (Value.int IntKind.i64 r.n), AV.v (Value.string r.t), AV.v (Value.slice r.la r.ll r.lc), AV.v (Value.slice r.na r.nl r.nc)]])).a Cnd.t)).a (((Cnd.p (true = true)).a ((Cnd.p ([AV.v (Value.int IntKind.i64 r.k), AV.v (Value.int IntKind.i64 r.n), AV.v (Value.string r.t), AV.v (Value.slice r.la r.ll r.lc), AV.v (Value.slice r.na r.nl r.nc)] = [AV.v (Value.int IntKind.i64 r.k), AV.v (Value.int IntKind.i64 r.n), AV.v (Value.string r.t), AV.v (Value.slice r.la r.ll r.lc), AV.v (Value.slice r.na r.nl r.nc)])).a Cnd.t)).a (((Cnd.p (r.t.size ≤ 4611686018427387904)).a ((Cnd.p (VW [AV.agg [AV.v (Value.int IntKind.i64 r.k), AV.v (Value.int IntKind.i64 r.n), AV.v (Value.string r.t), AV.v (Value.slice r.la r.ll r.lc), AV.v (Value.slice r.na r.nl r.nc)]] [AV.agg [AV.v (Value.int IntKind.i64 r.k), AV.v (Value.int IntKind.i64 r.n), AV.v (Value.string r.t), AV.v (Value.slice r.la r.ll r.lc), AV.v (Value.slice r.na r.nl r.nc)]])).a Cnd.t)).a (((Cnd.p (Wk (AV.v (Value.bool !b == b)) (AV.lit false))).a Cnd.t).a (((Cnd.p (true = true)).a ((Cnd.p ([AV.v (Value.int IntKind.i64 x.k), AV.v (Value.int IntKind.i64 x.n), AV.v (Value.string x.t), AV.v (Value.slice x.la x.ll x.lc), AV.v (Value.slice x.na x.nl x.nc)] = [AV.v (Value.int IntKind.i64 x.k), AV.v (Value.int IntKind.i64 x.n), AV.v (Value.string x.t), AV.v (Value.slice x.la x.ll x.lc), AV.v (Value.slice x.na x.nl x.nc)])).a Cnd.t)).a (((Cnd.p (true = true)).a ((Cnd.p ([AV.v (Value.int IntKind.i64 x.k), AV.v (Value.int IntKind.i64 x.n), AV.v (Value.string x.t), AV.v (Value.slice x.la x.ll x.lc), AV.v (Value.slice x.na x.nl x.nc)] = [AV.v (Value.int IntKind.i64 x.k), AV.v (Value.int IntKind.i64 x.n), AV.v (Value.string x.t), AV.v (Value.slice x.la x.ll x.lc), AV.v (Value.slice x.na x.nl x.nc)])).a Cnd.t)).a (((Cnd.p (Alike W (Rj.mk x.k x.n x.t x.la x.ll x.lc x.na x.nl x.nc) (Rj.mk x.k x.n x.t x.la x.ll x.lc x.na x.nl x.nc))).a ((Cnd.p (VW [AV.agg [AV.v (Value.int IntKind.i64 x.k), AV.v (Value.int IntKind.i64 x.n), AV.v (Value.string x.t), AV.v (Value.slice x.la x.ll x.lc), AV.v (Value.slice x.na x.nl x.nc)], AV.agg [AV.v (Value.int IntKind.i64 x.k), AV.v (Value.int IntKind.i64 x.n), AV.v (Value.string x.t), AV.v (Value.slice x.la x.ll x.lc), AV.v (Value.slice x.na x.nl x.nc)]] [AV.agg [AV.v (Value.int IntKind.i64 x.k), AV.v (Value.int IntKind.i64 x.n), AV.v (Value.string x.t), AV.v (Value.slice x.la x.ll x.lc), AV.v (Value.slice x.na x.nl x.nc)], AV.agg [AV.v (Value.int IntKind.i64 x.k), AV.v (Value.int IntKind.i64 x.n), AV.v (Value.string x.t), AV.v (Value.slice x.la x.ll x.lc), AV.v (Value.slice x.na x.nl x.nc)]])).a Cnd.t)).a (((Cnd.p (Wk (AV.v (Value.bool false)) (AV.lit false))).a Cnd.t).a (((Cnd.p (Wk (AV.v (Value.bool (intV r.k (bts r.t) != intV r.k (bts r.t)))) (AV.lit false))).a Cnd.t).a (((Cnd.p (Wk (AV.v (Value.bool !intT r.k (bts r.t) == intT r.k (bts r.t))) (AV.lit false))).a Cnd.t).a ((((Cnd.p (Int.negSucc 9223372036854775807 ≤ n ∧ n ≤ Int.ofNat 9223372036854775807)).a Cnd.t).a (((Cnd.p (true = true)).a Cnd.t).a ((Cnd.p (true = true)).a ((Cnd.p ([AV.v (Value.int IntKind.i64 (Int.ofNat 3)), AV.v (Value.int IntKind.i64 (Int.ofNat 0)), AV.v (Value.string (itoaB n)), AV.v (Value.slice none 0 0), AV.v (Value.slice none 0 0)] = [AV.v (Value.int IntKind.i64 (Int.ofNat 3)), AV.v (Value.int IntKind.i64 (Int.ofNat 0)), AV.v (Value.string (itoaB n)), AV.v (Value.slice none 0 0), AV.v (Value.slice none 0 0)])).a Cnd.t)))).a (((Cnd.p (true = true)).a Cnd.t).a (((Cnd.p (true = true)).a ((Cnd.p ([AV.v (Value.int IntKind.i64 (Int.ofNat 3)), AV.v (Value.int IntKind.i64 (Int.ofNat 0)), AV.v (Value.string (itoaB n)), AV.v (Value.slice none 0 0), AV.v (Value.slice none 0 0)] = [AV.v (Value.int IntKind.i64 (Int.ofNat 3)), AV.v (Value.int IntKind.i64 (Int.ofNat 0)), AV.v (Value.string (itoaB n)), AV.v (Value.slice none 0 0), AV.v (Value.slice none 0 0)])).a Cnd.t)).a (((Cnd.p (WrOK (itoaB n))).a ((Cnd.p (VW [AV.agg [AV.v (Value.int IntKind.i64 (Int.ofNat 3)), AV.v (Value.int IntKind.i64 (Int.ofNat 0)), AV.v (Value.string (itoaB n)), AV.v (Value.slice none 0 0), AV.v (Value.slice none 0 0)]] [AV.agg [AV.v (Value.int IntKind.i64 (Int.ofNat 3)), AV.v (Value.int IntKind.i64 (Int.ofNat 0)), AV.v (Value.string (itoaB n)), AV.v (Value.slice none 0 0), AV.v (Value.slice none 0 0)]])).a Cnd.t)).a (((Cnd.p (Wk (AV.v (Value.bool false)) (AV.lit false))).a Cnd.t).a (((Cnd.p (true = true)).a ((Cnd.p (AV.v (Value.string (itoaB n)) = AV.v (Value.string (itoaB n)))).a Cnd.t)).a (((Cnd.p (Wk (AV.v (Value.bool !(itoaB n).toList == (itoaB n).toList)) (AV.lit false))).a Cnd.t).a (((Cnd.p (true = true)).a ((Cnd.p (AV.v (Value.int IntKind.i64 (Int.ofNat 3)) = AV.v (Value.int IntKind.i64 (Int.ofNat 3)))).a Cnd.t)).a (((Cnd.p (Wk (AV.v (Value.bool false)) (AV.lit false))).a Cnd.t).a (((Cnd.p (true = true)).a ((Cnd.p ([AV.v (Value.int IntKind.i64 (Int.ofNat 3)), AV.v (Value.int IntKind.i64 (Int.ofNat 0)), AV.v (Value.string (itoaB n)), AV.v (Value.slice none 0 0), AV.v (Value.slice none 0 0)] = [AV.v (Value.int IntKind.i64 (Int.ofNat 3)), AV.v (Value.int IntKind.i64 (Int.ofNat 0)), AV.v (Value.string (itoaB n)), AV.v (Value.slice none 0 0), AV.v (Value.slice none 0 0)])).a Cnd.t)).a (((Cnd.p ((itoaB n).size ≤ 4611686018427387904)).a ((Cnd.p (VW [AV.agg [AV.v (Value.int IntKind.i64 (Int.ofNat 3)), AV.v (Value.int IntKind.i64 (Int.ofNat 0)), AV.v (Value.string (itoaB n)), AV.v (Value.slice none 0 0), AV.v (Value.slice none 0 0)]] [AV.agg [AV.v (Value.int IntKind.i64 (Int.ofNat 3)), AV.v (Value.int IntKind.i64 (Int.ofNat 0)), AV.v (Value.string (itoaB n)), AV.v (Value.slice none 0 0), AV.v (Value.slice none 0 0)]])).a Cnd.t)).a (((Cnd.p (Wk (AV.v (Value.bool (intT (Int.ofNat 3) (bts (itoaB n))))) (AV.lit false))).a Cnd.t).a (((Cnd.p (Wk (AV.v (Value.bool true)) (AV.lit true))).a Cnd.t).a (((Cnd.p (Wk (AV.v (Value.bool (decide (n > Int.negSucc 999999999999999999)))) (AV.lit false))).a Cnd.t).a ((((Cnd.p (true = true)).a Cnd.t).a ((Cnd.p (true = true)).a ((Cnd.p ([AV.v (Value.int IntKind.i64 (Int.ofNat 4)), AV.v (Value.int IntKind.i64 (Int.ofNat 0)), AV.v (Value.string t), AV.v (Value.slice none 0 0), AV.v (Value.slice none 0 0)] = [AV.v (Value.int IntKind.i64 (Int.ofNat 4)), AV.v (Value.int IntKind.i64 (Int.ofNat 0)), AV.v (Value.string t), AV.v (Value.slice none 0 0), AV.v (Value.slice none 0 0)])).a Cnd.t))).a (((Cnd.p (Wk (AV.v (Value.bool (t.toList == t.toList))) (AV.lit true))).a Cnd.t).a ((((Cnd.p (true = true)).a Cnd.t).a ((Cnd.p (true = true)).a ((Cnd.p ([AV.v (Value.int IntKind.i64 (Int.ofNat 4)), AV.v (Value.int IntKind.i64 (Int.ofNat 0)), AV.v (Value.string t), AV.v (Value.slice none 0 0), AV.v (Value.slice none 0 0)] = [AV.v (Value.int IntKind.i64 (Int.ofNat 4)), AV.v (Value.int IntKind.i64 (Int.ofNat 0)), AV.v (Value.string t), AV.v (Value.slice none 0 0), AV.v (Value.slice none 0 0)])).a Cnd.t))).a (((Cnd.p (Alike W (Rj.mk (Int.ofNat 4) (Int.ofNat 0) t none 0 0 none 0 0) (Rj.mk (Int.ofNat 4) (Int.ofNat 0) t none 0 0 none 0 0))).a ((Cnd.p (VW [AV.agg [AV.v (Value.int IntKind.i64 (Int.ofNat 4)), AV.v (Value.int IntKind.i64 (Int.ofNat 0)), AV.v (Value.string t), AV.v (Value.slice none 0 0), AV.v (Value.slice none 0 0)], AV.agg [AV.v (Value.int IntKind.i64 (Int.ofNat 4)), AV.v (Value.int IntKind.i64 (Int.ofNat 0)), AV.v (Value.string t), AV.v (Value.slice none 0 0), AV.v (Value.slice none 0 0)]] [AV.agg [AV.v (Value.int IntKind.i64 (Int.ofNat 4)), AV.v (Value.int IntKind.i64 (Int.ofNat 0)), AV.v (Value.string t), AV.v (Value.slice none 0 0), AV.v (Value.slice none 0 0)], AV.agg [AV.v (Value.int IntKind.i64 (Int.ofNat 4)), AV.v (Value.int IntKind.i64 (Int.ofNat 0)), AV.v (Value.string t), AV.v (Value.slice none 0 0), AV.v (Value.slice none 0 0)]])).a ((Cnd.p (Wk (AV.v (Value.bool true)) (AV.lit true))).a Cnd.t))).a (((Cnd.p (Wk (AV.v (Value.bool (decide (n > Int.ofNat 0)))) (AV.lit false))).a Cnd.t).a ((((Cnd.p (true = true)).a Cnd.t).a ((Cnd.p (true = true)).a ((Cnd.p ([AV.v (Value.int IntKind.i64 (Int.ofNat 2)), AV.v (Value.int IntKind.i64 (Int.ofNat 0)), AV.v (Value.string (ByteArray.mk (Array.mk []))), AV.v (Value.slice none 0 0), AV.v (Value.slice none 0 0)] = [AV.v (Value.int IntKind.i64 (Int.ofNat 2)), AV.v (Value.int IntKind.i64 (Int.ofNat 0)), AV.v (Value.string (ByteArray.mk (Array.mk []))), AV.v (Value.slice none 0 0), AV.v (Value.slice none 0 0)])).a Cnd.t))).a (((Cnd.p (Wk (AV.v (Value.int IntKind.i64 (if n > Int.ofNat 0 then n else Int.ofNat 0))) (AV.v (Value.int IntKind.i64 m)))).a Cnd.t).a (((Cnd.p (Wk (AV.v (Value.int IntKind.i64 (if m < Int.ofNat 1 then m else Int.ofNat 1))) (AV.v (Value.int IntKind.i64 (Int.ofNat 0))))).a Cnd.t).a (((Cnd.p (Alike W (Rj.mk (Int.ofNat 2) (Int.ofNat 0) (ByteArray.mk (Array.mk [])) none 0 0 none 0 0) (Rj.mk (Int.ofNat 2) (Int.ofNat 0) (ByteArray.mk (Array.mk [])) none 0 0 none 0 0))).a ((Cnd.p (VW [AV.agg [AV.v (Value.int IntKind.i64 (Int.ofNat 2)), AV.v (Value.int IntKind.i64 (Int.ofNat 0)), AV.v (Value.string (ByteArray.mk (Array.mk []))), AV.v (Value.slice none 0 0), AV.v (Value.slice none 0 0)], AV.agg [AV.v (Value.int IntKind.i64 (Int.ofNat 2)), AV.v (Value.int IntKind.i64 (Int.ofNat 0)), AV.v (Value.string (ByteArray.mk (Array.mk []))), AV.v (Value.slice none 0 0), AV.v (Value.slice none 0 0)]] [AV.agg [AV.v (Value.int IntKind.i64 (Int.ofNat 2)), AV.v (Value.int IntKind.i64 (Int.ofNat 0)), AV.v (Value.string (ByteArray.mk (Array.mk []))), AV.v (Value.slice none 0 0), AV.v (Value.slice none 0 0)], AV.agg [AV.v (Value.int IntKind.i64 (Int.ofNat 2)), AV.v (Value.int IntKind.i64 (Int.ofNat 0)), AV.v (Value.string (ByteArray.mk (Array.mk []))), AV.v (Value.slice none 0 0), AV.v (Value.slice none 0 0)]])).a Cnd.t)).a Cnd.t))))))))))))))))))))))))))))))))))))))))))) := by kernel_rfl
theorem oPtGp_eq (W : World) (r x : Rj) (t : ByteArray) (b : Bool) (n m : Int) (F : HP) : wRun (conPt W r x t b) (hPt false true false true m 1) [] W fLaw [aggJ r, sv t, iv n] [] [] F = VT.ite true (VT.leaf (AV.v (Value.bool true)) [] 1108 (((Cnd.p True).a ((Cnd.p (VW [] [])).a Cnd.t)).a (((Cnd.p (Wk (AV.v (Value.bool false)) (AV.lit false))).a Cnd.t).a (((Cnd.p (true = true)).a ((Cnd.p ([AV.v (Value.int IntKind.i64 r.k), AV.v (Value.int IntKind.i64 r.n), AV.v (Value.string r.t), AV.v (Value.slice r.la r.ll r.lc), AV.v (Value.slice r.na r.nl r.nc)] = [AV.v (Value.int IntKind.i64 r.k), AV.v (Value.int IntKind.i64 r.n), AV.v (Value.string r.t), AV.v (Value.slice r.la r.ll r.lc), AV.v (Value.slice r.na r.nl r.nc)])).a Cnd.t)).a (((Cnd.p True).a ((Cnd.p (VW [AV.agg [AV.v (Value.int IntKind.i64 r.k), AV.v (Value.int IntKind.i64 r.n), AV.v (Value.string r.t), AV.v (Value.slice r.la r.ll r.lc), AV.v (Value.slice r.na r.nl r.nc)], AV.v (Value.string t)] [AV.agg [AV.v (Value.int IntKind.i64 r.k), AV.v (Value.int IntKind.i64 r.n), AV.v (Value.string r.t), AV.v (Value.slice r.la r.ll r.lc), AV.v (Value.slice r.na r.nl r.nc)], AV.v (Value.string t)])).a Cnd.t)).a (((Cnd.p (true = true)).a Cnd.t).a (((Cnd.p (true = true)).a ((Cnd.p ([AV.v (Value.int IntKind.i64 r.k), AV.v (Value.int IntKind.i64 r.n), AV.v (Value.string r.t), AV.v (Value.slice r.la r.ll r.lc), AV.v (Value.slice r.na r.nl r.nc)] = [AV.v (Value.int IntKind.i64 r.k), AV.v (Value.int IntKind.i64 r.n), AV.v (Value.string r.t), AV.v (Value.slice r.la r.ll r.lc), AV.v (Value.slice r.na r.nl r.nc)])).a Cnd.t)).a (((Cnd.p True).a ((Cnd.p (VW [AV.agg [AV.v (Value.int IntKind.i64 r.k), AV.v (Value.int IntKind.i64 r.n), AV.v (Value.string r.t), AV.v (Value.slice r.la r.ll r.lc), AV.v (Value.slice r.na r.nl r.nc)], AV.v (Value.string t)] [AV.agg [AV.v (Value.int IntKind.i64 r.k), AV.v (Value.int IntKind.i64 r.n), AV.v (Value.string r.t), AV.v (Value.slice r.la r.ll r.lc), AV.v (Value.slice r.na r.nl r.nc)], AV.v (Value.string t)])).a Cnd.t)).a (((Cnd.p (true = true)).a Cnd.t).a (((Cnd.p (true = true)).a ((Cnd.p ([AV.v (Value.int IntKind.i64 r.k), AV.v (Value.int IntKind.i64 r.n), AV.v (Value.string r.t), AV.v (Value.slice r.la r.ll r.lc), AV.v (Value.slice r.na r.nl r.nc)] = [AV.v (Value.int IntKind.i64 r.k), AV.v (Value.int IntKind.i64 r.n), AV.v (Value.string r.t), AV.v (Value.slice r.la r.ll r.lc), AV.v (Value.slice r.na r.nl r.nc)])).a Cnd.t)).a (((Cnd.p (r.t.size ≤ 4611686018427387904)).a ((Cnd.p (VW [AV.agg [AV.v (Value.int IntKind.i64 r.k), AV.v (Value.int IntKind.i64 r.n), AV.v (Value.string r.t), AV.v (Value.slice r.la r.ll r.lc), AV.v (Value.slice r.na r.nl r.nc)]] [AV.agg [AV.v (Value.int IntKind.i64 r.k), AV.v (Value.int IntKind.i64 r.n), AV.v (Value.string r.t), AV.v (Value.slice r.la r.ll r.lc), AV.v (Value.slice r.na r.nl r.nc)]])).a Cnd.t)).a (((Cnd.p (true = true)).a ((Cnd.p ([AV.v (Value.int IntKind.i64 r.k), AV.v (Value.int IntKind.i64 r.n), AV.v (Value.string r.t), AV.v (Value.slice r.la r.ll r.lc), AV.v (Value.slice r.na r.nl r.nc)] = [AV.v (Value.int IntKind.i64 r.k), AV.v (Value.int IntKind.i64 r.n), AV.v (Value.string r.t), AV.v (Value.slice r.la r.ll r.lc), AV.v (Value.slice r.na r.nl r.nc)])).a Cnd.t)).a (((Cnd.p (r.t.size ≤ 4611686018427387904)).a ((Cnd.p (VW [AV.agg [AV.v (Value.int IntKind.i64 r.k), AV.v (Value.int IntKind.i64 r.n), AV.v (Value.string r.t), AV.v (Value.slice r.la r.ll r.lc), AV.v (Value.slice r.na r.nl r.nc)]] [AV.agg [AV.v (Value.int IntKind.i64 r.k), AV.v (Value.int IntKind.i64 r.n), AV.v (Value.string r.t), AV.v (Value.slice r.la r.ll r.lc), AV.v (Value.slice r.na r.nl r.nc)]])).a Cnd.t)).a (((Cnd.p (Wk (AV.v (Value.bool !b == b)) (AV.lit false))).a Cnd.t).a (((Cnd.p (true = true)).a ((Cnd.p ([AV.v (Value.int IntKind.i64 x.k), AV.v (Value.int IntKind.i64 x.n), AV.v (Value.string x.t), AV.v (Value.slice x.la x.ll x.lc), AV.v (Value.slice x.na x.nl x.nc)] = [AV.v (Value.int IntKind.i64 x.k), AV.v (Value.int IntKind.i64 x.n), AV.v (Value.string x.t), AV.v (Value.slice x.la x.ll x.lc), AV.v (Value.slice x.na x.nl x.nc)])).a Cnd.t)).a (((Cnd.p (true = true)).a ((Cnd.p ([AV.v (Value.int IntKind.i64 x.k), AV.v (Value.int IntKind.i64 x.n), AV.v (Value.string x.t), AV.v (Value.slice x.la x.ll x.lc), AV.v (Value.slice x.na x.nl x.nc)] = [AV.v (Value.int IntKind.i64 x.k), AV.v (Value.int IntKind.i64 x.n), AV.v (Value.string x.t), AV.v (Value.slice x.la x.ll x.lc), AV.v (Value.slice x.na x.nl x.nc)])).a Cnd.t)).a (((Cnd.p (Alike W (Rj.mk x.k x.n x.t x.la x.ll x.lc x.na x.nl x.nc) (Rj.mk x.k x.n x.t x.la x.ll x.lc x.na x.nl x.nc))).a ((Cnd.p (VW [AV.agg [AV.v (Value.int IntKind.i64 x.k), AV.v (Value.int IntKind.i64 x.n), AV.v (Value.string x.t), AV.v (Value.slice x.la x.ll x.lc), AV.v (Value.slice x.na x.nl x.nc)], AV.agg [AV.v (Value.int IntKind.i64 x.k), AV.v (Value.int IntKind.i64 x.n), AV.v (Value.string x.t), AV.v (Value.slice x.la x.ll x.lc), AV.v (Value.slice x.na x.nl x.nc)]] [AV.agg [AV.v (Value.int IntKind.i64 x.k), AV.v (Value.int IntKind.i64 x.n), AV.v (Value.string x.t), AV.v (Value.slice x.la x.ll x.lc), AV.v (Value.slice x.na x.nl x.nc)], AV.agg [AV.v (Value.int IntKind.i64 x.k), AV.v (Value.int IntKind.i64 x.n), AV.v (Value.string x.t), AV.v (Value.slice x.la x.ll x.lc), AV.v (Value.slice x.na x.nl x.nc)]])).a Cnd.t)).a (((Cnd.p (Wk (AV.v (Value.bool false)) (AV.lit false))).a Cnd.t).a (((Cnd.p (Wk (AV.v (Value.bool (intV r.k (bts r.t) != intV r.k (bts r.t)))) (AV.lit false))).a Cnd.t).a (((Cnd.p (Wk (AV.v (Value.bool !intT r.k (bts r.t) == intT r.k (bts r.t))) (AV.lit false))).a Cnd.t).a ((((Cnd.p (Int.negSucc 9223372036854775807 ≤ n ∧ n ≤ Int.ofNat 9223372036854775807)).a Cnd.t).a (((Cnd.p (true = true)).a Cnd.t).a ((Cnd.p (true = true)).a ((Cnd.p ([AV.v (Value.int IntKind.i64 (Int.ofNat 3)), AV.v (Value.int IntKind.i64 (Int.ofNat 0)), AV.v (Value.string (itoaB n)), AV.v (Value.slice none 0 0), AV.v (Value.slice none 0 0)] = [AV.v (Value.int IntKind.i64 (Int.ofNat 3)), AV.v (Value.int IntKind.i64 (Int.ofNat 0)), AV.v (Value.string (itoaB n)), AV.v (Value.slice none 0 0), AV.v (Value.slice none 0 0)])).a Cnd.t)))).a (((Cnd.p (true = true)).a Cnd.t).a (((Cnd.p (true = true)).a ((Cnd.p ([AV.v (Value.int IntKind.i64 (Int.ofNat 3)), AV.v (Value.int IntKind.i64 (Int.ofNat 0)), AV.v (Value.string (itoaB n)), AV.v (Value.slice none 0 0), AV.v (Value.slice none 0 0)] = [AV.v (Value.int IntKind.i64 (Int.ofNat 3)), AV.v (Value.int IntKind.i64 (Int.ofNat 0)), AV.v (Value.string (itoaB n)), AV.v (Value.slice none 0 0), AV.v (Value.slice none 0 0)])).a Cnd.t)).a (((Cnd.p (WrOK (itoaB n))).a ((Cnd.p (VW [AV.agg [AV.v (Value.int IntKind.i64 (Int.ofNat 3)), AV.v (Value.int IntKind.i64 (Int.ofNat 0)), AV.v (Value.string (itoaB n)), AV.v (Value.slice none 0 0), AV.v (Value.slice none 0 0)]] [AV.agg [AV.v (Value.int IntKind.i64 (Int.ofNat 3)), AV.v (Value.int IntKind.i64 (Int.ofNat 0)), AV.v (Value.string (itoaB n)), AV.v (Value.slice none 0 0), AV.v (Value.slice none 0 0)]])).a Cnd.t)).a (((Cnd.p (Wk (AV.v (Value.bool false)) (AV.lit false))).a Cnd.t).a (((Cnd.p (true = true)).a ((Cnd.p (AV.v (Value.string (itoaB n)) = AV.v (Value.string (itoaB n)))).a Cnd.t)).a (((Cnd.p (Wk (AV.v (Value.bool !(itoaB n).toList == (itoaB n).toList)) (AV.lit false))).a Cnd.t).a (((Cnd.p (true = true)).a ((Cnd.p (AV.v (Value.int IntKind.i64 (Int.ofNat 3)) = AV.v (Value.int IntKind.i64 (Int.ofNat 3)))).a Cnd.t)).a (((Cnd.p (Wk (AV.v (Value.bool false)) (AV.lit false))).a Cnd.t).a (((Cnd.p (true = true)).a ((Cnd.p ([AV.v (Value.int IntKind.i64 (Int.ofNat 3)), AV.v (Value.int IntKind.i64 (Int.ofNat 0)), AV.v (Value.string (itoaB n)), AV.v (Value.slice none 0 0), AV.v (Value.slice none 0 0)] = [AV.v (Value.int IntKind.i64 (Int.ofNat 3)), AV.v (Value.int IntKind.i64 (Int.ofNat 0)), AV.v (Value.string (itoaB n)), AV.v (Value.slice none 0 0), AV.v (Value.slice none 0 0)])).a Cnd.t)).a (((Cnd.p ((itoaB n).size ≤ 4611686018427387904)).a ((Cnd.p (VW [AV.agg [AV.v (Value.int IntKind.i64 (Int.ofNat 3)), AV.v (Value.int IntKind.i64 (Int.ofNat 0)), AV.v (Value.string (itoaB n)), AV.v (Value.slice none 0 0), AV.v (Value.slice none 0 0)]] [AV.agg [AV.v (Value.int IntKind.i64 (Int.ofNat 3)), AV.v (Value.int IntKind.i64 (Int.ofNat 0)), AV.v (Value.string (itoaB n)), AV.v (Value.slice none 0 0), AV.v (Value.slice none 0 0)]])).a Cnd.t)).a (((Cnd.p (Wk (AV.v (Value.bool (intT (Int.ofNat 3) (bts (itoaB n))))) (AV.lit false))).a Cnd.t).a (((Cnd.p (Wk (AV.v (Value.bool true)) (AV.lit true))).a Cnd.t).a (((Cnd.p (Wk (AV.v (Value.bool (decide (n > Int.negSucc 999999999999999999)))) (AV.lit true))).a Cnd.t).a (((Cnd.p (Wk (AV.v (Value.bool (decide (n < Int.ofNat 1000000000000000000)))) (AV.lit false))).a Cnd.t).a ((((Cnd.p (true = true)).a Cnd.t).a ((Cnd.p (true = true)).a ((Cnd.p ([AV.v (Value.int IntKind.i64 (Int.ofNat 4)), AV.v (Value.int IntKind.i64 (Int.ofNat 0)), AV.v (Value.string t), AV.v (Value.slice none 0 0), AV.v (Value.slice none 0 0)] = [AV.v (Value.int IntKind.i64 (Int.ofNat 4)), AV.v (Value.int IntKind.i64 (Int.ofNat 0)), AV.v (Value.string t), AV.v (Value.slice none 0 0), AV.v (Value.slice none 0 0)])).a Cnd.t))).a (((Cnd.p (Wk (AV.v (Value.bool (t.toList == t.toList))) (AV.lit true))).a Cnd.t).a ((((Cnd.p (true = true)).a Cnd.t).a ((Cnd.p (true = true)).a ((Cnd.p ([AV.v (Value.int IntKind.i64 (Int.ofNat 4)), AV.v (Value.int IntKind.i64 (Int.ofNat 0)), AV.v (Value.string t), AV.v (Value.slice none 0 0), AV.v (Value.slice none 0 0)] = [AV.v (Value.int IntKind.i64 (Int.ofNat 4)), AV.v (Value.int IntKind.i64 (Int.ofNat 0)), AV.v (Value.string t), AV.v (Value.slice none 0 0), AV.v (Value.slice none 0 0)])).a Cnd.t))).a (((Cnd.p (Alike W (Rj.mk (Int.ofNat 4) (Int.ofNat 0) t none 0 0 none 0 0) (Rj.mk (Int.ofNat 4) (Int.ofNat 0) t none 0 0 none 0 0))).a ((Cnd.p (VW [AV.agg [AV.v (Value.int IntKind.i64 (Int.ofNat 4)), AV.v (Value.int IntKind.i64 (Int.ofNat 0)), AV.v (Value.string t), AV.v (Value.slice none 0 0), AV.v (Value.slice none 0 0)], AV.agg [AV.v (Value.int IntKind.i64 (Int.ofNat 4)), AV.v (Value.int IntKind.i64 (Int.ofNat 0)), AV.v (Value.string t), AV.v (Value.slice none 0 0), AV.v (Value.slice none 0 0)]] [AV.agg [AV.v (Value.int IntKind.i64 (Int.ofNat 4)), AV.v (Value.int IntKind.i64 (Int.ofNat 0)), AV.v (Value.string t), AV.v (Value.slice none 0 0), AV.v (Value.slice none 0 0)], AV.agg [AV.v (Value.int IntKind.i64 (Int.ofNat 4)), AV.v (Value.int IntKind.i64 (Int.ofNat 0)), AV.v (Value.string t), AV.v (Value.slice none 0 0), AV.v (Value.slice none 0 0)]])).a ((Cnd.p (Wk (AV.v (Value.bool true)) (AV.lit true))).a Cnd.t))).a (((Cnd.p (Wk (AV.v (Value.bool (decide (n > Int.ofNat 0)))) (AV.lit true))).a Cnd.t).a ((((Cnd.p (true = true)).a Cnd.t).a ((Cnd.p (true = true)).a ((Cnd.p ([AV.v (Value.int IntKind.i64 (Int.ofNat 2)), AV.v (Value.int IntKind.i64 (Int.ofNat 1)), AV.v (Value.string (ByteArray.mk (Array.mk []))), AV.v (Value.slice none 0 0), AV.v (Value.slice none 0 0)] = [AV.v (Value.int IntKind.i64 (Int.ofNat 2)), AV.v (Value.int IntKind.i64 (Int.ofNat 1)), AV.v (Value.string (ByteArray.mk (Array.mk []))), AV.v (Value.slice none 0 0), AV.v (Value.slice none 0 0)])).a Cnd.t))).a (((Cnd.p (Wk (AV.v (Value.int IntKind.i64 (if n > Int.ofNat 0 then n else Int.ofNat 0))) (AV.v (Value.int IntKind.i64 m)))).a Cnd.t).a (((Cnd.p (Wk (AV.v (Value.int IntKind.i64 (if m < Int.ofNat 1 then m else Int.ofNat 1))) (AV.v (Value.int IntKind.i64 (Int.ofNat 1))))).a Cnd.t).a (((Cnd.p (Alike W (Rj.mk (Int.ofNat 2) (Int.ofNat 1) (ByteArray.mk (Array.mk [])) none 0 0 none 0 0) (Rj.mk (Int.ofNat 2) (Int.ofNat 1) (ByteArray.mk (Array.mk [])) none 0 0 none 0 0))).a ((Cnd.p (VW [AV.agg [AV.v (Value.int IntKind.i64 (Int.ofNat 2)), AV.v (Value.int IntKind.i64 (Int.ofNat 1)), AV.v (Value.string (ByteArray.mk (Array.mk []))), AV.v (Value.slice none 0 0), AV.v (Value.slice none 0 0)], AV.agg [AV.v (Value.int IntKind.i64 (Int.ofNat 2)), AV.v (Value.int IntKind.i64 (Int.ofNat 1)), AV.v (Value.string (ByteArray.mk (Array.mk []))), AV.v (Value.slice none 0 0), AV.v (Value.slice none 0 0)]] [AV.agg [AV.v (Value.int IntKind.i64 (Int.ofNat 2)), AV.v (Value.int IntKind.i64 (Int.ofNat 1)), AV.v (Value.string (ByteArray.mk (Array.mk []))), AV.v (Value.slice none 0 0), AV.v (Value.slice none 0 0)], AV.agg [AV.v (Value.int IntKind.i64 (Int.ofNat 2)), AV.v (Value.int IntKind.i64 (Int.ofNat 1)), AV.v (Value.string (ByteArray.mk (Array.mk []))), AV.v (Value.slice none 0 0), AV.v (Value.slice none 0 0)]])).a Cnd.t)).a Cnd.t)))))))))))))))))))))))))))))))))))))))))))) (VT.leaf (AV.v (Value.bool true)) [] 1108 (((Cnd.p True).a ((Cnd.p (VW [] [])).a Cnd.t)).a (((Cnd.p (Wk (AV.v (Value.bool false)) (AV.lit false))).a Cnd.t).a (((Cnd.p (true = true)).a ((Cnd.p ([AV.v (Value.int IntKind.i64 r.k), AV.v (Value.int IntKind.i64 r.n), AV.v (Value.string r.t), AV.v (Value.slice r.la r.ll r.lc), AV.v (Value.slice r.na r.nl r.nc)] = [AV.v (Value.int IntKind.i64 r.k), AV.v (Value.int IntKind.i64 r.n), AV.v (Value.string r.t), AV.v (Value.slice r.la r.ll r.lc), AV.v (Value.slice r.na r.nl r.nc)])).a Cnd.t)).a (((Cnd.p True).a ((Cnd.p (VW [AV.agg [AV.v (Value.int IntKind.i64 r.k), AV.v (Value.int IntKind.i64 r.n), AV.v (Value.string r.t), AV.v (Value.slice r.la r.ll r.lc), AV.v (Value.slice r.na r.nl r.nc)], AV.v (Value.string t)] [AV.agg [AV.v (Value.int IntKind.i64 r.k), AV.v (Value.int IntKind.i64 r.n), AV.v (Value.string r.t), AV.v (Value.slice r.la r.ll r.lc), AV.v (Value.slice r.na r.nl r.nc)], AV.v (Value.string t)])).a Cnd.t)).a (((Cnd.p (true = true)).a Cnd.t).a (((Cnd.p (true = true)).a ((Cnd.p ([AV.v (Value.int IntKind.i64 r.k), AV.v (Value.int IntKind.i64 r.n), AV.v (Value.string r.t), AV.v (Value.slice r.la r.ll r.lc), AV.v (Value.slice r.na r.nl r.nc)] = [AV.v (Value.int IntKind.i64 r.k), AV.v (Value.int IntKind.i64 r.n), AV.v (Value.string r.t), AV.v (Value.slice r.la r.ll r.lc), AV.v (Value.slice r.na r.nl r.nc)])).a Cnd.t)).a (((Cnd.p True).a ((Cnd.p (VW [AV.agg [AV.v (Value.int IntKind.i64 r.k), AV.v (Value.int IntKind.i64 r.n), AV.v (Value.string r.t), AV.v (Value.slice r.la r.ll r.lc), AV.v (Value.slice r.na r.nl r.nc)], AV.v (Value.string t)] [AV.agg [AV.v (Value.int IntKind.i64 r.k), AV.v (Value.int IntKind.i64 r.n), AV.v (Value.string r.t), AV.v (Value.slice r.la r.ll r.lc), AV.v (Value.slice r.na r.nl r.nc)], AV.v (Value.string t)])).a Cnd.t)).a (((Cnd.p (true = true)).a Cnd.t).a (((Cnd.p (true = true)).a ((Cnd.p ([AV.v (Value.int IntKind.i64 r.k), AV.v (Value.int IntKind.i64 r.n), AV.v (Value.string r.t), AV.v (Value.slice r.la r.ll r.lc), AV.v (Value.slice r.na r.nl r.nc)] = [AV.v (Value.int IntKind.i64 r.k), AV.v (Value.int IntKind.i64 r.n), AV.v (Value.string r.t), AV.v (Value.slice r.la r.ll r.lc), AV.v (Value.slice r.na r.nl r.nc)])).a Cnd.t)).a (((Cnd.p (r.t.size ≤ 4611686018427387904)).a ((Cnd.p (VW [AV.agg [AV.v (Value.int IntKind.i64 r.k), AV.v (Value.int IntKind.i64 r.n), AV.v (Value.string r.t), AV.v (Value.slice r.la r.ll r.lc), AV.v (Value.slice r.na r.nl r.nc)]] [AV.agg [AV.v (Value.int IntKind.i64 r.k), AV.v (Value.int IntKind.i64 r.n), AV.v (Value.string r.t), AV.v (Value.slice r.la r.ll r.lc), AV.v (Value.slice r.na r.nl r.nc)]])).a Cnd.t)).a (((Cnd.p (true = true)).a ((Cnd.p ([AV.v (Value.int IntKind.i64 r.k), AV.v (Value.int IntKind.i64 r.n), AV.v (Value.string r.t), AV.v (Value.slice r.la r.ll r.lc), AV.v (Value.slice r.na r.nl r.nc)] = [AV.v (Value.int IntKind.i64 r.k), AV.v (Value.int IntKind.i64 r.n), AV.v (Value.string r.t), AV.v (Value.slice r.la r.ll r.lc), AV.v (Value.slice r.na r.nl r.nc)])).a Cnd.t)).a (((Cnd.p (r.t.size ≤ 4611686018427387904)).a ((Cnd.p (VW [AV.agg [AV.v (Value.int IntKind.i64 r.k), AV.v (Value.int IntKind.i64 r.n), AV.v (Value.string r.t), AV.v (Value.slice r.la r.ll r.lc), AV.v (Value.slice r.na r.nl r.nc)]] [AV.agg [AV.v (Value.int IntKind.i64 r.k), AV.v (Value.int IntKind.i64 r.n), AV.v (Value.string r.t), AV.v (Value.slice r.la r.ll r.lc), AV.v (Value.slice r.na r.nl r.nc)]])).a Cnd.t)).a (((Cnd.p (Wk (AV.v (Value.bool !b == b)) (AV.lit false))).a Cnd.t).a (((Cnd.p (true = true)).a ((Cnd.p ([AV.v (Value.int IntKind.i64 x.k), AV.v (Value.int IntKind.i64 x.n), AV.v (Value.string x.t), AV.v (Value.slice x.la x.ll x.lc), AV.v (Value.slice x.na x.nl x.nc)] = [AV.v (Value.int IntKind.i64 x.k), AV.v (Value.int IntKind.i64 x.n), AV.v (Value.string x.t), AV.v (Value.slice x.la x.ll x.lc), AV.v (Value.slice x.na x.nl x.nc)])).a Cnd.t)).a (((Cnd.p (true = true)).a ((Cnd.p ([AV.v (Value.int IntKind.i64 x.k), AV.v (Value.int IntKind.i64 x.n), AV.v (Value.string x.t), AV.v (Value.slice x.la x.ll x.lc), AV.v (Value.slice x.na x.nl x.nc)] = [AV.v (Value.int IntKind.i64 x.k), AV.v (Value.int IntKind.i64 x.n), AV.v (Value.string x.t), AV.v (Value.slice x.la x.ll x.lc), AV.v (Value.slice x.na x.nl x.nc)])).a Cnd.t)).a (((Cnd.p (Alike W (Rj.mk x.k x.n x.t x.la x.ll x.lc x.na x.nl x.nc) (Rj.mk x.k x.n x.t x.la x.ll x.lc x.na x.nl x.nc))).a ((Cnd.p (VW [AV.agg [AV.v (Value.int IntKind.i64 x.k), AV.v (Value.int IntKind.i64 x.n), AV.v (Value.string x.t), AV.v (Value.slice x.la x.ll x.lc), AV.v (Value.slice x.na x.nl x.nc)], AV.agg [AV.v (Value.int IntKind.i64 x.k), AV.v (Value.int IntKind.i64 x.n), AV.v (Value.string x.t), AV.v (Value.slice x.la x.ll x.lc), AV.v (Value.slice x.na x.nl x.nc)]] [AV.agg [AV.v (Value.int IntKind.i64 x.k), AV.v (Value.int IntKind.i64 x.n), AV.v (Value.string x.t), AV.v (Value.slice x.la x.ll x.lc), AV.v (Value.slice x.na x.nl x.nc)], AV.agg [AV.v (Value.int IntKind.i64 x.k), AV.v (Value.int IntKind.i64 x.n), AV.v (Value.string x.t), AV.v (Value.slice x.la x.ll x.lc), AV.v (Value.slice x.na x.nl x.nc)]])).a Cnd.t)).a (((Cnd.p (Wk (AV.v (Value.bool false)) (AV.lit false))).a Cnd.t).a (((Cnd.p (Wk (AV.v (Value.bool (intV r.k (bts r.t) != intV r.k (bts r.t)))) (AV.lit false))).a Cnd.t).a (((Cnd.p (Wk (AV.v (Value.bool !intT r.k (bts r.t) == intT r.k (bts r.t))) (AV.lit false))).a Cnd.t).a ((((Cnd.p (Int.negSucc 9223372036854775807 ≤ n ∧ n ≤ Int.ofNat 9223372036854775807)).a Cnd.t).a (((Cnd.p (true = true)).a Cnd.t).a ((Cnd.p (true = true)).a ((Cnd.p ([AV.v (Value.int IntKind.i64 (Int.ofNat 3)), AV.v (Value.int IntKind.i64 (Int.ofNat 0)), AV.v (Value.string (itoaB n)), AV.v (Value.slice none 0 0), AV.v (Value.slice none 0 0)] = [AV.v (Value.int IntKind.i64 (Int.ofNat 3)), AV.v (Value.int IntKind.i64 (Int.ofNat 0)), AV.v (Value.string (itoaB n)), AV.v (Value.slice none 0 0), AV.v (Value.slice none 0 0)])).a Cnd.t)))).a (((Cnd.p (true = true)).a Cnd.t).a (((Cnd.p (true = true)).a ((Cnd.p ([AV.v (Value.int IntKind.i64 (Int.ofNat 3)), AV.v (Value.int IntKind.i64 (Int.ofNat 0)), AV.v (Value.string (itoaB n)), AV.v (Value.slice none 0 0), AV.v (Value.slice none 0 0)] = [AV.v (Value.int IntKind.i64 (Int.ofNat 3)), AV.v (Value.int IntKind.i64 (Int.ofNat 0)), AV.v (Value.string (itoaB n)), AV.v (Value.slice none 0 0), AV.v (Value.slice none 0 0)])).a Cnd.t)).a (((Cnd.p (WrOK (itoaB n))).a ((Cnd.p (VW [AV.agg [AV.v (Value.int IntKind.i64 (Int.ofNat 3)), AV.v (Value.int IntKind.i64 (Int.ofNat 0)), AV.v (Value.string (itoaB n)), AV.v (Value.slice none 0 0), AV.v (Value.slice none 0 0)]] [AV.agg [AV.v (Value.int IntKind.i64 (Int.ofNat 3)), AV.v (Value.int IntKind.i64 (Int.ofNat 0)), AV.v (Value.string (itoaB n)), AV.v (Value.slice none 0 0), AV.v (Value.slice none 0 0)]])).a Cnd.t)).a (((Cnd.p (Wk (AV.v (Value.bool false)) (AV.lit false))).a Cnd.t).a (((Cnd.p (true = true)).a ((Cnd.p (AV.v (Value.string (itoaB n)) = AV.v (Value.string (itoaB n)))).a Cnd.t)).a (((Cnd.p (Wk (AV.v (Value.bool !(itoaB n).toList == (itoaB n).toList)) (AV.lit false))).a Cnd.t).a (((Cnd.p (true = true)).a ((Cnd.p (AV.v (Value.int IntKind.i64 (Int.ofNat 3)) = AV.v (Value.int IntKind.i64 (Int.ofNat 3)))).a Cnd.t)).a (((Cnd.p (Wk (AV.v (Value.bool false)) (AV.lit false))).a Cnd.t).a (((Cnd.p (true = true)).a ((Cnd.p ([AV.v (Value.int IntKind.i64 (Int.ofNat 3)), AV.v (Value.int IntKind.i64 (Int.ofNat 0)), AV.v (Value.string (itoaB n)), AV.v (Value.slice none 0 0), AV.v (Value.slice none 0 0)] = [AV.v (Value.int IntKind.i64 (Int.ofNat 3)), AV.v (Value.int IntKind.i64 (Int.ofNat 0)), AV.v (Value.string (itoaB n)), AV.v (Value.slice none 0 0), AV.v (Value.slice none 0 0)])).a Cnd.t)).a (((Cnd.p ((itoaB n).size ≤ 4611686018427387904)).a ((Cnd.p (VW [AV.agg [AV.v (Value.int IntKind.i64 (Int.ofNat 3)), AV.v (Value.int IntKind.i64 (Int.ofNat 0)), AV.v (Value.string (itoaB n)), AV.v (Value.slice none 0 0), AV.v (Value.slice none 0 0)]] [AV.agg [AV.v (Value.int IntKind.i64 (Int.ofNat 3)), AV.v (Value.int IntKind.i64 (Int.ofNat 0)), AV.v (Value.string (itoaB n)), AV.v (Value.slice none 0 0), AV.v (Value.slice none 0 0)]])).a Cnd.t)).a (((Cnd.p (Wk (AV.v (Value.bool (intT (Int.ofNat 3) (bts (itoaB n))))) (AV.lit false))).a Cnd.t).a (((Cnd.p (Wk (AV.v (Value.bool true)) (AV.lit true))).a Cnd.t).a (((Cnd.p (Wk (AV.v (Value.bool (decide (n > Int.negSucc 999999999999999999)))) (AV.lit true))).a Cnd.t).a (((Cnd.p (Wk (AV.v (Value.bool (decide (n < Int.ofNat 1000000000000000000)))) (AV.lit false))).a Cnd.t).a ((((Cnd.p (true = true)).a Cnd.t).a ((Cnd.p (true = true)).a ((Cnd.p ([AV.v (Value.int IntKind.i64 (Int.ofNat 4)), AV.v (Value.int IntKind.i64 (Int.ofNat 0)), AV.v (Value.string t), AV.v (Value.slice none 0 0), AV.v (Value.slice none 0 0)] = [AV.v (Value.int IntKind.i64 (Int.ofNat 4)), AV.v (Value.int IntKind.i64 (Int.ofNat 0)), AV.v (Value.string t), AV.v (Value.slice none 0 0), AV.v (Value.slice none 0 0)])).a Cnd.t))).a (((Cnd.p (Wk (AV.v (Value.bool (t.toList == t.toList))) (AV.lit true))).a Cnd.t).a ((((Cnd.p (true = true)).a Cnd.t).a ((Cnd.p (true = true)).a ((Cnd.p ([AV.v (Value.int IntKind.i64 (Int.ofNat 4)), AV.v (Value.int IntKind.i64 (Int.ofNat 0)), AV.v (Value.string t), AV.v (Value.slice none 0 0), AV.v (Value.slice none 0 0)] = [AV.v (Value.int IntKind.i64 (Int.ofNat 4)), AV.v (Value.int IntKind.i64 (Int.ofNat 0)), AV.v (Value.string t), AV.v (Value.slice none 0 0), AV.v (Value.slice none 0 0)])).a Cnd.t))).a (((Cnd.p (Alike W (Rj.mk (Int.ofNat 4) (Int.ofNat 0) t none 0 0 none 0 0) (Rj.mk (Int.ofNat 4) (Int.ofNat 0) t none 0 0 none 0 0))).a ((Cnd.p (VW [AV.agg [AV.v (Value.int IntKind.i64 (Int.ofNat 4)), AV.v (Value.int IntKind.i64 (Int.ofNat 0)), AV.v (Value.string t), AV.v (Value.slice none 0 0), AV.v (Value.slice none 0 0)], AV.agg [AV.v (Value.int IntKind.i64 (Int.ofNat 4)), AV.v (Value.int IntKind.i64 (Int.ofNat 0)), AV.v (Value.string t), AV.v (Value.slice none 0 0), AV.v (Value.slice none 0 0)]] [AV.agg [AV.v (Value.int IntKind.i64 (Int.ofNat 4)), AV.v (Value.int IntKind.i64 (Int.ofNat 0)), AV.v (Value.string t), AV.v (Value.slice none 0 0), AV.v (Value.slice none 0 0)], AV.agg [AV.v (Value.int IntKind.i64 (Int.ofNat 4)), AV.v (Value.int IntKind.i64 (Int.ofNat 0)), AV.v (Value.string t), AV.v (Value.slice none 0 0), AV.v (Value.slice none 0 0)]])).a ((Cnd.p (Wk (AV.v (Value.bool true)) (AV.lit true))).a Cnd.t))).a (((Cnd.p (Wk (AV.v (Value.bool (decide (n > Int.ofNat 0)))) (AV.lit true))).a Cnd.t).a ((((Cnd.p (true = true)).a Cnd.t).a ((Cnd.p (true = true)).a ((Cnd.p ([AV.v (Value.int IntKind.i64 (Int.ofNat 2)), AV.v (Value.int IntKind.i64 (Int.ofNat 0)), AV.v (Value.string (ByteArray.mk (Array.mk []))), AV.v (Value.slice none 0 0), AV.v (Value.slice none 0 0)] = [AV.v (Value.int IntKind.i64 (Int.ofNat 2)), AV.v (Value.int IntKind.i64 (Int.ofNat 0)), AV.v (Value.string (ByteArray.mk (Array.mk []))), AV.v (Value.slice none 0 0), AV.v (Value.slice none 0 0)])).a Cnd.t))).a (((Cnd.p (Wk (AV.v (Value.int IntKind.i64 (if n > Int.ofNat 0 then n else Int.ofNat 0))) (AV.v (Value.int IntKind.i64 m)))).a Cnd.t).a (((Cnd.p (Wk (AV.v (Value.int IntKind.i64 (if m < Int.ofNat 1 then m else Int.ofNat 1))) (AV.v (Value.int IntKind.i64 (Int.ofNat 1))))).a Cnd.t).a (((Cnd.p (Alike W (Rj.mk (Int.ofNat 2) (Int.ofNat 0) (ByteArray.mk (Array.mk [])) none 0 0 none 0 0) (Rj.mk (Int.ofNat 2) (Int.ofNat 1) (ByteArray.mk (Array.mk [])) none 0 0 none 0 0))).a ((Cnd.p (VW [AV.agg [AV.v (Value.int IntKind.i64 (Int.ofNat 2)), AV.v (Value.int IntKind.i64 (Int.ofNat 0)), AV.v (Value.string (ByteArray.mk (Array.mk []))), AV.v (Value.slice none 0 0), AV.v (Value.slice none 0 0)], AV.agg [AV.v (Value.int IntKind.i64 (Int.ofNat 2)), AV.v (Value.int IntKind.i64 (Int.ofNat 1)), AV.v (Value.string (ByteArray.mk (Array.mk []))), AV.v (Value.slice none 0 0), AV.v (Value.slice none 0 0)]] [AV.agg [AV.v (Value.int IntKind.i64 (Int.ofNat 2)), AV.v (Value.int IntKind.i64 (Int.ofNat 0)), AV.v (Value.string (ByteArray.mk (Array.mk []))), AV.v (Value.slice none 0 0), AV.v (Value.slice none 0 0)], AV.agg [AV.v (Value.int IntKind.i64 (Int.ofNat 2)), AV.v (Value.int IntKind.i64 (Int.ofNat 1)), AV.v (Value.string (ByteArray.mk (Array.mk []))), AV.v (Value.slice none 0 0), AV.v (Value.slice none 0 0)]])).a Cnd.t)).a Cnd.t)))))))))))))))))))))))))))))))))))))))))))) := by kernel_rfl
end
end Go.Proofs.YtdphpillcaajpaaDoor.Js

/- Json: members, whole numbers and simple values: the law. -/
set_option linter.unusedVariables false
set_option linter.unusedSimpArgs false
set_option maxRecDepth 100000
namespace Go.Proofs.YtdphpillcaajpaaDoor.Js
open Go Go.RowKit Go.Proofs.YtdphpillcaajpaaDoor.Eng Go.Proofs.YtdphpillcaajpaaDoor.Kit
structure LW2 (W : World) : Prop extends LW W where
  laid : LaidOk Sp.cfg W
variable {W : World}
theorem Spk_tri (hL : LaidOk Sp.cfg W) : Tri Tryd.prog W fSpk [] [] (bv true) [] := tri_below fun W0 F N w vargs hF hNB r ha => by
  have hva : vargs = #[] := by
    apply Array.ext'
    simpa only [VRs] using ha
  subst hva
  obtain ⟨D0, D, h1, h2, h3⟩ := r.sat
  have hs : Stays W w := hF D0 w h1
  exact Sp.speaks_closed fun x hx j v hv => hs.cell (hL x hx j v hv)
theorem gJ_ro (v : AV) : RO (gJ v) := by
  unfold gJ
  split
  · exact RO.ret _
  · exact RO.fail _
theorem gJ1_ro (args : List AV) : RO (gJ1 args) := by
  unfold gJ1
  split
  · exact gJ_ro _
  · exact RO.fail _
theorem gJ2_ro (args : List AV) : RO (gJ2 args) := by
  unfold gJ2 gJ
  repeat' split
  all_goals first | exact RO.ret _ | exact RO.fail _
theorem aggJ_cl (K : Nat → Bool) (r : Rj) : AV.cl K (aggJ r) := ⟨trivial, trivial, trivial, trivial, trivial, trivial⟩
theorem cSpk_ok (hL : LaidOk Sp.cfg W) (F : HP) (hF : OldOK W F) : C1OK Tryd.prog F fSpk cSpk :=
  mkC_ok hF (fun _ => bv true) (fun _ => RO.ret _) (fun _ => rfl) (fun _ _ => Spk_tri hL) fun _ => ⟨rfl, rfl, trivial, all_nil, ⟨trivial, trivial⟩, all_nil⟩
theorem cInt_ok (F : HP) (hF : OldOK W F) : C1OK Tryd.prog F fInt cInt :=
  mkC_ok hF (fun r => intR r.k (bts r.t)) gJ1_ro (fun _ => rfl) (fun r hs => Int_tri r hs) fun r => ⟨rfl, rfl, ⟨aggJ_cl _ _, trivial⟩, all_nil, ⟨⟨trivial, trivial, trivial⟩, trivial⟩, all_nil⟩
theorem cRInt_ok (F : HP) (hF : OldOK W F) : C1OK Tryd.prog F fRInt cInt :=
  mkC_ok hF (fun r => intR r.k (bts r.t)) gJ1_ro (fun _ => rfl) (fun r hs => RInt_tri r hs) fun r => ⟨rfl, rfl, ⟨aggJ_cl _ _, trivial⟩, all_nil, ⟨⟨trivial, trivial, trivial⟩, trivial⟩, all_nil⟩
theorem cMe_ok {f : Nat} {r x : Rj} {t : ByteArray} {b : Bool} (h : Tri Tryd.prog W f [aggJ r, sv t] [] (memR x b) []) (F : HP) (hF : OldOK W F) : C1OK Tryd.prog F f (cMe r x t b) :=
  mkC_ok hF (fun _ => memR x b) (fun _ => RO.ret _) (fun _ => rfl) (fun _ _ => h) fun _ => ⟨rfl, rfl, ⟨aggJ_cl _ _, trivial, trivial⟩, all_nil, ⟨⟨aggJ_cl _ _, trivial, trivial⟩, trivial⟩, all_nil⟩
theorem cSm_ok (F : HP) (hF : OldOK W F) : C1OK Tryd.prog F fSa (cSm W) :=
  mkC_ok hF (fun _ => bv true) gJ2_ro (fun _ => rfl) (fun p ⟨d, v, h1, h2⟩ => Same_tri W d v p.1 p.2 h1 h2) fun p => ⟨rfl, rfl, ⟨aggJ_cl _ _, aggJ_cl _ _, trivial⟩, all_nil, ⟨trivial, trivial⟩, all_nil⟩
theorem cWt_ok (F : HP) (hF : OldOK W F) : C1OK Tryd.prog F fWr cWt :=
  mkC_ok hF (fun p => .tuple [sv p.t, iv 0]) gJ1_ro (fun _ => rfl) (fun p hp => Write_tri p.t hp.1 hp.2.1 hp.2.2) fun p => ⟨rfl, rfl, ⟨aggJ_cl _ _, trivial⟩, all_nil, ⟨⟨trivial, trivial, trivial⟩, trivial⟩, all_nil⟩
theorem itoa_bts (n : Int) : bts (itoaB n) = Lib.itoa n := tB_data _
theorem itoa_wr (n : Int) (h0 : -9223372036854775808 ≤ n) (h1 : n ≤ 9223372036854775807) : WrOK (itoaB n) := by
  obtain ⟨q1, q2, q3⟩ := itoa_law n
  have hl := Lib.itoa_length_le n h0 h1
  have hsz : (itoaB n).size = (Lib.itoa n).length := tB_size _
  refine ⟨?_, by omega, by rw [itoa_bts]; exact (num_int (int_noDots q1)).2 q1⟩
  rw [hsz]
  cases h : Lib.itoa n with
  | nil => rw [h] at q1; cases q1
  | cons a l => simp
theorem itoa_T (n : Int) : intT 3 (bts (itoaB n)) = decide ((body (Lib.itoa n)).length ≤ 18) := by
  rw [itoa_bts]; unfold intT; rw [(itoa_law n).1]; rfl
theorem itoa_V (n : Int) (h : intT 3 (bts (itoaB n)) = true) : intV 3 (bts (itoaB n)) = n := by
  unfold intV; rw [h, if_pos rfl, itoa_bts]; exact (itoa_law n).2.1
theorem alike_plain (k n : Int) (t : ByteArray) : Alike W (plainR k n t) (plainR k n t) := ⟨1, _, plain_at _ k n t, plain_at _ k n t⟩
theorem Parts_tri (hW : LW2 W) {d : Nat} {v : Jv} {r : Rj} (ha : JAt W.cell? (d + 1) v r) (t : ByteArray) (n : Int) (hs : r.t.size ≤ 4611686018427387904) (h0 : -9223372036854775808 ≤ n) (h1 : n ≤ 9223372036854775807) : Tri Tryd.prog W fLaw [aggJ r, sv t, iv n] [] (bv true) [] := by
  obtain ⟨x, b, e, u, hx, hm1, hm2⟩ := Mem_tri ha t
  have hcon : ∀ F, OldOK W F → ∀ y ∈ conPt W r x t b, C1OK Tryd.prog F y.1 y.2 := fun F hF =>
    con_cons (cSpk_ok hW.laid F hF) (con_cons (cMe_ok hm1 F hF) (con_cons (cMe_ok hm2 F hF) (con_cons (cInt_ok F hF) (con_cons (cRInt_ok F hF) (con_cons (cSm_ok F hF) (con_cons (cWt_ok F hF) (one_c (cItoa_ok hW.toLW hF))))))))
  have hal : Alike W x x := ⟨e, u, hx, hx⟩
  have hwr := itoa_wr n h0 h1
  have hrange : -9223372036854775808 ≤ n ∧ n ≤ 9223372036854775807 := ⟨h0, h1⟩
  have hb : (!(b == b)) = false := by cases b <;> rfl
  have hb2 : (!(intT r.k (bts r.t) == intT r.k (bts r.t))) = false := by cases intT r.k (bts r.t) <;> rfl
  have hv : (intV r.k (bts r.t) != intV r.k (bts r.t)) = false := bne_self_eq_false _
  have ht : (!((itoaB n).toList == (itoaB n).toList)) = false := by rw [beq_self_eq_true]; rfl
  have ht2 : (t.toList == t.toList) = true := beq_self_eq_true _
  have a1 : Alike W (plainR 4 0 t) (plainR 4 0 t) := alike_plain 4 0 t
  have a2 : Alike W (plainR 2 1 nil0) (plainR 2 1 nil0) := alike_plain 2 1 nil0
  have a3 : Alike W (plainR 2 0 nil0) (plainR 2 0 nil0) := alike_plain 2 0 nil0
  have hT := itoa_T n
  have hlen := (itoa_law n).2.2
  by_cases hsm : (body (Lib.itoa n)).length ≤ 18
  · rw [decide_eq_true hsm] at hT
    have hV : (intV 3 (bts (itoaB n)) != n) = false := by rw [itoa_V n hT]; exact bne_self_eq_false _
    by_cases hp : n > Int.ofNat 0
    · have hpos : decide (n > Int.ofNat 0) = true := decide_eq_true hp
      have hm : (if n > Int.ofNat 0 then n else Int.ofNat 0) = n := if_pos hp
      have hk : (if n < Int.ofNat 1 then n else Int.ofNat 1) = 1 := if_neg (by have hp0 : 0 < n := hp; intro hh; have hh : n < 1 := hh; omega)
      refine tri_run (con := conPt W r x t b) (hints := hPt true false false true n 1) (lc := []) [] rfl hcon (fun F _ => noL) fun F => ?_
      refine cast (congrArg (VAll _) (oPtSp_eq W r x t b n n F).symm) ?_
      refine VAll.ite (fun _ => ?_) (fun h => absurd h (by decide))
      refine ⟨⟨?_, fits_true⟩⟩
      simp only [Cnd.holds, Nat.blt_eq, true_and, and_true]
      and_intros
      all_goals first
        | exact wk_litE rfl
        | exact wk_litE hb
        | exact wk_litE hb2
        | exact wk_litE hv
        | exact wk_litE ht
        | exact wk_litE ht2
        | exact wk_litE hT
        | exact wk_litE hV
        | exact wk_litE hpos
        | exact wk_int hm
        | exact wk_int hk
        | exact hs
        | exact hal
        | exact hwr.1
        | exact hwr.2.1
        | exact Nat.le_trans hwr.2.1 (by decide)
        | exact hwr.2.2
        | exact h0
        | exact h1
        | exact a1
        | exact a2
        | exact a3
        | (with_reducible exact trivial)
        | (with_reducible exact rfl)
        | (with_reducible exact Wk.refl _)
        | (with_reducible exact VW.refl _)
        | (with_reducible exact OW.refl _)
        | (with_reducible exact wk_lit _)
        | (with_reducible assumption)
        | exact rfl
        | exact Wk.refl _
        | exact VW.refl _
        | exact OW.refl _
        | ((repeat (first | exact VW.nil | refine VW.cons (Wk.refl _) ?_ | refine VW.cons (Wk.any _) ?_ | refine VW.cons (wk_cap (Nat.le_refl _)) ?_)); done)
    · have hpos : decide (n > Int.ofNat 0) = false := decide_eq_false hp
      have hm : (if n > Int.ofNat 0 then n else Int.ofNat 0) = 0 := if_neg hp
      have hk : (if (0 : Int) < Int.ofNat 1 then (0 : Int) else Int.ofNat 1) = 0 := rfl
      refine tri_run (con := conPt W r x t b) (hints := hPt true false false false 0 0) (lc := []) [] rfl hcon (fun F _ => noL) fun F => ?_
      refine cast (congrArg (VAll _) (oPtSn_eq W r x t b n 0 F).symm) ?_
      refine VAll.ite (fun h => absurd h (by decide)) (fun _ => ?_)
      refine ⟨⟨?_, fits_true⟩⟩
      simp only [Cnd.holds, Nat.blt_eq, true_and, and_true]
      and_intros
      all_goals first
        | exact wk_litE rfl
        | exact wk_litE hb
        | exact wk_litE hb2
        | exact wk_litE hv
        | exact wk_litE ht
        | exact wk_litE ht2
        | exact wk_litE hT
        | exact wk_litE hV
        | exact wk_litE hpos
        | exact wk_int hm
        | exact wk_int hk
        | exact hs
        | exact hal
        | exact hwr.1
        | exact hwr.2.1
        | exact Nat.le_trans hwr.2.1 (by decide)
        | exact hwr.2.2
        | exact h0
        | exact h1
        | exact a1
        | exact a2
        | exact a3
        | (with_reducible exact trivial)
        | (with_reducible exact rfl)
        | (with_reducible exact Wk.refl _)
        | (with_reducible exact VW.refl _)
        | (with_reducible exact OW.refl _)
        | (with_reducible exact wk_lit _)
        | (with_reducible assumption)
        | exact rfl
        | exact Wk.refl _
        | exact VW.refl _
        | exact OW.refl _
        | ((repeat (first | exact VW.nil | refine VW.cons (Wk.refl _) ?_ | refine VW.cons (Wk.any _) ?_ | refine VW.cons (wk_cap (Nat.le_refl _)) ?_)); done)
  · rw [decide_eq_false hsm] at hT
    by_cases hlo : n > -1000000000000000000
    · have hhi : ¬ n < 1000000000000000000 := fun h => hsm (hlen hlo h)
      have hp : n > Int.ofNat 0 := by simp only [Int.ofNat_eq_natCast]; omega
      have g1 : decide (n > Int.negSucc 999999999999999999) = true := decide_eq_true hlo
      have g2 : decide (n < Int.ofNat 1000000000000000000) = false := decide_eq_false hhi
      have hpos : decide (n > Int.ofNat 0) = true := decide_eq_true hp
      have hm : (if n > Int.ofNat 0 then n else Int.ofNat 0) = n := if_pos hp
      have hk : (if n < Int.ofNat 1 then n else Int.ofNat 1) = 1 := if_neg (by have hp0 : 0 < n := hp; intro hh; have hh : n < 1 := hh; omega)
      refine tri_run (con := conPt W r x t b) (hints := hPt false true false true n 1) (lc := []) [] rfl hcon (fun F _ => noL) fun F => ?_
      refine cast (congrArg (VAll _) (oPtGp_eq W r x t b n n F).symm) ?_
      refine VAll.ite (fun _ => ?_) (fun h => absurd h (by decide))
      refine ⟨⟨?_, fits_true⟩⟩
      simp only [Cnd.holds, Nat.blt_eq, true_and, and_true]
      and_intros
      all_goals first
        | exact wk_litE rfl
        | exact wk_litE hb
        | exact wk_litE hb2
        | exact wk_litE hv
        | exact wk_litE ht
        | exact wk_litE ht2
        | exact wk_litE hT
        | exact wk_litE hpos
        | exact wk_litE g1
        | exact wk_litE g2
        | exact wk_int hm
        | exact wk_int hk
        | exact hs
        | exact hal
        | exact hwr.1
        | exact hwr.2.1
        | exact Nat.le_trans hwr.2.1 (by decide)
        | exact hwr.2.2
        | exact h0
        | exact h1
        | exact a1
        | exact a2
        | exact a3
        | (with_reducible exact trivial)
        | (with_reducible exact rfl)
        | (with_reducible exact Wk.refl _)
        | (with_reducible exact VW.refl _)
        | (with_reducible exact OW.refl _)
        | (with_reducible exact wk_lit _)
        | (with_reducible assumption)
        | exact rfl
        | exact Wk.refl _
        | exact VW.refl _
        | exact OW.refl _
        | ((repeat (first | exact VW.nil | refine VW.cons (Wk.refl _) ?_ | refine VW.cons (Wk.any _) ?_ | refine VW.cons (wk_cap (Nat.le_refl _)) ?_)); done)
    · have hp : ¬ n > Int.ofNat 0 := by simp only [Int.ofNat_eq_natCast]; omega
      have g1 : decide (n > Int.negSucc 999999999999999999) = false := decide_eq_false hlo
      have hpos : decide (n > Int.ofNat 0) = false := decide_eq_false hp
      have hm : (if n > Int.ofNat 0 then n else Int.ofNat 0) = 0 := if_neg hp
      have hk : (if (0 : Int) < Int.ofNat 1 then (0 : Int) else Int.ofNat 1) = 0 := rfl
      refine tri_run (con := conPt W r x t b) (hints := hPt false false false false 0 0) (lc := []) [] rfl hcon (fun F _ => noL) fun F => ?_
      refine cast (congrArg (VAll _) (oPtLn_eq W r x t b n 0 F).symm) ?_
      refine VAll.ite (fun h => absurd h (by decide)) (fun _ => ?_)
      refine ⟨⟨?_, fits_true⟩⟩
      simp only [Cnd.holds, Nat.blt_eq, true_and, and_true]
      and_intros
      all_goals first
        | exact wk_litE rfl
        | exact wk_litE hb
        | exact wk_litE hb2
        | exact wk_litE hv
        | exact wk_litE ht
        | exact wk_litE ht2
        | exact wk_litE hT
        | exact wk_litE hpos
        | exact wk_litE g1
        | exact wk_int hm
        | exact wk_int hk
        | exact hs
        | exact hal
        | exact hwr.1
        | exact hwr.2.1
        | exact Nat.le_trans hwr.2.1 (by decide)
        | exact hwr.2.2
        | exact h0
        | exact h1
        | exact a1
        | exact a2
        | exact a3
        | (with_reducible exact trivial)
        | (with_reducible exact rfl)
        | (with_reducible exact Wk.refl _)
        | (with_reducible exact VW.refl _)
        | (with_reducible exact OW.refl _)
        | (with_reducible exact wk_lit _)
        | (with_reducible assumption)
        | exact rfl
        | exact Wk.refl _
        | exact VW.refl _
        | exact OW.refl _
        | ((repeat (first | exact VW.nil | refine VW.cons (Wk.refl _) ?_ | refine VW.cons (Wk.any _) ?_ | refine VW.cons (wk_cap (Nat.le_refl _)) ?_)); done)
theorem parts_calls {r : Rj} {t : ByteArray} {n : Int} (h : Tri Tryd.prog W fLaw [aggJ r, sv t, iv n] [] (bv true) []) : Calls Tryd.prog fLaw #[.agg r.cells.toArray, .string t, .int .i64 n] W fun e W' => e = .returned (.bool true) ∧ Below W.heap.size W W' := by
  have hA : VRs (fun _ => none) [aggJ r, sv t, iv n] (#[Value.agg r.cells.toArray, .string t, .int .i64 n] : Array Value).toList :=
    VRs_cons.2 ⟨by show VR _ (.agg (vmap r.cells)) _; simp only [VR]; exact ⟨r.cells, VRs.vmap r.cells, rfl⟩, VRs_cons.2 ⟨VR_v.2 rfl, VRs_cons.2 ⟨VR_v.2 rfl, VRs_nil⟩⟩⟩
  refine (h W (HP.old W) (fun _ => none) W _ (old_here W) (fun _ _ _ => rfl) (rep_nil W) hA).mono ?_
  rintro e w' ⟨y, rfl, N', _, _, r', hv⟩
  have hy : y = .bool true := VR_v.1 (VRs_cons.1 hv).1
  subst hy
  exact ⟨rfl, r'.old_below⟩
end Go.Proofs.YtdphpillcaajpaaDoor.Js

/- Rows of records, as cells. No program. -/
set_option linter.unusedVariables false
set_option linter.unusedSimpArgs false
namespace Go.Proofs.YtdphpillcaajpaaDoor
open Go

end Go.Proofs.YtdphpillcaajpaaDoor

/- A slice of structs that comes in, whatever its struct: its cells, read as a list of plain records. -/
set_option linter.unusedVariables false
set_option linter.unusedSimpArgs false
namespace Go.Proofs.YtdphpillcaajpaaDoor
open Go.ChangeShapes Go.WideShapes Go.RowKit Go.Deep
section
variable {H : Type} {enc : TypeId × Value → H} {P : Program} {w : World} {base : Nat} {spare : Nat → Bool} {held : Bool}
def Light (P : Program) (t : TypeId) (d : DataW H) : Prop := ∀ n ∈ d.weights P t, n ≤ reachBytes
theorem light_args {ts : List TypeId} {ds : List (DataW H)} (h : (DataW.weightsEach P ts ds).all (· ≤ reachBytes) = true) {j : Nat} {t : TypeId} {d : DataW H} (ht : ts[j]? = some t) (hd : ds[j]? = some d) : Light P t d := fun n hn => by
  simpa using List.all_eq_true.1 h n (DataW.weights_mem_each ht hd n hn)
theorem weightsAll_mem {e : TypeId} : ∀ {l : List (DataW H)} {d : DataW H}, d ∈ l → ∀ n ∈ d.weights P e, n ∈ DataW.weightsAll P e l
  | x :: l, d, hd, n, hn => by
    rw [DataW.weightsAll, List.mem_append]
    rcases List.mem_cons.1 hd with rfl | hd
    · exact .inl hn
    · exact .inr (weightsAll_mem hd n hn)
theorem Light.elem {t e : TypeId} {elems sp : List (DataW H)} (hu : P.underlying t = some (.slice e)) (h : Light P t (.slice elems sp)) {d : DataW H} (hd : d ∈ elems) : Light P e d := fun n hn => by
  refine h n ?_
  simp only [DataW.weights, hu, List.mem_cons, List.mem_append]
  exact .inr (.inl (weightsAll_mem hd n hn))
theorem Light.len {t e : TypeId} {elems sp : List (DataW H)} (hu : P.underlying t = some (.slice e)) (h : Light P t (.slice elems sp)) : (elems.length + sp.length) * P.bytesOf e ≤ reachBytes :=
  h _ (by simp only [DataW.weights, hu, List.mem_cons, true_or])
theorem Light.field {t : TypeId} {fs : Array Field} {parts : List (DataW H)} (hu : P.underlying t = some (.struct fs)) (h : Light P t (.agg parts)) {i : Nat} {f : Field} {d : DataW H} (hf : fs[i]? = some f) (hp : parts[i]? = some d) : Light P f.type d := fun n hn => by
  refine h n ?_
  simp only [DataW.weights, hu]
  exact DataW.weights_mem_each (j := i) (by simp [hf]) hp n hn
theorem Light.str {t : TypeId} {bytes : List UInt8} (h : Light P t (.lit (.string bytes) : DataW H)) : bytes.length ≤ reachBytes := h _ (by simp [DataW.weights])

end
end Go.Proofs.YtdphpillcaajpaaDoor

/- Json: a value that comes in, as a tree: by its weights. -/
set_option linter.unusedVariables false
set_option linter.unusedSimpArgs false
set_option maxRecDepth 100000
namespace Go.Proofs.YtdphpillcaajpaaDoor.Jf
open Go.Proofs.YtdphpillcaajpaaDoor.Js
open Go.ChangeShapes Go.WideShapes Go.RowKit Go.Deep Go Go.Proofs.YtdphpillcaajpaaDoor.Eng Go.Proofs.YtdphpillcaajpaaDoor.Kit
section
variable {H : Type} {encD : TypeId × Value → H} {w : World} {base : Nat} {spare : Nat → Bool} {held : Bool}
theorem open_elems {P : Program} {t e : TypeId} {size : Nat} (hC : P.cellsOf e = size) (ht : P.underlying t = some (.slice e)) {fuel : Nat} {cs : List Value} {x : DataW H × List MemPlace} (h : DataW.trod encD P w base spare held fuel t cs = some x) (hL : Light P t x.1) :
    ∃ oa len c, cs = [.slice oa len c] ∧ len * P.bytesOf e ≤ reachBytes ∧ ∃ D : Nat → DataW H, (∀ i, i < len → SizeOf.sizeOf (D i) < SizeOf.sizeOf x.1 ∧ Light P e (D i)) ∧
      ∀ i, i < len → ∃ a cs' n Pl, oa = some a ∧ cs'.length = size ∧ Js.Cells w.cell? (a.add (i * size)) cs' ∧ DataW.trod encD P w base spare held n e cs' = some (D i, Pl) := by
  rcases open_slice ht h with ⟨rfl, rfl⟩ | ⟨a, len, cap, m, n, D, Pl, rfl, hb, hl, hm, hmm, rfl, hi⟩
  · exact ⟨none, 0, 0, rfl, by simp, fun _ => .nil, (fun i h => by omega), fun i h => by omega⟩
  · have hlm : len ≤ m := by rw [hmm]; split <;> omega
    have hlb := Light.len ht hL
    refine ⟨some a, len, cap, rfl, Nat.le_trans (Nat.mul_le_mul_right _ (by simp)) hlb, D, fun i hil => ?_, fun i hil => ?_⟩
    · have hmem : D i ∈ (List.range len).map D := List.mem_map.2 ⟨i, List.mem_range.2 hil, rfl⟩
      refine ⟨?_, hL.elem ht hmem⟩
      have h1 := List.sizeOf_lt_of_mem hmem
      show SizeOf.sizeOf (D i) < SizeOf.sizeOf (DataW.slice ((List.range len).map D) ((List.range (m - len)).map fun j => D (len + j)))
      simp only [DataW.slice.sizeOf_spec]
      omega
    · obtain ⟨cs', hc, ht'⟩ := hi i (by omega)
      obtain ⟨_, hcl, hat⟩ := World.cells?_some hc
      rw [hC] at hcl hat
      refine ⟨a, cs', n, Pl i, rfl, hcl, fun j u hu => ?_, ht'⟩
      have hj : j < size := by rw [← hcl]; exact (List.getElem?_eq_some_iff.1 hu).1
      rw [← hu, ← hat j hj]
theorem exist_list {α : Type} {n : Nat} {P : Nat → α → Prop} (h : ∀ i, i < n → ∃ x, P i x) : ∃ l : List α, l.length = n ∧ ∀ i x, l[i]? = some x → P i x := by
  have h' : ∀ i : Fin n, ∃ x, P i.1 x := fun i => h i.1 i.2
  obtain ⟨g, hg⟩ := Classical.axiomOfChoice h'
  refine ⟨List.ofFn g, by simp, fun i x hx => ?_⟩
  rw [List.getElem?_ofFn] at hx
  split at hx
  · rename_i hlt; cases hx; exact hg ⟨i, hlt⟩
  · cases hx
theorem open_val : ∀ (k : Nat) {fuel : Nat} {cs : List Value} {x : DataW H × List MemPlace}, SizeOf.sizeOf x.1 ≤ k → DataW.trod encD Tryd.prog w base spare held fuel 26 cs = some x → Light Tryd.prog 26 x.1 → ∃ v r, cs = r.cells ∧ JAt w.cell? k v r ∧ r.t.size ≤ reachBytes
  | 0, fuel, cs, x, hk, h, hL => by
    obtain ⟨ys, n, _, rfl, hlen, hyl, hf⟩ := DataW.trod_struct Tryd.underlying26 h
    have : SizeOf.sizeOf (DataW.agg (ys.map (·.1))) ≤ 0 := hk
    simp only [DataW.agg.sizeOf_spec] at this
    omega
  | k + 1, fuel, cs, x, hk, h, hL => by
    obtain ⟨ys, n, _, rfl, hlen, hyl, hf⟩ := DataW.trod_struct Tryd.underlying26 h
    have zI : Tryd.prog.cellsOf 3 = 1 := by kernel_rfl
    have zS : Tryd.prog.cellsOf 9 = 1 := by kernel_rfl
    have zL : Tryd.prog.cellsOf 23 = 1 := by kernel_rfl
    have zT : Tryd.prog.cellsOf 24 = 1 := by kernel_rfl
    match cs, hlen.trans (by kernel_rfl : Tryd.prog.cellsOf 26 = 5) with
    | [c0, c1, c2, c3, c4], _ =>
      match ys, hyl with
      | [y0, y1, y2, y3, y4], _ =>
        have hs : SizeOf.sizeOf (DataW.agg [y0.1, y1.1, y2.1, y3.1, y4.1]) ≤ k + 1 := hk
        simp only [DataW.agg.sizeOf_spec, List.cons.sizeOf_spec, List.nil.sizeOf_spec] at hs
        have l2 : Light Tryd.prog 9 y2.1 := Light.field Tryd.underlying26 hL (i := 2) rfl rfl
        have l3 : Light Tryd.prog 23 y3.1 := Light.field Tryd.underlying26 hL (i := 3) rfl rfl
        have l4 : Light Tryd.prog 24 y4.1 := Light.field Tryd.underlying26 hL (i := 4) rfl rfl
        have bV : Tryd.prog.bytesOf 26 = 80 := by kernel_rfl
        have bS : Tryd.prog.bytesOf 9 = 16 := by kernel_rfl
        obtain ⟨a0, e0, x0, q0⟩ := DataW.trod_int Tryd.underlying3 (by simpa [zI, zS, zL, zT] using hf 0 _ rfl : DataW.trod encD Tryd.prog w base spare held n 3 [c0] = some y0)
        obtain rfl := (List.cons.inj e0).1
        obtain ⟨a1, e1, x1, q1⟩ := DataW.trod_int Tryd.underlying3 (by simpa [zI, zS, zL, zT] using hf 1 _ rfl : DataW.trod encD Tryd.prog w base spare held n 3 [c1] = some y1)
        obtain rfl := (List.cons.inj e1).1
        obtain ⟨a2, e2, x2, q2⟩ := DataW.trod_string Tryd.underlying9 (by simpa [zI, zS, zL, zT] using hf 2 _ rfl : DataW.trod encD Tryd.prog w base spare held n 9 [c2] = some y2)
        obtain rfl := (List.cons.inj e2).1
        obtain ⟨la, ll, lc, e3, lb, DL, hd1, hd2⟩ := open_elems (size := 5) (by kernel_rfl) Tryd.underlying23 (by simpa [zI, zS, zL, zT] using hf 3 _ rfl : DataW.trod encD Tryd.prog w base spare held n 23 [c3] = some y3) l3
        obtain rfl := (List.cons.inj e3).1
        obtain ⟨ta, tl, tc, e4, tb, DT, ht1, ht2⟩ := open_elems (size := 1) (by kernel_rfl) Tryd.underlying24 (by simpa [zI, zS, zL, zT] using hf 4 _ rfl : DataW.trod encD Tryd.prog w base spare held n 24 [c4] = some y4) l4
        obtain rfl := (List.cons.inj e4).1
        obtain ⟨l, hl1, hl2⟩ := exist_list (n := ll) (P := fun i x => ∃ a r, la = some a ∧ Js.Cells w.cell? (a.add (i * 5)) r.cells ∧ JAt w.cell? k x r) fun i hi => by
          obtain ⟨a, cs', n', Pl, q1, q2, q3, q4⟩ := hd2 i hi
          obtain ⟨v, r, rfl, q5, _⟩ := open_val k (by have := (hd1 i hi).1; show SizeOf.sizeOf (DL i) ≤ k; omega) q4 (hd1 i hi).2
          exact ⟨v, a, r, q1, q3, q5⟩
        obtain ⟨f, hf1, hf2⟩ := exist_list (n := tl) (P := fun i (nm : ByteArray) => ∃ a, ta = some a ∧ w.cell? (a.add i) = some (.string nm)) fun i hi => by
          obtain ⟨a, cs', n', Pl, q1, q2, q3, q4⟩ := ht2 i hi
          match cs', q2 with
          | [c], _ =>
            obtain ⟨nm, e, _, _⟩ := DataW.trod_string Tryd.underlying9 q4
            obtain rfl := (List.cons.inj e).1
            exact ⟨nm, a, q1, by
              have := q3 0 _ rfl
              rw [Nat.mul_one] at this
              exact this⟩
        have hsz : a2.size ≤ reachBytes := by
          rw [x2] at l2
          exact l2.str
        rw [bV] at lb
        rw [bS] at tb
        subst hl1 hf1
        exact ⟨.mk a0 a1 a2 l f, ⟨a0, a1, a2, la, l.length, lc, ta, f.length, tc⟩, rfl, ⟨⟨rfl, rfl, rfl, rfl, rfl⟩, ⟨lb, hl2⟩, ⟨tb, hf2⟩⟩, hsz⟩
theorem open_arg {r0 : Reach} {b0 : Nat} {v : Value} {d : DataW H} {p : List MemPlace} (hL : Light Tryd.prog 26 d) (hv : Value.okWide Tryd.prog w r0 b0 26 v) (h : DataW.Trod encD Tryd.prog w base spare held 26 v d p) :
    ∃ (u : Jv) (r : Rj) (k : Nat), v = .agg r.cells.toArray ∧ JAt w.cell? (k + 1) u r ∧ r.t.size ≤ reachBytes := by
  obtain ⟨cs, rfl, hsz⟩ := okWide_struct Tryd.underlying26 hv
  obtain ⟨fuel, hf⟩ := h
  obtain ⟨u, r, hc, hj, ht⟩ := open_val (SizeOf.sizeOf d) (Nat.le_refl _) hf hL
  refine ⟨u, r, SizeOf.sizeOf d, ?_, hj.deep, ht⟩
  rw [← hc]; rfl
end
end Go.Proofs.YtdphpillcaajpaaDoor.Jf

