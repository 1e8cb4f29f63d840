/- Parts of the proof, merged. -/
import Derived.Test.YtbmoancedlbhlaaDoorTm2
import Derived.Test.YtbmoancedlbhlaaDoorSorts
import Derived.Test.YtbmoancedlbhlaaDoorEngClosed
import Derived.Test.YtbmoancedlbhlaaDoorEngKit
import Derived.Test.YtbmoancedlbhlaaDoorMem
import Derived.Deep.Slices
import Derived.SizedLaws
import Derived.Test.YtbmoancedlbhlaaDoorRows
import Derived.ProofKit
import Derived.OpenShut
import Derived.Deep.Fields
/- Topic: remove; Remove. -/
set_option linter.unusedVariables false
set_option linter.unusedSimpArgs false
set_option maxRecDepth 100000
namespace Go.Proofs.YtbmoancedlbhlaaDoor.Tpc
open Go Go.RowKit Go.Proofs.YtbmoancedlbhlaaDoor.Eng Go.Proofs.YtbmoancedlbhlaaDoor.Kit
theorem Shp.pre {g root : Nat} {G X : List Nd} (h : Shp G X g root) {s : Nd} (hs' : s ∈ G) (w : ByteArray) : ∀ (n : Nat) (r : Path), r.length = n → ∀ (t : Nd), t ∈ G → t.p = s.p ++ w :: r → ∃ c, klook w s.nx = some c
  | 0, r, hr, t, ht, hp => by
    rw [List.eq_nil_of_length_eq_zero hr] at hp
    obtain ⟨u, hu, e1, e2⟩ := h.par t ht s.p w hp
    rw [← pp_inj h.pp hu hs' e1]
    exact ⟨_, e2⟩
  | n + 1, r, hr, t, ht, hp => by
    obtain ⟨q, x, rfl⟩ : ∃ q x, r = q ++ [x] := ⟨_, _, (List.dropLast_concat_getLast (l := r) (fun e => by rw [e] at hr; cases hr)).symm⟩
    have e : t.p = (s.p ++ w :: q) ++ [x] := by rw [hp]; simp
    obtain ⟨u, hu, e1, e2⟩ := h.par t ht _ _ e
    exact h.pre hs' w n q (by simpa using hr) u hu e1
section
variable {L : Pairs} {g : Nat} {pat d : ByteArray}
end
end Go.Proofs.YtbmoancedlbhlaaDoor.Tpc

/- Topic: Remove, Matches. -/
set_option linter.unusedVariables false
set_option linter.unusedSimpArgs false
set_option maxRecDepth 100000
namespace Go.Proofs.YtbmoancedlbhlaaDoor.Tpc
open Go Go.RowKit Go.Proofs.YtbmoancedlbhlaaDoor.Eng Go.Proofs.YtbmoancedlbhlaaDoor.Kit
noncomputable section
abbrev fMatches : Nat := 9
def gNone : List AV → AP Unit := fun _ => .ret ()
def cNew : List AV → Option (AP AV) := mkC gNone (fun _ => True) (fun _ i => i) (fun _ => []) (fun _ => []) (fun _ => .leaf .ret [.ptr 1000 0] [(1000, trO [] 1)])
def gAdd : List AV → AP (Nat × Pairs × Nat × ByteArray × ByteArray) := fun args => match args with
  | .ptr r _ :: .v (.string p) :: .v (.string d) :: _ => .read r fun o => match o with
    | .own (.trie L g) _ => .ret (r, L, g, p, d)
    | _ => .fail "add"
  | _ => .fail "add"
def cAdd : List AV → Option (AP AV) := mkC gAdd (fun q => q.2.2.2.1.size ≤ 1100000 ∧ q.2.2.2.2.size ≤ 1099511627776 ∧ q.2.1.length ≤ 4611686018427387904) (fun q => nm0 q.1) (fun q => [.ptr 0 0, sv q.2.2.2.1, sv q.2.2.2.2]) (fun q => [(0, trO q.2.1 q.2.2.1)]) (fun q => .leaf .ret [bv (!(inB q.2.1 q.2.2.2.1 q.2.2.2.2))] [(0, trO (addL q.2.1 q.2.2.2.1 q.2.2.2.2) (q.2.2.1 + (dots q.2.2.2.1).length + 1))])
def gMat : List AV → AP (Nat × Pairs × Nat × ByteArray) := fun args => match args with
  | .ptr r _ :: .v (.string k) :: _ => .read r fun o => match o with
    | .own (.trie L g) _ => .ret (r, L, g, k)
    | _ => .fail "match"
  | _ => .fail "match"
def cMatZ : List AV → Option (AP AV) := mkC gMat (fun q => q.2.2.1 ≤ 1500000 ∧ q.2.2.2.size ≤ 1100000 ∧ matchA q.2.1 q.2.2.2 = []) (fun q => nm0 q.1) (fun q => [.ptr 0 0, sv q.2.2.2]) (fun q => [(0, trO q.2.1 q.2.2.1)]) (fun q => .leaf .ret [nilV] [(0, trO q.2.1 q.2.2.1)])
def cMatR (l : List ByteArray) (n : Nat) : List AV → Option (AP AV) := mkC gMat (fun q => q.2.2.1 ≤ 1500000 ∧ q.2.2.2.size ≤ 1100000 ∧ matchA q.2.1 q.2.2.2 = l) (fun q => nm0 q.1) (fun q => [.ptr 0 0, sv q.2.2.2]) (fun q => [(0, trO q.2.1 q.2.2.1)]) (fun q => .leaf .ret [.slice 1000 0 n 1 (.lo n)] [(0, trO q.2.1 q.2.2.1), (1000, rS l)])
theorem oMsF_eq (p k : ByteArray) (F : HP) : wRun [(fNew, cNew), (fAdd, cAdd), (fMatch, cMatZ)] noHints [] default fMatches [sv p, sv k] [] [] F = VT.leaf (AV.v (Value.bool false)) [] 1101 (((Cnd.p True).a ((Cnd.p (VW [] [])).a Cnd.t)).a (((Cnd.p (p.size ≤ 1100000 ∧ 0 ≤ 1099511627776 ∧ 0 ≤ 4611686018427387904)).a ((Cnd.p (VW [AV.ptr 1100 0, AV.v (Value.string p), AV.v (Value.string (ByteArray.mk (Array.mk [])))] [AV.ptr 1100 0, AV.v (Value.string p), AV.v (Value.string (ByteArray.mk (Array.mk [])))])).a ((Cnd.p (OW (AO.own (Md.trie [] 1) (trHP [] 1)) (AO.own (Md.trie [] 1) (trHP [] 1)))).a Cnd.t))).a (((Cnd.p (1 + (dots p).length + 1 ≤ 1500000 ∧ k.size ≤ 1100000 ∧ matchA [(p, ByteArray.mk (Array.mk []))] k = [])).a ((Cnd.p (VW [AV.ptr 1100 0, AV.v (Value.string k)] [AV.ptr 1100 0, AV.v (Value.string k)])).a ((Cnd.p (OW (AO.own (Md.trie [(p, ByteArray.mk (Array.mk []))] (1 + (dots p).length + 1)) (trHP [(p, ByteArray.mk (Array.mk []))] (1 + (dots p).length + 1))) (AO.own (Md.trie [(p, ByteArray.mk (Array.mk []))] (1 + (dots p).length + 1)) (trHP [(p, ByteArray.mk (Array.mk []))] (1 + (dots p).length + 1))))).a Cnd.t))).a Cnd.t))) := by kernel_rfl
theorem oMsT_eq (p k : ByteArray) (l : List ByteArray) (n : Nat) (F : HP) : wRun [(fNew, cNew), (fAdd, cAdd), (fMatch, cMatR l n)] (hintL [(fMatches, 3, 4, hv (bv true))]) [] default fMatches [sv p, sv k] [] [] F = VT.leaf (AV.v (Value.bool true)) [] 1102 (((Cnd.p True).a ((Cnd.p (VW [] [])).a Cnd.t)).a (((Cnd.p (p.size ≤ 1100000 ∧ 0 ≤ 1099511627776 ∧ 0 ≤ 4611686018427387904)).a ((Cnd.p (VW [AV.ptr 1100 0, AV.v (Value.string p), AV.v (Value.string (ByteArray.mk (Array.mk [])))] [AV.ptr 1100 0, AV.v (Value.string p), AV.v (Value.string (ByteArray.mk (Array.mk [])))])).a ((Cnd.p (OW (AO.own (Md.trie [] 1) (trHP [] 1)) (AO.own (Md.trie [] 1) (trHP [] 1)))).a Cnd.t))).a (((Cnd.p (1 + (dots p).length + 1 ≤ 1500000 ∧ k.size ≤ 1100000 ∧ matchA [(p, ByteArray.mk (Array.mk []))] k = l)).a ((Cnd.p (VW [AV.ptr 1100 0, AV.v (Value.string k)] [AV.ptr 1100 0, AV.v (Value.string k)])).a ((Cnd.p (OW (AO.own (Md.trie [(p, ByteArray.mk (Array.mk []))] (1 + (dots p).length + 1)) (trHP [(p, ByteArray.mk (Array.mk []))] (1 + (dots p).length + 1))) (AO.own (Md.trie [(p, ByteArray.mk (Array.mk []))] (1 + (dots p).length + 1)) (trHP [(p, ByteArray.mk (Array.mk []))] (1 + (dots p).length + 1))))).a Cnd.t))).a (((Cnd.p (Wk (AV.v (Value.bool (decide (↑n > Int.ofNat 0)))) (AV.v (Value.bool true)))).a Cnd.t).a Cnd.t)))) := by kernel_rfl
end
theorem gAdd_ro : ∀ args, RO (gAdd args) := by
  intro args
  unfold gAdd
  split
  · refine RO.read _ _ fun o => ?_
    split
    · exact RO.ret _
    · exact RO.fail _
  · exact RO.fail _
theorem gMat_ro : ∀ args, RO (gMat args) := by
  intro args
  unfold gMat
  split
  · refine RO.read _ _ fun o => ?_
    split
    · exact RO.ret _
    · exact RO.fail _
  · exact RO.fail _
theorem cNew_ok (F : HP) : C1OK Tryd.prog F fNew cNew :=
  mkC_ok (W := default) oldDef (fun _ => .ptr 1000 0) (fun _ => RO.ret _) (fun _ => rfl) (fun _ _ => New_tri) fun _ => ⟨rfl, rfl, trivial, all_nil, ⟨rfl, trivial⟩, all_cons trivial all_nil⟩
theorem cAdd_ok (F : HP) : C1OK Tryd.prog F fAdd cAdd :=
  mkC_ok (W := default) oldDef (fun q => bv (!(inB q.2.1 q.2.2.2.1 q.2.2.2.2))) gAdd_ro (fun _ => rfl) (fun q hq => Add_tri q.2.1 q.2.2.1 q.2.2.2.1 q.2.2.2.2 hq.1 hq.2.1 hq.2.2) fun _ => ⟨rfl, rfl, ⟨rfl, trivial, trivial, trivial⟩, all_cons trivial all_nil, ⟨trivial, trivial⟩, all_cons trivial all_nil⟩
theorem cMatZ_ok (F : HP) : C1OK Tryd.prog F fMatch cMatZ :=
  mkC_ok (W := default) oldDef (fun _ => nilV) gMat_ro (fun _ => rfl) (fun q hq => by
    have := Match_tri q.2.1 q.2.2.1 hq.1 q.2.2.2 hq.2.1
    rw [hq.2.2] at this
    exact this) fun _ => ⟨rfl, rfl, ⟨rfl, trivial, trivial⟩, all_cons trivial all_nil, ⟨trivial, trivial⟩, all_cons trivial all_nil⟩
theorem cMatR_ok {l : List ByteArray} (hl : l ≠ []) (F : HP) : C1OK Tryd.prog F fMatch (cMatR l l.length) :=
  mkC_ok (W := default) oldDef (fun _ => .slice 1000 0 l.length 1 (.lo l.length)) gMat_ro (fun _ => rfl) (fun q hq => by
    have := Match_tri q.2.1 q.2.2.1 hq.1 q.2.2.2 hq.2.1
    rw [hq.2.2, ansV_ne hl, ansO_ne hl] at this
    exact this) fun _ => ⟨rfl, rfl, ⟨rfl, trivial, trivial⟩, all_cons trivial all_nil, ⟨rfl, trivial⟩, all_cons trivial (all_cons (rS_cl _ _) all_nil)⟩
theorem dots_le {s : ByteArray} {n : Nat} (h : s.size ≤ n) : (dots s).length ≤ n + 1 := by
  rw [dots_len]
  have : s.data.toList.count 46 ≤ s.data.toList.length := List.count_le_length
  have h2 : s.data.toList.length = s.size := rfl
  omega
theorem match_one (p k d : ByteArray) : matchA (addL [] p d) k = if mt (dots p).reverse (dots k).reverse = true then [d] else [] := by
  have e : addL [] p d = [(p, d)] := rfl
  rw [e]
  unfold matchA
  by_cases h : mt (dots p).reverse (dots k).reverse = true
  · rw [if_pos h, List.filter_cons, if_pos h]
    simp only [List.filter_nil, List.map_cons, List.map_nil, sortT, dedup]
    rw [if_neg (by simp)]
    rw [List.mergeSort_singleton]
    rfl
  · rw [if_neg h, List.filter_cons, if_neg h]
    exact sortT_nil.2 rfl
theorem Matches_tri (p k : ByteArray) (hp : p.size ≤ 1100000) (hk : k.size ≤ 1100000) : Tri Tryd.prog default fMatches [sv p, sv k] [] (bv (mt (dots p).reverse (dots k).reverse)) [] := by
  have hd := dots_le hp
  have hm := match_one p k nil0
  by_cases h : mt (dots p).reverse (dots k).reverse = true
  · rw [h]
    rw [if_pos h] at hm
    refine tri_run (con := [(fNew, cNew), (fAdd, cAdd), (fMatch, cMatR [nil0] [nil0].length)]) (hints := hintL [(fMatches, 3, 4, hv (bv true))]) (lc := []) [] rfl (fun F _ => con_cons (cNew_ok F) (con_cons (cAdd_ok F) (one_c (cMatR_ok (by simp) F)))) (fun _ _ => noL) fun F => ?_
    refine cast (congrArg (VAll _) (oMsT_eq p k [nil0] [nil0].length F).symm) ⟨⟨?_, (fit_mk (vs' := [bv true]) (H' := []) [] rfl rfl (VW.refl _) trivial).fits rfl⟩⟩
    simp only [Cnd.holds, Nat.blt_eq, true_and, and_true]
    and_intros
    all_goals first
      | exact hm
      | omega
      | exact Nat.zero_le _
      | (show (0 : Nat) ≤ _; exact Nat.zero_le _)
      | decide
      | (with_reducible exact trivial)
      | (with_reducible exact rfl)
      | (with_reducible exact Wk.refl _)
      | (with_reducible exact VW.refl _)
      | (with_reducible exact OW.refl _)
      | (with_reducible exact wk_lit _)
      | (with_reducible assumption)
      | exact rfl
      | exact Wk.refl _
      | exact VW.refl _
      | exact OW.refl _
      | ((repeat (first | exact VW.nil | refine VW.cons (Wk.refl _) ?_ | refine VW.cons (Wk.any _) ?_ | refine VW.cons (wk_cap (Nat.le_refl _)) ?_)); done)
  · have h' : mt (dots p).reverse (dots k).reverse = false := by simpa using h
    rw [h']
    rw [if_neg h] at hm
    refine tri_run (con := [(fNew, cNew), (fAdd, cAdd), (fMatch, cMatZ)]) (hints := noHints) (lc := []) [] rfl (fun F _ => con_cons (cNew_ok F) (con_cons (cAdd_ok F) (one_c (cMatZ_ok F)))) (fun _ _ => noL) fun F => ?_
    refine cast (congrArg (VAll _) (oMsF_eq p k F).symm) ⟨⟨?_, (fit_mk (vs' := [bv false]) (H' := []) [] rfl rfl (VW.refl _) trivial).fits rfl⟩⟩
    simp only [Cnd.holds, Nat.blt_eq, true_and, and_true]
    and_intros
    all_goals first
      | exact hm
      | omega
      | exact Nat.zero_le _
      | (show (0 : Nat) ≤ _; exact Nat.zero_le _)
      | decide
      | (with_reducible exact trivial)
      | (with_reducible exact rfl)
      | (with_reducible exact Wk.refl _)
      | (with_reducible exact VW.refl _)
      | (with_reducible exact OW.refl _)
      | (with_reducible exact wk_lit _)
      | (with_reducible assumption)
      | exact rfl
      | exact Wk.refl _
      | exact VW.refl _
      | exact OW.refl _
      | ((repeat (first | exact VW.nil | refine VW.cons (Wk.refl _) ?_ | refine VW.cons (Wk.any _) ?_ | refine VW.cons (wk_cap (Nat.le_refl _)) ?_)); done)
end Go.Proofs.YtbmoancedlbhlaaDoor.Tpc

/- Topic: the document's words: runs. -/
set_option linter.unusedVariables false
set_option linter.unusedSimpArgs false
set_option maxRecDepth 100000
namespace Go.Proofs.YtbmoancedlbhlaaDoor.Tpc
open Go Go.RowKit Go.Proofs.YtbmoancedlbhlaaDoor.Eng Go.Proofs.YtbmoancedlbhlaaDoor.Kit
noncomputable section
abbrev fRW : Nat := 19
def aW (s : ByteArray) (t3 : AV) (a i : Nat) : List (Nat × AV) := [(0, sv s), (3, t3), (4, iv (Int.ofNat a)), (5, iv (Int.ofNat i))]
def sW (n : Nat) : AV := .slice 1000 0 n 1 (.lo n)
def hWN (i : Nat) (c : Int) : ClaimT := hintL [(fRW, 4, 3, hv (.lit true)), (fRW, 6, 3, hv (.lit false)), (fRW, 6, 7, h0v (.v (.int .u8 c))), (fRW, 6, 8, hv (.lit false)), (fRW, 6, 9, hv (.lit false)), (fRW, 5, 1, hv (iv (Int.ofNat (i + 1))))]
theorem oWN_eq (s : ByteArray) (L : List ByteArray) (n a i : Nat) (c : Int) (F : HP) : wLoop [] (hWN i c) [] default fRW (loopN fRW 4) (tms 0 33 (aW s (sW n) a i)) [(1000, rS L)] [1000, 1100, 1101] [0, 3, 4, 5] F = VT.leaf (AX.normal, [AV.v (Value.string s), AV.slice 1000 0 n 1 (Cp.lo n), AV.v (Value.int IntKind.i64 (Int.ofNat a)), AV.v (Value.int IntKind.i64 (Int.ofNat (i + 1)))], 33) [some (AO.cells (rowV encS L) 18), none, none] 1100 (((Cnd.p (Wk (AV.v (Value.bool (decide (Int.ofNat i ≤ ↑s.size)))) (AV.lit true))).a Cnd.t).a (((Cnd.p (Wk (AV.v (Value.bool (Int.ofNat i == ↑s.size))) (AV.lit false))).a Cnd.t).a (((Cnd.p (i < s.size)).a ((Cnd.p (Wk (AV.v (Value.int IntKind.u8 ↑(s.data.toList.getD i 0).toNat)) (AV.v (Value.int IntKind.u8 c)))).a Cnd.t)).a (((Cnd.p (Wk (AV.v (Value.bool (c == Int.ofNat 46))) (AV.lit false))).a Cnd.t).a (((Cnd.p (Wk (AV.lit false) (AV.lit false))).a Cnd.t).a (((Cnd.p (Wk (AV.v (Value.int IntKind.i64 (IntKind.i64.wrap (Int.ofNat i + Int.ofNat 1)))) (AV.v (Value.int IntKind.i64 (Int.ofNat (i + 1)))))).a Cnd.t).a Cnd.t)))))) := by kernel_rfl
def hWC (i : Nat) (y : ByteArray) (c : Int) : ClaimT := hintL [(fRW, 4, 3, hv (.lit true)), (fRW, 6, 3, hv (.lit false)), (fRW, 6, 7, h0v (.v (.int .u8 c))), (fRW, 6, 8, hv (.lit true)), (fRW, 6, 9, hv (.lit true)), (fRW, 7, 4, h0v (sv y)), (fRW, 8, 1, hv (iv (Int.ofNat (i + 1)))), (fRW, 5, 1, hv (iv (Int.ofNat (i + 1))))]
def hWL (i : Nat) (y : ByteArray) : ClaimT := hintL [(fRW, 4, 3, hv (.lit true)), (fRW, 6, 3, hv (.lit true)), (fRW, 7, 4, h0v (sv y)), (fRW, 8, 1, hv (iv (Int.ofNat (i + 1)))), (fRW, 5, 1, hv (iv (Int.ofNat (i + 1))))]
theorem oWC_eq (s y : ByteArray) (L : List ByteArray) (n a i : Nat) (c : Int) (F : HP) : wLoop [] (hWC i y c) [] default fRW (loopN fRW 4) (tms 0 33 (aW s (sW n) a i)) [(1000, rS L)] [1000, 1100, 1101] [0, 3, 4, 5] F = VT.leaf (AX.normal, [AV.v (Value.string s), AV.slice 1101 0 (n + 1) 1 (Cp.lo (n + 1)), AV.v (Value.int IntKind.i64 (Int.ofNat (i + 1))), AV.v (Value.int IntKind.i64 (Int.ofNat (i + 1)))], 33) [none, some (AO.cells [AV.v (Value.string y)] 18), some (AO.cells (List.take (n * 1) (List.drop 0 (rowV encS L)) ++ [AV.v (Value.string y)]) 18)] 1102 (((Cnd.p (Wk (AV.v (Value.bool (decide (Int.ofNat i ≤ ↑s.size)))) (AV.lit true))).a Cnd.t).a (((Cnd.p (Wk (AV.v (Value.bool (Int.ofNat i == ↑s.size))) (AV.lit false))).a Cnd.t).a (((Cnd.p (i < s.size)).a ((Cnd.p (Wk (AV.v (Value.int IntKind.u8 ↑(s.data.toList.getD i 0).toNat)) (AV.v (Value.int IntKind.u8 c)))).a Cnd.t)).a (((Cnd.p (Wk (AV.v (Value.bool (c == Int.ofNat 46))) (AV.lit true))).a Cnd.t).a (((Cnd.p (Wk (AV.lit true) (AV.lit true))).a Cnd.t).a (((Cnd.p (a ≤ i)).a ((Cnd.p (i ≤ s.size)).a ((Cnd.p (Wk (AV.v (Value.string (s.extract a i))) (AV.v (Value.string y)))).a Cnd.t))).a (((Cnd.p (true = true)).a ((Cnd.p (true = true)).a ((Cnd.p (true = true)).a ((Cnd.p (true = true)).a ((Cnd.p ((0 + n * 1).ble (rowV encS L).length = true)).a ((Cnd.p (((n + 1) * 16).ble 140737488355328 = true)).a ((Cnd.p ((n + 1).ble 9223372036854775807 = true)).a ((Cnd.p ((List.take (n * 1) (List.drop 0 (rowV encS L))).length.beq (n * 1) = true)).a Cnd.t)))))))).a (((Cnd.p (Wk (AV.v (Value.int IntKind.i64 (IntKind.i64.wrap (Int.ofNat i + Int.ofNat 1)))) (AV.v (Value.int IntKind.i64 (Int.ofNat (i + 1)))))).a Cnd.t).a (((Cnd.p (Wk (AV.v (Value.int IntKind.i64 (IntKind.i64.wrap (Int.ofNat i + Int.ofNat 1)))) (AV.v (Value.int IntKind.i64 (Int.ofNat (i + 1)))))).a Cnd.t).a Cnd.t))))))))) := by kernel_rfl
theorem oWL_eq (s y : ByteArray) (L : List ByteArray) (n a i : Nat) (F : HP) : wLoop [] (hWL i y) [] default fRW (loopN fRW 4) (tms 0 33 (aW s (sW n) a i)) [(1000, rS L)] [1000, 1100, 1101] [0, 3, 4, 5] F = VT.leaf (AX.normal, [AV.v (Value.string s), AV.slice 1101 0 (n + 1) 1 (Cp.lo (n + 1)), AV.v (Value.int IntKind.i64 (Int.ofNat (i + 1))), AV.v (Value.int IntKind.i64 (Int.ofNat (i + 1)))], 33) [none, some (AO.cells [AV.v (Value.string y)] 18), some (AO.cells (List.take (n * 1) (List.drop 0 (rowV encS L)) ++ [AV.v (Value.string y)]) 18)] 1102 (((Cnd.p (Wk (AV.v (Value.bool (decide (Int.ofNat i ≤ ↑s.size)))) (AV.lit true))).a Cnd.t).a (((Cnd.p (Wk (AV.v (Value.bool (Int.ofNat i == ↑s.size))) (AV.lit true))).a Cnd.t).a (((Cnd.p (a ≤ i)).a ((Cnd.p (i ≤ s.size)).a ((Cnd.p (Wk (AV.v (Value.string (s.extract a i))) (AV.v (Value.string y)))).a Cnd.t))).a (((Cnd.p (true = true)).a ((Cnd.p (true = true)).a ((Cnd.p (true = true)).a ((Cnd.p (true = true)).a ((Cnd.p ((0 + n * 1).ble (rowV encS L).length = true)).a ((Cnd.p (((n + 1) * 16).ble 140737488355328 = true)).a ((Cnd.p ((n + 1).ble 9223372036854775807 = true)).a ((Cnd.p ((List.take (n * 1) (List.drop 0 (rowV encS L))).length.beq (n * 1) = true)).a Cnd.t)))))))).a (((Cnd.p (Wk (AV.v (Value.int IntKind.i64 (IntKind.i64.wrap (Int.ofNat i + Int.ofNat 1)))) (AV.v (Value.int IntKind.i64 (Int.ofNat (i + 1)))))).a Cnd.t).a (((Cnd.p (Wk (AV.v (Value.int IntKind.i64 (IntKind.i64.wrap (Int.ofNat i + Int.ofNat 1)))) (AV.v (Value.int IntKind.i64 (Int.ofNat (i + 1)))))).a Cnd.t).a Cnd.t)))))) := by kernel_rfl
def gRw : List AV → AP Nat := fun tmps => match getL tmps 3 with
  | .slice i _ _ _ _ => .ret i
  | _ => .fail "row"
def nmRw (a : Nat) : Nat → Nat := fun k => match Nat.beq k 1000 with
  | true => a
  | false => k
def lRw (s : ByteArray) (L : List ByteArray) (n : Nat) : List AV → AP (AX × List AV) := mkL gRw (fun _ => True) nmRw (fun _ => tms 0 33 (aW s (sW 0) 0 0)) (fun _ => [(1000, rS [])]) (fun _ => .leaf (.exit 0) (tms 0 33 [(3, sW n)]) [(1000, rS L)])
theorem oRWf_eq (s : ByteArray) (L : List ByteArray) (n : Nat) (F : HP) : wRun [] noHints [(fRW, 4, loopN fRW 4, lRw s L n)] default fRW [sv s] [] [1100, 1101] F = VT.leaf (AV.slice 1101 0 n 1 (Cp.lo n)) [none, some (AO.cells (AV.rens (sgN (nmRw 1100) [1000] 1101) (rowV encS L)) 18)] 1102 ((Cnd.p ((fRW, 4, loopN fRW 4, lRw s L n).snd.snd.fst = (fRW, 4, loopN fRW 4, lRw s L n).snd.snd.fst)).a ((Cnd.p True).a ((Cnd.p (VW [AV.v (Value.string s), AV.v (Value.tuple (Array.mk [])), AV.v (Value.slice none 0 0), AV.slice 1100 0 0 1 (Cp.ex 0), AV.v (Value.int IntKind.i64 (Int.ofNat 0)), AV.v (Value.int IntKind.i64 (Int.ofNat 0)), AV.slice 1100 0 0 1 (Cp.ex 0), AV.v (Value.tuple (Array.mk [])), AV.v (Value.tuple (Array.mk [])), AV.v (Value.tuple (Array.mk [])), AV.v (Value.tuple (Array.mk [])), AV.v (Value.tuple (Array.mk [])), AV.v (Value.tuple (Array.mk [])), AV.v (Value.tuple (Array.mk [])), AV.v (Value.tuple (Array.mk [])), AV.v (Value.tuple (Array.mk [])), AV.v (Value.tuple (Array.mk [])), AV.v (Value.tuple (Array.mk [])), AV.v (Value.tuple (Array.mk [])), AV.v (Value.tuple (Array.mk [])), AV.v (Value.tuple (Array.mk [])), AV.v (Value.tuple (Array.mk [])), AV.v (Value.tuple (Array.mk [])), AV.v (Value.tuple (Array.mk [])), AV.v (Value.tuple (Array.mk [])), AV.v (Value.tuple (Array.mk [])), AV.v (Value.tuple (Array.mk [])), AV.v (Value.tuple (Array.mk [])), AV.v (Value.tuple (Array.mk [])), AV.v (Value.tuple (Array.mk [])), AV.v (Value.tuple (Array.mk [])), AV.v (Value.tuple (Array.mk [])), AV.v (Value.tuple (Array.mk []))] [AV.v (Value.string s), AV.any, AV.any, AV.slice 1100 0 0 1 (Cp.lo 0), AV.v (Value.int IntKind.i64 (Int.ofNat 0)), AV.v (Value.int IntKind.i64 (Int.ofNat 0)), AV.any, AV.any, AV.any, AV.any, AV.any, AV.any, AV.any, AV.any, AV.any, AV.any, AV.any, AV.any, AV.any, AV.any, AV.any, AV.any, AV.any, AV.any, AV.any, AV.any, AV.any, AV.any, AV.any, AV.any, AV.any, AV.any, AV.any])).a ((Cnd.p (OW (AO.cells (rep [AV.v (Value.string (ByteArray.mk (Array.mk [])))] 0) 18) (AO.cells [] 18))).a Cnd.t)))) := by kernel_rfl
theorem oWE_eq (s : ByteArray) (L : List ByteArray) (n a i : Nat) (F : HP) : wLoop [] (hintL [(fRW, 4, 3, hv (.lit false))]) [] default fRW (loopN fRW 4) (tms 0 33 (aW s (sW n) a i)) [(1000, rS L)] [1000, 1100, 1101] [0, 3, 4, 5] F = VT.leaf (AX.exit 0, [AV.v (Value.string s), AV.slice 1000 0 n 1 (Cp.lo n), AV.v (Value.int IntKind.i64 (Int.ofNat a)), AV.v (Value.int IntKind.i64 (Int.ofNat i))], 33) [some (AO.cells (rowV encS L) 18), none, none] 1100 (((Cnd.p (Wk (AV.v (Value.bool (decide (Int.ofNat i ≤ ↑s.size)))) (AV.lit false))).a Cnd.t).a Cnd.t) := by kernel_rfl
end
end Go.Proofs.YtbmoancedlbhlaaDoor.Tpc

/- Topic: the document's words. -/
set_option linter.unusedVariables false
set_option linter.unusedSimpArgs false
set_option maxRecDepth 100000
namespace Go.Proofs.YtbmoancedlbhlaaDoor.Tpc
open Go Go.RowKit Go.Proofs.YtbmoancedlbhlaaDoor.Eng Go.Proofs.YtbmoancedlbhlaaDoor.Kit
theorem splitL_cut : ∀ (u v : List UInt8), (∀ x ∈ u, x ≠ 46) → splitL (u ++ 46 :: v) = u :: splitL v
  | [], v, _ => by rw [List.nil_append, splitL, if_pos rfl]
  | x :: u, v, h => by
    rw [List.cons_append, splitL, if_neg (h x List.mem_cons_self), splitL_cut u v fun y hy => h y (List.mem_cons_of_mem _ hy)]
theorem splitL_one : ∀ (u : List UInt8), (∀ x ∈ u, x ≠ 46) → splitL u = [u]
  | [], _ => rfl
  | x :: u, h => by rw [splitL, if_neg (h x List.mem_cons_self), splitL_one u fun y hy => h y (List.mem_cons_of_mem _ hy)]
structure RwI (s : ByteArray) (P : List ByteArray) (a i : Nat) : Prop where
  le : i ≤ s.size + 1
  run : i ≤ s.size → a ≤ i ∧ P ++ (splitL (s.data.toList.drop a)).map bsOf = dots s ∧ ∀ x ∈ (s.data.toList.drop a).take (i - a), x ≠ 46
  fin : i = s.size + 1 → P = dots s
theorem rw_len {s : ByteArray} {P : List ByteArray} {a i : Nat} (h : RwI s P a i) : P.length ≤ s.size + 1 := by
  have hd : (dots s).length ≤ s.size + 1 := by
    rw [dots_len]
    have : s.data.toList.count 46 ≤ s.data.toList.length := List.count_le_length
    have h2 : s.data.toList.length = s.size := rfl
    omega
  by_cases hi : i ≤ s.size
  · obtain ⟨_, h2, _⟩ := h.run hi
    have := congrArg List.length h2
    rw [List.length_append] at this
    omega
  · rw [h.fin (by have := h.le; omega)]; exact hd
theorem take_more {l : List UInt8} {a i : Nat} (ha : a ≤ i) (hi : i < l.length) : (l.drop a).take (i + 1 - a) = (l.drop a).take (i - a) ++ [l.getD i 0] := by
  have e : i + 1 - a = (i - a) + 1 := by omega
  rw [e, take_next _ 0 (i - a) (by rw [List.length_drop]; omega)]
  congr 2
  rw [List.getD_eq_getElem?_getD, List.getD_eq_getElem?_getD, List.getElem?_drop]
  congr 2
  omega
theorem drop_cut {l : List UInt8} {a i : Nat} (ha : a ≤ i) (hi : i < l.length) : l.drop a = (l.drop a).take (i - a) ++ l.getD i 0 :: l.drop (i + 1) := by
  have h1 := List.take_append_drop (i + 1 - a) (l.drop a)
  rw [take_more ha hi, List.drop_drop, show a + (i + 1 - a) = i + 1 from by omega, List.append_assoc] at h1
  exact h1.symm
theorem rw_loop (s : ByteArray) (hs : s.size ≤ 1100000) :
    LTri Tryd.prog default (loopN fRW 4) (tms 0 33 (aW s (sW 0) 0 0)) [(1000, rS [])] (.exit 0) (tms 0 33 [(3, sW (dots s).length)]) [(1000, rS (dots s))] := by
  have hsz : s.data.toList.length = s.size := rfl
  refine ltri_run (W := default) (g := fRW) (b := loopN fRW 4) (σ := {q : List ByteArray × Nat × Nat // RwI s q.1 q.2.1 q.2.2}) 33 (fun q => aW s (sW q.1.1.length) q.1.2.1 q.1.2.2) (fun q => [(1000, rS q.1.1)]) (.exit 0) [(3, sW (dots s).length)] [(1000, rS (dots s))] (fun q => s.size + 1 - q.1.2.2) [1000, 1100, 1101] [0, 3, 4, 5] (by intro h; cases h) (fun _ => rfl) rfl ?_ ⟨([], 0, 0), Nat.zero_le _, fun _ => ⟨Nat.le_refl _, rfl, fun x hx => (by cases hx)⟩, fun h => by have h : 0 = s.size + 1 := h; omega⟩
  rintro ⟨⟨P, a, i⟩, hI⟩
  have hI : RwI s P a i := hI
  simp only
  have hPl := rw_len hI
  by_cases hi : i ≤ s.size
  · obtain ⟨h1, h2, h3⟩ := hI.run hi
    have hw := wrap_succ i (by omega)
    have e1 : decide (Int.ofNat i ≤ (s.size : Int)) = true := decide_eq_true (by simp only [Int.ofNat_eq_natCast]; omega)
    have hlen : (rowV encS P).length = P.length := rS_len P
    have k1 : (0 + P.length * 1).ble (rowV encS P).length = true := row_in encS_len P
    have k2 : ((P.length + 1) * 16).ble 140737488355328 = true := by rw [Nat.ble_eq]; omega
    have k3 : (P.length + 1).ble 9223372036854775807 = true := by rw [Nat.ble_eq]; omega
    have k4 := row_full encS_len P
    have hrow : ∀ y : ByteArray, List.take (P.length * 1) (List.drop 0 (rowV encS P)) ++ [AV.v (Value.string y)] = rowV encS (P ++ [y]) := fun y => row_addW encS_len P y
    by_cases hlast : i = s.size
    · subst hlast
      have hb : (Int.ofNat s.size == (s.size : Int)) = true := beq_iff_eq.2 rfl
      have hP : P ++ [s.extract a s.size] = dots s := by
        rw [← h2]
        congr 1
        have ht : (s.data.toList.drop a).take (s.size - a) = s.data.toList.drop a := List.take_of_length_le (by rw [List.length_drop, hsz]; exact Nat.le_refl _)
        rw [ht] at h3
        rw [splitL_one _ h3, List.map_cons, List.map_nil]
        congr 1
        refine ba_ext ?_
        rw [extract_eq _ _ _ (Nat.le_refl _), ht]; rfl
      refine ⟨[], hWL s.size (s.extract a s.size), [], fun _ _ => noC, fun _ _ => noL, fun F => ?_⟩
      refine cast (congrArg (VAll _) (oWL_eq s (s.extract a s.size) P P.length a s.size F).symm) ⟨⟨?_, rfl, .inl ⟨rfl, ⟨(P ++ [s.extract a s.size], s.size + 1, s.size + 1), Nat.le_refl _, fun h => by have h : s.size + 1 ≤ s.size := h; omega, fun _ => hP⟩, by show s.size + 1 - (s.size + 1) < s.size + 1 - s.size; omega, [(1000, 1101)], by kernel_rfl, by kernel_rfl, ⟨Wk.refl _, ?_, Wk.refl _, Wk.refl _, trivial⟩, ⟨_, rfl, rS_ow (hrow _) rfl⟩, trivial⟩⟩⟩
      · simp only [Cnd.holds, e1, hb, k1, k2, k3, k4, h1, Nat.blt_eq, true_and, and_true]
        and_intros
        all_goals first
          | (with_reducible exact wk_int hw)
          | (with_reducible exact trivial)
          | (with_reducible exact rfl)
          | (with_reducible exact Wk.refl _)
          | (with_reducible exact VW.refl _)
          | (with_reducible exact OW.refl _)
          | (with_reducible exact wk_lit _)
          | (with_reducible assumption)
          | exact rfl
          | exact Wk.refl _
          | exact VW.refl _
          | exact OW.refl _
          | ((repeat (first | exact VW.nil | refine VW.cons (Wk.refl _) ?_ | refine VW.cons (Wk.any _) ?_ | refine VW.cons (wk_cap (Nat.le_refl _)) ?_)); done)
      · rw [List.length_append]; exact Wk.refl _
    · have hlt : i < s.size := by omega
      have hb : (Int.ofNat i == (s.size : Int)) = false := by rw [beq_eq_false_iff_ne]; intro e; simp only [Int.ofNat_eq_natCast] at e; omega
      have hcut := drop_cut (l := s.data.toList) h1 (by rw [hsz]; exact hlt)
      have hmore := take_more (l := s.data.toList) h1 (by rw [hsz]; exact hlt)
      by_cases hd : s.data.toList.getD i 0 = 46
      · have hc : ((((s.data.toList.getD i 0).toNat : Nat) : Int) == Int.ofNat 46) = true := by rw [hd]; rfl
        have hP : (P ++ [s.extract a i]) ++ (splitL (s.data.toList.drop (i + 1))).map bsOf = dots s := by
          rw [← h2]
          conv => rhs; rw [hcut]
          have hx : s.extract a i = bsOf ((s.data.toList.drop a).take (i - a)) := by
            refine ba_ext ?_
            rw [extract_eq _ _ _ (by omega)]; rfl
          rw [hd, splitL_cut _ _ h3, List.map_cons, List.append_assoc, hx]
          rfl
        refine ⟨[], hWC i (s.extract a i) ((s.data.toList.getD i 0).toNat : Int), [], fun _ _ => noC, fun _ _ => noL, fun F => ?_⟩
        refine cast (congrArg (VAll _) (oWC_eq s (s.extract a i) P P.length a i ((s.data.toList.getD i 0).toNat : Int) F).symm) ⟨⟨?_, rfl, .inl ⟨rfl, ⟨(P ++ [s.extract a i], i + 1, i + 1), by show i + 1 ≤ s.size + 1; omega, fun h => ⟨Nat.le_refl _, hP, fun x hx => by simp only [Nat.sub_self, List.take_zero] at hx; cases hx⟩, fun h => by have h : i + 1 = s.size + 1 := h; omega⟩, by show s.size + 1 - (i + 1) < s.size + 1 - i; omega, [(1000, 1101)], by kernel_rfl, by kernel_rfl, ⟨Wk.refl _, ?_, Wk.refl _, Wk.refl _, trivial⟩, ⟨_, rfl, rS_ow (hrow _) rfl⟩, trivial⟩⟩⟩
        · simp only [Cnd.holds, e1, hb, k1, k2, k3, k4, h1, hlt, hi, Nat.blt_eq, true_and, and_true]
          and_intros
          all_goals first
            | (with_reducible exact wk_int hw)
            | exact wk_litE hc
            | (with_reducible exact trivial)
            | (with_reducible exact rfl)
            | (with_reducible exact Wk.refl _)
            | (with_reducible exact VW.refl _)
            | (with_reducible exact OW.refl _)
            | (with_reducible exact wk_lit _)
            | (with_reducible assumption)
            | exact rfl
            | exact Wk.refl _
            | exact VW.refl _
            | exact OW.refl _
            | ((repeat (first | exact VW.nil | refine VW.cons (Wk.refl _) ?_ | refine VW.cons (Wk.any _) ?_ | refine VW.cons (wk_cap (Nat.le_refl _)) ?_)); done)
        · rw [List.length_append]; exact Wk.refl _
      · have hc : ((((s.data.toList.getD i 0).toNat : Nat) : Int) == Int.ofNat 46) = false := by
          rw [beq_eq_false_iff_ne]
          intro e
          refine hd (UInt8.toNat_inj.1 ?_)
          have : (s.data.toList.getD i 0).toNat = 46 := Int.ofNat.inj e
          rw [this]; rfl
        refine ⟨[], hWN i ((s.data.toList.getD i 0).toNat : Int), [], fun _ _ => noC, fun _ _ => noL, fun F => ?_⟩
        refine cast (congrArg (VAll _) (oWN_eq s P P.length a i ((s.data.toList.getD i 0).toNat : Int) F).symm) ⟨⟨?_, rfl, .inl ⟨rfl, ⟨(P, a, i + 1), by show i + 1 ≤ s.size + 1; omega, fun h => ⟨by show a ≤ i + 1; omega, h2, fun x hx => ?_⟩, fun h => by have h : i + 1 = s.size + 1 := h; omega⟩, by show s.size + 1 - (i + 1) < s.size + 1 - i; omega, [(1000, 1000)], by kernel_rfl, by kernel_rfl, ⟨Wk.refl _, Wk.refl _, Wk.refl _, Wk.refl _, trivial⟩, ⟨_, rfl, rS_ow rfl rfl⟩, trivial⟩⟩⟩
        · simp only [Cnd.holds, e1, hb, hlt, Nat.blt_eq, true_and, and_true]
          and_intros
          all_goals first
            | (with_reducible exact wk_int hw)
            | exact wk_litE hc
            | (with_reducible exact trivial)
            | (with_reducible exact rfl)
            | (with_reducible exact Wk.refl _)
            | (with_reducible exact VW.refl _)
            | (with_reducible exact OW.refl _)
            | (with_reducible exact wk_lit _)
            | (with_reducible assumption)
            | exact rfl
            | exact Wk.refl _
            | exact VW.refl _
            | exact OW.refl _
            | ((repeat (first | exact VW.nil | refine VW.cons (Wk.refl _) ?_ | refine VW.cons (Wk.any _) ?_ | refine VW.cons (wk_cap (Nat.le_refl _)) ?_)); done)
        · simp only at hx
          rw [hmore] at hx
          rcases List.mem_append.1 hx with hx | hx
          · exact h3 x hx
          · rw [List.mem_singleton.1 hx]; exact hd
  · have hP := hI.fin (by have := hI.le; omega)
    have e1 : decide (Int.ofNat i ≤ (s.size : Int)) = false := decide_eq_false (by simp only [Int.ofNat_eq_natCast]; omega)
    rw [hP]
    refine ⟨[], hintL [(fRW, 4, 3, hv (.lit false))], [], fun _ _ => noC, fun _ _ => noL, fun F => ?_⟩
    refine cast (congrArg (VAll _) (oWE_eq s (dots s) (dots s).length a i F).symm) ⟨⟨?_, rfl, .inr ⟨rfl, [(1000, 1000)], by kernel_rfl, by kernel_rfl, ⟨Wk.refl _, trivial⟩, ⟨_, rfl, rS_ow rfl rfl⟩, trivial⟩⟩⟩
    simp only [Cnd.holds, and_true]
    exact wk_litE e1
theorem gRw_ro : ∀ args, RO (gRw args) := by
  intro args
  unfold gRw
  split
  · exact RO.ret _
  · exact RO.fail _
theorem lRw_ok (s : ByteArray) (hs : s.size ≤ 1100000) (F : HP) : L1OK Tryd.prog F (loopN fRW 4) (lRw s (dots s) (dots s).length) :=
  mkL_ok (W := default) oldDef gRw_ro (fun _ _ => rw_loop s hs) fun _ => by
    simp only [RT.pick]
    exact closedT rfl rfl (all_cons trivial (all_cons rfl (all_cons trivial (all_cons trivial all_nil)))) (all_cons (rS_cl _ _) all_nil) (all_cons rfl all_nil) (all_cons (rS_cl _ _) all_nil)
theorem RWords_tri (s : ByteArray) (hs : s.size ≤ 1100000) : Tri Tryd.prog default fRW [sv s] [] (sW (dots s).length) [(1000, rS (dots s))] := by
  refine tri_run (con := []) (hints := noHints) (lc := [(fRW, 4, loopN fRW 4, lRw s (dots s) (dots s).length)]) [1100, 1101] rfl (fun F _ => noC) (fun F _ => one_l (lRw_ok s hs F)) fun F => ?_
  refine cast (congrArg (VAll _) (oRWf_eq s (dots s) (dots s).length F).symm) ⟨⟨?_, (fit_mk (vs' := [sW (dots s).length]) (H' := [(1000, rS (dots s))]) [(1000, 1101)] rfl rfl (VW.refl _) ⟨⟨_, rfl, rS_ow (by rw [rens_rowV]) rfl⟩, trivial⟩).fits rfl⟩⟩
  simp only [Cnd.holds, Nat.blt_eq, true_and, and_true]
  and_intros
  all_goals first
    | (with_reducible exact trivial)
    | (with_reducible exact rfl)
    | (with_reducible exact Wk.refl _)
    | (with_reducible exact VW.refl _)
    | (with_reducible exact OW.refl _)
    | (with_reducible exact wk_lit _)
    | (with_reducible assumption)
    | exact rfl
    | exact Wk.refl _
    | exact VW.refl _
    | exact OW.refl _
    | ((repeat (first | exact VW.nil | refine VW.cons (Wk.refl _) ?_ | refine VW.cons (Wk.any _) ?_ | refine VW.cons (wk_cap (Nat.le_refl _)) ?_)); done)
end Go.Proofs.YtbmoancedlbhlaaDoor.Tpc

/- Topic: the document's match: runs. -/
set_option linter.unusedVariables false
set_option linter.unusedSimpArgs false
set_option maxRecDepth 100000
namespace Go.Proofs.YtbmoancedlbhlaaDoor.Tpc
open Go Go.RowKit Go.Proofs.YtbmoancedlbhlaaDoor.Eng Go.Proofs.YtbmoancedlbhlaaDoor.Kit
noncomputable section
abbrev fRM : Nat := 10
abbrev tBool : TypeId := 2 * 4
def encB (b : Bool) : List Value := [.bool b]
def rB (l : List Bool) : AO := .cells (rowV encB l) tBool
def sB (i n : Nat) : AV := .slice i 0 n 1 (.lo n)
def aX (np nk n j : Nat) : List (Nat × AV) := [(5, sB 0 np), (6, sB 1 nk), (7, sB 1000 n), (8, iv (Int.ofNat j))]
def oX (ps ks : List ByteArray) (R : List Bool) : LH := [(0, rS ps), (1, rS ks), (1000, rB R)]
theorem oX1_eq (ps ks : List ByteArray) (R : List Bool) (np nk n j : Nat) (F : HP) : wLoop [] (hintL [(fRM, 4, 3, hv (.lit true)), (fRM, 5, 1, hv (iv (Int.ofNat (j + 1))))]) [] default fRM (loopN fRM 4) (tms 0 96 (aX np nk n j)) (oX ps ks R) [0, 1, 1000, 1100, 1101] [5, 6, 7, 8] F = VT.leaf (AX.normal, [AV.slice 0 0 np 1 (Cp.lo np), AV.slice 1 0 nk 1 (Cp.lo nk), AV.slice 1101 0 (n + 1) 1 (Cp.lo (n + 1)), AV.v (Value.int IntKind.i64 (Int.ofNat (j + 1)))], 96) [some (AO.cells (rowV encS ps) 18), some (AO.cells (rowV encS ks) 18), none, some (AO.cells [AV.v (Value.bool false)] 8), some (AO.cells (List.take (n * 1) (List.drop 0 (rowV encB R)) ++ [AV.v (Value.bool false)]) 8)] 1102 (((Cnd.p (Wk (AV.v (Value.bool (decide (Int.ofNat j < ↑nk)))) (AV.lit true))).a Cnd.t).a (((Cnd.p (true = true)).a ((Cnd.p (true = true)).a ((Cnd.p (true = true)).a ((Cnd.p (true = true)).a ((Cnd.p ((0 + n * 1).ble (rowV encB R).length = true)).a ((Cnd.p (((n + 1) * 1).ble 140737488355328 = true)).a ((Cnd.p ((n + 1).ble 9223372036854775807 = true)).a ((Cnd.p ((List.take (n * 1) (List.drop 0 (rowV encB R))).length.beq (n * 1) = true)).a Cnd.t)))))))).a (((Cnd.p (Wk (AV.v (Value.int IntKind.i64 (IntKind.i64.wrap (Int.ofNat j + Int.ofNat 1)))) (AV.v (Value.int IntKind.i64 (Int.ofNat (j + 1)))))).a Cnd.t).a Cnd.t))) := by kernel_rfl
theorem oXE_eq (ps ks : List ByteArray) (R : List Bool) (np nk n : Nat) (F : HP) : wLoop [] (hintL [(fRM, 4, 3, hv (.lit false))]) [] default fRM (loopN fRM 4) (tms 0 96 (aX np nk n nk)) (oX ps ks R) [0, 1, 1000, 1100, 1101] [5, 6, 7, 8] F = VT.leaf (AX.exit 0, [AV.slice 0 0 np 1 (Cp.lo np), AV.slice 1 0 nk 1 (Cp.lo nk), AV.slice 1000 0 n 1 (Cp.lo n), AV.v (Value.int IntKind.i64 (Int.ofNat nk))], 96) [some (AO.cells (rowV encS ps) 18), some (AO.cells (rowV encS ks) 18), some (AO.cells (rowV encB R) 8), none, none] 1100 (((Cnd.p (Wk (AV.v (Value.bool (decide (Int.ofNat nk < ↑nk)))) (AV.lit false))).a Cnd.t).a Cnd.t) := by kernel_rfl
def aY (np nk n i m j : Nat) : List (Nat × AV) := [(5, sB 0 np), (6, sB 1 nk), (7, sB 2 n), (9, iv (Int.ofNat i)), (10, sB 1000 m), (11, iv (Int.ofNat j))]
def oY (ps ks : List ByteArray) (R T : List Bool) : LH := [(0, rS ps), (1, rS ks), (2, rB R), (1000, rB T)]
def hYH (j : Nat) (p : ByteArray) (q b : Bool) : ClaimT := hintL [(fRM, 12, 3, hv (.lit true)), (fRM, 13, 1, hv (iv (Int.ofNat (j + 1)))), (fRM, 15, 3, hv (sv p)), (fRM, 15, 4, hv (.lit true)), (fRM, 16, 2, hv (iv (Int.ofNat (j + 1)))), (fRM, 16, 4, hv (.lit q)), (fRM, 16, 9, hv (bv b))]
theorem oYH1_eq (ps ks : List ByteArray) (R T : List Bool) (p : ByteArray) (np nk n i m j : Nat) (b : Bool) (F : HP) : wLoop [] (hYH j p true b) [] default fRM (loopN fRM 12) (tms 0 96 (aY np nk n i m j)) (oY ps ks R T) [0, 1, 2, 1000, 1100, 1101] [5, 6, 7, 9, 10, 11] F = VT.leaf (AX.normal, [AV.slice 0 0 np 1 (Cp.lo np), AV.slice 1 0 nk 1 (Cp.lo nk), AV.slice 2 0 n 1 (Cp.lo n), AV.v (Value.int IntKind.i64 (Int.ofNat i)), AV.slice 1101 0 (m + 1) 1 (Cp.lo (m + 1)), AV.v (Value.int IntKind.i64 (Int.ofNat (j + 1)))], 96) [some (AO.cells (rowV encS ps) 18), some (AO.cells (rowV encS ks) 18), some (AO.cells (rowV encB R) 8), none, some (AO.cells [AV.v (Value.bool true)] 8), some (AO.cells (List.take (m * 1) (List.drop 0 (rowV encB T)) ++ [AV.v (Value.bool true)]) 8)] 1102 (((Cnd.p (Wk (AV.v (Value.bool (decide (Int.ofNat j < ↑nk)))) (AV.lit true))).a Cnd.t).a (((Cnd.p (i.blt np = true)).a Cnd.t).a (((Cnd.p ((0 + i * 1).blt (rowV encS ps).length = true)).a ((Cnd.p ((rowV encS ps).getD (0 + i * 1) (AV.v (Value.tuple (Array.mk []))) = AV.v (Value.string ((rowV encS ps).getD (0 + i * 1) (AV.v (Value.tuple (Array.mk [])))).strOf))).a ((Cnd.p (Wk (AV.v (Value.string ((rowV encS ps).getD (0 + i * 1) (AV.v (Value.tuple (Array.mk [])))).strOf)) (AV.v (Value.string p)))).a Cnd.t))).a (((Cnd.p (Wk (AV.v (Value.bool (p.toList == [(ByteArray.mk (Array.mk [35])).get! 0]))) (AV.lit true))).a Cnd.t).a (((Cnd.p (Wk (AV.v (Value.int IntKind.i64 (IntKind.i64.wrap (Int.ofNat j + Int.ofNat 1)))) (AV.v (Value.int IntKind.i64 (Int.ofNat (j + 1)))))).a Cnd.t).a (((Cnd.p ((j + 1).blt n = true)).a Cnd.t).a (((Cnd.p ((0 + (j + 1) * 1).blt (rowV encB R).length = true)).a ((Cnd.p (((rowV encB R).getD (0 + (j + 1) * 1) (AV.v (Value.tuple (Array.mk [])))).bool? = some ((rowV encB R).getD (0 + (j + 1) * 1) (AV.v (Value.tuple (Array.mk [])))).boolOf)).a ((Cnd.p (Wk (AV.v (Value.bool ((rowV encB R).getD (0 + (j + 1) * 1) (AV.v (Value.tuple (Array.mk [])))).boolOf)) (AV.lit true))).a Cnd.t))).a (((Cnd.p (true = true)).a ((Cnd.p (true = true)).a ((Cnd.p (true = true)).a ((Cnd.p (true = true)).a ((Cnd.p ((0 + m * 1).ble (rowV encB T).length = true)).a ((Cnd.p (((m + 1) * 1).ble 140737488355328 = true)).a ((Cnd.p ((m + 1).ble 9223372036854775807 = true)).a ((Cnd.p ((List.take (m * 1) (List.drop 0 (rowV encB T))).length.beq (m * 1) = true)).a Cnd.t)))))))).a (((Cnd.p (Wk (AV.v (Value.int IntKind.i64 (IntKind.i64.wrap (Int.ofNat j + Int.ofNat 1)))) (AV.v (Value.int IntKind.i64 (Int.ofNat (j + 1)))))).a Cnd.t).a Cnd.t))))))))) := by kernel_rfl
theorem oYH0_eq (ps ks : List ByteArray) (R T : List Bool) (p : ByteArray) (np nk n i m j : Nat) (b : Bool) (F : HP) : wLoop [] (hYH j p false b) [] default fRM (loopN fRM 12) (tms 0 96 (aY np nk n i m j)) (oY ps ks R T) [0, 1, 2, 1000, 1100, 1101] [5, 6, 7, 9, 10, 11] F = VT.leaf (AX.normal, [AV.slice 0 0 np 1 (Cp.lo np), AV.slice 1 0 nk 1 (Cp.lo nk), AV.slice 2 0 n 1 (Cp.lo n), AV.v (Value.int IntKind.i64 (Int.ofNat i)), AV.slice 1101 0 (m + 1) 1 (Cp.lo (m + 1)), AV.v (Value.int IntKind.i64 (Int.ofNat (j + 1)))], 96) [some (AO.cells (rowV encS ps) 18), some (AO.cells (rowV encS ks) 18), some (AO.cells (rowV encB R) 8), none, some (AO.cells [AV.v (Value.bool b)] 8), some (AO.cells (List.take (m * 1) (List.drop 0 (rowV encB T)) ++ [AV.v (Value.bool b)]) 8)] 1102 (((Cnd.p (Wk (AV.v (Value.bool (decide (Int.ofNat j < ↑nk)))) (AV.lit true))).a Cnd.t).a (((Cnd.p (i.blt np = true)).a Cnd.t).a (((Cnd.p ((0 + i * 1).blt (rowV encS ps).length = true)).a ((Cnd.p ((rowV encS ps).getD (0 + i * 1) (AV.v (Value.tuple (Array.mk []))) = AV.v (Value.string ((rowV encS ps).getD (0 + i * 1) (AV.v (Value.tuple (Array.mk [])))).strOf))).a ((Cnd.p (Wk (AV.v (Value.string ((rowV encS ps).getD (0 + i * 1) (AV.v (Value.tuple (Array.mk [])))).strOf)) (AV.v (Value.string p)))).a Cnd.t))).a (((Cnd.p (Wk (AV.v (Value.bool (p.toList == [(ByteArray.mk (Array.mk [35])).get! 0]))) (AV.lit true))).a Cnd.t).a (((Cnd.p (Wk (AV.v (Value.int IntKind.i64 (IntKind.i64.wrap (Int.ofNat j + Int.ofNat 1)))) (AV.v (Value.int IntKind.i64 (Int.ofNat (j + 1)))))).a Cnd.t).a (((Cnd.p ((j + 1).blt n = true)).a Cnd.t).a (((Cnd.p ((0 + (j + 1) * 1).blt (rowV encB R).length = true)).a ((Cnd.p (((rowV encB R).getD (0 + (j + 1) * 1) (AV.v (Value.tuple (Array.mk [])))).bool? = some ((rowV encB R).getD (0 + (j + 1) * 1) (AV.v (Value.tuple (Array.mk [])))).boolOf)).a ((Cnd.p (Wk (AV.v (Value.bool ((rowV encB R).getD (0 + (j + 1) * 1) (AV.v (Value.tuple (Array.mk [])))).boolOf)) (AV.lit false))).a Cnd.t))).a (((Cnd.p (j.blt m = true)).a Cnd.t).a (((Cnd.p ((0 + j * 1).blt (rowV encB T).length = true)).a ((Cnd.p (((rowV encB T).getD (0 + j * 1) (AV.v (Value.tuple (Array.mk [])))).bool? = some ((rowV encB T).getD (0 + j * 1) (AV.v (Value.tuple (Array.mk [])))).boolOf)).a ((Cnd.p (Wk (AV.v (Value.bool ((rowV encB T).getD (0 + j * 1) (AV.v (Value.tuple (Array.mk [])))).boolOf)) (AV.v (Value.bool b)))).a Cnd.t))).a (((Cnd.p (true = true)).a ((Cnd.p (true = true)).a ((Cnd.p (true = true)).a ((Cnd.p (true = true)).a ((Cnd.p ((0 + m * 1).ble (rowV encB T).length = true)).a ((Cnd.p (((m + 1) * 1).ble 140737488355328 = true)).a ((Cnd.p ((m + 1).ble 9223372036854775807 = true)).a ((Cnd.p ((List.take (m * 1) (List.drop 0 (rowV encB T))).length.beq (m * 1) = true)).a Cnd.t)))))))).a (((Cnd.p (Wk (AV.v (Value.int IntKind.i64 (IntKind.i64.wrap (Int.ofNat j + Int.ofNat 1)))) (AV.v (Value.int IntKind.i64 (Int.ofNat (j + 1)))))).a Cnd.t).a Cnd.t))))))))))) := by kernel_rfl
def hYN (j : Nat) (p k : ByteArray) (star eq b : Bool) : ClaimT := hintL [(fRM, 12, 3, hv (.lit true)), (fRM, 13, 1, hv (iv (Int.ofNat (j + 1)))), (fRM, 15, 3, hv (sv p)), (fRM, 15, 4, hv (.lit false)), (fRM, 17, 3, hv (sv p)), (fRM, 17, 4, hv (.lit star)), (fRM, 17, 9, hv (sv p)), (fRM, 17, 13, hv (sv k)), (fRM, 17, 14, hv (.lit eq)), (fRM, 17, 15, hv (.lit (star || eq))), (fRM, 18, 3, hv (bv b))]
theorem oYS_eq (ps ks : List ByteArray) (R T : List Bool) (p k : ByteArray) (np nk n i m j : Nat) (b : Bool) (F : HP) : wLoop [] (hYN j p k true false b) [] default fRM (loopN fRM 12) (tms 0 96 (aY np nk n i m j)) (oY ps ks R T) [0, 1, 2, 1000, 1100, 1101] [5, 6, 7, 9, 10, 11] F = VT.leaf (AX.normal, [AV.slice 0 0 np 1 (Cp.lo np), AV.slice 1 0 nk 1 (Cp.lo nk), AV.slice 2 0 n 1 (Cp.lo n), AV.v (Value.int IntKind.i64 (Int.ofNat i)), AV.slice 1101 0 (m + 1) 1 (Cp.lo (m + 1)), AV.v (Value.int IntKind.i64 (Int.ofNat (j + 1)))], 96) [some (AO.cells (rowV encS ps) 18), some (AO.cells (rowV encS ks) 18), some (AO.cells (rowV encB R) 8), none, some (AO.cells [AV.v (Value.bool b)] 8), some (AO.cells (List.take (m * 1) (List.drop 0 (rowV encB T)) ++ [AV.v (Value.bool b)]) 8)] 1102 (((Cnd.p (Wk (AV.v (Value.bool (decide (Int.ofNat j < ↑nk)))) (AV.lit true))).a Cnd.t).a (((Cnd.p (i.blt np = true)).a Cnd.t).a (((Cnd.p ((0 + i * 1).blt (rowV encS ps).length = true)).a ((Cnd.p ((rowV encS ps).getD (0 + i * 1) (AV.v (Value.tuple (Array.mk []))) = AV.v (Value.string ((rowV encS ps).getD (0 + i * 1) (AV.v (Value.tuple (Array.mk [])))).strOf))).a ((Cnd.p (Wk (AV.v (Value.string ((rowV encS ps).getD (0 + i * 1) (AV.v (Value.tuple (Array.mk [])))).strOf)) (AV.v (Value.string p)))).a Cnd.t))).a (((Cnd.p (Wk (AV.v (Value.bool (p.toList == [(ByteArray.mk (Array.mk [35])).get! 0]))) (AV.lit false))).a Cnd.t).a (((Cnd.p (i.blt np = true)).a Cnd.t).a (((Cnd.p ((0 + i * 1).blt (rowV encS ps).length = true)).a ((Cnd.p ((rowV encS ps).getD (0 + i * 1) (AV.v (Value.tuple (Array.mk []))) = AV.v (Value.string ((rowV encS ps).getD (0 + i * 1) (AV.v (Value.tuple (Array.mk [])))).strOf))).a ((Cnd.p (Wk (AV.v (Value.string ((rowV encS ps).getD (0 + i * 1) (AV.v (Value.tuple (Array.mk [])))).strOf)) (AV.v (Value.string p)))).a Cnd.t))).a (((Cnd.p (Wk (AV.v (Value.bool (p.toList == [(ByteArray.mk (Array.mk [42])).get! 0]))) (AV.lit true))).a Cnd.t).a (((Cnd.p (Wk (AV.lit true) (AV.lit true))).a Cnd.t).a (((Cnd.p (j.blt n = true)).a Cnd.t).a (((Cnd.p ((0 + j * 1).blt (rowV encB R).length = true)).a ((Cnd.p (((rowV encB R).getD (0 + j * 1) (AV.v (Value.tuple (Array.mk [])))).bool? = some ((rowV encB R).getD (0 + j * 1) (AV.v (Value.tuple (Array.mk [])))).boolOf)).a ((Cnd.p (Wk (AV.v (Value.bool ((rowV encB R).getD (0 + j * 1) (AV.v (Value.tuple (Array.mk [])))).boolOf)) (AV.v (Value.bool b)))).a Cnd.t))).a (((Cnd.p (true = true)).a ((Cnd.p (true = true)).a ((Cnd.p (true = true)).a ((Cnd.p (true = true)).a ((Cnd.p ((0 + m * 1).ble (rowV encB T).length = true)).a ((Cnd.p (((m + 1) * 1).ble 140737488355328 = true)).a ((Cnd.p ((m + 1).ble 9223372036854775807 = true)).a ((Cnd.p ((List.take (m * 1) (List.drop 0 (rowV encB T))).length.beq (m * 1) = true)).a Cnd.t)))))))).a (((Cnd.p (Wk (AV.v (Value.int IntKind.i64 (IntKind.i64.wrap (Int.ofNat j + Int.ofNat 1)))) (AV.v (Value.int IntKind.i64 (Int.ofNat (j + 1)))))).a Cnd.t).a Cnd.t)))))))))))) := by kernel_rfl
theorem oYE_eq (ps ks : List ByteArray) (R T : List Bool) (p k : ByteArray) (np nk n i m j : Nat) (b : Bool) (F : HP) : wLoop [] (hYN j p k false true b) [] default fRM (loopN fRM 12) (tms 0 96 (aY np nk n i m j)) (oY ps ks R T) [0, 1, 2, 1000, 1100, 1101] [5, 6, 7, 9, 10, 11] F = VT.leaf (AX.normal, [AV.slice 0 0 np 1 (Cp.lo np), AV.slice 1 0 nk 1 (Cp.lo nk), AV.slice 2 0 n 1 (Cp.lo n), AV.v (Value.int IntKind.i64 (Int.ofNat i)), AV.slice 1101 0 (m + 1) 1 (Cp.lo (m + 1)), AV.v (Value.int IntKind.i64 (Int.ofNat (j + 1)))], 96) [some (AO.cells (rowV encS ps) 18), some (AO.cells (rowV encS ks) 18), some (AO.cells (rowV encB R) 8), none, some (AO.cells [AV.v (Value.bool b)] 8), some (AO.cells (List.take (m * 1) (List.drop 0 (rowV encB T)) ++ [AV.v (Value.bool b)]) 8)] 1102 (((Cnd.p (Wk (AV.v (Value.bool (decide (Int.ofNat j < ↑nk)))) (AV.lit true))).a Cnd.t).a (((Cnd.p (i.blt np = true)).a Cnd.t).a (((Cnd.p ((0 + i * 1).blt (rowV encS ps).length = true)).a ((Cnd.p ((rowV encS ps).getD (0 + i * 1) (AV.v (Value.tuple (Array.mk []))) = AV.v (Value.string ((rowV encS ps).getD (0 + i * 1) (AV.v (Value.tuple (Array.mk [])))).strOf))).a ((Cnd.p (Wk (AV.v (Value.string ((rowV encS ps).getD (0 + i * 1) (AV.v (Value.tuple (Array.mk [])))).strOf)) (AV.v (Value.string p)))).a Cnd.t))).a (((Cnd.p (Wk (AV.v (Value.bool (p.toList == [(ByteArray.mk (Array.mk [35])).get! 0]))) (AV.lit false))).a Cnd.t).a (((Cnd.p (i.blt np = true)).a Cnd.t).a (((Cnd.p ((0 + i * 1).blt (rowV encS ps).length = true)).a ((Cnd.p ((rowV encS ps).getD (0 + i * 1) (AV.v (Value.tuple (Array.mk []))) = AV.v (Value.string ((rowV encS ps).getD (0 + i * 1) (AV.v (Value.tuple (Array.mk [])))).strOf))).a ((Cnd.p (Wk (AV.v (Value.string ((rowV encS ps).getD (0 + i * 1) (AV.v (Value.tuple (Array.mk [])))).strOf)) (AV.v (Value.string p)))).a Cnd.t))).a (((Cnd.p (Wk (AV.v (Value.bool (p.toList == [(ByteArray.mk (Array.mk [42])).get! 0]))) (AV.lit false))).a Cnd.t).a (((Cnd.p (i.blt np = true)).a Cnd.t).a (((Cnd.p ((0 + i * 1).blt (rowV encS ps).length = true)).a ((Cnd.p ((rowV encS ps).getD (0 + i * 1) (AV.v (Value.tuple (Array.mk []))) = AV.v (Value.string ((rowV encS ps).getD (0 + i * 1) (AV.v (Value.tuple (Array.mk [])))).strOf))).a ((Cnd.p (Wk (AV.v (Value.string ((rowV encS ps).getD (0 + i * 1) (AV.v (Value.tuple (Array.mk [])))).strOf)) (AV.v (Value.string p)))).a Cnd.t))).a (((Cnd.p (j.blt nk = true)).a Cnd.t).a (((Cnd.p ((0 + j * 1).blt (rowV encS ks).length = true)).a ((Cnd.p ((rowV encS ks).getD (0 + j * 1) (AV.v (Value.tuple (Array.mk []))) = AV.v (Value.string ((rowV encS ks).getD (0 + j * 1) (AV.v (Value.tuple (Array.mk [])))).strOf))).a ((Cnd.p (Wk (AV.v (Value.string ((rowV encS ks).getD (0 + j * 1) (AV.v (Value.tuple (Array.mk [])))).strOf)) (AV.v (Value.string k)))).a Cnd.t))).a (((Cnd.p (Wk (AV.v (Value.bool (p.toList == k.toList))) (AV.lit true))).a Cnd.t).a (((Cnd.p (Wk (AV.lit true) (AV.lit true))).a Cnd.t).a (((Cnd.p (j.blt n = true)).a Cnd.t).a (((Cnd.p ((0 + j * 1).blt (rowV encB R).length = true)).a ((Cnd.p (((rowV encB R).getD (0 + j * 1) (AV.v (Value.tuple (Array.mk [])))).bool? = some ((rowV encB R).getD (0 + j * 1) (AV.v (Value.tuple (Array.mk [])))).boolOf)).a ((Cnd.p (Wk (AV.v (Value.bool ((rowV encB R).getD (0 + j * 1) (AV.v (Value.tuple (Array.mk [])))).boolOf)) (AV.v (Value.bool b)))).a Cnd.t))).a (((Cnd.p (true = true)).a ((Cnd.p (true = true)).a ((Cnd.p (true = true)).a ((Cnd.p (true = true)).a ((Cnd.p ((0 + m * 1).ble (rowV encB T).length = true)).a ((Cnd.p (((m + 1) * 1).ble 140737488355328 = true)).a ((Cnd.p ((m + 1).ble 9223372036854775807 = true)).a ((Cnd.p ((List.take (m * 1) (List.drop 0 (rowV encB T))).length.beq (m * 1) = true)).a Cnd.t)))))))).a (((Cnd.p (Wk (AV.v (Value.int IntKind.i64 (IntKind.i64.wrap (Int.ofNat j + Int.ofNat 1)))) (AV.v (Value.int IntKind.i64 (Int.ofNat (j + 1)))))).a Cnd.t).a Cnd.t))))))))))))))))) := by kernel_rfl
theorem oYN_eq (ps ks : List ByteArray) (R T : List Bool) (p k : ByteArray) (np nk n i m j : Nat) (F : HP) : wLoop [] (hYN j p k false false false) [] default fRM (loopN fRM 12) (tms 0 96 (aY np nk n i m j)) (oY ps ks R T) [0, 1, 2, 1000, 1100, 1101] [5, 6, 7, 9, 10, 11] F = VT.leaf (AX.normal, [AV.slice 0 0 np 1 (Cp.lo np), AV.slice 1 0 nk 1 (Cp.lo nk), AV.slice 2 0 n 1 (Cp.lo n), AV.v (Value.int IntKind.i64 (Int.ofNat i)), AV.slice 1101 0 (m + 1) 1 (Cp.lo (m + 1)), AV.v (Value.int IntKind.i64 (Int.ofNat (j + 1)))], 96) [some (AO.cells (rowV encS ps) 18), some (AO.cells (rowV encS ks) 18), some (AO.cells (rowV encB R) 8), none, some (AO.cells [AV.v (Value.bool false)] 8), some (AO.cells (List.take (m * 1) (List.drop 0 (rowV encB T)) ++ [AV.v (Value.bool false)]) 8)] 1102 (((Cnd.p (Wk (AV.v (Value.bool (decide (Int.ofNat j < ↑nk)))) (AV.lit true))).a Cnd.t).a (((Cnd.p (i.blt np = true)).a Cnd.t).a (((Cnd.p ((0 + i * 1).blt (rowV encS ps).length = true)).a ((Cnd.p ((rowV encS ps).getD (0 + i * 1) (AV.v (Value.tuple (Array.mk []))) = AV.v (Value.string ((rowV encS ps).getD (0 + i * 1) (AV.v (Value.tuple (Array.mk [])))).strOf))).a ((Cnd.p (Wk (AV.v (Value.string ((rowV encS ps).getD (0 + i * 1) (AV.v (Value.tuple (Array.mk [])))).strOf)) (AV.v (Value.string p)))).a Cnd.t))).a (((Cnd.p (Wk (AV.v (Value.bool (p.toList == [(ByteArray.mk (Array.mk [35])).get! 0]))) (AV.lit false))).a Cnd.t).a (((Cnd.p (i.blt np = true)).a Cnd.t).a (((Cnd.p ((0 + i * 1).blt (rowV encS ps).length = true)).a ((Cnd.p ((rowV encS ps).getD (0 + i * 1) (AV.v (Value.tuple (Array.mk []))) = AV.v (Value.string ((rowV encS ps).getD (0 + i * 1) (AV.v (Value.tuple (Array.mk [])))).strOf))).a ((Cnd.p (Wk (AV.v (Value.string ((rowV encS ps).getD (0 + i * 1) (AV.v (Value.tuple (Array.mk [])))).strOf)) (AV.v (Value.string p)))).a Cnd.t))).a (((Cnd.p (Wk (AV.v (Value.bool (p.toList == [(ByteArray.mk (Array.mk [42])).get! 0]))) (AV.lit false))).a Cnd.t).a (((Cnd.p (i.blt np = true)).a Cnd.t).a (((Cnd.p ((0 + i * 1).blt (rowV encS ps).length = true)).a ((Cnd.p ((rowV encS ps).getD (0 + i * 1) (AV.v (Value.tuple (Array.mk []))) = AV.v (Value.string ((rowV encS ps).getD (0 + i * 1) (AV.v (Value.tuple (Array.mk [])))).strOf))).a ((Cnd.p (Wk (AV.v (Value.string ((rowV encS ps).getD (0 + i * 1) (AV.v (Value.tuple (Array.mk [])))).strOf)) (AV.v (Value.string p)))).a Cnd.t))).a (((Cnd.p (j.blt nk = true)).a Cnd.t).a (((Cnd.p ((0 + j * 1).blt (rowV encS ks).length = true)).a ((Cnd.p ((rowV encS ks).getD (0 + j * 1) (AV.v (Value.tuple (Array.mk []))) = AV.v (Value.string ((rowV encS ks).getD (0 + j * 1) (AV.v (Value.tuple (Array.mk [])))).strOf))).a ((Cnd.p (Wk (AV.v (Value.string ((rowV encS ks).getD (0 + j * 1) (AV.v (Value.tuple (Array.mk [])))).strOf)) (AV.v (Value.string k)))).a Cnd.t))).a (((Cnd.p (Wk (AV.v (Value.bool (p.toList == k.toList))) (AV.lit false))).a Cnd.t).a (((Cnd.p (Wk (AV.lit false) (AV.lit false))).a Cnd.t).a (((Cnd.p (true = true)).a ((Cnd.p (true = true)).a ((Cnd.p (true = true)).a ((Cnd.p (true = true)).a ((Cnd.p ((0 + m * 1).ble (rowV encB T).length = true)).a ((Cnd.p (((m + 1) * 1).ble 140737488355328 = true)).a ((Cnd.p ((m + 1).ble 9223372036854775807 = true)).a ((Cnd.p ((List.take (m * 1) (List.drop 0 (rowV encB T))).length.beq (m * 1) = true)).a Cnd.t)))))))).a (((Cnd.p (Wk (AV.v (Value.int IntKind.i64 (IntKind.i64.wrap (Int.ofNat j + Int.ofNat 1)))) (AV.v (Value.int IntKind.i64 (Int.ofNat (j + 1)))))).a Cnd.t).a Cnd.t))))))))))))))) := by kernel_rfl
theorem oYX_eq (ps ks : List ByteArray) (R T : List Bool) (np nk n i m : Nat) (F : HP) : wLoop [] (hintL [(fRM, 12, 3, hv (.lit false))]) [] default fRM (loopN fRM 12) (tms 0 96 (aY np nk n i m nk)) (oY ps ks R T) [0, 1, 2, 1000, 1100, 1101] [5, 6, 7, 9, 10, 11] F = VT.leaf (AX.exit 4, [AV.slice 0 0 np 1 (Cp.lo np), AV.slice 1 0 nk 1 (Cp.lo nk), AV.slice 2 0 n 1 (Cp.lo n), AV.v (Value.int IntKind.i64 (Int.ofNat i)), AV.slice 1000 0 m 1 (Cp.lo m), AV.v (Value.int IntKind.i64 (Int.ofNat nk))], 96) [some (AO.cells (rowV encS ps) 18), some (AO.cells (rowV encS ks) 18), some (AO.cells (rowV encB R) 8), some (AO.cells (rowV encB T) 8), none, none] 1100 (((Cnd.p (Wk (AV.v (Value.bool (decide (Int.ofNat nk < ↑nk)))) (AV.lit false))).a Cnd.t).a Cnd.t) := by kernel_rfl
end
end Go.Proofs.YtbmoancedlbhlaaDoor.Tpc

/- Topic: the document's match: its loops. -/
set_option linter.unusedVariables false
set_option linter.unusedSimpArgs false
set_option maxRecDepth 100000
namespace Go.Proofs.YtbmoancedlbhlaaDoor.Tpc
open Go Go.RowKit Go.Proofs.YtbmoancedlbhlaaDoor.Eng Go.Proofs.YtbmoancedlbhlaaDoor.Kit
theorem encB_len (x : Bool) : (encB x).length = 1 := rfl
theorem rB_len (M : List Bool) : (rowV encB M).length = M.length := by rw [rowV_length (k := 1) encB_len, Nat.mul_one]
theorem rB_get (M : List Bool) (i : Nat) (hi : i < M.length) (d : AV) : (rowV encB M).getD (0 + i * 1) d = bv (M.getD i false) := by
  have := row_getD encB_len M false i hi 0 (by decide) _ rfl d
  rwa [Nat.add_zero] at this
theorem rB_lt (M : List Bool) (i : Nat) (hi : i < M.length) : (0 + i * 1).blt (rowV encB M).length = true := by
  rw [rB_len, Nat.blt_eq]; omega
theorem rB_ren (σ : Nat → Nat) (L : List Bool) : (rB L).ren σ = rB L := by simp only [rB, AO.ren, rens_rowV]
theorem rB_ow {x : List AV} {L : List Bool} {e : TypeId} {σ : Nat → Nat} (h : x = rowV encB L) (he : e = tBool) : OW (.cells x e) ((rB L).ren σ) := by rw [rB_ren]; subst h he; exact OW.refl _
theorem rB_cl (K : Nat → Bool) (L : List Bool) : (rB L).cl K := cls_rowV _ _
theorem rB_add (P : List Bool) (y : Bool) : List.take (P.length * 1) (List.drop 0 (rowV encB P)) ++ [AV.v (Value.bool y)] = rowV encB (P ++ [y]) := row_addW encB_len P y
def rowT (p k : Path) (i : Nat) : List Bool := (List.range (k.length + 1)).map fun j => mt (p.take i).reverse (k.take j).reverse
theorem rowT_len (p k : Path) (i : Nat) : (rowT p k i).length = k.length + 1 := by simp [rowT]
theorem rowT_get (p k : Path) (i j : Nat) (hj : j ≤ k.length) : (rowT p k i).getD j false = mt (p.take i).reverse (k.take j).reverse := by
  unfold rowT
  rw [List.getD_eq_getElem?_getD, List.getElem?_map, List.getElem?_range (by omega)]
  rfl
theorem rowT_next (p k : Path) (i j : Nat) (hj : j < k.length) : (rowT p k i).take (j + 1 + 1) = (rowT p k i).take (j + 1) ++ [mt (p.take i).reverse (k.take (j + 1)).reverse] := by
  rw [take_next _ false (j + 1) (by rw [rowT_len]; omega), rowT_get _ _ _ _ (by omega)]
theorem rowT_tlen (p k : Path) (i j : Nat) (hj : j ≤ k.length) : ((rowT p k i).take (j + 1)).length = j + 1 := by rw [List.length_take, rowT_len]; omega
theorem rowT_tget (p k : Path) (i j : Nat) (hj : j ≤ k.length) : ((rowT p k i).take (j + 1)).getD j false = mt (p.take i).reverse (k.take j).reverse := by
  rw [← rowT_get p k i j hj, List.getD_eq_getElem?_getD, List.getD_eq_getElem?_getD, List.getElem?_take_of_lt (by omega)]
theorem rev_next (k : Path) (j : Nat) (hj : j < k.length) : (k.take (j + 1)).reverse = k.getD j nil0 :: (k.take j).reverse := by
  rw [take_next k nil0 j hj, List.reverse_append]; rfl
theorem ltFC {n : Nat} : decide (Int.ofNat n < (n : Int)) = false := decide_eq_false (by simp only [Int.ofNat_eq_natCast]; omega)
theorem ltTC {j n : Nat} (h : j < n) : decide (Int.ofNat j < (n : Int)) = true := decide_eq_true (by simp only [Int.ofNat_eq_natCast]; omega)
theorem x_loop (p k : Path) (hk : k.length ≤ 1200000) :
    LTri Tryd.prog default (loopN fRM 4) (tms 0 96 (aX p.length k.length 1 0)) (oX p k [true]) (.exit 0) (tms 0 96 [(5, sB 0 p.length), (6, sB 1 k.length), (7, sB 1000 (k.length + 1))]) (oX p k (rowT p k 0)) := by
  have h0 : (rowT p k 0).take (0 + 1) = [true] := by
    rw [take_next _ false 0 (by rw [rowT_len]; omega), rowT_get _ _ _ _ (Nat.zero_le _)]
    simp [mt]
  have key := ltri_run (W := default) (g := fRM) (b := loopN fRM 4) (σ := {j : Nat // j ≤ k.length}) 96 (fun j => aX p.length k.length (j.1 + 1) j.1) (fun j => oX p k ((rowT p k 0).take (j.1 + 1))) (.exit 0) [(5, sB 0 p.length), (6, sB 1 k.length), (7, sB 1000 (k.length + 1))] (oX p k (rowT p k 0)) (fun j => k.length - j.1) [0, 1, 1000, 1100, 1101] [5, 6, 7, 8] (by intro h; cases h) (fun _ => rfl) rfl ?_ ⟨0, Nat.zero_le _⟩
  · rw [← h0]
    exact key
  rintro ⟨j, hj⟩
  simp only
  by_cases h1 : j < k.length
  · have hw := wrap_succ j (by omega)
    have e1 : decide (Int.ofNat j < (k.length : Int)) = true := decide_eq_true (by simp only [Int.ofNat_eq_natCast]; omega)
    have hl := rowT_tlen p k 0 j hj
    have hnx := rowT_next p k 0 j h1
    have hval : mt (p.take 0).reverse (k.take (j + 1)).reverse = false := by
      rw [rev_next k j h1, List.take_zero, List.reverse_nil, mt]; rfl
    rw [hval] at hnx
    generalize (rowT p k 0).take (j + 1) = R at hl hnx ⊢
    have k1 : (0 + R.length * 1).ble (rowV encB R).length = true := row_in encB_len R
    have k2 : ((R.length + 1) * 1).ble 140737488355328 = true := by rw [Nat.ble_eq]; omega
    have k3 : (R.length + 1).ble 9223372036854775807 = true := by rw [Nat.ble_eq]; omega
    have k4 := row_full encB_len R
    refine ⟨[], hintL [(fRM, 4, 3, hv (.lit true)), (fRM, 5, 1, hv (iv (Int.ofNat (j + 1))))], [], fun _ _ => noC, fun _ _ => noL, fun F => ?_⟩
    have hq := oX1_eq p k R p.length k.length R.length j F
    rw [hl] at hq k1 k2 k3 k4
    refine cast (congrArg (VAll _) hq.symm) ⟨⟨?_, rfl, .inl ⟨rfl, ⟨j + 1, h1⟩, sub_down h1, [(1000, 1101)], by kernel_rfl, by kernel_rfl, ⟨Wk.refl _, Wk.refl _, Wk.refl _, Wk.refl _, trivial⟩, ⟨_, rfl, rS_ow rfl rfl⟩, ⟨_, rfl, rS_ow rfl rfl⟩, ⟨_, rfl, ?_⟩, trivial⟩⟩⟩
    · simp only [Cnd.holds, e1, k1, k2, k3, k4, Nat.blt_eq, true_and, and_true]
      and_intros
      all_goals first
        | (with_reducible exact wk_int hw)
        | (with_reducible exact trivial)
        | (with_reducible exact rfl)
        | (with_reducible exact Wk.refl _)
        | (with_reducible exact VW.refl _)
        | (with_reducible exact OW.refl _)
        | (with_reducible exact wk_lit _)
        | (with_reducible assumption)
        | exact rfl
        | exact Wk.refl _
        | exact VW.refl _
        | exact OW.refl _
        | ((repeat (first | exact VW.nil | refine VW.cons (Wk.refl _) ?_ | refine VW.cons (Wk.any _) ?_ | refine VW.cons (wk_cap (Nat.le_refl _)) ?_)); done)
    · simp only
      rw [hnx]
      refine rB_ow ?_ rfl
      rw [← rB_add, hl]
  · have hje : j = k.length := by omega
    subst hje
    have ht : (rowT p k 0).take (k.length + 1) = rowT p k 0 := List.take_of_length_le (by rw [rowT_len]; exact Nat.le_refl _)
    simp only [ht]
    refine ⟨[], hintL [(fRM, 4, 3, hv (.lit false))], [], fun _ _ => noC, fun _ _ => noL, fun F => ?_⟩
    refine cast (congrArg (VAll _) (oXE_eq p k (rowT p k 0) p.length k.length (k.length + 1) F).symm) ⟨⟨?_, rfl, .inr ⟨rfl, [(1000, 1000)], by kernel_rfl, by kernel_rfl, ⟨Wk.refl _, Wk.refl _, Wk.refl _, trivial⟩, ⟨_, rfl, rS_ow rfl rfl⟩, ⟨_, rfl, rS_ow rfl rfl⟩, ⟨_, rfl, rB_ow rfl rfl⟩, trivial⟩⟩⟩
    simp only [Cnd.holds, and_true]
    exact wk_litE ltFC
theorem bs_ne {p k : ByteArray} (h : p ≠ k) : (p.toList == k.toList) = false := by
  rw [beq_eq_false_iff_ne]
  intro e
  refine h (ba_ext ?_)
  rw [← Lib.toList_data, ← Lib.toList_data, e]
theorem y_loop (p k : Path) (i : Nat) (hk : k.length ≤ 1200000) (hi : i < p.length) (hp : p.length ≤ 1200000) :
    LTri Tryd.prog default (loopN fRM 12) (tms 0 96 (aY p.length k.length (k.length + 1) i 1 0)) (oY p k (rowT p k i) ((rowT p k (i + 1)).take 1)) (.exit 4) (tms 0 96 [(5, sB 0 p.length), (6, sB 1 k.length), (9, iv (Int.ofNat i)), (10, sB 1000 (k.length + 1))]) [(0, rS p), (1, rS k), (1000, rB (rowT p k (i + 1)))] := by
  refine ltri_run (W := default) (g := fRM) (b := loopN fRM 12) (σ := {j : Nat // j ≤ k.length}) 96 (fun j => aY p.length k.length (k.length + 1) i (j.1 + 1) j.1) (fun j => oY p k (rowT p k i) ((rowT p k (i + 1)).take (j.1 + 1))) (.exit 4) [(5, sB 0 p.length), (6, sB 1 k.length), (9, iv (Int.ofNat i)), (10, sB 1000 (k.length + 1))] [(0, rS p), (1, rS k), (1000, rB (rowT p k (i + 1)))] (fun j => k.length - j.1) [0, 1, 2, 1000, 1100, 1101] [5, 6, 7, 9, 10, 11] (by intro h; cases h) (fun _ => rfl) rfl ?_ ⟨0, Nat.zero_le _⟩
  rintro ⟨j, hj⟩
  simp only
  by_cases h1 : j < k.length
  · have hw := wrap_succ j (by omega)
    have e1 : decide (Int.ofNat j < (k.length : Int)) = true := ltTC h1
    have hl := rowT_tlen p k (i + 1) j hj
    have hnx := rowT_next p k (i + 1) j h1
    have hold := rowT_tget p k (i + 1) j hj
    have g0 := rS_get p i hi
    have g1 := rS_lt p i hi
    have g2 := rS_get k j h1
    have g3 := rS_lt k j h1
    have rl := rowT_len p k i
    have b0 := rB_get (rowT p k i) j (by omega)
    have b1 := rB_lt (rowT p k i) j (by omega)
    have b2 := rB_get (rowT p k i) (j + 1) (by omega)
    have b3 := rB_lt (rowT p k i) (j + 1) (by omega)
    rw [rowT_get p k i j hj] at b0
    rw [rowT_get p k i (j + 1) h1] at b2
    rw [rev_next p i hi, rev_next k j h1, mt] at hnx
    rw [rev_next p i hi] at hold
    rw [rev_next k j h1] at b2
    have q1 : j < k.length + 1 := by omega
    have q2 : j + 1 < k.length + 1 := by omega
    generalize (rowT p k (i + 1)).take (j + 1) = T at hl hnx hold ⊢
    have b4 := rB_get T j (by omega)
    have b5 := rB_lt T j (by omega)
    rw [hold] at b4
    have k1 : (0 + T.length * 1).ble (rowV encB T).length = true := row_in encB_len T
    have k2 : ((T.length + 1) * 1).ble 140737488355328 = true := by rw [Nat.ble_eq]; omega
    have k3 : (T.length + 1).ble 9223372036854775807 = true := by rw [Nat.ble_eq]; omega
    have k4 := row_full encB_len T
    have hadd := fun y => rB_add T y
    rw [hl] at k1 k2 k3 k4 hadd
    have q3 : j < j + 1 := Nat.lt_succ_self j
    generalize p.getD i nil0 = w at *
    generalize k.getD j nil0 = y at *
    generalize mt (p.take i).reverse (y :: (k.take j).reverse) = m1 at *
    generalize mt (w :: (p.take i).reverse) (k.take j).reverse = m2 at *
    generalize mt (p.take i).reverse (k.take j).reverse = m3 at *
    generalize rowT p k i = R at *
    by_cases hh : w = hash
    · rw [if_pos hh] at hnx
      have c1 : (w.toList == [(ByteArray.mk (Array.mk [35])).get! 0]) = true := (bl_one w 35).trans (decide_eq_true hh)
      cases m1 with
      | true =>
        rw [Bool.true_or] at hnx
        refine ⟨[], hYH j w true true, [], fun _ _ => noC, fun _ _ => noL, fun F => ?_⟩
        refine cast (congrArg (VAll _) (oYH1_eq p k R T w p.length k.length (k.length + 1) i (j + 1) j true F).symm) ⟨⟨?_, rfl, .inl ⟨rfl, ⟨j + 1, h1⟩, sub_down h1, [(1000, 1101)], by kernel_rfl, by kernel_rfl, ⟨Wk.refl _, Wk.refl _, Wk.refl _, Wk.refl _, Wk.refl _, Wk.refl _, trivial⟩, ⟨_, rfl, rS_ow rfl rfl⟩, ⟨_, rfl, rS_ow rfl rfl⟩, ⟨_, rfl, rB_ow rfl rfl⟩, ⟨_, rfl, ?_⟩, trivial⟩⟩⟩
        · simp only [Cnd.holds, e1, k1, k2, k3, k4, g0, g1, hi, b2, b3, q2, AV.strOf, AV.boolOf, AV.bool?, sv, Nat.blt_eq, true_and, and_true]
          and_intros
          all_goals first
            | (with_reducible exact wk_int hw)
            | exact wk_litE c1
            | (with_reducible exact trivial)
            | (with_reducible exact rfl)
            | (with_reducible exact Wk.refl _)
            | (with_reducible exact VW.refl _)
            | (with_reducible exact OW.refl _)
            | (with_reducible exact wk_lit _)
            | (with_reducible assumption)
            | exact rfl
            | exact Wk.refl _
            | exact VW.refl _
            | exact OW.refl _
            | ((repeat (first | exact VW.nil | refine VW.cons (Wk.refl _) ?_ | refine VW.cons (Wk.any _) ?_ | refine VW.cons (wk_cap (Nat.le_refl _)) ?_)); done)
        · simp only [hnx]; exact rB_ow (hadd _) rfl
      | false =>
        rw [Bool.false_or] at hnx
        refine ⟨[], hYH j w false m2, [], fun _ _ => noC, fun _ _ => noL, fun F => ?_⟩
        refine cast (congrArg (VAll _) (oYH0_eq p k R T w p.length k.length (k.length + 1) i (j + 1) j m2 F).symm) ⟨⟨?_, rfl, .inl ⟨rfl, ⟨j + 1, h1⟩, sub_down h1, [(1000, 1101)], by kernel_rfl, by kernel_rfl, ⟨Wk.refl _, Wk.refl _, Wk.refl _, Wk.refl _, Wk.refl _, Wk.refl _, trivial⟩, ⟨_, rfl, rS_ow rfl rfl⟩, ⟨_, rfl, rS_ow rfl rfl⟩, ⟨_, rfl, rB_ow rfl rfl⟩, ⟨_, rfl, ?_⟩, trivial⟩⟩⟩
        · simp only [Cnd.holds, e1, k1, k2, k3, k4, g0, g1, hi, b2, b3, b4, b5, q2, q3, AV.strOf, AV.boolOf, AV.bool?, sv, Nat.blt_eq, true_and, and_true]
          and_intros
          all_goals first
            | (with_reducible exact wk_int hw)
            | exact wk_litE c1
            | (with_reducible exact trivial)
            | (with_reducible exact rfl)
            | (with_reducible exact Wk.refl _)
            | (with_reducible exact VW.refl _)
            | (with_reducible exact OW.refl _)
            | (with_reducible exact wk_lit _)
            | (with_reducible assumption)
            | exact rfl
            | exact Wk.refl _
            | exact VW.refl _
            | exact OW.refl _
            | ((repeat (first | exact VW.nil | refine VW.cons (Wk.refl _) ?_ | refine VW.cons (Wk.any _) ?_ | refine VW.cons (wk_cap (Nat.le_refl _)) ?_)); done)
        · simp only [hnx]; exact rB_ow (hadd _) rfl
    · rw [if_neg hh] at hnx
      have c1 : (w.toList == [(ByteArray.mk (Array.mk [35])).get! 0]) = false := (bl_one w 35).trans (decide_eq_false hh)
      by_cases hs : w = star
      · have c2 : (w.toList == [(ByteArray.mk (Array.mk [42])).get! 0]) = true := (bl_one w 42).trans (decide_eq_true hs)
        rw [decide_eq_true hs, Bool.true_or, Bool.true_and] at hnx
        refine ⟨[], hYN j w y true false m3, [], fun _ _ => noC, fun _ _ => noL, fun F => ?_⟩
        refine cast (congrArg (VAll _) (oYS_eq p k R T w y p.length k.length (k.length + 1) i (j + 1) j m3 F).symm) ⟨⟨?_, rfl, .inl ⟨rfl, ⟨j + 1, h1⟩, sub_down h1, [(1000, 1101)], by kernel_rfl, by kernel_rfl, ⟨Wk.refl _, Wk.refl _, Wk.refl _, Wk.refl _, Wk.refl _, Wk.refl _, trivial⟩, ⟨_, rfl, rS_ow rfl rfl⟩, ⟨_, rfl, rS_ow rfl rfl⟩, ⟨_, rfl, rB_ow rfl rfl⟩, ⟨_, rfl, ?_⟩, trivial⟩⟩⟩
        · simp only [Cnd.holds, e1, k1, k2, k3, k4, g0, g1, hi, b0, b1, q1, AV.strOf, AV.boolOf, AV.bool?, sv, Nat.blt_eq, true_and, and_true]
          and_intros
          all_goals first
            | (with_reducible exact wk_int hw)
            | exact wk_litE c1
            | exact wk_litE c2
            | (with_reducible exact trivial)
            | (with_reducible exact rfl)
            | (with_reducible exact Wk.refl _)
            | (with_reducible exact VW.refl _)
            | (with_reducible exact OW.refl _)
            | (with_reducible exact wk_lit _)
            | (with_reducible assumption)
            | exact rfl
            | exact Wk.refl _
            | exact VW.refl _
            | exact OW.refl _
            | ((repeat (first | exact VW.nil | refine VW.cons (Wk.refl _) ?_ | refine VW.cons (Wk.any _) ?_ | refine VW.cons (wk_cap (Nat.le_refl _)) ?_)); done)
        · simp only [hnx]; exact rB_ow (hadd _) rfl
      · have c2 : (w.toList == [(ByteArray.mk (Array.mk [42])).get! 0]) = false := (bl_one w 42).trans (decide_eq_false hs)
        by_cases he : w = y
        · have c3 : (w.toList == y.toList) = true := by rw [he]; exact beq_iff_eq.2 rfl
          rw [decide_eq_false hs, decide_eq_true he, Bool.false_or, Bool.true_and] at hnx
          refine ⟨[], hYN j w y false true m3, [], fun _ _ => noC, fun _ _ => noL, fun F => ?_⟩
          refine cast (congrArg (VAll _) (oYE_eq p k R T w y p.length k.length (k.length + 1) i (j + 1) j m3 F).symm) ⟨⟨?_, rfl, .inl ⟨rfl, ⟨j + 1, h1⟩, sub_down h1, [(1000, 1101)], by kernel_rfl, by kernel_rfl, ⟨Wk.refl _, Wk.refl _, Wk.refl _, Wk.refl _, Wk.refl _, Wk.refl _, trivial⟩, ⟨_, rfl, rS_ow rfl rfl⟩, ⟨_, rfl, rS_ow rfl rfl⟩, ⟨_, rfl, rB_ow rfl rfl⟩, ⟨_, rfl, ?_⟩, trivial⟩⟩⟩
          · simp only [Cnd.holds, e1, k1, k2, k3, k4, g0, g1, g2, g3, h1, hi, b0, b1, q1, AV.strOf, AV.boolOf, AV.bool?, sv, Nat.blt_eq, true_and, and_true]
            and_intros
            all_goals first
              | (with_reducible exact wk_int hw)
              | exact wk_litE c1
              | exact wk_litE c2
              | exact wk_litE c3
              | (with_reducible exact trivial)
              | (with_reducible exact rfl)
              | (with_reducible exact Wk.refl _)
              | (with_reducible exact VW.refl _)
              | (with_reducible exact OW.refl _)
              | (with_reducible exact wk_lit _)
              | (with_reducible assumption)
              | exact rfl
              | exact Wk.refl _
              | exact VW.refl _
              | exact OW.refl _
              | ((repeat (first | exact VW.nil | refine VW.cons (Wk.refl _) ?_ | refine VW.cons (Wk.any _) ?_ | refine VW.cons (wk_cap (Nat.le_refl _)) ?_)); done)
          · simp only [hnx]; exact rB_ow (hadd _) rfl
        · have c3 : (w.toList == y.toList) = false := bs_ne he
          rw [decide_eq_false hs, decide_eq_false he, Bool.false_or, Bool.false_and] at hnx
          refine ⟨[], hYN j w y false false false, [], fun _ _ => noC, fun _ _ => noL, fun F => ?_⟩
          refine cast (congrArg (VAll _) (oYN_eq p k R T w y p.length k.length (k.length + 1) i (j + 1) j F).symm) ⟨⟨?_, rfl, .inl ⟨rfl, ⟨j + 1, h1⟩, sub_down h1, [(1000, 1101)], by kernel_rfl, by kernel_rfl, ⟨Wk.refl _, Wk.refl _, Wk.refl _, Wk.refl _, Wk.refl _, Wk.refl _, trivial⟩, ⟨_, rfl, rS_ow rfl rfl⟩, ⟨_, rfl, rS_ow rfl rfl⟩, ⟨_, rfl, rB_ow rfl rfl⟩, ⟨_, rfl, ?_⟩, trivial⟩⟩⟩
          · simp only [Cnd.holds, e1, k1, k2, k3, k4, g0, g1, g2, g3, h1, hi, AV.strOf, AV.boolOf, AV.bool?, sv, Nat.blt_eq, true_and, and_true]
            and_intros
            all_goals first
              | (with_reducible exact wk_int hw)
              | exact wk_litE c1
              | exact wk_litE c2
              | exact wk_litE c3
              | (with_reducible exact trivial)
              | (with_reducible exact rfl)
              | (with_reducible exact Wk.refl _)
              | (with_reducible exact VW.refl _)
              | (with_reducible exact OW.refl _)
              | (with_reducible exact wk_lit _)
              | (with_reducible assumption)
              | exact rfl
              | exact Wk.refl _
              | exact VW.refl _
              | exact OW.refl _
              | ((repeat (first | exact VW.nil | refine VW.cons (Wk.refl _) ?_ | refine VW.cons (Wk.any _) ?_ | refine VW.cons (wk_cap (Nat.le_refl _)) ?_)); done)
          · simp only [hnx]; exact rB_ow (hadd _) rfl
  · have hje : j = k.length := by omega
    subst hje
    have ht : (rowT p k (i + 1)).take (k.length + 1) = rowT p k (i + 1) := List.take_of_length_le (by rw [rowT_len]; exact Nat.le_refl _)
    simp only [ht]
    refine ⟨[], hintL [(fRM, 12, 3, hv (.lit false))], [], fun _ _ => noC, fun _ _ => noL, fun F => ?_⟩
    refine cast (congrArg (VAll _) (oYX_eq p k (rowT p k i) (rowT p k (i + 1)) p.length k.length (k.length + 1) i (k.length + 1) F).symm) ⟨⟨?_, rfl, .inr ⟨rfl, [(1000, 1000)], by kernel_rfl, by kernel_rfl, ⟨Wk.refl _, Wk.refl _, Wk.refl _, Wk.refl _, trivial⟩, ⟨_, rfl, rS_ow rfl rfl⟩, ⟨_, rfl, rS_ow rfl rfl⟩, ⟨_, rfl, rB_ow rfl rfl⟩, trivial⟩⟩⟩
    simp only [Cnd.holds, and_true]
    exact wk_litE ltFC
end Go.Proofs.YtbmoancedlbhlaaDoor.Tpc

/- Topic: the document's match: whole, runs. -/
set_option linter.unusedVariables false
set_option linter.unusedSimpArgs false
set_option maxRecDepth 100000
namespace Go.Proofs.YtbmoancedlbhlaaDoor.Tpc
open Go Go.RowKit Go.Proofs.YtbmoancedlbhlaaDoor.Eng Go.Proofs.YtbmoancedlbhlaaDoor.Kit
noncomputable section
def gY : List AV → AP (Nat × Nat × Nat × Nat) := fun tmps => match getL tmps 5 with
  | .slice a _ _ _ _ => match getL tmps 6 with
    | .slice b _ _ _ _ => match getL tmps 7 with
      | .slice c _ _ _ _ => match getL tmps 10 with
        | .slice d _ _ _ _ => .ret (a, b, c, d)
        | _ => .fail "table"
      | _ => .fail "table"
    | _ => .fail "table"
  | _ => .fail "table"
def nmY (a b c d : Nat) : Nat → Nat := fun k => match Nat.beq k 0 with
  | true => a
  | false => match Nat.beq k 1 with
    | true => b
    | false => match Nat.beq k 2 with
      | true => c
      | false => match Nat.beq k 1000 with
        | true => d
        | false => k
def lY (p k : Path) (np nk n i : Nat) (R T0 T : List Bool) : List AV → AP (AX × List AV) := mkL gY (fun _ => True) (fun q => nmY q.1 q.2.1 q.2.2.1 q.2.2.2) (fun _ => tms 0 96 (aY np nk n i 1 0)) (fun _ => oY p k R T0) (fun _ => .leaf (.exit 4) (tms 0 96 [(5, sB 0 np), (6, sB 1 nk), (9, iv (Int.ofNat i)), (10, sB 1000 n)]) [(0, rS p), (1, rS k), (1000, rB T)])
def aO (np nk n i : Nat) : List (Nat × AV) := [(5, sB 0 np), (6, sB 1 nk), (7, sB 1000 n), (9, iv (Int.ofNat i))]
def oO (p k : Path) (R : List Bool) : LH := [(0, rS p), (1, rS k), (1000, rB R)]
theorem oOH_eq (p k : Path) (R T : List Bool) (w : ByteArray) (np nk n i : Nat) (b : Bool) (F : HP) : wLoop [] (hintL [(fRM, 8, 3, hv (.lit true)), (fRM, 10, 3, hv (sv w)), (fRM, 10, 4, hv (.lit true)), (fRM, 10, 8, hv (bv b)), (fRM, 9, 1, hv (iv (Int.ofNat (i + 1))))]) [(fRM, 12, loopN fRM 12, lY p k np nk n i R [b] T)] default fRM (loopN fRM 8) (tms 0 96 (aO np nk n i)) (oO p k R) [0, 1, 1000, 1100, 1101] [5, 6, 7, 9] F = VT.leaf (AX.normal, [AV.slice 0 0 np 1 (Cp.lo np), AV.slice 1 0 nk 1 (Cp.lo nk), AV.slice 1101 0 n 1 (Cp.lo n), AV.v (Value.int IntKind.i64 (Int.ofNat (i + 1)))], 96) [some (AO.cells (AV.rens (sgN (nmY 0 1 1000 1100) [1000] 1101) (rowV encS p)) 18), some (AO.cells (AV.rens (sgN (nmY 0 1 1000 1100) [1000] 1101) (rowV encS k)) 18), none, none, some (AO.cells (AV.rens (sgN (nmY 0 1 1000 1100) [1000] 1101) (rowV encB T)) 8)] 1102 (((Cnd.p (Wk (AV.v (Value.bool (decide (Int.ofNat i < ↑np)))) (AV.lit true))).a Cnd.t).a (((Cnd.p (i.blt np = true)).a Cnd.t).a (((Cnd.p ((0 + i * 1).blt (rowV encS p).length = true)).a ((Cnd.p ((rowV encS p).getD (0 + i * 1) (AV.v (Value.tuple (Array.mk []))) = AV.v (Value.string ((rowV encS p).getD (0 + i * 1) (AV.v (Value.tuple (Array.mk [])))).strOf))).a ((Cnd.p (Wk (AV.v (Value.string ((rowV encS p).getD (0 + i * 1) (AV.v (Value.tuple (Array.mk [])))).strOf)) (AV.v (Value.string w)))).a Cnd.t))).a (((Cnd.p (Wk (AV.v (Value.bool (w.toList == [(ByteArray.mk (Array.mk [35])).get! 0]))) (AV.lit true))).a Cnd.t).a (((Cnd.p (Nat.blt 0 n = true)).a Cnd.t).a (((Cnd.p (Nat.blt 0 (rowV encB R).length = true)).a ((Cnd.p (((rowV encB R).getD 0 (AV.v (Value.tuple (Array.mk [])))).bool? = some ((rowV encB R).getD 0 (AV.v (Value.tuple (Array.mk [])))).boolOf)).a ((Cnd.p (Wk (AV.v (Value.bool ((rowV encB R).getD 0 (AV.v (Value.tuple (Array.mk [])))).boolOf)) (AV.v (Value.bool b)))).a Cnd.t))).a ((Cnd.p ((fRM, 12, loopN fRM 12, lY p k np nk n i R [b] T).snd.snd.fst = (fRM, 12, loopN fRM 12, lY p k np nk n i R [b] T).snd.snd.fst)).a ((Cnd.p True).a ((Cnd.p (VW [AV.any, AV.any, AV.any, AV.any, AV.any, AV.slice 0 0 np 1 (Cp.lo np), AV.slice 1 0 nk 1 (Cp.lo nk), AV.slice 1000 0 n 1 (Cp.lo n), AV.any, AV.v (Value.int IntKind.i64 (Int.ofNat i)), AV.slice 1100 0 1 1 (Cp.ex 1), AV.v (Value.int IntKind.i64 (Int.ofNat 0)), AV.any, AV.any, AV.any, AV.any, AV.any, AV.any, AV.any, AV.any, AV.any, AV.any, AV.any, AV.any, AV.any, AV.any, AV.any, AV.v (Value.int IntKind.i64 (Int.ofNat i)), AV.slice 0 0 np 1 (Cp.lo np), AV.v (Value.int IntKind.i64 ↑np), AV.lit true, AV.any, AV.any, AV.slice 0 0 np 1 (Cp.lo np), AV.v (Value.int IntKind.i64 (Int.ofNat i)), AV.ptr 0 (0 + i * 1), AV.v (Value.string w), AV.lit true, AV.lit true, AV.slice 1000 0 n 1 (Cp.lo n), AV.ptr 1000 0, AV.v (Value.bool b), AV.v (Value.bool b), AV.slice 1100 0 1 1 (Cp.ex 1), AV.any, AV.any, AV.any, AV.any, AV.any, AV.any, AV.any, AV.any, AV.any, AV.any, AV.any, AV.any, AV.any, AV.any, AV.any, AV.any, AV.any, AV.any, AV.any, AV.any, AV.any, AV.any, AV.any, AV.any, AV.any, AV.any, AV.any, AV.any, AV.any, AV.any, AV.any, AV.any, AV.any, AV.any, AV.any, AV.any, AV.any, AV.any, AV.any, AV.any, AV.any, AV.any, AV.any, AV.any, AV.any, AV.any, AV.any, AV.any, AV.any, AV.any, AV.any, AV.any] [AV.any, AV.any, AV.any, AV.any, AV.any, AV.slice 0 0 np 1 (Cp.lo np), AV.slice 1 0 nk 1 (Cp.lo nk), AV.slice 1000 0 n 1 (Cp.lo n), AV.any, AV.v (Value.int IntKind.i64 (Int.ofNat i)), AV.slice 1100 0 1 1 (Cp.lo 1), AV.v (Value.int IntKind.i64 (Int.ofNat 0)), AV.any, AV.any, AV.any, AV.any, AV.any, AV.any, AV.any, AV.any, AV.any, AV.any, AV.any, AV.any, AV.any, AV.any, AV.any, AV.any, AV.any, AV.any, AV.any, AV.any, AV.any, AV.any, AV.any, AV.any, AV.any, AV.any, AV.any, AV.any, AV.any, AV.any, AV.any, AV.any, AV.any, AV.any, AV.any, AV.any, AV.any, AV.any, AV.any, AV.any, AV.any, AV.any, AV.any, AV.any, AV.any, AV.any, AV.any, AV.any, AV.any, AV.any, AV.any, AV.any, AV.any, AV.any, AV.any, AV.any, AV.any, AV.any, AV.any, AV.any, AV.any, AV.any, AV.any, AV.any, AV.any, AV.any, AV.any, AV.any, AV.any, AV.any, AV.any, AV.any, AV.any, AV.any, AV.any, AV.any, AV.any, AV.any, AV.any, AV.any, AV.any, AV.any, AV.any, AV.any])).a ((Cnd.p (OW (AO.cells (rowV encS p) 18) (AO.cells (AV.rens (nmY 0 1 1000 1100) (rowV encS p)) 18))).a ((Cnd.p (OW (AO.cells (rowV encS k) 18) (AO.cells (AV.rens (nmY 0 1 1000 1100) (rowV encS k)) 18))).a ((Cnd.p (OW (AO.cells (rowV encB R) 8) (AO.cells (AV.rens (nmY 0 1 1000 1100) (rowV encB R)) 8))).a ((Cnd.p (OW (AO.cells [AV.v (Value.bool b)] 8) (AO.cells [AV.v (Value.bool b)] 8))).a (((Cnd.p (Wk (AV.v (Value.int IntKind.i64 (IntKind.i64.wrap (Int.ofNat i + Int.ofNat 1)))) (AV.v (Value.int IntKind.i64 (Int.ofNat (i + 1)))))).a Cnd.t).a Cnd.t)))))))))))))) := by kernel_rfl
theorem oON_eq (p k : Path) (R T : List Bool) (w : ByteArray) (np nk n i : Nat) (F : HP) : wLoop [] (hintL [(fRM, 8, 3, hv (.lit true)), (fRM, 10, 3, hv (sv w)), (fRM, 10, 4, hv (.lit false)), (fRM, 9, 1, hv (iv (Int.ofNat (i + 1))))]) [(fRM, 12, loopN fRM 12, lY p k np nk n i R [false] T)] default fRM (loopN fRM 8) (tms 0 96 (aO np nk n i)) (oO p k R) [0, 1, 1000, 1100, 1101] [5, 6, 7, 9] F = VT.leaf (AX.normal, [AV.slice 0 0 np 1 (Cp.lo np), AV.slice 1 0 nk 1 (Cp.lo nk), AV.slice 1101 0 n 1 (Cp.lo n), AV.v (Value.int IntKind.i64 (Int.ofNat (i + 1)))], 96) [some (AO.cells (AV.rens (sgN (nmY 0 1 1000 1100) [1000] 1101) (rowV encS p)) 18), some (AO.cells (AV.rens (sgN (nmY 0 1 1000 1100) [1000] 1101) (rowV encS k)) 18), none, none, some (AO.cells (AV.rens (sgN (nmY 0 1 1000 1100) [1000] 1101) (rowV encB T)) 8)] 1102 (((Cnd.p (Wk (AV.v (Value.bool (decide (Int.ofNat i < ↑np)))) (AV.lit true))).a Cnd.t).a (((Cnd.p (i.blt np = true)).a Cnd.t).a (((Cnd.p ((0 + i * 1).blt (rowV encS p).length = true)).a ((Cnd.p ((rowV encS p).getD (0 + i * 1) (AV.v (Value.tuple (Array.mk []))) = AV.v (Value.string ((rowV encS p).getD (0 + i * 1) (AV.v (Value.tuple (Array.mk [])))).strOf))).a ((Cnd.p (Wk (AV.v (Value.string ((rowV encS p).getD (0 + i * 1) (AV.v (Value.tuple (Array.mk [])))).strOf)) (AV.v (Value.string w)))).a Cnd.t))).a (((Cnd.p (Wk (AV.v (Value.bool (w.toList == [(ByteArray.mk (Array.mk [35])).get! 0]))) (AV.lit false))).a Cnd.t).a ((Cnd.p ((fRM, 12, loopN fRM 12, lY p k np nk n i R [false] T).snd.snd.fst = (fRM, 12, loopN fRM 12, lY p k np nk n i R [false] T).snd.snd.fst)).a ((Cnd.p True).a ((Cnd.p (VW [AV.any, AV.any, AV.any, AV.any, AV.any, AV.slice 0 0 np 1 (Cp.lo np), AV.slice 1 0 nk 1 (Cp.lo nk), AV.slice 1000 0 n 1 (Cp.lo n), AV.any, AV.v (Value.int IntKind.i64 (Int.ofNat i)), AV.slice 1100 0 1 1 (Cp.ex 1), AV.v (Value.int IntKind.i64 (Int.ofNat 0)), AV.any, AV.any, AV.any, AV.any, AV.any, AV.any, AV.any, AV.any, AV.any, AV.any, AV.any, AV.any, AV.any, AV.any, AV.any, AV.v (Value.int IntKind.i64 (Int.ofNat i)), AV.slice 0 0 np 1 (Cp.lo np), AV.v (Value.int IntKind.i64 ↑np), AV.lit true, AV.any, AV.any, AV.slice 0 0 np 1 (Cp.lo np), AV.v (Value.int IntKind.i64 (Int.ofNat i)), AV.ptr 0 (0 + i * 1), AV.v (Value.string w), AV.lit false, AV.lit false, AV.v (Value.tuple (Array.mk [])), AV.v (Value.tuple (Array.mk [])), AV.v (Value.tuple (Array.mk [])), AV.lit false, AV.slice 1100 0 1 1 (Cp.ex 1), AV.any, AV.any, AV.any, AV.any, AV.any, AV.any, AV.any, AV.any, AV.any, AV.any, AV.any, AV.any, AV.any, AV.any, AV.any, AV.any, AV.any, AV.any, AV.any, AV.any, AV.any, AV.any, AV.any, AV.any, AV.any, AV.any, AV.any, AV.any, AV.any, AV.any, AV.any, AV.any, AV.any, AV.any, AV.any, AV.any, AV.any, AV.any, AV.any, AV.any, AV.any, AV.any, AV.any, AV.any, AV.any, AV.any, AV.any, AV.any, AV.any, AV.any, AV.any, AV.any] [AV.any, AV.any, AV.any, AV.any, AV.any, AV.slice 0 0 np 1 (Cp.lo np), AV.slice 1 0 nk 1 (Cp.lo nk), AV.slice 1000 0 n 1 (Cp.lo n), AV.any, AV.v (Value.int IntKind.i64 (Int.ofNat i)), AV.slice 1100 0 1 1 (Cp.lo 1), AV.v (Value.int IntKind.i64 (Int.ofNat 0)), AV.any, AV.any, AV.any, AV.any, AV.any, AV.any, AV.any, AV.any, AV.any, AV.any, AV.any, AV.any, AV.any, AV.any, AV.any, AV.any, AV.any, AV.any, AV.any, AV.any, AV.any, AV.any, AV.any, AV.any, AV.any, AV.any, AV.any, AV.any, AV.any, AV.any, AV.any, AV.any, AV.any, AV.any, AV.any, AV.any, AV.any, AV.any, AV.any, AV.any, AV.any, AV.any, AV.any, AV.any, AV.any, AV.any, AV.any, AV.any, AV.any, AV.any, AV.any, AV.any, AV.any, AV.any, AV.any, AV.any, AV.any, AV.any, AV.any, AV.any, AV.any, AV.any, AV.any, AV.any, AV.any, AV.any, AV.any, AV.any, AV.any, AV.any, AV.any, AV.any, AV.any, AV.any, AV.any, AV.any, AV.any, AV.any, AV.any, AV.any, AV.any, AV.any, AV.any, AV.any])).a ((Cnd.p (OW (AO.cells (rowV encS p) 18) (AO.cells (AV.rens (nmY 0 1 1000 1100) (rowV encS p)) 18))).a ((Cnd.p (OW (AO.cells (rowV encS k) 18) (AO.cells (AV.rens (nmY 0 1 1000 1100) (rowV encS k)) 18))).a ((Cnd.p (OW (AO.cells (rowV encB R) 8) (AO.cells (AV.rens (nmY 0 1 1000 1100) (rowV encB R)) 8))).a ((Cnd.p (OW (AO.cells [AV.v (Value.bool false)] 8) (AO.cells [AV.v (Value.bool false)] 8))).a (((Cnd.p (Wk (AV.v (Value.int IntKind.i64 (IntKind.i64.wrap (Int.ofNat i + Int.ofNat 1)))) (AV.v (Value.int IntKind.i64 (Int.ofNat (i + 1)))))).a Cnd.t).a Cnd.t)))))))))))) := by kernel_rfl
theorem oOX_eq (p k : Path) (R : List Bool) (np nk n : Nat) (F : HP) : wLoop [] (hintL [(fRM, 8, 3, hv (.lit false))]) [] default fRM (loopN fRM 8) (tms 0 96 (aO np nk n np)) (oO p k R) [0, 1, 1000, 1100, 1101] [5, 6, 7, 9] F = VT.leaf (AX.exit 2, [AV.slice 0 0 np 1 (Cp.lo np), AV.slice 1 0 nk 1 (Cp.lo nk), AV.slice 1000 0 n 1 (Cp.lo n), AV.v (Value.int IntKind.i64 (Int.ofNat np))], 96) [some (AO.cells (rowV encS p) 18), some (AO.cells (rowV encS k) 18), some (AO.cells (rowV encB R) 8), none, none] 1100 (((Cnd.p (Wk (AV.v (Value.bool (decide (Int.ofNat np < ↑np)))) (AV.lit false))).a Cnd.t).a Cnd.t) := by kernel_rfl
/-! The function. -/
def cRWd : List AV → Option (AP AV) := mkC gS1 (fun s => s.size ≤ 1100000) (fun _ k => k) (fun s => [sv s]) (fun _ => []) (fun s => .leaf .ret [sB 1000 (dots s).length] [(1000, rS (dots s))])
def gX : List AV → AP (Nat × Nat × Nat) := fun tmps => match getL tmps 5 with
  | .slice a _ _ _ _ => match getL tmps 6 with
    | .slice b _ _ _ _ => match getL tmps 7 with
      | .slice c _ _ _ _ => .ret (a, b, c)
      | _ => .fail "table"
    | _ => .fail "table"
  | _ => .fail "table"
def nmX (a b c : Nat) : Nat → Nat := fun k => match Nat.beq k 0 with
  | true => a
  | false => match Nat.beq k 1 with
    | true => b
    | false => match Nat.beq k 1000 with
      | true => c
      | false => k
def lX (p k : Path) (np nk : Nat) (T : List Bool) : List AV → AP (AX × List AV) := mkL gX (fun _ => True) (fun q => nmX q.1 q.2.1 q.2.2) (fun _ => tms 0 96 (aX np nk 1 0)) (fun _ => oX p k [true]) (fun _ => .leaf (.exit 0) (tms 0 96 [(5, sB 0 np), (6, sB 1 nk), (7, sB 1000 (nk + 1))]) (oX p k T))
def gO : List AV → AP (Nat × Nat × Nat) := fun tmps => match getL tmps 5 with
  | .slice a _ _ _ _ => match getL tmps 6 with
    | .slice b _ _ _ _ => match getL tmps 7 with
      | .slice c _ _ _ _ => .ret (a, b, c)
      | _ => .fail "table"
    | _ => .fail "table"
  | _ => .fail "table"
def nmO (a b c : Nat) : Nat → Nat := fun k => match Nat.beq k 0 with
  | true => a
  | false => match Nat.beq k 1 with
    | true => b
    | false => match Nat.beq k 1000 with
      | true => c
      | false => k
def lO (p k : Path) (np nk n : Nat) (R0 R : List Bool) : List AV → AP (AX × List AV) := mkL gO (fun _ => True) (fun q => nmO q.1 q.2.1 q.2.2) (fun _ => tms 0 96 (aO np nk n 0)) (fun _ => oO p k R0) (fun _ => .leaf (.exit 2) (tms 0 96 [(6, sB 1 nk), (7, sB 1000 n)]) [(1, rS k), (1000, rB R)])
theorem oRMf_eq (s t : ByteArray) (np nk : Nat) (R0 R : List Bool) (b : Bool) (F : HP) : wRun [(fRW, cRWd)] (hintL [(fRM, 21, 4, hv (bv b))]) [(fRM, 4, loopN fRM 4, lX (dots s) (dots t) (dots s).length (dots t).length R0), (fRM, 8, loopN fRM 8, lO (dots s) (dots t) (dots s).length (dots t).length ((dots t).length + 1) R0 R)] default fRM [sv s, sv t] [] [] F = VT.leaf (AV.v (Value.bool b)) [] 1105 (((Cnd.p (s.size ≤ 1100000)).a ((Cnd.p (VW [AV.v (Value.string s)] [AV.v (Value.string s)])).a Cnd.t)).a (((Cnd.p (t.size ≤ 1100000)).a ((Cnd.p (VW [AV.v (Value.string t)] [AV.v (Value.string t)])).a Cnd.t)).a ((Cnd.p ((fRM, 4, loopN fRM 4, lX (dots s) (dots t) (dots s).length (dots t).length R0).snd.snd.fst = (fRM, 4, loopN fRM 4, lX (dots s) (dots t) (dots s).length (dots t).length R0).snd.snd.fst)).a ((Cnd.p True).a ((Cnd.p (VW [AV.v (Value.string s), AV.v (Value.string t), AV.v (Value.tuple (Array.mk [])), AV.v (Value.tuple (Array.mk [])), AV.v (Value.bool false), AV.slice 1100 0 (dots s).length 1 (Cp.lo (dots s).length), AV.slice 1101 0 (dots t).length 1 (Cp.lo (dots t).length), AV.slice 1102 0 1 1 (Cp.ex 1), AV.v (Value.int IntKind.i64 (Int.ofNat 0)), AV.v (Value.tuple (Array.mk [])), AV.v (Value.tuple (Array.mk [])), AV.v (Value.tuple (Array.mk [])), AV.v (Value.tuple (Array.mk [])), AV.v (Value.string s), AV.slice 1100 0 (dots s).length 1 (Cp.lo (dots s).length), AV.v (Value.string t), AV.slice 1101 0 (dots t).length 1 (Cp.lo (dots t).length), AV.slice 1102 0 1 1 (Cp.ex 1), AV.v (Value.tuple (Array.mk [])), AV.v (Value.tuple (Array.mk [])), AV.v (Value.tuple (Array.mk [])), AV.v (Value.tuple (Array.mk [])), AV.v (Value.tuple (Array.mk [])), AV.v (Value.tuple (Array.mk [])), AV.v (Value.tuple (Array.mk [])), AV.v (Value.tuple (Array.mk [])), AV.v (Value.tuple (Array.mk [])), AV.v (Value.tuple (Array.mk [])), AV.v (Value.tuple (Array.mk [])), AV.v (Value.tuple (Array.mk [])), AV.v (Value.tuple (Array.mk [])), AV.v (Value.tuple (Array.mk [])), AV.v (Value.tuple (Array.mk [])), AV.v (Value.tuple (Array.mk [])), AV.v (Value.tuple (Array.mk [])), AV.v (Value.tuple (Array.mk [])), AV.v (Value.tuple (Array.mk [])), AV.v (Value.tuple (Array.mk [])), AV.v (Value.tuple (Array.mk [])), AV.v (Value.tuple (Array.mk [])), AV.v (Value.tuple (Array.mk [])), AV.v (Value.tuple (Array.mk [])), AV.v (Value.tuple (Array.mk [])), AV.v (Value.tuple (Array.mk [])), AV.v (Value.tuple (Array.mk [])), AV.v (Value.tuple (Array.mk [])), AV.v (Value.tuple (Array.mk [])), AV.v (Value.tuple (Array.mk [])), AV.v (Value.tuple (Array.mk [])), AV.v (Value.tuple (Array.mk [])), AV.v (Value.tuple (Array.mk [])), AV.v (Value.tuple (Array.mk [])), AV.v (Value.tuple (Array.mk [])), AV.v (Value.tuple (Array.mk [])), AV.v (Value.tuple (Array.mk [])), AV.v (Value.tuple (Array.mk [])), AV.v (Value.tuple (Array.mk [])), AV.v (Value.tuple (Array.mk [])), AV.v (Value.tuple (Array.mk [])), AV.v (Value.tuple (Array.mk [])), AV.v (Value.tuple (Array.mk [])), AV.v (Value.tuple (Array.mk [])), AV.v (Value.tuple (Array.mk [])), AV.v (Value.tuple (Array.mk [])), AV.v (Value.tuple (Array.mk [])), AV.v (Value.tuple (Array.mk [])), AV.v (Value.tuple (Array.mk [])), AV.v (Value.tuple (Array.mk [])), AV.v (Value.tuple (Array.mk [])), AV.v (Value.tuple (Array.mk [])), AV.v (Value.tuple (Array.mk [])), AV.v (Value.tuple (Array.mk [])), AV.v (Value.tuple (Array.mk [])), AV.v (Value.tuple (Array.mk [])), AV.v (Value.tuple (Array.mk [])), AV.v (Value.tuple (Array.mk [])), AV.v (Value.tuple (Array.mk [])), AV.v (Value.tuple (Array.mk [])), AV.v (Value.tuple (Array.mk [])), AV.v (Value.tuple (Array.mk [])), AV.v (Value.tuple (Array.mk [])), AV.v (Value.tuple (Array.mk [])), AV.v (Value.tuple (Array.mk [])), AV.v (Value.tuple (Array.mk [])), AV.v (Value.tuple (Array.mk [])), AV.v (Value.tuple (Array.mk [])), AV.v (Value.tuple (Array.mk [])), AV.v (Value.tuple (Array.mk [])), AV.v (Value.tuple (Array.mk [])), AV.v (Value.tuple (Array.mk [])), AV.v (Value.tuple (Array.mk [])), AV.v (Value.tuple (Array.mk [])), AV.v (Value.tuple (Array.mk [])), AV.v (Value.tuple (Array.mk [])), AV.v (Value.tuple (Array.mk [])), AV.v (Value.tuple (Array.mk []))] [AV.any, AV.any, AV.any, AV.any, AV.any, AV.slice 1100 0 (dots s).length 1 (Cp.lo (dots s).length), AV.slice 1101 0 (dots t).length 1 (Cp.lo (dots t).length), AV.slice 1102 0 1 1 (Cp.lo 1), AV.v (Value.int IntKind.i64 (Int.ofNat 0)), AV.any, AV.any, AV.any, AV.any, AV.any, AV.any, AV.any, AV.any, AV.any, AV.any, AV.any, AV.any, AV.any, AV.any, AV.any, AV.any, AV.any, AV.any, AV.any, AV.any, AV.any, AV.any, AV.any, AV.any, AV.any, AV.any, AV.any, AV.any, AV.any, AV.any, AV.any, AV.any, AV.any, AV.any, AV.any, AV.any, AV.any, AV.any, AV.any, AV.any, AV.any, AV.any, AV.any, AV.any, AV.any, AV.any, AV.any, AV.any, AV.any, AV.any, AV.any, AV.any, AV.any, AV.any, AV.any, AV.any, AV.any, AV.any, AV.any, AV.any, AV.any, AV.any, AV.any, AV.any, AV.any, AV.any, AV.any, AV.any, AV.any, AV.any, AV.any, AV.any, AV.any, AV.any, AV.any, AV.any, AV.any, AV.any, AV.any, AV.any, AV.any, AV.any, AV.any, AV.any, AV.any, AV.any, AV.any])).a ((Cnd.p (OW (AO.cells (AV.rens (sgN (fun k => k) [1000] 1100) (rowV encS (dots s))) 18) (AO.cells (AV.rens (nmX 1100 1101 1102) (rowV encS (dots s))) 18))).a ((Cnd.p (OW (AO.cells (AV.rens (sgN (fun k => k) [1000] 1101) (rowV encS (dots t))) 18) (AO.cells (AV.rens (nmX 1100 1101 1102) (rowV encS (dots t))) 18))).a ((Cnd.p (OW (AO.cells [AV.v (Value.bool true)] 8) (AO.cells [AV.v (Value.bool true)] 8))).a ((Cnd.p ((fRM, 8, loopN fRM 8, lO (dots s) (dots t) (dots s).length (dots t).length ((dots t).length + 1) R0 R).snd.snd.fst = (fRM, 8, loopN fRM 8, lO (dots s) (dots t) (dots s).length (dots t).length ((dots t).length + 1) R0 R).snd.snd.fst)).a ((Cnd.p True).a ((Cnd.p (VW [AV.any, AV.any, AV.any, AV.any, AV.any, AV.slice 1100 0 (dots s).length 1 (Cp.lo (dots s).length), AV.slice 1101 0 (dots t).length 1 (Cp.lo (dots t).length), AV.slice 1103 0 ((dots t).length + 1) 1 (Cp.lo ((dots t).length + 1)), AV.any, AV.v (Value.int IntKind.i64 (Int.ofNat 0)), AV.any, AV.any, AV.any, AV.any, AV.any, AV.any, AV.any, AV.any, AV.any, AV.any, AV.any, AV.any, AV.any, AV.any, AV.any, AV.any, AV.any, AV.any, AV.any, AV.any, AV.any, AV.any, AV.any, AV.any, AV.any, AV.any, AV.any, AV.any, AV.any, AV.any, AV.any, AV.any, AV.any, AV.any, AV.any, AV.any, AV.any, AV.any, AV.any, AV.any, AV.any, AV.any, AV.any, AV.any, AV.any, AV.any, AV.any, AV.any, AV.any, AV.any, AV.any, AV.any, AV.any, AV.any, AV.any, AV.any, AV.any, AV.any, AV.any, AV.any, AV.any, AV.any, AV.any, AV.any, AV.any, AV.any, AV.any, AV.any, AV.any, AV.any, AV.any, AV.any, AV.any, AV.any, AV.any, AV.any, AV.any, AV.any, AV.any, AV.any, AV.any, AV.any, AV.any, AV.any, AV.any, AV.any] [AV.any, AV.any, AV.any, AV.any, AV.any, AV.slice 1100 0 (dots s).length 1 (Cp.lo (dots s).length), AV.slice 1101 0 (dots t).length 1 (Cp.lo (dots t).length), AV.slice 1103 0 ((dots t).length + 1) 1 (Cp.lo ((dots t).length + 1)), AV.any, AV.v (Value.int IntKind.i64 (Int.ofNat 0)), AV.any, AV.any, AV.any, AV.any, AV.any, AV.any, AV.any, AV.any, AV.any, AV.any, AV.any, AV.any, AV.any, AV.any, AV.any, AV.any, AV.any, AV.any, AV.any, AV.any, AV.any, AV.any, AV.any, AV.any, AV.any, AV.any, AV.any, AV.any, AV.any, AV.any, AV.any, AV.any, AV.any, AV.any, AV.any, AV.any, AV.any, AV.any, AV.any, AV.any, AV.any, AV.any, AV.any, AV.any, AV.any, AV.any, AV.any, AV.any, AV.any, AV.any, AV.any, AV.any, AV.any, AV.any, AV.any, AV.any, AV.any, AV.any, AV.any, AV.any, AV.any, AV.any, AV.any, AV.any, AV.any, AV.any, AV.any, AV.any, AV.any, AV.any, AV.any, AV.any, AV.any, AV.any, AV.any, AV.any, AV.any, AV.any, AV.any, AV.any, AV.any, AV.any, AV.any, AV.any, AV.any, AV.any])).a ((Cnd.p (OW (AO.cells (AV.rens (sgN (nmX 1100 1101 1102) [1000] 1103) (rowV encS (dots s))) 18) (AO.cells (AV.rens (nmO 1100 1101 1103) (rowV encS (dots s))) 18))).a ((Cnd.p (OW (AO.cells (AV.rens (sgN (nmX 1100 1101 1102) [1000] 1103) (rowV encS (dots t))) 18) (AO.cells (AV.rens (nmO 1100 1101 1103) (rowV encS (dots t))) 18))).a ((Cnd.p (OW (AO.cells (AV.rens (sgN (nmX 1100 1101 1102) [1000] 1103) (rowV encB R0)) 8) (AO.cells (AV.rens (nmO 1100 1101 1103) (rowV encB R0)) 8))).a (((Cnd.p ((dots t).length.blt ((dots t).length + 1) = true)).a Cnd.t).a (((Cnd.p ((0 + (dots t).length * 1).blt (AV.rens (sgN (nmO 1100 1101 1103) [1000] 1104) (rowV encB R)).length = true)).a ((Cnd.p (((AV.rens (sgN (nmO 1100 1101 1103) [1000] 1104) (rowV encB R)).getD (0 + (dots t).length * 1) (AV.v (Value.tuple (Array.mk [])))).bool? = some ((AV.rens (sgN (nmO 1100 1101 1103) [1000] 1104) (rowV encB R)).getD (0 + (dots t).length * 1) (AV.v (Value.tuple (Array.mk [])))).boolOf)).a ((Cnd.p (Wk (AV.v (Value.bool ((AV.rens (sgN (nmO 1100 1101 1103) [1000] 1104) (rowV encB R)).getD (0 + (dots t).length * 1) (AV.v (Value.tuple (Array.mk [])))).boolOf)) (AV.v (Value.bool b)))).a Cnd.t))).a Cnd.t)))))))))))))))) := by kernel_rfl
end
end Go.Proofs.YtbmoancedlbhlaaDoor.Tpc

/- Topic: the document's match: whole. -/
set_option linter.unusedVariables false
set_option linter.unusedSimpArgs false
set_option maxRecDepth 100000
namespace Go.Proofs.YtbmoancedlbhlaaDoor.Tpc
open Go Go.RowKit Go.Proofs.YtbmoancedlbhlaaDoor.Eng Go.Proofs.YtbmoancedlbhlaaDoor.Kit
theorem gY_ro : ∀ args, RO (gY args) := by
  intro args
  unfold gY
  repeat' split
  all_goals first | exact RO.ret _ | exact RO.fail _
theorem gX_ro : ∀ args, RO (gX args) := by
  intro args
  unfold gX
  repeat' split
  all_goals first | exact RO.ret _ | exact RO.fail _
theorem gO_ro : ∀ args, RO (gO args) := by
  intro args
  unfold gO
  repeat' split
  all_goals first | exact RO.ret _ | exact RO.fail _
theorem lY_ok (p k : Path) (i : Nat) (hk : k.length ≤ 1200000) (hi : i < p.length) (hp : p.length ≤ 1200000) (T0 : List Bool) (h0 : (rowT p k (i + 1)).take 1 = T0) (F : HP) : L1OK Tryd.prog F (loopN fRM 12) (lY p k p.length k.length (k.length + 1) i (rowT p k i) T0 (rowT p k (i + 1))) :=
  mkL_ok (W := default) oldDef gY_ro (fun _ _ => by rw [← h0]; exact y_loop p k i hk hi hp) fun _ => by
    simp only [RT.pick]
    exact closedT rfl rfl (all_cons rfl (all_cons rfl (all_cons rfl (all_cons trivial (all_cons rfl (all_cons trivial all_nil)))))) (all_cons (rS_cl _ _) (all_cons (rS_cl _ _) (all_cons (rB_cl _ _) (all_cons (rB_cl _ _) all_nil)))) (all_cons rfl (all_cons rfl (all_cons trivial (all_cons rfl all_nil)))) (all_cons (rS_cl _ _) (all_cons (rS_cl _ _) (all_cons (rB_cl _ _) all_nil)))
theorem o_loop (p k : Path) (hk : k.length ≤ 1200000) (hp : p.length ≤ 1200000) :
    LTri Tryd.prog default (loopN fRM 8) (tms 0 96 (aO p.length k.length (k.length + 1) 0)) (oO p k (rowT p k 0)) (.exit 2) (tms 0 96 [(6, sB 1 k.length), (7, sB 1000 (k.length + 1))]) [(1, rS k), (1000, rB (rowT p k p.length))] := by
  refine ltri_run (W := default) (g := fRM) (b := loopN fRM 8) (σ := {i : Nat // i ≤ p.length}) 96 (fun i => aO p.length k.length (k.length + 1) i.1) (fun i => oO p k (rowT p k i.1)) (.exit 2) [(6, sB 1 k.length), (7, sB 1000 (k.length + 1))] [(1, rS k), (1000, rB (rowT p k p.length))] (fun i => p.length - i.1) [0, 1, 1000, 1100, 1101] [5, 6, 7, 9] (by intro h; cases h) (fun _ => rfl) rfl ?_ ⟨0, Nat.zero_le _⟩
  rintro ⟨i, hi⟩
  simp only
  by_cases h1 : i < p.length
  · have hw := wrap_succ i (by omega)
    have e1 : decide (Int.ofNat i < (p.length : Int)) = true := ltTC h1
    have g0 := rS_get p i h1
    have g1 := rS_lt p i h1
    have rl := rowT_len p k i
    have b0 := rB_get (rowT p k i) 0 (by omega)
    have b1 := rB_lt (rowT p k i) 0 (by omega)
    rw [rowT_get p k i 0 (Nat.zero_le _)] at b0
    simp only [Nat.zero_mul, Nat.add_zero] at b0 b1
    have ht0 : (rowT p k (i + 1)).take 1 = [mt (p.take (i + 1)).reverse []] := by
      rw [take_next _ false 0 (by rw [rowT_len]; omega), rowT_get _ _ _ _ (Nat.zero_le _)]
      rfl
    rw [rev_next p i h1, mt] at ht0
    have q0 : (0 : Nat) < k.length + 1 := by omega
    have hlY := lY_ok p k i hk h1 hp _ ht0
    have b0' : ∀ d : AV, (rowV encB (rowT p k i)).getD 0 d = bv (mt (p.take i).reverse []) := b0
    generalize p.getD i nil0 = w at *
    by_cases hh : w = hash
    · have c1 : (w.toList == [(ByteArray.mk (Array.mk [35])).get! 0]) = true := (bl_one w 35).trans (decide_eq_true hh)
      rw [decide_eq_true hh, Bool.true_and] at hlY
      refine ⟨[], hintL [(fRM, 8, 3, hv (.lit true)), (fRM, 10, 3, hv (sv w)), (fRM, 10, 4, hv (.lit true)), (fRM, 10, 8, hv (bv (mt (p.take i).reverse []))), (fRM, 9, 1, hv (iv (Int.ofNat (i + 1))))], [(fRM, 12, loopN fRM 12, lY p k p.length k.length (k.length + 1) i (rowT p k i) [mt (p.take i).reverse []] (rowT p k (i + 1)))], fun _ _ => noC, fun F _ => one_l (hlY F), fun F => ?_⟩
      refine cast (congrArg (VAll _) (oOH_eq p k (rowT p k i) (rowT p k (i + 1)) w p.length k.length (k.length + 1) i (mt (p.take i).reverse []) F).symm) ⟨⟨?_, rfl, .inl ⟨rfl, ⟨i + 1, h1⟩, sub_down h1, [(1000, 1101)], by kernel_rfl, by kernel_rfl, ⟨Wk.refl _, Wk.refl _, Wk.refl _, Wk.refl _, trivial⟩, ⟨_, rfl, rS_ow (by rw [rens_rowV]) rfl⟩, ⟨_, rfl, rS_ow (by rw [rens_rowV]) rfl⟩, ⟨_, rfl, rB_ow (by rw [rens_rowV]) rfl⟩, trivial⟩⟩⟩
      simp only [Cnd.holds, e1, g0, g1, h1, b0', b1, q0, rens_rowV, AV.strOf, AV.boolOf, AV.bool?, sv, Nat.blt_eq, true_and, and_true]
      and_intros
      all_goals first
        | (with_reducible exact wk_int hw)
        | exact wk_litE c1
        | (with_reducible exact trivial)
        | (with_reducible exact rfl)
        | (with_reducible exact Wk.refl _)
        | (with_reducible exact VW.refl _)
        | (with_reducible exact OW.refl _)
        | (with_reducible exact wk_lit _)
        | (with_reducible assumption)
        | exact rfl
        | exact Wk.refl _
        | exact VW.refl _
        | exact OW.refl _
        | ((repeat (first | exact VW.nil | refine VW.cons (Wk.refl _) ?_ | refine VW.cons (Wk.any _) ?_ | refine VW.cons (wk_cap (Nat.le_refl _)) ?_)); done)
    · have c1 : (w.toList == [(ByteArray.mk (Array.mk [35])).get! 0]) = false := (bl_one w 35).trans (decide_eq_false hh)
      rw [decide_eq_false hh, Bool.false_and] at hlY
      refine ⟨[], hintL [(fRM, 8, 3, hv (.lit true)), (fRM, 10, 3, hv (sv w)), (fRM, 10, 4, hv (.lit false)), (fRM, 9, 1, hv (iv (Int.ofNat (i + 1))))], [(fRM, 12, loopN fRM 12, lY p k p.length k.length (k.length + 1) i (rowT p k i) [false] (rowT p k (i + 1)))], fun _ _ => noC, fun F _ => one_l (hlY F), fun F => ?_⟩
      refine cast (congrArg (VAll _) (oON_eq p k (rowT p k i) (rowT p k (i + 1)) w p.length k.length (k.length + 1) i F).symm) ⟨⟨?_, rfl, .inl ⟨rfl, ⟨i + 1, h1⟩, sub_down h1, [(1000, 1101)], by kernel_rfl, by kernel_rfl, ⟨Wk.refl _, Wk.refl _, Wk.refl _, Wk.refl _, trivial⟩, ⟨_, rfl, rS_ow (by rw [rens_rowV]) rfl⟩, ⟨_, rfl, rS_ow (by rw [rens_rowV]) rfl⟩, ⟨_, rfl, rB_ow (by rw [rens_rowV]) rfl⟩, trivial⟩⟩⟩
      simp only [Cnd.holds, e1, g0, g1, h1, q0, rens_rowV, AV.strOf, AV.boolOf, AV.bool?, sv, Nat.blt_eq, true_and, and_true]
      and_intros
      all_goals first
        | (with_reducible exact wk_int hw)
        | exact wk_litE c1
        | (with_reducible exact trivial)
        | (with_reducible exact rfl)
        | (with_reducible exact Wk.refl _)
        | (with_reducible exact VW.refl _)
        | (with_reducible exact OW.refl _)
        | (with_reducible exact wk_lit _)
        | (with_reducible assumption)
        | exact rfl
        | exact Wk.refl _
        | exact VW.refl _
        | exact OW.refl _
        | ((repeat (first | exact VW.nil | refine VW.cons (Wk.refl _) ?_ | refine VW.cons (Wk.any _) ?_ | refine VW.cons (wk_cap (Nat.le_refl _)) ?_)); done)
  · have hie : i = p.length := by omega
    subst hie
    refine ⟨[], hintL [(fRM, 8, 3, hv (.lit false))], [], fun _ _ => noC, fun _ _ => noL, fun F => ?_⟩
    refine cast (congrArg (VAll _) (oOX_eq p k (rowT p k p.length) p.length k.length (k.length + 1) F).symm) ⟨⟨?_, rfl, .inr ⟨rfl, [(1000, 1000)], by kernel_rfl, by kernel_rfl, ⟨Wk.refl _, Wk.refl _, trivial⟩, ⟨_, rfl, rS_ow rfl rfl⟩, ⟨_, rfl, rB_ow rfl rfl⟩, trivial⟩⟩⟩
    simp only [Cnd.holds, and_true]
    exact wk_litE ltFC
end Go.Proofs.YtbmoancedlbhlaaDoor.Tpc

/- Topic: the document's examples, a closed run. -/
set_option linter.unusedVariables false
set_option linter.unusedSimpArgs false
set_option maxRecDepth 100000
namespace Go.Proofs.YtbmoancedlbhlaaDoor.Tpc
open Go Go.RowKit Go.Proofs.YtbmoancedlbhlaaDoor.Eng Go.Proofs.YtbmoancedlbhlaaDoor.Kit
abbrev fSpeaks : Nat := 8
def cfg : Cfg := { strs := [(27, 33, 9)], ints := [], same := [], clone := [], laid := [] }
theorem cfg_ok : CfgOk Tryd.prog cfg where
  strs := fun x hx => by
    simp only [cfg, List.mem_cons, List.not_mem_nil, or_false] at hx
    subst hx
    exact ⟨by kernel_rfl, sorted27_33⟩
  ints := fun x hx => by cases hx
  same := fun x hx => by cases hx
  clone := fun x hx => by cases hx
theorem speaks_calls (w : World) : Calls Tryd.prog fSpeaks (List.toArray []) w fun e w' => e = .returned (.bool true) ∧ Below w.heap.size w w' :=
  closed_callK (args := []) cfg_ok (by kernel_rfl) (fuel := 100000) (fun w => by kernel_rfl) (w := w) (fun x hx => by cases hx)
noncomputable def cSpk : List AV → Option (AP AV) := mkC (fun _ => .ret ()) (fun _ => True) (fun _ i => i) (fun _ => []) (fun _ => []) (fun _ => .leaf .ret [.v (.bool true)] [])
theorem cSpk_ok (F : HP) : C1OK Tryd.prog F fSpeaks cSpk :=
  mkC_ok (W := default) oldDef (fun _ => .v (.bool true)) (fun _ => RO.ret _) (fun _ => rfl) (fun _ _ => tri_closed (args := []) speaks_calls) fun _ => ⟨rfl, rfl, trivial, all_nil, ⟨trivial, trivial⟩, all_nil⟩
end Go.Proofs.YtbmoancedlbhlaaDoor.Tpc

/- Topic: the document's match; TopicMatches. -/
set_option linter.unusedVariables false
set_option linter.unusedSimpArgs false
set_option maxRecDepth 100000
namespace Go.Proofs.YtbmoancedlbhlaaDoor.Tpc
open Go Go.RowKit Go.Proofs.YtbmoancedlbhlaaDoor.Eng Go.Proofs.YtbmoancedlbhlaaDoor.Kit
noncomputable section
abbrev fTM : Nat := 3
def mtB (s t : ByteArray) : Bool := mt (dots s).reverse (dots t).reverse
def gS2 : List AV → AP (ByteArray × ByteArray) := fun args => match args with
  | .v (.string s) :: .v (.string t) :: _ => .ret (s, t)
  | _ => .fail "texts"
def cMs : List AV → Option (AP AV) := mkC gS2 (fun q => q.1.size ≤ 1100000 ∧ q.2.size ≤ 1100000) (fun _ i => i) (fun q => [sv q.1, sv q.2]) (fun _ => []) (fun q => .leaf .ret [bv (mtB q.1 q.2)] [])
theorem oTMf_eq (p k : ByteArray) (F : HP) : wRun [(fSpeaks, cSpk), (fMatches, cMs), (fRM, cMs)] (hintL [(fTM, 1, 1, hv (.lit false)), (fTM, 3, 6, hv (bv true))]) [] default fTM [sv p, sv k] [] [] F = VT.leaf (AV.v (Value.bool true)) [] 1100 (((Cnd.p True).a ((Cnd.p (VW [] [])).a Cnd.t)).a (((Cnd.p (Wk (AV.v (Value.bool false)) (AV.lit false))).a Cnd.t).a (((Cnd.p (p.size ≤ 1100000 ∧ k.size ≤ 1100000)).a ((Cnd.p (VW [AV.v (Value.string p), AV.v (Value.string k)] [AV.v (Value.string p), AV.v (Value.string k)])).a Cnd.t)).a (((Cnd.p (p.size ≤ 1100000 ∧ k.size ≤ 1100000)).a ((Cnd.p (VW [AV.v (Value.string p), AV.v (Value.string k)] [AV.v (Value.string p), AV.v (Value.string k)])).a Cnd.t)).a (((Cnd.p (Wk (AV.v (Value.bool (mtB p k == mtB p k))) (AV.v (Value.bool true)))).a Cnd.t).a Cnd.t))))) := by kernel_rfl
end
theorem cRWd_ok (F : HP) : C1OK Tryd.prog F fRW cRWd :=
  mkC_ok (W := default) oldDef (fun s => sB 1000 (dots s).length) gS1_ro (fun _ => rfl) (fun s hs => RWords_tri s hs) fun _ => ⟨rfl, rfl, ⟨trivial, trivial⟩, (fun x hx => by cases hx), ⟨rfl, trivial⟩, all_cons (rS_cl _ _) all_nil⟩
theorem lX_ok (p k : Path) (hk : k.length ≤ 1200000) (F : HP) : L1OK Tryd.prog F (loopN fRM 4) (lX p k p.length k.length (rowT p k 0)) :=
  mkL_ok (W := default) oldDef gX_ro (fun _ _ => x_loop p k hk) fun _ => by
    simp only [RT.pick]
    exact closedT rfl rfl (all_cons rfl (all_cons rfl (all_cons rfl (all_cons trivial all_nil)))) (all_cons (rS_cl _ _) (all_cons (rS_cl _ _) (all_cons (rB_cl _ _) all_nil))) (all_cons rfl (all_cons rfl (all_cons rfl all_nil))) (all_cons (rS_cl _ _) (all_cons (rS_cl _ _) (all_cons (rB_cl _ _) all_nil)))
theorem lO_ok (p k : Path) (hk : k.length ≤ 1200000) (hp : p.length ≤ 1200000) (F : HP) : L1OK Tryd.prog F (loopN fRM 8) (lO p k p.length k.length (k.length + 1) (rowT p k 0) (rowT p k p.length)) :=
  mkL_ok (W := default) oldDef gO_ro (fun _ _ => o_loop p k hk hp) fun _ => by
    simp only [RT.pick]
    exact closedT rfl rfl (all_cons rfl (all_cons rfl (all_cons rfl (all_cons trivial all_nil)))) (all_cons (rS_cl _ _) (all_cons (rS_cl _ _) (all_cons (rB_cl _ _) all_nil))) (all_cons rfl (all_cons rfl all_nil)) (all_cons (rS_cl _ _) (all_cons (rB_cl _ _) all_nil))
theorem RMatches_tri (s t : ByteArray) (hs : s.size ≤ 1100000) (ht : t.size ≤ 1100000) : Tri Tryd.prog default fRM [sv s, sv t] [] (bv (mtB s t)) [] := by
  have h1 := dots_le hs
  have h2 := dots_le ht
  have hlO := lO_ok (dots s) (dots t) (by omega) (by omega)
  have hlX := lX_ok (dots s) (dots t) (by omega)
  have rl := rowT_len (dots s) (dots t) (dots s).length
  have b0 := rB_get (rowT (dots s) (dots t) (dots s).length) (dots t).length (by omega)
  have b1 := rB_lt (rowT (dots s) (dots t) (dots s).length) (dots t).length (by omega)
  rw [rowT_get _ _ _ _ (Nat.le_refl _), List.take_length, List.take_length] at b0
  have q1 : (dots t).length < (dots t).length + 1 := Nat.lt_succ_self _
  unfold mtB
  refine tri_run (con := [(fRW, cRWd)]) (hints := hintL [(fRM, 21, 4, hv (bv (mt (dots s).reverse (dots t).reverse)))]) (lc := [(fRM, 4, loopN fRM 4, lX (dots s) (dots t) (dots s).length (dots t).length (rowT (dots s) (dots t) 0)), (fRM, 8, loopN fRM 8, lO (dots s) (dots t) (dots s).length (dots t).length ((dots t).length + 1) (rowT (dots s) (dots t) 0) (rowT (dots s) (dots t) (dots s).length))]) [] rfl (fun F _ => one_c (cRWd_ok F)) (fun F _ => lc_cons (hlX F) (one_l (hlO F))) fun F => ?_
  refine cast (congrArg (VAll _) (oRMf_eq s t (dots s).length (dots t).length (rowT (dots s) (dots t) 0) (rowT (dots s) (dots t) (dots s).length) (mt (dots s).reverse (dots t).reverse) F).symm) ⟨⟨?_, (fit_mk (vs' := [bv (mt (dots s).reverse (dots t).reverse)]) (H' := []) [] rfl rfl (VW.refl _) trivial).fits rfl⟩⟩
  simp only [Cnd.holds, rens_rowV, b0, b1, q1, AV.boolOf, AV.bool?, Nat.blt_eq, true_and, and_true]
  and_intros
  all_goals first
    | (with_reducible exact trivial)
    | (with_reducible exact rfl)
    | (with_reducible exact Wk.refl _)
    | (with_reducible exact VW.refl _)
    | (with_reducible exact OW.refl _)
    | (with_reducible exact wk_lit _)
    | (with_reducible assumption)
    | exact rfl
    | exact Wk.refl _
    | exact VW.refl _
    | exact OW.refl _
    | ((repeat (first | exact VW.nil | refine VW.cons (Wk.refl _) ?_ | refine VW.cons (Wk.any _) ?_ | refine VW.cons (wk_cap (Nat.le_refl _)) ?_)); done)
theorem gS2_ro : ∀ args, RO (gS2 args) := by
  intro args
  unfold gS2
  split
  · exact RO.ret _
  · exact RO.fail _
theorem cMs_ok {f : FuncId} (h : ∀ p k : ByteArray, p.size ≤ 1100000 → k.size ≤ 1100000 → Tri Tryd.prog default f [sv p, sv k] [] (bv (mtB p k)) []) (F : HP) : C1OK Tryd.prog F f cMs :=
  mkC_ok (W := default) oldDef (fun q => bv (mtB q.1 q.2)) gS2_ro (fun _ => rfl) (fun q hq => h q.1 q.2 hq.1 hq.2) fun _ => ⟨rfl, rfl, ⟨trivial, trivial, trivial⟩, (fun x hx => by cases hx), ⟨trivial, trivial⟩, fun x hx => by cases hx⟩
theorem TM_tri (p k : ByteArray) (hp : p.size ≤ 1100000) (hk : k.size ≤ 1100000) : Tri Tryd.prog default fTM [sv p, sv k] [] (bv true) [] := by
  refine tri_run (con := [(fSpeaks, cSpk), (fMatches, cMs), (fRM, cMs)]) (hints := hintL [(fTM, 1, 1, hv (.lit false)), (fTM, 3, 6, hv (bv true))]) (lc := []) [] rfl (fun F _ => con_cons (cSpk_ok F) (con_cons (cMs_ok (fun p k hp hk => Matches_tri p k hp hk) F) (one_c (cMs_ok (fun p k hp hk => RMatches_tri p k hp hk) F)))) (fun F _ => noL) fun F => ?_
  refine cast (congrArg (VAll _) (oTMf_eq p k F).symm) ⟨⟨?_, (fit_mk (vs' := [bv true]) (H' := []) [] rfl rfl (VW.refl _) trivial).fits rfl⟩⟩
  have e : (mtB p k == mtB p k) = true := by simp
  simp only [Cnd.holds, e, hp, hk, Nat.blt_eq, true_and, and_true]
  and_intros
  all_goals first
    | (with_reducible exact trivial)
    | (with_reducible exact rfl)
    | (with_reducible exact Wk.refl _)
    | (with_reducible exact VW.refl _)
    | (with_reducible exact OW.refl _)
    | (with_reducible exact wk_lit _)
    | (with_reducible assumption)
    | exact rfl
    | exact Wk.refl _
    | exact VW.refl _
    | exact OW.refl _
    | ((repeat (first | exact VW.nil | refine VW.cons (Wk.refl _) ?_ | refine VW.cons (Wk.any _) ?_ | refine VW.cons (wk_cap (Nat.le_refl _)) ?_)); done)
end Go.Proofs.YtbmoancedlbhlaaDoor.Tpc

/- Rows of records, as cells. No program. -/
set_option linter.unusedVariables false
set_option linter.unusedSimpArgs false
namespace Go.Proofs.YtbmoancedlbhlaaDoor
open Go

theorem pieces_get {α : Type} {f : α → List Value} {m : Nat} (hf : ∀ x, (f x).length = m) : ∀ (l : List α) (k j : Nat) (h : k < l.length), j < m → (l.flatMap f)[k * m + j]? = (f l[k])[j]?
  | [], _, _, h, _ => by simp at h
  | x :: l, 0, j, _, hj => by
    rw [List.flatMap_cons, Nat.zero_mul, Nat.zero_add, List.getElem?_append_left (by rw [hf]; exact hj)]
    rfl
  | x :: l, k + 1, j, h, hj => by
    rw [List.flatMap_cons, List.getElem?_append_right (by rw [hf, Nat.add_mul]; omega), hf, show (k + 1) * m + j - m = k * m + j from by rw [Nat.add_mul]; omega]
    exact pieces_get hf l k j (by simpa using h) hj
theorem pieces_length {α : Type} {f : α → List Value} {m : Nat} (hf : ∀ x, (f x).length = m) (l : List α) : (l.flatMap f).length = l.length * m := by
  induction l with
  | nil => simp
  | cons p l ih => simp only [List.flatMap_cons, List.length_append, hf, List.length_cons, ih, Nat.add_mul]; omega
end Go.Proofs.YtbmoancedlbhlaaDoor

/- A slice of structs that comes in, whatever its struct: its cells, read as a list of plain records. -/
set_option linter.unusedVariables false
set_option linter.unusedSimpArgs false
namespace Go.Proofs.YtbmoancedlbhlaaDoor
open Go.ChangeShapes Go.WideShapes Go.RowKit Go.Deep
section
variable {H : Type} {enc : TypeId × Value → H} {P : Program} {w : World} {base : Nat} {spare : Nat → Bool} {held : Bool}
def Light (P : Program) (t : TypeId) (d : DataW H) : Prop := ∀ n ∈ d.weights P t, n ≤ reachBytes
theorem Light.len {t e : TypeId} {elems sp : List (DataW H)} (hu : P.underlying t = some (.slice e)) (h : Light P t (.slice elems sp)) : (elems.length + sp.length) * P.bytesOf e ≤ reachBytes :=
  h _ (by simp only [DataW.weights, hu, List.mem_cons, true_or])
theorem Light.field {t : TypeId} {fs : Array Field} {parts : List (DataW H)} (hu : P.underlying t = some (.struct fs)) (h : Light P t (.agg parts)) {i : Nat} {f : Field} {d : DataW H} (hf : fs[i]? = some f) (hp : parts[i]? = some d) : Light P f.type d := fun n hn => by
  refine h n ?_
  simp only [DataW.weights, hu]
  exact DataW.weights_mem_each (j := i) (by simp [hf]) hp n hn
end
end Go.Proofs.YtbmoancedlbhlaaDoor

/- What the bound of the second form gives. -/
set_option linter.unusedVariables false
set_option linter.unusedSimpArgs false
namespace Go.Proofs.YtbmoancedlbhlaaDoor.Upto
open Go.ChangeShapes Go.WideShapes Go.RowKit Go.Deep
theorem one_le {H : Type} (d : DataW H) : 1 ≤ Rows.uptoBulk d := by
  cases d with
  | lit l => cases l <;> simp [Rows.uptoBulk]
  | nil => simp [Rows.uptoBulk]
  | ptr d => simp [Rows.uptoBulk]
  | slice elems spare => simp [Rows.uptoBulk]
  | agg parts => simp [Rows.uptoBulk]
  | iface t d => simp [Rows.uptoBulk]
  | map entries => simp [Rows.uptoBulk]
  | held h => simp [Rows.uptoBulk]
theorem part_le {H : Type} {d : DataW H} {l : List (DataW H)} (h : d ∈ l) : Rows.uptoBulk d ≤ Rows.uptoBulkAll l := by
  induction l with
  | nil => cases h
  | cons x r ih =>
    simp only [Rows.uptoBulkAll]
    cases List.mem_cons.1 h with
    | inl e => subst e; omega
    | inr e => have := ih e; omega
theorem length_le {H : Type} (l : List (DataW H)) : l.length ≤ Rows.uptoBulkAll l := by
  induction l with
  | nil => simp [Rows.uptoBulkAll]
  | cons x r ih => have := one_le x; simp only [Rows.uptoBulkAll, List.length_cons]; omega
theorem slice_elems {H : Type} (elems spare : List (DataW H)) : Rows.uptoBulkAll elems + 1 ≤ Rows.uptoBulk (.slice elems spare) := by
  simp only [Rows.uptoBulk]
  omega
theorem string_eq {H : Type} (bytes : List UInt8) : Rows.uptoBulk (DataW.lit (H := H) (.string bytes)) = bytes.length + 1 := by
  simp [Rows.uptoBulk]
theorem bound {H : Type} {l : List (DataW H)} (hk : Rows.uptoSmall H l = true) : Rows.uptoBulkAll l ≤ 1048576 := of_decide_eq_true hk
theorem int_eq {H : Type} (k : IntKind) (n : Int) : Rows.uptoBulk (DataW.lit (H := H) (.int k n)) = 1 := by simp [Rows.uptoBulk]
theorem len_data (s : ByteArray) : s.data.toList.length = s.size := rfl
theorem sum_bulk {H α : Type} (wt : α → Nat) : ∀ (l : List α) (ds : List (DataW H)), l.length = ds.length → (∀ (i : Nat) (p : α) (d : DataW H), l[i]? = some p → ds[i]? = some d → wt p ≤ Rows.uptoBulk d) → (l.map wt).sum ≤ Rows.uptoBulkAll ds
  | [], [], _, _ => Nat.zero_le _
  | [], _ :: _, h, _ => by cases h
  | _ :: _, [], h, _ => by cases h
  | p :: l, d :: ds, h, hw => by
    have h1 := hw 0 p d rfl rfl
    have h2 := sum_bulk wt l ds (by simpa using h) fun i q e hq he => hw (i + 1) q e hq he
    simp only [List.map_cons, List.sum_cons, Rows.uptoBulkAll]
    omega
theorem open_rdU {H : Type} {enc : TypeId × Value → H} {P : Program} {w : World} {base : Nat} {spare : Nat → Bool} {held : Bool} {α : Type} (f : α → List Value) {size : Nat} (h0 : 0 < size) (hf : ∀ x, (f x).length = size) {t e : TypeId} (ht : P.underlying t = some (.slice e)) (hC : P.cellsOf e = size)
    {Q : α → Prop} (wt : α → Nat) (hopen : ∀ (n : Nat) (cs : List Value) (x : DataW H × List MemPlace), DataW.trod enc P w base spare held n e cs = some x → ∃ p : α, cs = f p ∧ Q p ∧ wt p ≤ Rows.uptoBulk x.1)
    {fuel : Nat} {A : Option Addr} {len cap : Nat} {x : DataW H × List MemPlace} (h : DataW.trod enc P w base spare held fuel t [.slice A len cap] = some x) :
    ∃ l : List α, l.length = len ∧ Rd w A len size (l.flatMap f) ∧ (∀ p ∈ l, Q p) ∧ (l.map wt).sum + 1 ≤ Rows.uptoBulk x.1 := by
  rcases open_slice ht h with ⟨hcs, _⟩ | ⟨a, len', cap', m, n, D, Pl, hcs, hb, hl, hm, hmm, hx, hi⟩
  · simp only [List.cons.injEq, Value.slice.injEq, and_true] at hcs
    obtain ⟨rfl, rfl, rfl⟩ := hcs
    exact ⟨[], rfl, Rd.nil _, (fun p hp => by cases hp), one_le x.1⟩
  · simp only [List.cons.injEq, Value.slice.injEq, and_true] at hcs
    obtain ⟨rfl, rfl, rfl⟩ := hcs
    have hlm : len ≤ m := by rw [hmm]; split <;> omega
    have hall : ∀ i : Fin len, ∃ p : α, Q p ∧ wt p ≤ Rows.uptoBulk (D i.1) ∧ ∀ j u, (f p)[j]? = some u → w.cell? (a.add (i.1 * size + j)) = some u := fun i => by
      obtain ⟨cs', hc, ht'⟩ := hi i.1 (by omega)
      obtain ⟨p, rfl, hq, hwt⟩ := hopen _ _ _ ht'
      refine ⟨p, hq, hwt, fun j u hu => ?_⟩
      obtain ⟨_, hcl, hat⟩ := World.cells?_some hc
      have hj : j < P.cellsOf e := by rw [hC, ← hf p]; exact (List.getElem?_eq_some_iff.1 hu).1
      rw [← hu, ← hat j hj, hC, add_add']
    obtain ⟨g, hg⟩ := Classical.axiomOfChoice hall
    refine ⟨List.ofFn g, by simp, ?_, fun p hp => ?_, ?_⟩
    rotate_left
    · obtain ⟨i, rfl⟩ := List.mem_ofFn.1 hp
      exact (hg i).1
    · rw [hx]
      refine Nat.le_trans (Nat.succ_le_succ ?_) (slice_elems _ _)
      refine sum_bulk wt _ _ (by simp) fun i p d hp hd => ?_
      rw [List.getElem?_ofFn] at hp
      split at hp
      · rename_i hlt
        rw [List.getElem?_map, List.getElem?_range hlt] at hd
        cases hp
        have hd := Option.some.inj hd
        rw [← hd]
        exact (hg ⟨i, hlt⟩).2.1
      · cases hp
    refine ⟨by rw [pieces_length hf]; simp, fun _ => ⟨a, rfl⟩, fun ad he j u hu => ?_⟩
    obtain rfl := Option.some.inj he
    have hj : j < len * size := by
      have := (List.getElem?_eq_some_iff.1 hu).1
      rw [pieces_length hf] at this
      simpa using this
    have hq : j / size < len := by rw [Nat.div_lt_iff_lt_mul h0]; exact hj
    have hd : j / size * size + j % size = j := by rw [Nat.mul_comm]; exact Nat.div_add_mod j size
    have hk : j / size < (List.ofFn g).length := by simpa using hq
    have hp := pieces_get hf (List.ofFn g) (j / size) (j % size) hk (Nat.mod_lt _ h0)
    rw [hd, hu] at hp
    have := (hg ⟨j / size, hq⟩).2.2 (j % size) u (by rw [hp]; simp)
    rwa [hd] at this
end Go.Proofs.YtbmoancedlbhlaaDoor.Upto

/- Topic: # stands for nothing, for one word, or for one word and # again. -/
set_option linter.unusedVariables false
set_option linter.unusedSimpArgs false
set_option maxRecDepth 100000
namespace Go.Proofs.YtbmoancedlbhlaaDoor.Tpc
open Go Go.RowKit Go.Proofs.YtbmoancedlbhlaaDoor.Eng Go.Proofs.YtbmoancedlbhlaaDoor.Kit
noncomputable section
abbrev fTH : Nat := 5
abbrev fJn : Nat := 18
def jn (a b : ByteArray) : ByteArray := a ++ dot ++ b
def cJn : List AV → Option (AP AV) := mkC gS2 (fun q => q.1.size + q.2.size ≤ 2000000) (fun _ i => i) (fun q => [sv q.1, sv q.2]) (fun _ => []) (fun q => .leaf .ret [sv (jn q.1 q.2)] [])
theorem oJn_eq (a b : ByteArray) (F : HP) : wRun [] (hintL [(fJn, 1, 1, h0), (fJn, 1, 3, h0)]) [] default fJn [sv a, sv b] [] [] F = VT.leaf (AV.v (Value.string (a ++ ByteArray.mk (Array.mk [46]) ++ b))) [] 1100 (((Cnd.p (a.size + 1 ≤ 9223372036854775807)).a Cnd.t).a (((Cnd.p ((a ++ ByteArray.mk (Array.mk [46])).size + b.size ≤ 9223372036854775807)).a Cnd.t).a Cnd.t)) := by kernel_rfl
theorem oTHT_eq (a b k : ByteArray) (F : HP) : wRun [(fSpeaks, cSpk), (fMatches, cMs), (fJn, cJn)] (hintL [(fTH, 1, 1, hv (.lit false)), (fTH, 5, 6, hv (.lit true)), (fTH, 7, 6, hv (bv true))]) [] default fTH [sv a, sv b, sv k] [] [] F = VT.leaf (AV.v (Value.bool true)) [] 1100 (((Cnd.p True).a ((Cnd.p (VW [] [])).a Cnd.t)).a (((Cnd.p (Wk (AV.v (Value.bool false)) (AV.lit false))).a Cnd.t).a (((Cnd.p (a.size + 1 ≤ 2000000)).a ((Cnd.p (VW [AV.v (Value.string a), AV.v (Value.string (ByteArray.mk (Array.mk [35])))] [AV.v (Value.string a), AV.v (Value.string (ByteArray.mk (Array.mk [35])))])).a Cnd.t)).a (((Cnd.p ((jn a (ByteArray.mk (Array.mk [35]))).size + b.size ≤ 2000000)).a ((Cnd.p (VW [AV.v (Value.string (jn a (ByteArray.mk (Array.mk [35])))), AV.v (Value.string b)] [AV.v (Value.string (jn a (ByteArray.mk (Array.mk [35])))), AV.v (Value.string b)])).a Cnd.t)).a (((Cnd.p ((jn (jn a (ByteArray.mk (Array.mk [35]))) b).size ≤ 1100000 ∧ k.size ≤ 1100000)).a ((Cnd.p (VW [AV.v (Value.string (jn (jn a (ByteArray.mk (Array.mk [35]))) b)), AV.v (Value.string k)] [AV.v (Value.string (jn (jn a (ByteArray.mk (Array.mk [35]))) b)), AV.v (Value.string k)])).a Cnd.t)).a (((Cnd.p (a.size + b.size ≤ 2000000)).a ((Cnd.p (VW [AV.v (Value.string a), AV.v (Value.string b)] [AV.v (Value.string a), AV.v (Value.string b)])).a Cnd.t)).a (((Cnd.p ((jn a b).size ≤ 1100000 ∧ k.size ≤ 1100000)).a ((Cnd.p (VW [AV.v (Value.string (jn a b)), AV.v (Value.string k)] [AV.v (Value.string (jn a b)), AV.v (Value.string k)])).a Cnd.t)).a (((Cnd.p (Wk (AV.v (Value.bool (mtB (jn a b) k))) (AV.lit true))).a Cnd.t).a (((Cnd.p (a.size + 1 ≤ 2000000)).a ((Cnd.p (VW [AV.v (Value.string a), AV.v (Value.string (ByteArray.mk (Array.mk [42])))] [AV.v (Value.string a), AV.v (Value.string (ByteArray.mk (Array.mk [42])))])).a Cnd.t)).a (((Cnd.p ((jn a (ByteArray.mk (Array.mk [42]))).size + 1 ≤ 2000000)).a ((Cnd.p (VW [AV.v (Value.string (jn a (ByteArray.mk (Array.mk [42])))), AV.v (Value.string (ByteArray.mk (Array.mk [35])))] [AV.v (Value.string (jn a (ByteArray.mk (Array.mk [42])))), AV.v (Value.string (ByteArray.mk (Array.mk [35])))])).a Cnd.t)).a (((Cnd.p ((jn (jn a (ByteArray.mk (Array.mk [42]))) (ByteArray.mk (Array.mk [35]))).size + b.size ≤ 2000000)).a ((Cnd.p (VW [AV.v (Value.string (jn (jn a (ByteArray.mk (Array.mk [42]))) (ByteArray.mk (Array.mk [35])))), AV.v (Value.string b)] [AV.v (Value.string (jn (jn a (ByteArray.mk (Array.mk [42]))) (ByteArray.mk (Array.mk [35])))), AV.v (Value.string b)])).a Cnd.t)).a (((Cnd.p ((jn (jn (jn a (ByteArray.mk (Array.mk [42]))) (ByteArray.mk (Array.mk [35]))) b).size ≤ 1100000 ∧ k.size ≤ 1100000)).a ((Cnd.p (VW [AV.v (Value.string (jn (jn (jn a (ByteArray.mk (Array.mk [42]))) (ByteArray.mk (Array.mk [35]))) b)), AV.v (Value.string k)] [AV.v (Value.string (jn (jn (jn a (ByteArray.mk (Array.mk [42]))) (ByteArray.mk (Array.mk [35]))) b)), AV.v (Value.string k)])).a Cnd.t)).a (((Cnd.p (Wk (AV.v (Value.bool (mtB (jn (jn a (ByteArray.mk (Array.mk [35]))) b) k == true))) (AV.v (Value.bool true)))).a Cnd.t).a Cnd.t))))))))))))) := by kernel_rfl
theorem oTHF_eq (a b k : ByteArray) (F : HP) : wRun [(fSpeaks, cSpk), (fMatches, cMs), (fJn, cJn)] (hintL [(fTH, 1, 1, hv (.lit false)), (fTH, 5, 6, hv (.lit false)), (fTH, 7, 6, hv (bv true))]) [] default fTH [sv a, sv b, sv k] [] [] F = VT.leaf (AV.v (Value.bool true)) [] 1100 (((Cnd.p True).a ((Cnd.p (VW [] [])).a Cnd.t)).a (((Cnd.p (Wk (AV.v (Value.bool false)) (AV.lit false))).a Cnd.t).a (((Cnd.p (a.size + 1 ≤ 2000000)).a ((Cnd.p (VW [AV.v (Value.string a), AV.v (Value.string (ByteArray.mk (Array.mk [35])))] [AV.v (Value.string a), AV.v (Value.string (ByteArray.mk (Array.mk [35])))])).a Cnd.t)).a (((Cnd.p ((jn a (ByteArray.mk (Array.mk [35]))).size + b.size ≤ 2000000)).a ((Cnd.p (VW [AV.v (Value.string (jn a (ByteArray.mk (Array.mk [35])))), AV.v (Value.string b)] [AV.v (Value.string (jn a (ByteArray.mk (Array.mk [35])))), AV.v (Value.string b)])).a Cnd.t)).a (((Cnd.p ((jn (jn a (ByteArray.mk (Array.mk [35]))) b).size ≤ 1100000 ∧ k.size ≤ 1100000)).a ((Cnd.p (VW [AV.v (Value.string (jn (jn a (ByteArray.mk (Array.mk [35]))) b)), AV.v (Value.string k)] [AV.v (Value.string (jn (jn a (ByteArray.mk (Array.mk [35]))) b)), AV.v (Value.string k)])).a Cnd.t)).a (((Cnd.p (a.size + b.size ≤ 2000000)).a ((Cnd.p (VW [AV.v (Value.string a), AV.v (Value.string b)] [AV.v (Value.string a), AV.v (Value.string b)])).a Cnd.t)).a (((Cnd.p ((jn a b).size ≤ 1100000 ∧ k.size ≤ 1100000)).a ((Cnd.p (VW [AV.v (Value.string (jn a b)), AV.v (Value.string k)] [AV.v (Value.string (jn a b)), AV.v (Value.string k)])).a Cnd.t)).a (((Cnd.p (Wk (AV.v (Value.bool (mtB (jn a b) k))) (AV.lit false))).a Cnd.t).a (((Cnd.p (a.size + 1 ≤ 2000000)).a ((Cnd.p (VW [AV.v (Value.string a), AV.v (Value.string (ByteArray.mk (Array.mk [42])))] [AV.v (Value.string a), AV.v (Value.string (ByteArray.mk (Array.mk [42])))])).a Cnd.t)).a (((Cnd.p ((jn a (ByteArray.mk (Array.mk [42]))).size + 1 ≤ 2000000)).a ((Cnd.p (VW [AV.v (Value.string (jn a (ByteArray.mk (Array.mk [42])))), AV.v (Value.string (ByteArray.mk (Array.mk [35])))] [AV.v (Value.string (jn a (ByteArray.mk (Array.mk [42])))), AV.v (Value.string (ByteArray.mk (Array.mk [35])))])).a Cnd.t)).a (((Cnd.p ((jn (jn a (ByteArray.mk (Array.mk [42]))) (ByteArray.mk (Array.mk [35]))).size + b.size ≤ 2000000)).a ((Cnd.p (VW [AV.v (Value.string (jn (jn a (ByteArray.mk (Array.mk [42]))) (ByteArray.mk (Array.mk [35])))), AV.v (Value.string b)] [AV.v (Value.string (jn (jn a (ByteArray.mk (Array.mk [42]))) (ByteArray.mk (Array.mk [35])))), AV.v (Value.string b)])).a Cnd.t)).a (((Cnd.p ((jn (jn (jn a (ByteArray.mk (Array.mk [42]))) (ByteArray.mk (Array.mk [35]))) b).size ≤ 1100000 ∧ k.size ≤ 1100000)).a ((Cnd.p (VW [AV.v (Value.string (jn (jn (jn a (ByteArray.mk (Array.mk [42]))) (ByteArray.mk (Array.mk [35]))) b)), AV.v (Value.string k)] [AV.v (Value.string (jn (jn (jn a (ByteArray.mk (Array.mk [42]))) (ByteArray.mk (Array.mk [35]))) b)), AV.v (Value.string k)])).a Cnd.t)).a (((Cnd.p (Wk (AV.v (Value.bool (mtB (jn (jn a (ByteArray.mk (Array.mk [35]))) b) k == mtB (jn (jn (jn a (ByteArray.mk (Array.mk [42]))) (ByteArray.mk (Array.mk [35]))) b) k))) (AV.v (Value.bool true)))).a Cnd.t).a Cnd.t))))))))))))) := by kernel_rfl
end
theorem splitL_app (a b : List UInt8) : splitL (a ++ 46 :: b) = splitL a ++ splitL b := by
  induction a with
  | nil => simp [splitL]
  | cons c a ih =>
    rw [List.cons_append, splitL, splitL, ih]
    by_cases h : c = 46
    · rw [if_pos h, if_pos h, List.cons_append]
    · rw [if_neg h, if_neg h]
      cases h2 : splitL a with
      | nil => have := splitL_len a; rw [h2] at this; simp at this
      | cons x r => rfl
theorem ba_app (a b : ByteArray) : (a ++ b).data.toList = a.data.toList ++ b.data.toList := by simp
theorem dots_jn (a b : ByteArray) : dots (jn a b) = dots a ++ dots b := by
  unfold dots jn
  rw [ba_app, ba_app]
  have : dot.data.toList = [46] := rfl
  rw [this, List.append_assoc, List.singleton_append, splitL_app, List.map_append]
theorem jn_size (a b : ByteArray) : (jn a b).size = a.size + 1 + b.size := by
  unfold jn
  rw [ByteArray.size_append, ByteArray.size_append]; rfl
theorem mt_hash2 (A : Path) : ∀ k : Path, mt (hash :: A) k = (mt A k || mt (hash :: star :: A) k)
  | [] => by
    have : decide (star = hash) = false := decide_eq_false star_hash
    rw [mt, mt, mt, this]; simp
  | y :: k => by
    have h1 : mt (hash :: A) (y :: k) = (mt A (y :: k) || mt (hash :: A) k) := by rw [mt, if_pos rfl]
    have h2 : mt (hash :: star :: A) (y :: k) = (mt (star :: A) (y :: k) || mt (hash :: star :: A) k) := by rw [mt, if_pos rfl]
    have h3 : mt (star :: A) (y :: k) = mt A k := by rw [mt, if_neg star_hash]; simp
    rw [h1, h2, h3, mt_hash2 A k]
theorem mt_under {P Q R : Path} (h : ∀ k, mt P k = (mt Q k || mt R k)) : ∀ (B k : Path), mt (B ++ P) k = (mt (B ++ Q) k || mt (B ++ R) k)
  | [], k => h k
  | x :: B, [] => by
    simp only [List.cons_append, mt]
    rw [mt_under h B []]
    cases decide (x = hash) <;> simp
  | x :: B, y :: k => by
    simp only [List.cons_append, mt]
    by_cases hx : x = hash
    · rw [if_pos hx, if_pos hx, if_pos hx, mt_under h B (y :: k)]
      have := mt_under h (x :: B) k
      simp only [List.cons_append] at this
      rw [this]
      cases mt (B ++ Q) (y :: k) <;> cases mt (B ++ R) (y :: k) <;> cases mt (x :: (B ++ Q)) k <;> rfl
    · rw [if_neg hx, if_neg hx, if_neg hx, mt_under h B k]
      cases (decide (x = star) || decide (x = y)) <;> simp
termination_by B k => B.length + k.length
theorem dots_hash : dots hash = [hash] := rfl
theorem dots_star : dots star = [star] := rfl
theorem hash_law (a b k : ByteArray) : mtB (jn (jn a hash) b) k = (mtB (jn a b) k || mtB (jn (jn (jn a star) hash) b) k) := by
  unfold mtB
  simp only [dots_jn, dots_hash, dots_star, List.reverse_append, List.append_assoc]
  exact mt_under (mt_hash2 _) _ _
theorem s35 : (ByteArray.mk (Array.mk [35])).size = 1 := rfl
theorem s42 : (ByteArray.mk (Array.mk [42])).size = 1 := rfl
theorem wk_bvE {b b' : Bool} (h : b = b') : Wk (.v (.bool b)) (.v (.bool b')) := by subst h; exact Wk.refl _
theorem Jn_tri (a b : ByteArray) (h : a.size + b.size ≤ 2000000) : Tri Tryd.prog default fJn [sv a, sv b] [] (sv (jn a b)) [] := by
  refine tri_run (con := []) (hints := hintL [(fJn, 1, 1, h0), (fJn, 1, 3, h0)]) (lc := []) [] rfl (fun F _ => noC) (fun _ _ => noL) fun F => ?_
  refine cast (congrArg (VAll _) (oJn_eq a b F).symm) ⟨⟨?_, (fit_mk (vs' := [sv (jn a b)]) (H' := []) [] rfl rfl (VW.refl _) trivial).fits rfl⟩⟩
  have e : (a ++ dot).size = a.size + 1 := by rw [ByteArray.size_append]; rfl
  have e1 : dot.size = 1 := rfl
  have e2 : (a ++ ByteArray.mk (Array.mk [46])).size = a.size + 1 := e
  simp only [Cnd.holds, Nat.blt_eq, true_and, and_true]
  and_intros
  all_goals first
    | (simp only [e2]; omega)
    | omega
    | (with_reducible exact trivial)
    | (with_reducible exact rfl)
    | (with_reducible exact Wk.refl _)
    | (with_reducible exact VW.refl _)
    | (with_reducible exact OW.refl _)
    | (with_reducible exact wk_lit _)
    | (with_reducible assumption)
    | exact rfl
    | exact Wk.refl _
    | exact VW.refl _
    | exact OW.refl _
    | ((repeat (first | exact VW.nil | refine VW.cons (Wk.refl _) ?_ | refine VW.cons (Wk.any _) ?_ | refine VW.cons (wk_cap (Nat.le_refl _)) ?_)); done)
theorem cJn_ok (F : HP) : C1OK Tryd.prog F fJn cJn :=
  mkC_ok (W := default) oldDef (fun q => sv (jn q.1 q.2)) gS2_ro (fun _ => rfl) (fun q hq => Jn_tri q.1 q.2 hq) fun _ => ⟨rfl, rfl, ⟨trivial, trivial, trivial⟩, (fun x hx => by cases hx), ⟨trivial, trivial⟩, fun x hx => by cases hx⟩
theorem TH_tri (a b k : ByteArray) (h : a.size + b.size + k.size ≤ 1090000) : Tri Tryd.prog default fTH [sv a, sv b, sv k] [] (bv true) [] := by
  have hh := hash_law a b k
  cases hm : mtB (jn a b) k with
  | true =>
    refine tri_run (con := [(fSpeaks, cSpk), (fMatches, cMs), (fJn, cJn)]) (hints := hintL [(fTH, 1, 1, hv (.lit false)), (fTH, 5, 6, hv (.lit true)), (fTH, 7, 6, hv (bv true))]) (lc := []) [] rfl (fun F _ => con_cons (cSpk_ok F) (con_cons (cMs_ok (fun p k hp hk => Matches_tri p k hp hk) F) (one_c (cJn_ok F)))) (fun _ _ => noL) fun F => ?_
    refine cast (congrArg (VAll _) (oTHT_eq a b k F).symm) ⟨⟨?_, (fit_mk (vs' := [bv true]) (H' := []) [] rfl rfl (VW.refl _) trivial).fits rfl⟩⟩
    simp only [Cnd.holds, Nat.blt_eq, true_and, and_true]
    and_intros
    all_goals first
      | (simp only [jn_size, s35, s42]; omega)
      | omega
      | exact wk_litE hm
      | exact wk_bvE (beq_iff_eq.2 (hh.trans (by rw [hm]; rfl)))
      | (with_reducible exact trivial)
      | (with_reducible exact rfl)
      | (with_reducible exact Wk.refl _)
      | (with_reducible exact VW.refl _)
      | (with_reducible exact OW.refl _)
      | (with_reducible exact wk_lit _)
      | (with_reducible assumption)
      | exact rfl
      | exact Wk.refl _
      | exact VW.refl _
      | exact OW.refl _
      | ((repeat (first | exact VW.nil | refine VW.cons (Wk.refl _) ?_ | refine VW.cons (Wk.any _) ?_ | refine VW.cons (wk_cap (Nat.le_refl _)) ?_)); done)
  | false =>
    refine tri_run (con := [(fSpeaks, cSpk), (fMatches, cMs), (fJn, cJn)]) (hints := hintL [(fTH, 1, 1, hv (.lit false)), (fTH, 5, 6, hv (.lit false)), (fTH, 7, 6, hv (bv true))]) (lc := []) [] rfl (fun F _ => con_cons (cSpk_ok F) (con_cons (cMs_ok (fun p k hp hk => Matches_tri p k hp hk) F) (one_c (cJn_ok F)))) (fun _ _ => noL) fun F => ?_
    refine cast (congrArg (VAll _) (oTHF_eq a b k F).symm) ⟨⟨?_, (fit_mk (vs' := [bv true]) (H' := []) [] rfl rfl (VW.refl _) trivial).fits rfl⟩⟩
    simp only [Cnd.holds, Nat.blt_eq, true_and, and_true]
    and_intros
    all_goals first
      | (simp only [jn_size, s35, s42]; omega)
      | omega
      | exact wk_litE hm
      | exact wk_bvE (beq_iff_eq.2 (hh.trans (by rw [hm]; rfl)))
      | (with_reducible exact trivial)
      | (with_reducible exact rfl)
      | (with_reducible exact Wk.refl _)
      | (with_reducible exact VW.refl _)
      | (with_reducible exact OW.refl _)
      | (with_reducible exact wk_lit _)
      | (with_reducible assumption)
      | exact rfl
      | exact Wk.refl _
      | exact VW.refl _
      | exact OW.refl _
      | ((repeat (first | exact VW.nil | refine VW.cons (Wk.refl _) ?_ | refine VW.cons (Wk.any _) ?_ | refine VW.cons (wk_cap (Nat.le_refl _)) ?_)); done)
end Go.Proofs.YtbmoancedlbhlaaDoor.Tpc

/- Topic: TopicWords. -/
set_option linter.unusedVariables false
set_option linter.unusedSimpArgs false
set_option maxRecDepth 100000
namespace Go.Proofs.YtbmoancedlbhlaaDoor.Tpc
open Go Go.RowKit Go.Proofs.YtbmoancedlbhlaaDoor.Eng Go.Proofs.YtbmoancedlbhlaaDoor.Kit
noncomputable section
abbrev fTW : Nat := 6
def aT1 (p k : ByteArray) (n j : Nat) (b : Bool) : List (Nat × AV) := [(0, sv p), (1, sv k), (5, bv b), (14, sB 1000 n), (15, iv (Int.ofNat n)), (16, iv (Int.ofNat j))]
def aT2 (p k : ByteArray) (n j : Nat) (b : Bool) : List (Nat × AV) := [(0, sv p), (1, sv k), (8, bv b), (39, sB 1000 n), (40, iv (Int.ofNat n)), (41, iv (Int.ofNat j))]
def hWa (w : ByteArray) (j : Nat) (r : Bool) : ClaimT := hintL [(fTW, 5, 0, hv (.lit true)), (fTW, 6, 1, hv (sv w)), (fTW, 8, 0, hv (iv (Int.ofNat (j + 1)))), (fTW, 7, 9, hv (bv r))]
def hWb (w : ByteArray) (j : Nat) (r : Bool) : ClaimT := hintL [(fTW, 13, 0, hv (.lit true)), (fTW, 14, 1, hv (sv w)), (fTW, 16, 0, hv (iv (Int.ofNat (j + 1)))), (fTW, 15, 5, hv (bv r))]
def hTW : ClaimT := hintL [(fTW, 1, 1, hv (.lit false)), (fTW, 9, 7, hv (.lit false)), (fTW, 17, 16, hv (bv true))]
def hTE (r : Nat) : ClaimT := hintL [(fTW, r, 0, hv (.lit false))]
theorem oWa_eq (p k w : ByteArray) (L : List ByteArray) (n j : Nat) (b r : Bool) (F : HP) : wLoop [] (hWa w j r) [] default fTW (loopN fTW 5) (tms 0 67 (aT1 p k n j b)) [(1000, rS L)] [1000] [0, 1, 5, 14, 15, 16] F = VT.ite b (VT.leaf (AX.normal, [AV.v (Value.string p), AV.v (Value.string k), AV.v (Value.bool r), AV.slice 1000 0 n 1 (Cp.lo n), AV.v (Value.int IntKind.i64 (Int.ofNat n)), AV.v (Value.int IntKind.i64 (Int.ofNat (j + 1)))], 67) [some (AO.cells (rowV encS L) 18)] 1100 (((Cnd.p (Wk (AV.v (Value.bool (decide (Int.ofNat j < Int.ofNat n)))) (AV.lit true))).a Cnd.t).a (((Cnd.p (j.blt n = true)).a Cnd.t).a (((Cnd.p ((0 + j * 1).blt (rowV encS L).length = true)).a ((Cnd.p ((rowV encS L).getD (0 + j * 1) (AV.v (Value.tuple (Array.mk []))) = AV.v (Value.string ((rowV encS L).getD (0 + j * 1) (AV.v (Value.tuple (Array.mk [])))).strOf))).a ((Cnd.p (Wk (AV.v (Value.string ((rowV encS L).getD (0 + j * 1) (AV.v (Value.tuple (Array.mk [])))).strOf)) (AV.v (Value.string w)))).a Cnd.t))).a (((Cnd.p (Wk (AV.lit true) (AV.v (Value.bool r)))).a Cnd.t).a (((Cnd.p (Wk (AV.v (Value.int IntKind.i64 (IntKind.i64.wrap (Int.ofNat j + Int.ofNat 1)))) (AV.v (Value.int IntKind.i64 (Int.ofNat (j + 1)))))).a Cnd.t).a Cnd.t)))))) (VT.ite (w.toList == [(ByteArray.mk (Array.mk [42])).get! 0]) (VT.leaf (AX.normal, [AV.v (Value.string p), AV.v (Value.string k), AV.v (Value.bool r), AV.slice 1000 0 n 1 (Cp.lo n), AV.v (Value.int IntKind.i64 (Int.ofNat n)), AV.v (Value.int IntKind.i64 (Int.ofNat (j + 1)))], 67) [some (AO.cells (rowV encS L) 18)] 1100 (((Cnd.p (Wk (AV.v (Value.bool (decide (Int.ofNat j < Int.ofNat n)))) (AV.lit true))).a Cnd.t).a (((Cnd.p (j.blt n = true)).a Cnd.t).a (((Cnd.p ((0 + j * 1).blt (rowV encS L).length = true)).a ((Cnd.p ((rowV encS L).getD (0 + j * 1) (AV.v (Value.tuple (Array.mk []))) = AV.v (Value.string ((rowV encS L).getD (0 + j * 1) (AV.v (Value.tuple (Array.mk [])))).strOf))).a ((Cnd.p (Wk (AV.v (Value.string ((rowV encS L).getD (0 + j * 1) (AV.v (Value.tuple (Array.mk [])))).strOf)) (AV.v (Value.string w)))).a Cnd.t))).a (((Cnd.p (Wk (AV.lit true) (AV.v (Value.bool r)))).a Cnd.t).a (((Cnd.p (Wk (AV.v (Value.int IntKind.i64 (IntKind.i64.wrap (Int.ofNat j + Int.ofNat 1)))) (AV.v (Value.int IntKind.i64 (Int.ofNat (j + 1)))))).a Cnd.t).a Cnd.t)))))) (VT.leaf (AX.normal, [AV.v (Value.string p), AV.v (Value.string k), AV.v (Value.bool r), AV.slice 1000 0 n 1 (Cp.lo n), AV.v (Value.int IntKind.i64 (Int.ofNat n)), AV.v (Value.int IntKind.i64 (Int.ofNat (j + 1)))], 67) [some (AO.cells (rowV encS L) 18)] 1100 (((Cnd.p (Wk (AV.v (Value.bool (decide (Int.ofNat j < Int.ofNat n)))) (AV.lit true))).a Cnd.t).a (((Cnd.p (j.blt n = true)).a Cnd.t).a (((Cnd.p ((0 + j * 1).blt (rowV encS L).length = true)).a ((Cnd.p ((rowV encS L).getD (0 + j * 1) (AV.v (Value.tuple (Array.mk []))) = AV.v (Value.string ((rowV encS L).getD (0 + j * 1) (AV.v (Value.tuple (Array.mk [])))).strOf))).a ((Cnd.p (Wk (AV.v (Value.string ((rowV encS L).getD (0 + j * 1) (AV.v (Value.tuple (Array.mk [])))).strOf)) (AV.v (Value.string w)))).a Cnd.t))).a (((Cnd.p (Wk (AV.v (Value.bool (w.toList == [(ByteArray.mk (Array.mk [35])).get! 0]))) (AV.v (Value.bool r)))).a Cnd.t).a (((Cnd.p (Wk (AV.v (Value.int IntKind.i64 (IntKind.i64.wrap (Int.ofNat j + Int.ofNat 1)))) (AV.v (Value.int IntKind.i64 (Int.ofNat (j + 1)))))).a Cnd.t).a Cnd.t))))))) := by kernel_rfl
theorem oWaE_eq (p k : ByteArray) (L : List ByteArray) (n : Nat) (b : Bool) (F : HP) : wLoop [] (hTE 5) [] default fTW (loopN fTW 5) (tms 0 67 (aT1 p k n n b)) [(1000, rS L)] [1000] [0, 1, 5, 14, 15, 16] F = VT.leaf (AX.exit 0, [AV.v (Value.string p), AV.v (Value.string k), AV.v (Value.bool b), AV.slice 1000 0 n 1 (Cp.lo n), AV.v (Value.int IntKind.i64 (Int.ofNat n)), AV.v (Value.int IntKind.i64 (Int.ofNat n))], 67) [some (AO.cells (rowV encS L) 18)] 1100 (((Cnd.p (Wk (AV.v (Value.bool (decide (Int.ofNat n < Int.ofNat n)))) (AV.lit false))).a Cnd.t).a Cnd.t) := by kernel_rfl
theorem oWb_eq (p k w : ByteArray) (L : List ByteArray) (n j : Nat) (b r : Bool) (F : HP) : wLoop [] (hWb w j r) [] default fTW (loopN fTW 13) (tms 0 67 (aT2 p k n j b)) [(1000, rS L)] [1000] [0, 1, 8, 39, 40, 41] F = VT.ite b (VT.leaf (AX.normal, [AV.v (Value.string p), AV.v (Value.string k), AV.v (Value.bool r), AV.slice 1000 0 n 1 (Cp.lo n), AV.v (Value.int IntKind.i64 (Int.ofNat n)), AV.v (Value.int IntKind.i64 (Int.ofNat (j + 1)))], 67) [some (AO.cells (rowV encS L) 18)] 1100 (((Cnd.p (Wk (AV.v (Value.bool (decide (Int.ofNat j < Int.ofNat n)))) (AV.lit true))).a Cnd.t).a (((Cnd.p (j.blt n = true)).a Cnd.t).a (((Cnd.p ((0 + j * 1).blt (rowV encS L).length = true)).a ((Cnd.p ((rowV encS L).getD (0 + j * 1) (AV.v (Value.tuple (Array.mk []))) = AV.v (Value.string ((rowV encS L).getD (0 + j * 1) (AV.v (Value.tuple (Array.mk [])))).strOf))).a ((Cnd.p (Wk (AV.v (Value.string ((rowV encS L).getD (0 + j * 1) (AV.v (Value.tuple (Array.mk [])))).strOf)) (AV.v (Value.string w)))).a Cnd.t))).a (((Cnd.p (Wk (AV.lit true) (AV.v (Value.bool r)))).a Cnd.t).a (((Cnd.p (Wk (AV.v (Value.int IntKind.i64 (IntKind.i64.wrap (Int.ofNat j + Int.ofNat 1)))) (AV.v (Value.int IntKind.i64 (Int.ofNat (j + 1)))))).a Cnd.t).a Cnd.t)))))) (VT.leaf (AX.normal, [AV.v (Value.string p), AV.v (Value.string k), AV.v (Value.bool r), AV.slice 1000 0 n 1 (Cp.lo n), AV.v (Value.int IntKind.i64 (Int.ofNat n)), AV.v (Value.int IntKind.i64 (Int.ofNat (j + 1)))], 67) [some (AO.cells (rowV encS L) 18)] 1100 (((Cnd.p (Wk (AV.v (Value.bool (decide (Int.ofNat j < Int.ofNat n)))) (AV.lit true))).a Cnd.t).a (((Cnd.p (j.blt n = true)).a Cnd.t).a (((Cnd.p ((0 + j * 1).blt (rowV encS L).length = true)).a ((Cnd.p ((rowV encS L).getD (0 + j * 1) (AV.v (Value.tuple (Array.mk []))) = AV.v (Value.string ((rowV encS L).getD (0 + j * 1) (AV.v (Value.tuple (Array.mk [])))).strOf))).a ((Cnd.p (Wk (AV.v (Value.string ((rowV encS L).getD (0 + j * 1) (AV.v (Value.tuple (Array.mk [])))).strOf)) (AV.v (Value.string w)))).a Cnd.t))).a (((Cnd.p (Wk (AV.v (Value.bool (w.toList == [(ByteArray.mk (Array.mk [35])).get! 0]))) (AV.v (Value.bool r)))).a Cnd.t).a (((Cnd.p (Wk (AV.v (Value.int IntKind.i64 (IntKind.i64.wrap (Int.ofNat j + Int.ofNat 1)))) (AV.v (Value.int IntKind.i64 (Int.ofNat (j + 1)))))).a Cnd.t).a Cnd.t)))))) := by kernel_rfl
theorem oWbE_eq (p k : ByteArray) (L : List ByteArray) (n : Nat) (b : Bool) (F : HP) : wLoop [] (hTE 13) [] default fTW (loopN fTW 13) (tms 0 67 (aT2 p k n n b)) [(1000, rS L)] [1000] [0, 1, 8, 39, 40, 41] F = VT.leaf (AX.exit 2, [AV.v (Value.string p), AV.v (Value.string k), AV.v (Value.bool b), AV.slice 1000 0 n 1 (Cp.lo n), AV.v (Value.int IntKind.i64 (Int.ofNat n)), AV.v (Value.int IntKind.i64 (Int.ofNat n))], 67) [some (AO.cells (rowV encS L) 18)] 1100 (((Cnd.p (Wk (AV.v (Value.bool (decide (Int.ofNat n < Int.ofNat n)))) (AV.lit false))).a Cnd.t).a Cnd.t) := by kernel_rfl
def gT1 : List AV → AP Nat := fun tmps => match getL tmps 14 with
  | .slice a _ _ _ _ => .ret a
  | _ => .fail "words"
def gT2 : List AV → AP Nat := fun tmps => match getL tmps 39 with
  | .slice a _ _ _ _ => .ret a
  | _ => .fail "words"
def nmT (a : Nat) : Nat → Nat := fun k => match Nat.beq k 1000 with
  | true => a
  | false => k
def lT1 (p k : ByteArray) (L : List ByteArray) (n : Nat) (b : Bool) : List AV → AP (AX × List AV) := mkL gT1 (fun _ => True) nmT (fun _ => tms 0 67 (aT1 p k n 0 false)) (fun _ => [(1000, rS L)]) (fun _ => .leaf (.exit 0) (tms 0 67 [(0, sv p), (1, sv k), (5, bv b)]) [])
def lT2 (p k : ByteArray) (L : List ByteArray) (n : Nat) (b : Bool) : List AV → AP (AX × List AV) := mkL gT2 (fun _ => True) nmT (fun _ => tms 0 67 (aT2 p k n 0 false)) (fun _ => [(1000, rS L)]) (fun _ => .leaf (.exit 2) (tms 0 67 [(0, sv p), (1, sv k), (8, bv b)]) [])
theorem oTW_eq (p k : ByteArray) (b1 b2 : Bool) (F : HP) : wRun [(fSpeaks, cSpk), (fMatches, cMs), (fRW, cRWd)] hTW [(fTW, 5, loopN fTW 5, lT1 p k (dots k) (dots k).length b1), (fTW, 13, loopN fTW 13, lT2 p k (dots p) (dots p).length b2)] default fTW [sv p, sv k] [] [] F = VT.ite (!b1) (VT.ite b2 (VT.leaf (AV.v (Value.bool true)) [] 1102 (((Cnd.p True).a ((Cnd.p (VW [] [])).a Cnd.t)).a (((Cnd.p (Wk (AV.v (Value.bool false)) (AV.lit false))).a Cnd.t).a (((Cnd.p (k.size ≤ 1100000)).a ((Cnd.p (VW [AV.v (Value.string k)] [AV.v (Value.string k)])).a Cnd.t)).a ((Cnd.p ((fTW, 5, loopN fTW 5, lT1 p k (dots k) (dots k).length b1).snd.snd.fst = (fTW, 5, loopN fTW 5, lT1 p k (dots k) (dots k).length b1).snd.snd.fst)).a ((Cnd.p True).a ((Cnd.p (VW [AV.v (Value.string p), AV.v (Value.string k), AV.v (Value.tuple (Array.mk [])), AV.v (Value.tuple (Array.mk [])), AV.v (Value.bool false), AV.v (Value.bool false), AV.v (Value.tuple (Array.mk [])), AV.v (Value.tuple (Array.mk [])), AV.v (Value.tuple (Array.mk [])), AV.v (Value.tuple (Array.mk [])), AV.v (Value.tuple (Array.mk [])), AV.v (Value.bool true), AV.lit false, AV.v (Value.string k), AV.slice 1100 0 (dots k).length 1 (Cp.lo (dots k).length), AV.v (Value.int IntKind.i64 ↑(dots k).length), AV.v (Value.int IntKind.i64 (Int.ofNat 0)), AV.v (Value.tuple (Array.mk [])), AV.v (Value.tuple (Array.mk [])), AV.v (Value.tuple (Array.mk [])), AV.v (Value.tuple (Array.mk [])), AV.v (Value.tuple (Array.mk [])), AV.v (Value.tuple (Array.mk [])), AV.v (Value.tuple (Array.mk [])), AV.v (Value.tuple (Array.mk [])), AV.v (Value.tuple (Array.mk [])), AV.v (Value.tuple (Array.mk [])), AV.v (Value.tuple (Array.mk [])), AV.v (Value.tuple (Array.mk [])), AV.v (Value.tuple (Array.mk [])), AV.v (Value.tuple (Array.mk [])), AV.v (Value.tuple (Array.mk [])), AV.v (Value.tuple (Array.mk [])), AV.v (Value.tuple (Array.mk [])), AV.v (Value.tuple (Array.mk [])), AV.v (Value.tuple (Array.mk [])), AV.v (Value.tuple (Array.mk [])), AV.v (Value.tuple (Array.mk [])), AV.v (Value.tuple (Array.mk [])), AV.v (Value.tuple (Array.mk [])), AV.v (Value.tuple (Array.mk [])), AV.v (Value.tuple (Array.mk [])), AV.v (Value.tuple (Array.mk [])), AV.v (Value.tuple (Array.mk [])), AV.v (Value.tuple (Array.mk [])), AV.v (Value.tuple (Array.mk [])), AV.v (Value.tuple (Array.mk [])), AV.v (Value.tuple (Array.mk [])), AV.v (Value.tuple (Array.mk [])), AV.v (Value.tuple (Array.mk [])), AV.v (Value.tuple (Array.mk [])), AV.v (Value.tuple (Array.mk [])), AV.v (Value.tuple (Array.mk [])), AV.v (Value.tuple (Array.mk [])), AV.v (Value.tuple (Array.mk [])), AV.v (Value.tuple (Array.mk [])), AV.v (Value.tuple (Array.mk [])), AV.v (Value.tuple (Array.mk [])), AV.v (Value.tuple (Array.mk [])), AV.v (Value.tuple (Array.mk [])), AV.v (Value.tuple (Array.mk [])), AV.v (Value.tuple (Array.mk [])), AV.v (Value.tuple (Array.mk [])), AV.v (Value.tuple (Array.mk [])), AV.v (Value.tuple (Array.mk [])), AV.v (Value.tuple (Array.mk [])), AV.v (Value.tuple (Array.mk []))] [AV.v (Value.string p), AV.v (Value.string k), AV.any, AV.any, AV.any, AV.v (Value.bool false), AV.any, AV.any, AV.any, AV.any, AV.any, AV.any, AV.any, AV.any, AV.slice 1100 0 (dots k).length 1 (Cp.lo (dots k).length), AV.v (Value.int IntKind.i64 (Int.ofNat (dots k).length)), AV.v (Value.int IntKind.i64 (Int.ofNat 0)), AV.any, AV.any, AV.any, AV.any, AV.any, AV.any, AV.any, AV.any, AV.any, AV.any, AV.any, AV.any, AV.any, AV.any, AV.any, AV.any, AV.any, AV.any, AV.any, AV.any, AV.any, AV.any, AV.any, AV.any, AV.any, AV.any, AV.any, AV.any, AV.any, AV.any, AV.any, AV.any, AV.any, AV.any, AV.any, AV.any, AV.any, AV.any, AV.any, AV.any, AV.any, AV.any, AV.any, AV.any, AV.any, AV.any, AV.any, AV.any, AV.any, AV.any])).a ((Cnd.p (OW (AO.cells (AV.rens (sgN (fun k => k) [1000] 1100) (rowV encS (dots k))) 18) (AO.cells (AV.rens (nmT 1100) (rowV encS (dots k))) 18))).a (((Cnd.p (k.size ≤ 1100000 ∧ k.size ≤ 1100000)).a ((Cnd.p (VW [AV.v (Value.string k), AV.v (Value.string k)] [AV.v (Value.string k), AV.v (Value.string k)])).a Cnd.t)).a (((Cnd.p (Wk (AV.v (Value.bool !mtB k k)) (AV.lit false))).a Cnd.t).a (((Cnd.p (p.size ≤ 1100000)).a ((Cnd.p (VW [AV.v (Value.string p)] [AV.v (Value.string p)])).a Cnd.t)).a ((Cnd.p ((fTW, 13, loopN fTW 13, lT2 p k (dots p) (dots p).length b2).snd.snd.fst = (fTW, 13, loopN fTW 13, lT2 p k (dots p) (dots p).length b2).snd.snd.fst)).a ((Cnd.p True).a ((Cnd.p (VW [AV.v (Value.string p), AV.v (Value.string k), AV.any, AV.any, AV.any, AV.v (Value.bool b1), AV.any, AV.any, AV.v (Value.bool false), AV.any, AV.any, AV.any, AV.any, AV.any, AV.any, AV.any, AV.any, AV.any, AV.any, AV.any, AV.any, AV.any, AV.any, AV.any, AV.any, AV.any, AV.any, AV.any, AV.any, AV.any, AV.v (Value.bool b1), AV.v (Value.bool !b1), AV.lit true, AV.v (Value.string k), AV.v (Value.string k), AV.v (Value.bool (mtB k k)), AV.v (Value.bool !mtB k k), AV.lit false, AV.v (Value.string p), AV.slice 1101 0 (dots p).length 1 (Cp.lo (dots p).length), AV.v (Value.int IntKind.i64 ↑(dots p).length), AV.v (Value.int IntKind.i64 (Int.ofNat 0)), AV.any, AV.any, AV.any, AV.any, AV.any, AV.any, AV.any, AV.any, AV.any, AV.any, AV.any, AV.any, AV.any, AV.any, AV.any, AV.any, AV.any, AV.any, AV.any, AV.any, AV.any, AV.any, AV.any, AV.any, AV.any] [AV.v (Value.string p), AV.v (Value.string k), AV.any, AV.any, AV.any, AV.any, AV.any, AV.any, AV.v (Value.bool false), AV.any, AV.any, AV.any, AV.any, AV.any, AV.any, AV.any, AV.any, AV.any, AV.any, AV.any, AV.any, AV.any, AV.any, AV.any, AV.any, AV.any, AV.any, AV.any, AV.any, AV.any, AV.any, AV.any, AV.any, AV.any, AV.any, AV.any, AV.any, AV.any, AV.any, AV.slice 1101 0 (dots p).length 1 (Cp.lo (dots p).length), AV.v (Value.int IntKind.i64 (Int.ofNat (dots p).length)), AV.v (Value.int IntKind.i64 (Int.ofNat 0)), AV.any, AV.any, AV.any, AV.any, AV.any, AV.any, AV.any, AV.any, AV.any, AV.any, AV.any, AV.any, AV.any, AV.any, AV.any, AV.any, AV.any, AV.any, AV.any, AV.any, AV.any, AV.any, AV.any, AV.any, AV.any])).a ((Cnd.p (OW (AO.cells (AV.rens (sgN (fun k => k) [1000] 1101) (rowV encS (dots p))) 18) (AO.cells (AV.rens (nmT 1101) (rowV encS (dots p))) 18))).a (((Cnd.p (Wk (AV.lit true) (AV.v (Value.bool true)))).a Cnd.t).a Cnd.t)))))))))))))))) (VT.ite (!mtB p k) (VT.leaf (AV.v (Value.bool true)) [] 1102 (((Cnd.p True).a ((Cnd.p (VW [] [])).a Cnd.t)).a (((Cnd.p (Wk (AV.v (Value.bool false)) (AV.lit false))).a Cnd.t).a (((Cnd.p (k.size ≤ 1100000)).a ((Cnd.p (VW [AV.v (Value.string k)] [AV.v (Value.string k)])).a Cnd.t)).a ((Cnd.p ((fTW, 5, loopN fTW 5, lT1 p k (dots k) (dots k).length b1).snd.snd.fst = (fTW, 5, loopN fTW 5, lT1 p k (dots k) (dots k).length b1).snd.snd.fst)).a ((Cnd.p True).a ((Cnd.p (VW [AV.v (Value.string p), AV.v (Value.string k), AV.v (Value.tuple (Array.mk [])), AV.v (Value.tuple (Array.mk [])), AV.v (Value.bool false), AV.v (Value.bool false), AV.v (Value.tuple (Array.mk [])), AV.v (Value.tuple (Array.mk [])), AV.v (Value.tuple (Array.mk [])), AV.v (Value.tuple (Array.mk [])), AV.v (Value.tuple (Array.mk [])), AV.v (Value.bool true), AV.lit false, AV.v (Value.string k), AV.slice 1100 0 (dots k).length 1 (Cp.lo (dots k).length), AV.v (Value.int IntKind.i64 ↑(dots k).length), AV.v (Value.int IntKind.i64 (Int.ofNat 0)), AV.v (Value.tuple (Array.mk [])), AV.v (Value.tuple (Array.mk [])), AV.v (Value.tuple (Array.mk [])), AV.v (Value.tuple (Array.mk [])), AV.v (Value.tuple (Array.mk [])), AV.v (Value.tuple (Array.mk [])), AV.v (Value.tuple (Array.mk [])), AV.v (Value.tuple (Array.mk [])), AV.v (Value.tuple (Array.mk [])), AV.v (Value.tuple (Array.mk [])), AV.v (Value.tuple (Array.mk [])), AV.v (Value.tuple (Array.mk [])), AV.v (Value.tuple (Array.mk [])), AV.v (Value.tuple (Array.mk [])), AV.v (Value.tuple (Array.mk [])), AV.v (Value.tuple (Array.mk [])), AV.v (Value.tuple (Array.mk [])), AV.v (Value.tuple (Array.mk [])), AV.v (Value.tuple (Array.mk [])), AV.v (Value.tuple (Array.mk [])), AV.v (Value.tuple (Array.mk [])), AV.v (Value.tuple (Array.mk [])), AV.v (Value.tuple (Array.mk [])), AV.v (Value.tuple (Array.mk [])), AV.v (Value.tuple (Array.mk [])), AV.v (Value.tuple (Array.mk [])), AV.v (Value.tuple (Array.mk [])), AV.v (Value.tuple (Array.mk [])), AV.v (Value.tuple (Array.mk [])), AV.v (Value.tuple (Array.mk [])), AV.v (Value.tuple (Array.mk [])), AV.v (Value.tuple (Array.mk [])), AV.v (Value.tuple (Array.mk [])), AV.v (Value.tuple (Array.mk [])), AV.v (Value.tuple (Array.mk [])), AV.v (Value.tuple (Array.mk [])), AV.v (Value.tuple (Array.mk [])), AV.v (Value.tuple (Array.mk [])), AV.v (Value.tuple (Array.mk [])), AV.v (Value.tuple (Array.mk [])), AV.v (Value.tuple (Array.mk [])), AV.v (Value.tuple (Array.mk [])), AV.v (Value.tuple (Array.mk [])), AV.v (Value.tuple (Array.mk [])), AV.v (Value.tuple (Array.mk [])), AV.v (Value.tuple (Array.mk [])), AV.v (Value.tuple (Array.mk [])), AV.v (Value.tuple (Array.mk [])), AV.v (Value.tuple (Array.mk [])), AV.v (Value.tuple (Array.mk []))] [AV.v (Value.string p), AV.v (Value.string k), AV.any, AV.any, AV.any, AV.v (Value.bool false), AV.any, AV.any, AV.any, AV.any, AV.any, AV.any, AV.any, AV.any, AV.slice 1100 0 (dots k).length 1 (Cp.lo (dots k).length), AV.v (Value.int IntKind.i64 (Int.ofNat (dots k).length)), AV.v (Value.int IntKind.i64 (Int.ofNat 0)), AV.any, AV.any, AV.any, AV.any, AV.any, AV.any, AV.any, AV.any, AV.any, AV.any, AV.any, AV.any, AV.any, AV.any, AV.any, AV.any, AV.any, AV.any, AV.any, AV.any, AV.any, AV.any, AV.any, AV.any, AV.any, AV.any, AV.any, AV.any, AV.any, AV.any, AV.any, AV.any, AV.any, AV.any, AV.any, AV.any, AV.any, AV.any, AV.any, AV.any, AV.any, AV.any, AV.any, AV.any, AV.any, AV.any, AV.any, AV.any, AV.any, AV.any])).a ((Cnd.p (OW (AO.cells (AV.rens (sgN (fun k => k) [1000] 1100) (rowV encS (dots k))) 18) (AO.cells (AV.rens (nmT 1100) (rowV encS (dots k))) 18))).a (((Cnd.p (k.size ≤ 1100000 ∧ k.size ≤ 1100000)).a ((Cnd.p (VW [AV.v (Value.string k), AV.v (Value.string k)] [AV.v (Value.string k), AV.v (Value.string k)])).a Cnd.t)).a (((Cnd.p (Wk (AV.v (Value.bool !mtB k k)) (AV.lit false))).a Cnd.t).a (((Cnd.p (p.size ≤ 1100000)).a ((Cnd.p (VW [AV.v (Value.string p)] [AV.v (Value.string p)])).a Cnd.t)).a ((Cnd.p ((fTW, 13, loopN fTW 13, lT2 p k (dots p) (dots p).length b2).snd.snd.fst = (fTW, 13, loopN fTW 13, lT2 p k (dots p) (dots p).length b2).snd.snd.fst)).a ((Cnd.p True).a ((Cnd.p (VW [AV.v (Value.string p), AV.v (Value.string k), AV.any, AV.any, AV.any, AV.v (Value.bool b1), AV.any, AV.any, AV.v (Value.bool false), AV.any, AV.any, AV.any, AV.any, AV.any, AV.any, AV.any, AV.any, AV.any, AV.any, AV.any, AV.any, AV.any, AV.any, AV.any, AV.any, AV.any, AV.any, AV.any, AV.any, AV.any, AV.v (Value.bool b1), AV.v (Value.bool !b1), AV.lit true, AV.v (Value.string k), AV.v (Value.string k), AV.v (Value.bool (mtB k k)), AV.v (Value.bool !mtB k k), AV.lit false, AV.v (Value.string p), AV.slice 1101 0 (dots p).length 1 (Cp.lo (dots p).length), AV.v (Value.int IntKind.i64 ↑(dots p).length), AV.v (Value.int IntKind.i64 (Int.ofNat 0)), AV.any, AV.any, AV.any, AV.any, AV.any, AV.any, AV.any, AV.any, AV.any, AV.any, AV.any, AV.any, AV.any, AV.any, AV.any, AV.any, AV.any, AV.any, AV.any, AV.any, AV.any, AV.any, AV.any, AV.any, AV.any] [AV.v (Value.string p), AV.v (Value.string k), AV.any, AV.any, AV.any, AV.any, AV.any, AV.any, AV.v (Value.bool false), AV.any, AV.any, AV.any, AV.any, AV.any, AV.any, AV.any, AV.any, AV.any, AV.any, AV.any, AV.any, AV.any, AV.any, AV.any, AV.any, AV.any, AV.any, AV.any, AV.any, AV.any, AV.any, AV.any, AV.any, AV.any, AV.any, AV.any, AV.any, AV.any, AV.any, AV.slice 1101 0 (dots p).length 1 (Cp.lo (dots p).length), AV.v (Value.int IntKind.i64 (Int.ofNat (dots p).length)), AV.v (Value.int IntKind.i64 (Int.ofNat 0)), AV.any, AV.any, AV.any, AV.any, AV.any, AV.any, AV.any, AV.any, AV.any, AV.any, AV.any, AV.any, AV.any, AV.any, AV.any, AV.any, AV.any, AV.any, AV.any, AV.any, AV.any, AV.any, AV.any, AV.any, AV.any])).a ((Cnd.p (OW (AO.cells (AV.rens (sgN (fun k => k) [1000] 1101) (rowV encS (dots p))) 18) (AO.cells (AV.rens (nmT 1101) (rowV encS (dots p))) 18))).a (((Cnd.p (p.size ≤ 1100000 ∧ k.size ≤ 1100000)).a ((Cnd.p (VW [AV.v (Value.string p), AV.v (Value.string k)] [AV.v (Value.string p), AV.v (Value.string k)])).a Cnd.t)).a (((Cnd.p (Wk (AV.lit true) (AV.v (Value.bool true)))).a Cnd.t).a Cnd.t))))))))))))))))) (VT.leaf (AV.v (Value.bool true)) [] 1104 (((Cnd.p True).a ((Cnd.p (VW [] [])).a Cnd.t)).a (((Cnd.p (Wk (AV.v (Value.bool false)) (AV.lit false))).a Cnd.t).a (((Cnd.p (k.size ≤ 1100000)).a ((Cnd.p (VW [AV.v (Value.string k)] [AV.v (Value.string k)])).a Cnd.t)).a ((Cnd.p ((fTW, 5, loopN fTW 5, lT1 p k (dots k) (dots k).length b1).snd.snd.fst = (fTW, 5, loopN fTW 5, lT1 p k (dots k) (dots k).length b1).snd.snd.fst)).a ((Cnd.p True).a ((Cnd.p (VW [AV.v (Value.string p), AV.v (Value.string k), AV.v (Value.tuple (Array.mk [])), AV.v (Value.tuple (Array.mk [])), AV.v (Value.bool false), AV.v (Value.bool false), AV.v (Value.tuple (Array.mk [])), AV.v (Value.tuple (Array.mk [])), AV.v (Value.tuple (Array.mk [])), AV.v (Value.tuple (Array.mk [])), AV.v (Value.tuple (Array.mk [])), AV.v (Value.bool true), AV.lit false, AV.v (Value.string k), AV.slice 1100 0 (dots k).length 1 (Cp.lo (dots k).length), AV.v (Value.int IntKind.i64 ↑(dots k).length), AV.v (Value.int IntKind.i64 (Int.ofNat 0)), AV.v (Value.tuple (Array.mk [])), AV.v (Value.tuple (Array.mk [])), AV.v (Value.tuple (Array.mk [])), AV.v (Value.tuple (Array.mk [])), AV.v (Value.tuple (Array.mk [])), AV.v (Value.tuple (Array.mk [])), AV.v (Value.tuple (Array.mk [])), AV.v (Value.tuple (Array.mk [])), AV.v (Value.tuple (Array.mk [])), AV.v (Value.tuple (Array.mk [])), AV.v (Value.tuple (Array.mk [])), AV.v (Value.tuple (Array.mk [])), AV.v (Value.tuple (Array.mk [])), AV.v (Value.tuple (Array.mk [])), AV.v (Value.tuple (Array.mk [])), AV.v (Value.tuple (Array.mk [])), AV.v (Value.tuple (Array.mk [])), AV.v (Value.tuple (Array.mk [])), AV.v (Value.tuple (Array.mk [])), AV.v (Value.tuple (Array.mk [])), AV.v (Value.tuple (Array.mk [])), AV.v (Value.tuple (Array.mk [])), AV.v (Value.tuple (Array.mk [])), AV.v (Value.tuple (Array.mk [])), AV.v (Value.tuple (Array.mk [])), AV.v (Value.tuple (Array.mk [])), AV.v (Value.tuple (Array.mk [])), AV.v (Value.tuple (Array.mk [])), AV.v (Value.tuple (Array.mk [])), AV.v (Value.tuple (Array.mk [])), AV.v (Value.tuple (Array.mk [])), AV.v (Value.tuple (Array.mk [])), AV.v (Value.tuple (Array.mk [])), AV.v (Value.tuple (Array.mk [])), AV.v (Value.tuple (Array.mk [])), AV.v (Value.tuple (Array.mk [])), AV.v (Value.tuple (Array.mk [])), AV.v (Value.tuple (Array.mk [])), AV.v (Value.tuple (Array.mk [])), AV.v (Value.tuple (Array.mk [])), AV.v (Value.tuple (Array.mk [])), AV.v (Value.tuple (Array.mk [])), AV.v (Value.tuple (Array.mk [])), AV.v (Value.tuple (Array.mk [])), AV.v (Value.tuple (Array.mk [])), AV.v (Value.tuple (Array.mk [])), AV.v (Value.tuple (Array.mk [])), AV.v (Value.tuple (Array.mk [])), AV.v (Value.tuple (Array.mk [])), AV.v (Value.tuple (Array.mk []))] [AV.v (Value.string p), AV.v (Value.string k), AV.any, AV.any, AV.any, AV.v (Value.bool false), AV.any, AV.any, AV.any, AV.any, AV.any, AV.any, AV.any, AV.any, AV.slice 1100 0 (dots k).length 1 (Cp.lo (dots k).length), AV.v (Value.int IntKind.i64 (Int.ofNat (dots k).length)), AV.v (Value.int IntKind.i64 (Int.ofNat 0)), AV.any, AV.any, AV.any, AV.any, AV.any, AV.any, AV.any, AV.any, AV.any, AV.any, AV.any, AV.any, AV.any, AV.any, AV.any, AV.any, AV.any, AV.any, AV.any, AV.any, AV.any, AV.any, AV.any, AV.any, AV.any, AV.any, AV.any, AV.any, AV.any, AV.any, AV.any, AV.any, AV.any, AV.any, AV.any, AV.any, AV.any, AV.any, AV.any, AV.any, AV.any, AV.any, AV.any, AV.any, AV.any, AV.any, AV.any, AV.any, AV.any, AV.any])).a ((Cnd.p (OW (AO.cells (AV.rens (sgN (fun k => k) [1000] 1100) (rowV encS (dots k))) 18) (AO.cells (AV.rens (nmT 1100) (rowV encS (dots k))) 18))).a (((Cnd.p (k.size ≤ 1100000 ∧ k.size ≤ 1100000)).a ((Cnd.p (VW [AV.v (Value.string k), AV.v (Value.string k)] [AV.v (Value.string k), AV.v (Value.string k)])).a Cnd.t)).a (((Cnd.p (Wk (AV.v (Value.bool !mtB k k)) (AV.lit false))).a Cnd.t).a (((Cnd.p (p.size ≤ 1100000)).a ((Cnd.p (VW [AV.v (Value.string p)] [AV.v (Value.string p)])).a Cnd.t)).a ((Cnd.p ((fTW, 13, loopN fTW 13, lT2 p k (dots p) (dots p).length b2).snd.snd.fst = (fTW, 13, loopN fTW 13, lT2 p k (dots p) (dots p).length b2).snd.snd.fst)).a ((Cnd.p True).a ((Cnd.p (VW [AV.v (Value.string p), AV.v (Value.string k), AV.any, AV.any, AV.any, AV.v (Value.bool b1), AV.any, AV.any, AV.v (Value.bool false), AV.any, AV.any, AV.any, AV.any, AV.any, AV.any, AV.any, AV.any, AV.any, AV.any, AV.any, AV.any, AV.any, AV.any, AV.any, AV.any, AV.any, AV.any, AV.any, AV.any, AV.any, AV.v (Value.bool b1), AV.v (Value.bool !b1), AV.lit true, AV.v (Value.string k), AV.v (Value.string k), AV.v (Value.bool (mtB k k)), AV.v (Value.bool !mtB k k), AV.lit false, AV.v (Value.string p), AV.slice 1101 0 (dots p).length 1 (Cp.lo (dots p).length), AV.v (Value.int IntKind.i64 ↑(dots p).length), AV.v (Value.int IntKind.i64 (Int.ofNat 0)), AV.any, AV.any, AV.any, AV.any, AV.any, AV.any, AV.any, AV.any, AV.any, AV.any, AV.any, AV.any, AV.any, AV.any, AV.any, AV.any, AV.any, AV.any, AV.any, AV.any, AV.any, AV.any, AV.any, AV.any, AV.any] [AV.v (Value.string p), AV.v (Value.string k), AV.any, AV.any, AV.any, AV.any, AV.any, AV.any, AV.v (Value.bool false), AV.any, AV.any, AV.any, AV.any, AV.any, AV.any, AV.any, AV.any, AV.any, AV.any, AV.any, AV.any, AV.any, AV.any, AV.any, AV.any, AV.any, AV.any, AV.any, AV.any, AV.any, AV.any, AV.any, AV.any, AV.any, AV.any, AV.any, AV.any, AV.any, AV.any, AV.slice 1101 0 (dots p).length 1 (Cp.lo (dots p).length), AV.v (Value.int IntKind.i64 (Int.ofNat (dots p).length)), AV.v (Value.int IntKind.i64 (Int.ofNat 0)), AV.any, AV.any, AV.any, AV.any, AV.any, AV.any, AV.any, AV.any, AV.any, AV.any, AV.any, AV.any, AV.any, AV.any, AV.any, AV.any, AV.any, AV.any, AV.any, AV.any, AV.any, AV.any, AV.any, AV.any, AV.any])).a ((Cnd.p (OW (AO.cells (AV.rens (sgN (fun k => k) [1000] 1101) (rowV encS (dots p))) 18) (AO.cells (AV.rens (nmT 1101) (rowV encS (dots p))) 18))).a (((Cnd.p (p.size ≤ 1100000 ∧ k.size ≤ 1100000)).a ((Cnd.p (VW [AV.v (Value.string p), AV.v (Value.string k)] [AV.v (Value.string p), AV.v (Value.string k)])).a Cnd.t)).a (((Cnd.p (p.size ≤ 1100000)).a ((Cnd.p (VW [AV.v (Value.string p)] [AV.v (Value.string p)])).a Cnd.t)).a (((Cnd.p (k.size ≤ 1100000)).a ((Cnd.p (VW [AV.v (Value.string k)] [AV.v (Value.string k)])).a Cnd.t)).a (((Cnd.p (Wk (AV.v (Value.bool ((↑(dots p).length : Int) == ↑(dots k).length))) (AV.v (Value.bool true)))).a Cnd.t).a Cnd.t))))))))))))))))))))) (VT.ite b2 (VT.leaf (AV.v (Value.bool true)) [] 1102 (((Cnd.p True).a ((Cnd.p (VW [] [])).a Cnd.t)).a (((Cnd.p (Wk (AV.v (Value.bool false)) (AV.lit false))).a Cnd.t).a (((Cnd.p (k.size ≤ 1100000)).a ((Cnd.p (VW [AV.v (Value.string k)] [AV.v (Value.string k)])).a Cnd.t)).a ((Cnd.p ((fTW, 5, loopN fTW 5, lT1 p k (dots k) (dots k).length b1).snd.snd.fst = (fTW, 5, loopN fTW 5, lT1 p k (dots k) (dots k).length b1).snd.snd.fst)).a ((Cnd.p True).a ((Cnd.p (VW [AV.v (Value.string p), AV.v (Value.string k), AV.v (Value.tuple (Array.mk [])), AV.v (Value.tuple (Array.mk [])), AV.v (Value.bool false), AV.v (Value.bool false), AV.v (Value.tuple (Array.mk [])), AV.v (Value.tuple (Array.mk [])), AV.v (Value.tuple (Array.mk [])), AV.v (Value.tuple (Array.mk [])), AV.v (Value.tuple (Array.mk [])), AV.v (Value.bool true), AV.lit false, AV.v (Value.string k), AV.slice 1100 0 (dots k).length 1 (Cp.lo (dots k).length), AV.v (Value.int IntKind.i64 ↑(dots k).length), AV.v (Value.int IntKind.i64 (Int.ofNat 0)), AV.v (Value.tuple (Array.mk [])), AV.v (Value.tuple (Array.mk [])), AV.v (Value.tuple (Array.mk [])), AV.v (Value.tuple (Array.mk [])), AV.v (Value.tuple (Array.mk [])), AV.v (Value.tuple (Array.mk [])), AV.v (Value.tuple (Array.mk [])), AV.v (Value.tuple (Array.mk [])), AV.v (Value.tuple (Array.mk [])), AV.v (Value.tuple (Array.mk [])), AV.v (Value.tuple (Array.mk [])), AV.v (Value.tuple (Array.mk [])), AV.v (Value.tuple (Array.mk [])), AV.v (Value.tuple (Array.mk [])), AV.v (Value.tuple (Array.mk [])), AV.v (Value.tuple (Array.mk [])), AV.v (Value.tuple (Array.mk [])), AV.v (Value.tuple (Array.mk [])), AV.v (Value.tuple (Array.mk [])), AV.v (Value.tuple (Array.mk [])), AV.v (Value.tuple (Array.mk [])), AV.v (Value.tuple (Array.mk [])), AV.v (Value.tuple (Array.mk [])), AV.v (Value.tuple (Array.mk [])), AV.v (Value.tuple (Array.mk [])), AV.v (Value.tuple (Array.mk [])), AV.v (Value.tuple (Array.mk [])), AV.v (Value.tuple (Array.mk [])), AV.v (Value.tuple (Array.mk [])), AV.v (Value.tuple (Array.mk [])), AV.v (Value.tuple (Array.mk [])), AV.v (Value.tuple (Array.mk [])), AV.v (Value.tuple (Array.mk [])), AV.v (Value.tuple (Array.mk [])), AV.v (Value.tuple (Array.mk [])), AV.v (Value.tuple (Array.mk [])), AV.v (Value.tuple (Array.mk [])), AV.v (Value.tuple (Array.mk [])), AV.v (Value.tuple (Array.mk [])), AV.v (Value.tuple (Array.mk [])), AV.v (Value.tuple (Array.mk [])), AV.v (Value.tuple (Array.mk [])), AV.v (Value.tuple (Array.mk [])), AV.v (Value.tuple (Array.mk [])), AV.v (Value.tuple (Array.mk [])), AV.v (Value.tuple (Array.mk [])), AV.v (Value.tuple (Array.mk [])), AV.v (Value.tuple (Array.mk [])), AV.v (Value.tuple (Array.mk [])), AV.v (Value.tuple (Array.mk []))] [AV.v (Value.string p), AV.v (Value.string k), AV.any, AV.any, AV.any, AV.v (Value.bool false), AV.any, AV.any, AV.any, AV.any, AV.any, AV.any, AV.any, AV.any, AV.slice 1100 0 (dots k).length 1 (Cp.lo (dots k).length), AV.v (Value.int IntKind.i64 (Int.ofNat (dots k).length)), AV.v (Value.int IntKind.i64 (Int.ofNat 0)), AV.any, AV.any, AV.any, AV.any, AV.any, AV.any, AV.any, AV.any, AV.any, AV.any, AV.any, AV.any, AV.any, AV.any, AV.any, AV.any, AV.any, AV.any, AV.any, AV.any, AV.any, AV.any, AV.any, AV.any, AV.any, AV.any, AV.any, AV.any, AV.any, AV.any, AV.any, AV.any, AV.any, AV.any, AV.any, AV.any, AV.any, AV.any, AV.any, AV.any, AV.any, AV.any, AV.any, AV.any, AV.any, AV.any, AV.any, AV.any, AV.any, AV.any])).a ((Cnd.p (OW (AO.cells (AV.rens (sgN (fun k => k) [1000] 1100) (rowV encS (dots k))) 18) (AO.cells (AV.rens (nmT 1100) (rowV encS (dots k))) 18))).a (((Cnd.p (Wk (AV.lit false) (AV.lit false))).a Cnd.t).a (((Cnd.p (p.size ≤ 1100000)).a ((Cnd.p (VW [AV.v (Value.string p)] [AV.v (Value.string p)])).a Cnd.t)).a ((Cnd.p ((fTW, 13, loopN fTW 13, lT2 p k (dots p) (dots p).length b2).snd.snd.fst = (fTW, 13, loopN fTW 13, lT2 p k (dots p) (dots p).length b2).snd.snd.fst)).a ((Cnd.p True).a ((Cnd.p (VW [AV.v (Value.string p), AV.v (Value.string k), AV.any, AV.any, AV.any, AV.v (Value.bool b1), AV.any, AV.any, AV.v (Value.bool false), AV.any, AV.any, AV.any, AV.any, AV.any, AV.any, AV.any, AV.any, AV.any, AV.any, AV.any, AV.any, AV.any, AV.any, AV.any, AV.any, AV.any, AV.any, AV.any, AV.any, AV.any, AV.v (Value.bool b1), AV.v (Value.bool !b1), AV.lit false, AV.v (Value.tuple (Array.mk [])), AV.v (Value.tuple (Array.mk [])), AV.v (Value.tuple (Array.mk [])), AV.v (Value.tuple (Array.mk [])), AV.lit false, AV.v (Value.string p), AV.slice 1101 0 (dots p).length 1 (Cp.lo (dots p).length), AV.v (Value.int IntKind.i64 ↑(dots p).length), AV.v (Value.int IntKind.i64 (Int.ofNat 0)), AV.any, AV.any, AV.any, AV.any, AV.any, AV.any, AV.any, AV.any, AV.any, AV.any, AV.any, AV.any, AV.any, AV.any, AV.any, AV.any, AV.any, AV.any, AV.any, AV.any, AV.any, AV.any, AV.any, AV.any, AV.any] [AV.v (Value.string p), AV.v (Value.string k), AV.any, AV.any, AV.any, AV.any, AV.any, AV.any, AV.v (Value.bool false), AV.any, AV.any, AV.any, AV.any, AV.any, AV.any, AV.any, AV.any, AV.any, AV.any, AV.any, AV.any, AV.any, AV.any, AV.any, AV.any, AV.any, AV.any, AV.any, AV.any, AV.any, AV.any, AV.any, AV.any, AV.any, AV.any, AV.any, AV.any, AV.any, AV.any, AV.slice 1101 0 (dots p).length 1 (Cp.lo (dots p).length), AV.v (Value.int IntKind.i64 (Int.ofNat (dots p).length)), AV.v (Value.int IntKind.i64 (Int.ofNat 0)), AV.any, AV.any, AV.any, AV.any, AV.any, AV.any, AV.any, AV.any, AV.any, AV.any, AV.any, AV.any, AV.any, AV.any, AV.any, AV.any, AV.any, AV.any, AV.any, AV.any, AV.any, AV.any, AV.any, AV.any, AV.any])).a ((Cnd.p (OW (AO.cells (AV.rens (sgN (fun k => k) [1000] 1101) (rowV encS (dots p))) 18) (AO.cells (AV.rens (nmT 1101) (rowV encS (dots p))) 18))).a (((Cnd.p (Wk (AV.lit true) (AV.v (Value.bool true)))).a Cnd.t).a Cnd.t))))))))))))))) (VT.ite (!mtB p k) (VT.leaf (AV.v (Value.bool true)) [] 1102 (((Cnd.p True).a ((Cnd.p (VW [] [])).a Cnd.t)).a (((Cnd.p (Wk (AV.v (Value.bool false)) (AV.lit false))).a Cnd.t).a (((Cnd.p (k.size ≤ 1100000)).a ((Cnd.p (VW [AV.v (Value.string k)] [AV.v (Value.string k)])).a Cnd.t)).a ((Cnd.p ((fTW, 5, loopN fTW 5, lT1 p k (dots k) (dots k).length b1).snd.snd.fst = (fTW, 5, loopN fTW 5, lT1 p k (dots k) (dots k).length b1).snd.snd.fst)).a ((Cnd.p True).a ((Cnd.p (VW [AV.v (Value.string p), AV.v (Value.string k), AV.v (Value.tuple (Array.mk [])), AV.v (Value.tuple (Array.mk [])), AV.v (Value.bool false), AV.v (Value.bool false), AV.v (Value.tuple (Array.mk [])), AV.v (Value.tuple (Array.mk [])), AV.v (Value.tuple (Array.mk [])), AV.v (Value.tuple (Array.mk [])), AV.v (Value.tuple (Array.mk [])), AV.v (Value.bool true), AV.lit false, AV.v (Value.string k), AV.slice 1100 0 (dots k).length 1 (Cp.lo (dots k).length), AV.v (Value.int IntKind.i64 ↑(dots k).length), AV.v (Value.int IntKind.i64 (Int.ofNat 0)), AV.v (Value.tuple (Array.mk [])), AV.v (Value.tuple (Array.mk [])), AV.v (Value.tuple (Array.mk [])), AV.v (Value.tuple (Array.mk [])), AV.v (Value.tuple (Array.mk [])), AV.v (Value.tuple (Array.mk [])), AV.v (Value.tuple (Array.mk [])), AV.v (Value.tuple (Array.mk [])), AV.v (Value.tuple (Array.mk [])), AV.v (Value.tuple (Array.mk [])), AV.v (Value.tuple (Array.mk [])), AV.v (Value.tuple (Array.mk [])), AV.v (Value.tuple (Array.mk [])), AV.v (Value.tuple (Array.mk [])), AV.v (Value.tuple (Array.mk [])), AV.v (Value.tuple (Array.mk [])), AV.v (Value.tuple (Array.mk [])), AV.v (Value.tuple (Array.mk [])), AV.v (Value.tuple (Array.mk [])), AV.v (Value.tuple (Array.mk [])), AV.v (Value.tuple (Array.mk [])), AV.v (Value.tuple (Array.mk [])), AV.v (Value.tuple (Array.mk [])), AV.v (Value.tuple (Array.mk [])), AV.v (Value.tuple (Array.mk [])), AV.v (Value.tuple (Array.mk [])), AV.v (Value.tuple (Array.mk [])), AV.v (Value.tuple (Array.mk [])), AV.v (Value.tuple (Array.mk [])), AV.v (Value.tuple (Array.mk [])), AV.v (Value.tuple (Array.mk [])), AV.v (Value.tuple (Array.mk [])), AV.v (Value.tuple (Array.mk [])), AV.v (Value.tuple (Array.mk [])), AV.v (Value.tuple (Array.mk [])), AV.v (Value.tuple (Array.mk [])), AV.v (Value.tuple (Array.mk [])), AV.v (Value.tuple (Array.mk [])), AV.v (Value.tuple (Array.mk [])), AV.v (Value.tuple (Array.mk [])), AV.v (Value.tuple (Array.mk [])), AV.v (Value.tuple (Array.mk [])), AV.v (Value.tuple (Array.mk [])), AV.v (Value.tuple (Array.mk [])), AV.v (Value.tuple (Array.mk [])), AV.v (Value.tuple (Array.mk [])), AV.v (Value.tuple (Array.mk [])), AV.v (Value.tuple (Array.mk [])), AV.v (Value.tuple (Array.mk [])), AV.v (Value.tuple (Array.mk []))] [AV.v (Value.string p), AV.v (Value.string k), AV.any, AV.any, AV.any, AV.v (Value.bool false), AV.any, AV.any, AV.any, AV.any, AV.any, AV.any, AV.any, AV.any, AV.slice 1100 0 (dots k).length 1 (Cp.lo (dots k).length), AV.v (Value.int IntKind.i64 (Int.ofNat (dots k).length)), AV.v (Value.int IntKind.i64 (Int.ofNat 0)), AV.any, AV.any, AV.any, AV.any, AV.any, AV.any, AV.any, AV.any, AV.any, AV.any, AV.any, AV.any, AV.any, AV.any, AV.any, AV.any, AV.any, AV.any, AV.any, AV.any, AV.any, AV.any, AV.any, AV.any, AV.any, AV.any, AV.any, AV.any, AV.any, AV.any, AV.any, AV.any, AV.any, AV.any, AV.any, AV.any, AV.any, AV.any, AV.any, AV.any, AV.any, AV.any, AV.any, AV.any, AV.any, AV.any, AV.any, AV.any, AV.any, AV.any])).a ((Cnd.p (OW (AO.cells (AV.rens (sgN (fun k => k) [1000] 1100) (rowV encS (dots k))) 18) (AO.cells (AV.rens (nmT 1100) (rowV encS (dots k))) 18))).a (((Cnd.p (Wk (AV.lit false) (AV.lit false))).a Cnd.t).a (((Cnd.p (p.size ≤ 1100000)).a ((Cnd.p (VW [AV.v (Value.string p)] [AV.v (Value.string p)])).a Cnd.t)).a ((Cnd.p ((fTW, 13, loopN fTW 13, lT2 p k (dots p) (dots p).length b2).snd.snd.fst = (fTW, 13, loopN fTW 13, lT2 p k (dots p) (dots p).length b2).snd.snd.fst)).a ((Cnd.p True).a ((Cnd.p (VW [AV.v (Value.string p), AV.v (Value.string k), AV.any, AV.any, AV.any, AV.v (Value.bool b1), AV.any, AV.any, AV.v (Value.bool false), AV.any, AV.any, AV.any, AV.any, AV.any, AV.any, AV.any, AV.any, AV.any, AV.any, AV.any, AV.any, AV.any, AV.any, AV.any, AV.any, AV.any, AV.any, AV.any, AV.any, AV.any, AV.v (Value.bool b1), AV.v (Value.bool !b1), AV.lit false, AV.v (Value.tuple (Array.mk [])), AV.v (Value.tuple (Array.mk [])), AV.v (Value.tuple (Array.mk [])), AV.v (Value.tuple (Array.mk [])), AV.lit false, AV.v (Value.string p), AV.slice 1101 0 (dots p).length 1 (Cp.lo (dots p).length), AV.v (Value.int IntKind.i64 ↑(dots p).length), AV.v (Value.int IntKind.i64 (Int.ofNat 0)), AV.any, AV.any, AV.any, AV.any, AV.any, AV.any, AV.any, AV.any, AV.any, AV.any, AV.any, AV.any, AV.any, AV.any, AV.any, AV.any, AV.any, AV.any, AV.any, AV.any, AV.any, AV.any, AV.any, AV.any, AV.any] [AV.v (Value.string p), AV.v (Value.string k), AV.any, AV.any, AV.any, AV.any, AV.any, AV.any, AV.v (Value.bool false), AV.any, AV.any, AV.any, AV.any, AV.any, AV.any, AV.any, AV.any, AV.any, AV.any, AV.any, AV.any, AV.any, AV.any, AV.any, AV.any, AV.any, AV.any, AV.any, AV.any, AV.any, AV.any, AV.any, AV.any, AV.any, AV.any, AV.any, AV.any, AV.any, AV.any, AV.slice 1101 0 (dots p).length 1 (Cp.lo (dots p).length), AV.v (Value.int IntKind.i64 (Int.ofNat (dots p).length)), AV.v (Value.int IntKind.i64 (Int.ofNat 0)), AV.any, AV.any, AV.any, AV.any, AV.any, AV.any, AV.any, AV.any, AV.any, AV.any, AV.any, AV.any, AV.any, AV.any, AV.any, AV.any, AV.any, AV.any, AV.any, AV.any, AV.any, AV.any, AV.any, AV.any, AV.any])).a ((Cnd.p (OW (AO.cells (AV.rens (sgN (fun k => k) [1000] 1101) (rowV encS (dots p))) 18) (AO.cells (AV.rens (nmT 1101) (rowV encS (dots p))) 18))).a (((Cnd.p (p.size ≤ 1100000 ∧ k.size ≤ 1100000)).a ((Cnd.p (VW [AV.v (Value.string p), AV.v (Value.string k)] [AV.v (Value.string p), AV.v (Value.string k)])).a Cnd.t)).a (((Cnd.p (Wk (AV.lit true) (AV.v (Value.bool true)))).a Cnd.t).a Cnd.t)))))))))))))))) (VT.leaf (AV.v (Value.bool true)) [] 1104 (((Cnd.p True).a ((Cnd.p (VW [] [])).a Cnd.t)).a (((Cnd.p (Wk (AV.v (Value.bool false)) (AV.lit false))).a Cnd.t).a (((Cnd.p (k.size ≤ 1100000)).a ((Cnd.p (VW [AV.v (Value.string k)] [AV.v (Value.string k)])).a Cnd.t)).a ((Cnd.p ((fTW, 5, loopN fTW 5, lT1 p k (dots k) (dots k).length b1).snd.snd.fst = (fTW, 5, loopN fTW 5, lT1 p k (dots k) (dots k).length b1).snd.snd.fst)).a ((Cnd.p True).a ((Cnd.p (VW [AV.v (Value.string p), AV.v (Value.string k), AV.v (Value.tuple (Array.mk [])), AV.v (Value.tuple (Array.mk [])), AV.v (Value.bool false), AV.v (Value.bool false), AV.v (Value.tuple (Array.mk [])), AV.v (Value.tuple (Array.mk [])), AV.v (Value.tuple (Array.mk [])), AV.v (Value.tuple (Array.mk [])), AV.v (Value.tuple (Array.mk [])), AV.v (Value.bool true), AV.lit false, AV.v (Value.string k), AV.slice 1100 0 (dots k).length 1 (Cp.lo (dots k).length), AV.v (Value.int IntKind.i64 ↑(dots k).length), AV.v (Value.int IntKind.i64 (Int.ofNat 0)), AV.v (Value.tuple (Array.mk [])), AV.v (Value.tuple (Array.mk [])), AV.v (Value.tuple (Array.mk [])), AV.v (Value.tuple (Array.mk [])), AV.v (Value.tuple (Array.mk [])), AV.v (Value.tuple (Array.mk [])), AV.v (Value.tuple (Array.mk [])), AV.v (Value.tuple (Array.mk [])), AV.v (Value.tuple (Array.mk [])), AV.v (Value.tuple (Array.mk [])), AV.v (Value.tuple (Array.mk [])), AV.v (Value.tuple (Array.mk [])), AV.v (Value.tuple (Array.mk [])), AV.v (Value.tuple (Array.mk [])), AV.v (Value.tuple (Array.mk [])), AV.v (Value.tuple (Array.mk [])), AV.v (Value.tuple (Array.mk [])), AV.v (Value.tuple (Array.mk [])), AV.v (Value.tuple (Array.mk [])), AV.v (Value.tuple (Array.mk [])), AV.v (Value.tuple (Array.mk [])), AV.v (Value.tuple (Array.mk [])), AV.v (Value.tuple (Array.mk [])), AV.v (Value.tuple (Array.mk [])), AV.v (Value.tuple (Array.mk [])), AV.v (Value.tuple (Array.mk [])), AV.v (Value.tuple (Array.mk [])), AV.v (Value.tuple (Array.mk [])), AV.v (Value.tuple (Array.mk [])), AV.v (Value.tuple (Array.mk [])), AV.v (Value.tuple (Array.mk [])), AV.v (Value.tuple (Array.mk [])), AV.v (Value.tuple (Array.mk [])), AV.v (Value.tuple (Array.mk [])), AV.v (Value.tuple (Array.mk [])), AV.v (Value.tuple (Array.mk [])), AV.v (Value.tuple (Array.mk [])), AV.v (Value.tuple (Array.mk [])), AV.v (Value.tuple (Array.mk [])), AV.v (Value.tuple (Array.mk [])), AV.v (Value.tuple (Array.mk [])), AV.v (Value.tuple (Array.mk [])), AV.v (Value.tuple (Array.mk [])), AV.v (Value.tuple (Array.mk [])), AV.v (Value.tuple (Array.mk [])), AV.v (Value.tuple (Array.mk [])), AV.v (Value.tuple (Array.mk [])), AV.v (Value.tuple (Array.mk [])), AV.v (Value.tuple (Array.mk [])), AV.v (Value.tuple (Array.mk []))] [AV.v (Value.string p), AV.v (Value.string k), AV.any, AV.any, AV.any, AV.v (Value.bool false), AV.any, AV.any, AV.any, AV.any, AV.any, AV.any, AV.any, AV.any, AV.slice 1100 0 (dots k).length 1 (Cp.lo (dots k).length), AV.v (Value.int IntKind.i64 (Int.ofNat (dots k).length)), AV.v (Value.int IntKind.i64 (Int.ofNat 0)), AV.any, AV.any, AV.any, AV.any, AV.any, AV.any, AV.any, AV.any, AV.any, AV.any, AV.any, AV.any, AV.any, AV.any, AV.any, AV.any, AV.any, AV.any, AV.any, AV.any, AV.any, AV.any, AV.any, AV.any, AV.any, AV.any, AV.any, AV.any, AV.any, AV.any, AV.any, AV.any, AV.any, AV.any, AV.any, AV.any, AV.any, AV.any, AV.any, AV.any, AV.any, AV.any, AV.any, AV.any, AV.any, AV.any, AV.any, AV.any, AV.any, AV.any])).a ((Cnd.p (OW (AO.cells (AV.rens (sgN (fun k => k) [1000] 1100) (rowV encS (dots k))) 18) (AO.cells (AV.rens (nmT 1100) (rowV encS (dots k))) 18))).a (((Cnd.p (Wk (AV.lit false) (AV.lit false))).a Cnd.t).a (((Cnd.p (p.size ≤ 1100000)).a ((Cnd.p (VW [AV.v (Value.string p)] [AV.v (Value.string p)])).a Cnd.t)).a ((Cnd.p ((fTW, 13, loopN fTW 13, lT2 p k (dots p) (dots p).length b2).snd.snd.fst = (fTW, 13, loopN fTW 13, lT2 p k (dots p) (dots p).length b2).snd.snd.fst)).a ((Cnd.p True).a ((Cnd.p (VW [AV.v (Value.string p), AV.v (Value.string k), AV.any, AV.any, AV.any, AV.v (Value.bool b1), AV.any, AV.any, AV.v (Value.bool false), AV.any, AV.any, AV.any, AV.any, AV.any, AV.any, AV.any, AV.any, AV.any, AV.any, AV.any, AV.any, AV.any, AV.any, AV.any, AV.any, AV.any, AV.any, AV.any, AV.any, AV.any, AV.v (Value.bool b1), AV.v (Value.bool !b1), AV.lit false, AV.v (Value.tuple (Array.mk [])), AV.v (Value.tuple (Array.mk [])), AV.v (Value.tuple (Array.mk [])), AV.v (Value.tuple (Array.mk [])), AV.lit false, AV.v (Value.string p), AV.slice 1101 0 (dots p).length 1 (Cp.lo (dots p).length), AV.v (Value.int IntKind.i64 ↑(dots p).length), AV.v (Value.int IntKind.i64 (Int.ofNat 0)), AV.any, AV.any, AV.any, AV.any, AV.any, AV.any, AV.any, AV.any, AV.any, AV.any, AV.any, AV.any, AV.any, AV.any, AV.any, AV.any, AV.any, AV.any, AV.any, AV.any, AV.any, AV.any, AV.any, AV.any, AV.any] [AV.v (Value.string p), AV.v (Value.string k), AV.any, AV.any, AV.any, AV.any, AV.any, AV.any, AV.v (Value.bool false), AV.any, AV.any, AV.any, AV.any, AV.any, AV.any, AV.any, AV.any, AV.any, AV.any, AV.any, AV.any, AV.any, AV.any, AV.any, AV.any, AV.any, AV.any, AV.any, AV.any, AV.any, AV.any, AV.any, AV.any, AV.any, AV.any, AV.any, AV.any, AV.any, AV.any, AV.slice 1101 0 (dots p).length 1 (Cp.lo (dots p).length), AV.v (Value.int IntKind.i64 (Int.ofNat (dots p).length)), AV.v (Value.int IntKind.i64 (Int.ofNat 0)), AV.any, AV.any, AV.any, AV.any, AV.any, AV.any, AV.any, AV.any, AV.any, AV.any, AV.any, AV.any, AV.any, AV.any, AV.any, AV.any, AV.any, AV.any, AV.any, AV.any, AV.any, AV.any, AV.any, AV.any, AV.any])).a ((Cnd.p (OW (AO.cells (AV.rens (sgN (fun k => k) [1000] 1101) (rowV encS (dots p))) 18) (AO.cells (AV.rens (nmT 1101) (rowV encS (dots p))) 18))).a (((Cnd.p (p.size ≤ 1100000 ∧ k.size ≤ 1100000)).a ((Cnd.p (VW [AV.v (Value.string p), AV.v (Value.string k)] [AV.v (Value.string p), AV.v (Value.string k)])).a Cnd.t)).a (((Cnd.p (p.size ≤ 1100000)).a ((Cnd.p (VW [AV.v (Value.string p)] [AV.v (Value.string p)])).a Cnd.t)).a (((Cnd.p (k.size ≤ 1100000)).a ((Cnd.p (VW [AV.v (Value.string k)] [AV.v (Value.string k)])).a Cnd.t)).a (((Cnd.p (Wk (AV.v (Value.bool ((↑(dots p).length : Int) == ↑(dots k).length))) (AV.v (Value.bool true)))).a Cnd.t).a Cnd.t)))))))))))))))))))) := by kernel_rfl
end
def isWild (w : ByteArray) : Bool := decide (w = star) || decide (w = hash)
def isHash (w : ByteArray) : Bool := decide (w = hash)
theorem any_next (f : ByteArray → Bool) (L : List ByteArray) (j : Nat) (hj : j < L.length) : (L.take (j + 1)).any f = ((L.take j).any f || f (L.getD j nil0)) := by
  rw [take_next L nil0 j hj, List.any_append]; simp
theorem VAll.ite {α : Type} {Q : α → List (Option AO) → Nat → Prop} {b : Bool} {x y : VT α} (h1 : b = true → VAll Q x) (h2 : b = false → VAll Q y) : VAll Q (.ite b x y) := ⟨⟨fun h => (h1 h).out, fun h => (h2 h).out⟩⟩
theorem wk_lb {b b' : Bool} (h : b = b') : Wk (.lit b) (.v (.bool b')) := by subst h; exact fun N y hy => VR_v.2 (VR_lit.1 hy)
theorem t1_loop (p k : ByteArray) (L : List ByteArray) (hL : L.length ≤ 1200000) :
    LTri Tryd.prog default (loopN fTW 5) (tms 0 67 (aT1 p k L.length 0 false)) [(1000, rS L)] (.exit 0) (tms 0 67 [(0, sv p), (1, sv k), (5, bv (L.any isWild))]) [] := by
  refine ltri_run (W := default) (g := fTW) (b := loopN fTW 5) (σ := {j : Nat // j ≤ L.length}) 67 (fun j => aT1 p k L.length j.1 ((L.take j.1).any isWild)) (fun j => [(1000, rS L)]) (.exit 0) _ [] (fun j => L.length - j.1) [1000] [0, 1, 5, 14, 15, 16] (by intro h; cases h) (fun _ => rfl) rfl ?_ ⟨0, Nat.zero_le _⟩
  rintro ⟨j, hj⟩
  simp only
  by_cases h1 : j < L.length
  · have hw := wrap_succ j (by omega)
    have e1 : decide (Int.ofNat j < (L.length : Int)) = true := ltTC h1
    have g0 := rS_get L j h1
    have g1 := rS_lt L j h1
    have hn := any_next isWild L j h1
    generalize hwd : L.getD j nil0 = w at g0 hn
    refine ⟨[], hWa w j ((L.take (j + 1)).any isWild), [], fun _ _ => noC, fun _ _ => noL, fun F => ?_⟩
    refine cast (congrArg (VAll _) (oWa_eq p k w L L.length j ((L.take j).any isWild) ((L.take (j + 1)).any isWild) F).symm) ?_
    have c1 : (w.toList == [(ByteArray.mk (Array.mk [42])).get! 0]) = decide (w = star) := bl_one w 42
    have c2 : (w.toList == [(ByteArray.mk (Array.mk [35])).get! 0]) = decide (w = hash) := bl_one w 35
    rw [c1, c2]
    refine VAll.ite (fun hb => ?_) fun hb => VAll.ite (fun hb2 => ?_) fun hb2 => ?_
    all_goals
      refine ⟨⟨?_, rfl, .inl ⟨rfl, ⟨j + 1, h1⟩, sub_down h1, [(1000, 1000)], by kernel_rfl, by kernel_rfl, ⟨Wk.refl _, Wk.refl _, Wk.refl _, Wk.refl _, Wk.refl _, Wk.refl _, trivial⟩, ⟨_, rfl, rS_ow rfl rfl⟩, trivial⟩⟩⟩
    all_goals
      simp only [Cnd.holds, e1, g0, g1, h1, AV.strOf, sv, Nat.blt_eq, true_and, and_true]
      and_intros
      all_goals first
        | (with_reducible exact wk_int hw)
        | exact wk_litE e1
        | exact wk_lb (by rw [hn, hb, Bool.true_or])
        | exact wk_lb (by rw [hn, hb, Bool.false_or]; unfold isWild; rw [hb2]; rfl)
        | exact wk_bvE (by rw [hn, hb, Bool.false_or]; unfold isWild; rw [hb2]; rfl)
        | (with_reducible exact trivial)
        | (with_reducible exact rfl)
        | (with_reducible exact Wk.refl _)
        | (with_reducible exact VW.refl _)
        | (with_reducible exact OW.refl _)
        | (with_reducible exact wk_lit _)
        | (with_reducible assumption)
        | exact rfl
        | exact Wk.refl _
        | exact VW.refl _
        | exact OW.refl _
        | ((repeat (first | exact VW.nil | refine VW.cons (Wk.refl _) ?_ | refine VW.cons (Wk.any _) ?_ | refine VW.cons (wk_cap (Nat.le_refl _)) ?_)); done)
  · have hje : j = L.length := by omega
    subst hje
    have ht : L.take L.length = L := List.take_length
    simp only [ht]
    refine ⟨[], hTE 5, [], fun _ _ => noC, fun _ _ => noL, fun F => ?_⟩
    refine cast (congrArg (VAll _) (oWaE_eq p k L L.length (L.any isWild) F).symm) ⟨⟨?_, rfl, .inr ⟨rfl, [], by kernel_rfl, by kernel_rfl, ⟨Wk.refl _, Wk.refl _, Wk.refl _, trivial⟩, trivial⟩⟩⟩
    simp only [Cnd.holds, and_true]
    exact wk_litE ltFC
theorem t2_loop (p k : ByteArray) (L : List ByteArray) (hL : L.length ≤ 1200000) :
    LTri Tryd.prog default (loopN fTW 13) (tms 0 67 (aT2 p k L.length 0 false)) [(1000, rS L)] (.exit 2) (tms 0 67 [(0, sv p), (1, sv k), (8, bv (L.any isHash))]) [] := by
  refine ltri_run (W := default) (g := fTW) (b := loopN fTW 13) (σ := {j : Nat // j ≤ L.length}) 67 (fun j => aT2 p k L.length j.1 ((L.take j.1).any isHash)) (fun j => [(1000, rS L)]) (.exit 2) _ [] (fun j => L.length - j.1) [1000] [0, 1, 8, 39, 40, 41] (by intro h; cases h) (fun _ => rfl) rfl ?_ ⟨0, Nat.zero_le _⟩
  rintro ⟨j, hj⟩
  simp only
  by_cases h1 : j < L.length
  · have hw := wrap_succ j (by omega)
    have e1 : decide (Int.ofNat j < (L.length : Int)) = true := ltTC h1
    have g0 := rS_get L j h1
    have g1 := rS_lt L j h1
    have hn := any_next isHash L j h1
    generalize hwd : L.getD j nil0 = w at g0 hn
    refine ⟨[], hWb w j ((L.take (j + 1)).any isHash), [], fun _ _ => noC, fun _ _ => noL, fun F => ?_⟩
    refine cast (congrArg (VAll _) (oWb_eq p k w L L.length j ((L.take j).any isHash) ((L.take (j + 1)).any isHash) F).symm) ?_
    have c2 : (w.toList == [(ByteArray.mk (Array.mk [35])).get! 0]) = decide (w = hash) := bl_one w 35
    refine VAll.ite (fun hb => ?_) fun hb => ?_
    all_goals
      refine ⟨⟨?_, rfl, .inl ⟨rfl, ⟨j + 1, h1⟩, sub_down h1, [(1000, 1000)], by kernel_rfl, by kernel_rfl, ⟨Wk.refl _, Wk.refl _, Wk.refl _, Wk.refl _, Wk.refl _, Wk.refl _, trivial⟩, ⟨_, rfl, rS_ow rfl rfl⟩, trivial⟩⟩⟩
    all_goals
      simp only [Cnd.holds, e1, g0, g1, h1, AV.strOf, sv, Nat.blt_eq, true_and, and_true]
      and_intros
      all_goals first
        | (with_reducible exact wk_int hw)
        | exact wk_litE e1
        | exact wk_lb (by rw [hn, hb, Bool.true_or])
        | exact wk_bvE (by rw [hn, hb, Bool.false_or]; exact c2)
        | (with_reducible exact trivial)
        | (with_reducible exact rfl)
        | (with_reducible exact Wk.refl _)
        | (with_reducible exact VW.refl _)
        | (with_reducible exact OW.refl _)
        | (with_reducible exact wk_lit _)
        | (with_reducible assumption)
        | exact rfl
        | exact Wk.refl _
        | exact VW.refl _
        | exact OW.refl _
        | ((repeat (first | exact VW.nil | refine VW.cons (Wk.refl _) ?_ | refine VW.cons (Wk.any _) ?_ | refine VW.cons (wk_cap (Nat.le_refl _)) ?_)); done)
  · have hje : j = L.length := by omega
    subst hje
    have ht : L.take L.length = L := List.take_length
    simp only [ht]
    refine ⟨[], hTE 13, [], fun _ _ => noC, fun _ _ => noL, fun F => ?_⟩
    refine cast (congrArg (VAll _) (oWbE_eq p k L L.length (L.any isHash) F).symm) ⟨⟨?_, rfl, .inr ⟨rfl, [], by kernel_rfl, by kernel_rfl, ⟨Wk.refl _, Wk.refl _, Wk.refl _, trivial⟩, trivial⟩⟩⟩
    simp only [Cnd.holds, and_true]
    exact wk_litE ltFC
theorem gT1_ro : ∀ args, RO (gT1 args) := by
  intro args
  unfold gT1
  split
  · exact RO.ret _
  · exact RO.fail _
theorem gT2_ro : ∀ args, RO (gT2 args) := by
  intro args
  unfold gT2
  split
  · exact RO.ret _
  · exact RO.fail _
theorem lT1_ok (p k : ByteArray) (L : List ByteArray) (hL : L.length ≤ 1200000) (F : HP) : L1OK Tryd.prog F (loopN fTW 5) (lT1 p k L L.length (L.any isWild)) :=
  mkL_ok (W := default) oldDef gT1_ro (fun _ _ => t1_loop p k L hL) fun _ => by
    simp only [RT.pick]
    exact closedT rfl rfl (all_cons trivial (all_cons trivial (all_cons trivial (all_cons rfl (all_cons trivial (all_cons trivial all_nil)))))) (all_cons (rS_cl _ _) all_nil) (all_cons trivial (all_cons trivial (all_cons trivial all_nil))) all_nil
theorem lT2_ok (p k : ByteArray) (L : List ByteArray) (hL : L.length ≤ 1200000) (F : HP) : L1OK Tryd.prog F (loopN fTW 13) (lT2 p k L L.length (L.any isHash)) :=
  mkL_ok (W := default) oldDef gT2_ro (fun _ _ => t2_loop p k L hL) fun _ => by
    simp only [RT.pick]
    exact closedT rfl rfl (all_cons trivial (all_cons trivial (all_cons trivial (all_cons rfl (all_cons trivial (all_cons trivial all_nil)))))) (all_cons (rS_cl _ _) all_nil) (all_cons trivial (all_cons trivial (all_cons trivial all_nil))) all_nil
theorem mt_self : ∀ p : Path, mt p p = true
  | [] => by rw [mt]; rfl
  | x :: p => by
    rw [mt]
    by_cases h : x = hash
    · rw [if_pos h]
      subst h
      rw [mt_more (mt_self p)]; simp
    · rw [if_neg h, mt_self p]; simp
theorem mt_length : ∀ p k : Path, p.any isHash = false → mt p k = true → p.length = k.length
  | [], [], _, _ => rfl
  | [], y :: k, _, h => by rw [mt] at h; cases h
  | x :: p, [], h1, h => by
    rw [mt] at h
    simp only [List.any_cons, Bool.or_eq_false_iff, isHash] at h1
    rw [h1.1] at h; cases h
  | x :: p, y :: k, h1, h => by
    simp only [List.any_cons, Bool.or_eq_false_iff, isHash] at h1
    rw [mt, if_neg (of_decide_eq_false h1.1), Bool.and_eq_true] at h
    rw [List.length_cons, List.length_cons, mt_length p k h1.2 h.2]
theorem TW_tri (p k : ByteArray) (hp : p.size ≤ 1090000) (hk : k.size ≤ 1090000) : Tri Tryd.prog default fTW [sv p, sv k] [] (bv true) [] := by
  have h1 := dots_le hp
  have h2 := dots_le hk
  have hself : mtB k k = true := mt_self _
  have hlen : (dots p).any isHash = false → mtB p k = true → (dots p).length = (dots k).length := fun ha hb => by
    have := mt_length (dots p).reverse (dots k).reverse (by rw [List.any_reverse]; exact ha) hb
    rwa [List.length_reverse, List.length_reverse] at this
  refine tri_run (con := [(fSpeaks, cSpk), (fMatches, cMs), (fRW, cRWd)]) (hints := hTW) (lc := [(fTW, 5, loopN fTW 5, lT1 p k (dots k) (dots k).length ((dots k).any isWild)), (fTW, 13, loopN fTW 13, lT2 p k (dots p) (dots p).length ((dots p).any isHash))]) [] rfl (fun F _ => con_cons (cSpk_ok F) (con_cons (cMs_ok (fun p k hp hk => Matches_tri p k hp hk) F) (one_c (cRWd_ok F)))) (fun F _ => lc_cons (lT1_ok _ _ _ (by omega) F) (one_l (lT2_ok _ _ _ (by omega) F))) fun F => ?_
  refine cast (congrArg (VAll _) (oTW_eq p k ((dots k).any isWild) ((dots p).any isHash) F).symm) ?_
  refine VAll.ite (fun hb => VAll.ite (fun hb2 => ?_) fun hb2 => VAll.ite (fun hb3 => ?_) fun hb3 => ?_) fun hb => VAll.ite (fun hb2 => ?_) fun hb2 => VAll.ite (fun hb3 => ?_) fun hb3 => ?_
  all_goals
    refine ⟨⟨?_, (fit_mk (vs' := [bv true]) (H' := []) [] rfl rfl (VW.refl _) trivial).fits rfl⟩⟩
    simp only [Cnd.holds, rens_rowV, hp, hk, Nat.blt_eq, true_and, and_true]
    and_intros
    all_goals first
      | omega
      | exact wk_litE (by rw [hself]; rfl)
      | exact wk_lb rfl
      | exact wk_bvE hb3
      | exact wk_bvE (by rw [hlen hb2 (by simpa using hb3)]; exact beq_self_eq_true _)
      | (with_reducible exact trivial)
      | (with_reducible exact rfl)
      | (with_reducible exact Wk.refl _)
      | (with_reducible exact VW.refl _)
      | (with_reducible exact OW.refl _)
      | (with_reducible exact wk_lit _)
      | (with_reducible assumption)
      | exact rfl
      | exact Wk.refl _
      | exact VW.refl _
      | exact OW.refl _
      | ((repeat (first | exact VW.nil | refine VW.cons (Wk.refl _) ?_ | refine VW.cons (Wk.any _) ?_ | refine VW.cons (wk_cap (Nat.le_refl _)) ?_)); done)
end Go.Proofs.YtbmoancedlbhlaaDoor.Tpc

/- Topic: SameTexts. -/
set_option linter.unusedVariables false
set_option linter.unusedSimpArgs false
set_option maxRecDepth 100000
namespace Go.Proofs.YtbmoancedlbhlaaDoor.Tpc
open Go Go.RowKit Go.Proofs.YtbmoancedlbhlaaDoor.Eng Go.Proofs.YtbmoancedlbhlaaDoor.Kit
noncomputable section
abbrev fST : Nat := 16
def aST (n i : Nat) : List (Nat × AV) := [(0, sB 0 n), (1, sB 1 n), (5, iv (Int.ofNat i))]
def oST (L : List ByteArray) : LH := [(0, rS L), (1, rS L)]
def hST (x : ByteArray) (i : Nat) : ClaimT := hintL [(fST, 4, 3, hv (.lit true)), (fST, 6, 3, hv (sv x)), (fST, 6, 7, hv (sv x)), (fST, 6, 8, hv (.lit false)), (fST, 5, 1, hv (iv (Int.ofNat (i + 1))))]
def hSE : ClaimT := hintL [(fST, 4, 3, hv (.lit false))]
theorem oStR_eq (L : List ByteArray) (x : ByteArray) (n i : Nat) (F : HP) : wLoop [] (hST x i) [] default fST (loopN fST 4) (tms 0 26 (aST n i)) (oST L) [0, 1] [0, 1, 5] F = VT.leaf (AX.normal, [AV.slice 0 0 n 1 (Cp.lo n), AV.slice 1 0 n 1 (Cp.lo n), AV.v (Value.int IntKind.i64 (Int.ofNat (i + 1)))], 26) [some (AO.cells (rowV encS L) 18), some (AO.cells (rowV encS L) 18)] 1100 (((Cnd.p (Wk (AV.v (Value.bool (decide (Int.ofNat i < ↑n)))) (AV.lit true))).a Cnd.t).a (((Cnd.p (i.blt n = true)).a Cnd.t).a (((Cnd.p ((0 + i * 1).blt (rowV encS L).length = true)).a ((Cnd.p ((rowV encS L).getD (0 + i * 1) (AV.v (Value.tuple (Array.mk []))) = AV.v (Value.string ((rowV encS L).getD (0 + i * 1) (AV.v (Value.tuple (Array.mk [])))).strOf))).a ((Cnd.p (Wk (AV.v (Value.string ((rowV encS L).getD (0 + i * 1) (AV.v (Value.tuple (Array.mk [])))).strOf)) (AV.v (Value.string x)))).a Cnd.t))).a (((Cnd.p (i.blt n = true)).a Cnd.t).a (((Cnd.p ((0 + i * 1).blt (rowV encS L).length = true)).a ((Cnd.p ((rowV encS L).getD (0 + i * 1) (AV.v (Value.tuple (Array.mk []))) = AV.v (Value.string ((rowV encS L).getD (0 + i * 1) (AV.v (Value.tuple (Array.mk [])))).strOf))).a ((Cnd.p (Wk (AV.v (Value.string ((rowV encS L).getD (0 + i * 1) (AV.v (Value.tuple (Array.mk [])))).strOf)) (AV.v (Value.string x)))).a Cnd.t))).a (((Cnd.p (Wk (AV.v (Value.bool !x.toList == x.toList)) (AV.lit false))).a Cnd.t).a (((Cnd.p (Wk (AV.v (Value.int IntKind.i64 (IntKind.i64.wrap (Int.ofNat i + Int.ofNat 1)))) (AV.v (Value.int IntKind.i64 (Int.ofNat (i + 1)))))).a Cnd.t).a Cnd.t))))))) := by kernel_rfl
theorem oStE_eq (L : List ByteArray) (n : Nat) (F : HP) : wLoop [] hSE [] default fST (loopN fST 4) (tms 0 26 (aST n n)) (oST L) [0, 1] [0, 1, 5] F = VT.leaf (AX.exit 0, [AV.slice 0 0 n 1 (Cp.lo n), AV.slice 1 0 n 1 (Cp.lo n), AV.v (Value.int IntKind.i64 (Int.ofNat n))], 26) [some (AO.cells (rowV encS L) 18), some (AO.cells (rowV encS L) 18)] 1100 (((Cnd.p (Wk (AV.v (Value.bool (decide (Int.ofNat n < ↑n)))) (AV.lit false))).a Cnd.t).a Cnd.t) := by kernel_rfl
def lST (L : List ByteArray) (n : Nat) : List AV → AP (AX × List AV) := mkL (fun _ => .ret ()) (fun _ => True) (fun _ k => k) (fun _ => tms 0 26 (aST n 0)) (fun _ => oST L) (fun _ => .leaf (.exit 0) (tms 0 26 []) (oST L))
theorem oSt_eq (L : List ByteArray) (n : Nat) (F : HP) : wRun [] (hintL [(fST, 1, 4, hv (.lit false))]) [(fST, 4, loopN fST 4, lST L n)] default fST [sB 0 n, sB 1 n] (oST L) [0, 1] F = VT.leaf (AV.v (Value.bool true)) [some (AO.cells (AV.rens (sgN (fun k => k) [] 0) (rowV encS L)) 18), some (AO.cells (AV.rens (sgN (fun k => k) [] 0) (rowV encS L)) 18)] 1100 (((Cnd.p (Wk (AV.v (Value.bool ((↑n : Int) != ↑n))) (AV.lit false))).a Cnd.t).a ((Cnd.p ((fST, 4, loopN fST 4, lST L n).snd.snd.fst = (fST, 4, loopN fST 4, lST L n).snd.snd.fst)).a ((Cnd.p True).a ((Cnd.p (VW [AV.slice 0 0 n 1 (Cp.lo n), AV.slice 1 0 n 1 (Cp.lo n), AV.v (Value.tuple (Array.mk [])), AV.v (Value.tuple (Array.mk [])), AV.v (Value.bool false), AV.v (Value.int IntKind.i64 (Int.ofNat 0)), AV.slice 0 0 n 1 (Cp.lo n), AV.v (Value.int IntKind.i64 ↑n), AV.slice 1 0 n 1 (Cp.lo n), AV.v (Value.int IntKind.i64 ↑n), AV.lit false, AV.v (Value.tuple (Array.mk [])), AV.v (Value.tuple (Array.mk [])), AV.v (Value.tuple (Array.mk [])), AV.v (Value.tuple (Array.mk [])), AV.v (Value.tuple (Array.mk [])), AV.v (Value.tuple (Array.mk [])), AV.v (Value.tuple (Array.mk [])), AV.v (Value.tuple (Array.mk [])), AV.v (Value.tuple (Array.mk [])), AV.v (Value.tuple (Array.mk [])), AV.v (Value.tuple (Array.mk [])), AV.v (Value.tuple (Array.mk [])), AV.v (Value.tuple (Array.mk [])), AV.v (Value.tuple (Array.mk [])), AV.v (Value.tuple (Array.mk []))] [AV.slice 0 0 n 1 (Cp.lo n), AV.slice 1 0 n 1 (Cp.lo n), AV.any, AV.any, AV.any, AV.v (Value.int IntKind.i64 (Int.ofNat 0)), AV.any, AV.any, AV.any, AV.any, AV.any, AV.any, AV.any, AV.any, AV.any, AV.any, AV.any, AV.any, AV.any, AV.any, AV.any, AV.any, AV.any, AV.any, AV.any, AV.any])).a ((Cnd.p (OW (AO.cells (rowV encS L) 18) (AO.cells (AV.rens (fun k => k) (rowV encS L)) 18))).a ((Cnd.p (OW (AO.cells (rowV encS L) 18) (AO.cells (AV.rens (fun k => k) (rowV encS L)) 18))).a Cnd.t)))))) := by kernel_rfl
def gST : List AV → AP (Nat × Nat × Nat × List ByteArray) := fun args => match args with
  | .slice a _ n _ _ :: .slice b _ _ _ _ :: _ => .ret (a, b, n, [])
  | _ => .fail "same texts"
def nmST (a b : Nat) : Nat → Nat := fun k => match Nat.beq k 0 with
  | true => a
  | false => b
def cST (L : List ByteArray) : List AV → Option (AP AV) := mkC gST (fun q => q.2.2.1 = L.length ∧ L.length ≤ 9000000) (fun q => nmST q.1 q.2.1) (fun q => [sB 0 q.2.2.1, sB 1 q.2.2.1]) (fun q => oST L) (fun q => .leaf .ret [bv true] (oST L))
end
theorem st_loop (L : List ByteArray) (hL : L.length ≤ 9000000) :
    LTri Tryd.prog default (loopN fST 4) (tms 0 26 (aST L.length 0)) (oST L) (.exit 0) (tms 0 26 []) (oST L) := by
  refine ltri_run (W := default) (g := fST) (b := loopN fST 4) (σ := {j : Nat // j ≤ L.length}) 26 (fun j => aST L.length j.1) (fun j => oST L) (.exit 0) [] (oST L) (fun j => L.length - j.1) [0, 1] [0, 1, 5] (by intro h; cases h) (fun _ => rfl) rfl ?_ ⟨0, Nat.zero_le _⟩
  rintro ⟨j, hj⟩
  simp only
  by_cases h1 : j < L.length
  · have hw := wrap_succ j (by omega)
    have e1 : decide (Int.ofNat j < (L.length : Int)) = true := ltTC h1
    have g0 := rS_get L j h1
    have g1 := rS_lt L j h1
    generalize L.getD j nil0 = w at g0
    have c1 : (!(w.toList == w.toList)) = false := by rw [beq_self_eq_true]; rfl
    refine ⟨[], hST w j, [], fun _ _ => noC, fun _ _ => noL, fun F => ?_⟩
    refine cast (congrArg (VAll _) (oStR_eq L w L.length j F).symm) ⟨⟨?_, rfl, .inl ⟨rfl, ⟨j + 1, h1⟩, sub_down h1, [], by kernel_rfl, by kernel_rfl, ⟨Wk.refl _, Wk.refl _, Wk.refl _, trivial⟩, ⟨_, rfl, rS_ow rfl rfl⟩, ⟨_, rfl, rS_ow rfl rfl⟩, trivial⟩⟩⟩
    simp only [Cnd.holds, e1, g0, g1, h1, AV.strOf, sv, Nat.blt_eq, true_and, and_true]
    and_intros
    all_goals first
      | (with_reducible exact wk_int hw)
      | exact wk_litE e1
      | exact wk_litE c1
      | (with_reducible exact trivial)
      | (with_reducible exact rfl)
      | (with_reducible exact Wk.refl _)
      | (with_reducible exact VW.refl _)
      | (with_reducible exact OW.refl _)
      | (with_reducible exact wk_lit _)
      | (with_reducible assumption)
      | exact rfl
      | exact Wk.refl _
      | exact VW.refl _
      | exact OW.refl _
      | ((repeat (first | exact VW.nil | refine VW.cons (Wk.refl _) ?_ | refine VW.cons (Wk.any _) ?_ | refine VW.cons (wk_cap (Nat.le_refl _)) ?_)); done)
  · have hje : j = L.length := by omega
    subst hje
    refine ⟨[], hSE, [], fun _ _ => noC, fun _ _ => noL, fun F => ?_⟩
    refine cast (congrArg (VAll _) (oStE_eq L L.length F).symm) ⟨⟨?_, rfl, .inr ⟨rfl, [], by kernel_rfl, by kernel_rfl, trivial, ⟨_, rfl, rS_ow rfl rfl⟩, ⟨_, rfl, rS_ow rfl rfl⟩, trivial⟩⟩⟩
    simp only [Cnd.holds, and_true]
    exact wk_litE ltFC
theorem lST_ok (L : List ByteArray) (hL : L.length ≤ 9000000) (F : HP) : L1OK Tryd.prog F (loopN fST 4) (lST L L.length) :=
  mkL_ok (W := default) oldDef (fun _ => RO.ret _) (fun _ _ => st_loop L hL) fun _ => by
    simp only [RT.pick]
    exact closedT rfl rfl (all_cons rfl (all_cons rfl (all_cons trivial all_nil))) (all_cons (rS_cl _ _) (all_cons (rS_cl _ _) all_nil)) all_nil (all_cons (rS_cl _ _) (all_cons (rS_cl _ _) all_nil))
theorem Same_tri (L : List ByteArray) (hL : L.length ≤ 9000000) : Tri Tryd.prog default fST [sB 0 L.length, sB 1 L.length] (oST L) (bv true) (oST L) := by
  refine tri_run (con := []) (hints := hintL [(fST, 1, 4, hv (.lit false))]) (lc := [(fST, 4, loopN fST 4, lST L L.length)]) [0, 1] rfl (fun F _ => noC) (fun F _ => one_l (lST_ok L hL F)) fun F => ?_
  refine cast (congrArg (VAll _) (oSt_eq L L.length F).symm) ⟨⟨?_, (fit_mk (vs' := [bv true]) (H' := oST L) [] rfl rfl (VW.refl _) ⟨⟨_, rfl, rS_ow (by simp only [rens_rowV]) rfl⟩, ⟨_, rfl, rS_ow (by simp only [rens_rowV]) rfl⟩, trivial⟩).fits rfl⟩⟩
  have c1 : (!(Int.ofNat L.length == Int.ofNat L.length)) = false := by rw [beq_self_eq_true]; rfl
  simp only [Cnd.holds, rens_rowV, Nat.blt_eq, true_and, and_true]
  and_intros
  all_goals first
    | exact wk_litE c1
    | (with_reducible exact trivial)
    | (with_reducible exact rfl)
    | (with_reducible exact Wk.refl _)
    | (with_reducible exact VW.refl _)
    | (with_reducible exact OW.refl _)
    | (with_reducible exact wk_lit _)
    | (with_reducible assumption)
    | exact rfl
    | exact Wk.refl _
    | exact VW.refl _
    | exact OW.refl _
    | ((repeat (first | exact VW.nil | refine VW.cons (Wk.refl _) ?_ | refine VW.cons (Wk.any _) ?_ | refine VW.cons (wk_cap (Nat.le_refl _)) ?_)); done)
theorem gST_ro : ∀ args, RO (gST args) := by
  intro args
  unfold gST
  split
  · exact RO.ret _
  · exact RO.fail _
theorem cST_ok (L : List ByteArray) (F : HP) : C1OK Tryd.prog F fST (cST L) :=
  mkC_ok (W := default) oldDef (fun _ => bv true) gST_ro (fun _ => rfl) (fun q hq => by
    obtain ⟨h1, h2⟩ := hq
    rw [h1]
    exact Same_tri L h2) fun q => ⟨rfl, rfl, ⟨rfl, rfl, trivial⟩, all_cons (rS_cl _ _) (all_cons (rS_cl _ _) all_nil), ⟨trivial, trivial⟩, all_cons (rS_cl _ _) (all_cons (rS_cl _ _) all_nil)⟩
end Go.Proofs.YtbmoancedlbhlaaDoor.Tpc

/- Topic: TopicOrder: runs. -/
set_option linter.unusedVariables false
set_option linter.unusedSimpArgs false
set_option maxRecDepth 100000
namespace Go.Proofs.YtbmoancedlbhlaaDoor.Tpc
open Go Go.RowKit Go.Proofs.YtbmoancedlbhlaaDoor.Eng Go.Proofs.YtbmoancedlbhlaaDoor.Kit
noncomputable section
abbrev fTO : Nat := 7
def gLn : List AV → AP (Nat × Pairs × Nat) := fun args => match args with
  | .ptr r _ :: _ => .read r fun o => match o with
    | .own (.trie L g) _ => .ret (r, L, g)
    | _ => .fail "len"
  | _ => .fail "len"
def cLn : List AV → Option (AP AV) := mkC gLn (fun _ => True) (fun q => nm0 q.1) (fun q => [.ptr 0 0]) (fun q => [(0, trO q.2.1 q.2.2)]) (fun q => .leaf .ret [iv (Int.ofNat q.2.1.length)] [(0, trO q.2.1 q.2.2)])
def aTO (V : AV) (key : ByteArray) (n i : Nat) : List (Nat × AV) := [(0, V), (1, sv key), (5, .ptr 1000 0), (6, .ptr 1001 0), (20, iv (Int.ofNat n)), (21, iv (Int.ofNat i))]
def oTO (L : Pairs) (g : Nat) (M : Pairs) (h : Nat) : LH := [(1000, trO L g), (1001, trO M h)]
def hTO (p q : ByteArray × ByteArray) (j i : Nat) : ClaimT := hintL [(fTO, 7, 0, hv (.lit true)), (fTO, 9, 5, hv (sv p.1)), (fTO, 9, 10, hv (sv p.2)), (fTO, 10, 4, hv (iv (Int.ofNat j))), (fTO, 11, 5, hv (sv q.1)), (fTO, 11, 10, hv (sv q.2)), (fTO, 12, 0, hv (iv (Int.ofNat (i + 1))))]
def hTOE : ClaimT := hintL [(fTO, 7, 0, hv (.lit false))]
theorem oToR_eq (W : World) (a : Addr) (c : Nat) (key : ByteArray) (p q : ByteArray × ByteArray) (n i j : Nat) (L : Pairs) (g : Nat) (M : Pairs) (h : Nat) (F : HP) : wLoop [(fAdd, cAdd)] (hTO p q j i) [] W fTO (loopN fTO 7) (tms 0 68 (aTO (slV (some a) n c) key n i)) (oTO L g M h) [1000, 1001] [0, 1, 5, 6, 20, 21] F = VT.leaf (AX.normal, [AV.v (Value.slice (some a) n c), AV.v (Value.string key), AV.ptr 1000 0, AV.ptr 1001 0, AV.v (Value.int IntKind.i64 (Int.ofNat n)), AV.v (Value.int IntKind.i64 (Int.ofNat (i + 1)))], 68) [some (AO.own (Md.trie (addL L p.fst p.snd) (g + (dots p.fst).length + 1)) (trHP (addL L p.fst p.snd) (g + (dots p.fst).length + 1))), some (AO.own (Md.trie (addL M q.fst q.snd) (h + (dots q.fst).length + 1)) (trHP (addL M q.fst q.snd) (h + (dots q.fst).length + 1)))] 1100 (((Cnd.p (Wk (AV.v (Value.bool (decide (Int.ofNat i < Int.ofNat n)))) (AV.lit true))).a Cnd.t).a (((Cnd.p (i.blt n = true)).a Cnd.t).a (((Cnd.p ((W.cell? ((a.add (i * 2)).add 0)).isSome = true)).a ((Cnd.p (AV.v ((W.cell? ((a.add (i * 2)).add 0)).getD (Value.tuple (Array.mk []))) = AV.v (Value.string (AV.v ((W.cell? ((a.add (i * 2)).add 0)).getD (Value.tuple (Array.mk [])))).strOf))).a ((Cnd.p (Wk (AV.v (Value.string (AV.v ((W.cell? ((a.add (i * 2)).add 0)).getD (Value.tuple (Array.mk [])))).strOf)) (AV.v (Value.string p.fst)))).a Cnd.t))).a (((Cnd.p (i.blt n = true)).a Cnd.t).a (((Cnd.p ((W.cell? (Addr.mk (a.add (i * 2)).block ((a.add (i * 2)).off + 1) none)).isSome = true)).a ((Cnd.p (AV.v ((W.cell? (Addr.mk (a.add (i * 2)).block ((a.add (i * 2)).off + 1) none)).getD (Value.tuple (Array.mk []))) = AV.v (Value.string (AV.v ((W.cell? (Addr.mk (a.add (i * 2)).block ((a.add (i * 2)).off + 1) none)).getD (Value.tuple (Array.mk [])))).strOf))).a ((Cnd.p (Wk (AV.v (Value.string (AV.v ((W.cell? (Addr.mk (a.add (i * 2)).block ((a.add (i * 2)).off + 1) none)).getD (Value.tuple (Array.mk [])))).strOf)) (AV.v (Value.string p.snd)))).a Cnd.t))).a (((Cnd.p (p.fst.size ≤ 1100000 ∧ p.snd.size ≤ 1099511627776 ∧ List.length L ≤ 4611686018427387904)).a ((Cnd.p (VW [AV.ptr 1000 0, AV.v (Value.string p.fst), AV.v (Value.string p.snd)] [AV.ptr 1000 0, AV.v (Value.string p.fst), AV.v (Value.string p.snd)])).a ((Cnd.p (OW (AO.own (Md.trie L g) (trHP L g)) (AO.own (Md.trie L g) (trHP L g)))).a Cnd.t))).a (((Cnd.p (Wk (AV.v (Value.int IntKind.i64 (IntKind.i64.wrap (IntKind.i64.wrap (↑n - Int.ofNat 1) - Int.ofNat i)))) (AV.v (Value.int IntKind.i64 (Int.ofNat j))))).a Cnd.t).a (((Cnd.p (j.blt n = true)).a Cnd.t).a (((Cnd.p ((W.cell? ((a.add (j * 2)).add 0)).isSome = true)).a ((Cnd.p (AV.v ((W.cell? ((a.add (j * 2)).add 0)).getD (Value.tuple (Array.mk []))) = AV.v (Value.string (AV.v ((W.cell? ((a.add (j * 2)).add 0)).getD (Value.tuple (Array.mk [])))).strOf))).a ((Cnd.p (Wk (AV.v (Value.string (AV.v ((W.cell? ((a.add (j * 2)).add 0)).getD (Value.tuple (Array.mk [])))).strOf)) (AV.v (Value.string q.fst)))).a Cnd.t))).a (((Cnd.p (j.blt n = true)).a Cnd.t).a (((Cnd.p ((W.cell? (Addr.mk (a.add (j * 2)).block ((a.add (j * 2)).off + 1) none)).isSome = true)).a ((Cnd.p (AV.v ((W.cell? (Addr.mk (a.add (j * 2)).block ((a.add (j * 2)).off + 1) none)).getD (Value.tuple (Array.mk []))) = AV.v (Value.string (AV.v ((W.cell? (Addr.mk (a.add (j * 2)).block ((a.add (j * 2)).off + 1) none)).getD (Value.tuple (Array.mk [])))).strOf))).a ((Cnd.p (Wk (AV.v (Value.string (AV.v ((W.cell? (Addr.mk (a.add (j * 2)).block ((a.add (j * 2)).off + 1) none)).getD (Value.tuple (Array.mk [])))).strOf)) (AV.v (Value.string q.snd)))).a Cnd.t))).a (((Cnd.p (q.fst.size ≤ 1100000 ∧ q.snd.size ≤ 1099511627776 ∧ List.length M ≤ 4611686018427387904)).a ((Cnd.p (VW [AV.ptr 1001 0, AV.v (Value.string q.fst), AV.v (Value.string q.snd)] [AV.ptr 1001 0, AV.v (Value.string q.fst), AV.v (Value.string q.snd)])).a ((Cnd.p (OW (AO.own (Md.trie M h) (trHP M h)) (AO.own (Md.trie M h) (trHP M h)))).a Cnd.t))).a (((Cnd.p (Wk (AV.v (Value.int IntKind.i64 (IntKind.i64.wrap (Int.ofNat i + Int.ofNat 1)))) (AV.v (Value.int IntKind.i64 (Int.ofNat (i + 1)))))).a Cnd.t).a Cnd.t))))))))))))) := by kernel_rfl
theorem oToE_eq (W : World) (oa : Option Addr) (c : Nat) (key : ByteArray) (n : Nat) (L : Pairs) (g : Nat) (M : Pairs) (h : Nat) (F : HP) : wLoop [] hTOE [] W fTO (loopN fTO 7) (tms 0 68 (aTO (slV oa n c) key n n)) (oTO L g M h) [1000, 1001] [0, 1, 5, 6, 20, 21] F = VT.leaf (AX.exit 0, [AV.v (Value.slice oa n c), AV.v (Value.string key), AV.ptr 1000 0, AV.ptr 1001 0, AV.v (Value.int IntKind.i64 (Int.ofNat n)), AV.v (Value.int IntKind.i64 (Int.ofNat n))], 68) [some (AO.own (Md.trie L g) (trHP L g)), some (AO.own (Md.trie M h) (trHP M h))] 1100 (((Cnd.p (Wk (AV.v (Value.bool (decide (Int.ofNat n < Int.ofNat n)))) (AV.lit false))).a Cnd.t).a Cnd.t) := by kernel_rfl
def gTO : List AV → AP (Nat × Nat) := fun tmps => match getL tmps 5 with
  | .ptr a _ => match getL tmps 6 with
    | .ptr b _ => .ret (a, b)
    | _ => .fail "order"
  | _ => .fail "order"
def nmTO (a b : Nat) : Nat → Nat := fun k => match Nat.beq k 1000 with
  | true => a
  | false => b
def zTO (key : ByteArray) : List (Nat × AV) := [(1, sv key), (5, .ptr 1000 0), (6, .ptr 1001 0)]
def lTO (V : AV) (key : ByteArray) (n : Nat) (L : Pairs) (g : Nat) (M : Pairs) (h : Nat) : List AV → AP (AX × List AV) := mkL gTO (fun _ => True) (fun q => nmTO q.1 q.2) (fun _ => tms 0 68 (aTO V key n 0)) (fun _ => oTO [] 1 [] 1) (fun _ => .leaf (.exit 0) (tms 0 68 (zTO key)) (oTO L g M h))
def hTOF : ClaimT := hintL [(fTO, 1, 1, hv (.lit false)), (fTO, 4, 2, hv (.lit false)), (fTO, 4, 5, hv (.lit false)), (fTO, 13, 7, hv (.lit true)), (fTO, 13, 14, hv (bv true)), (fST, 1, 4, hv (.lit false)), (fST, 4, 3, hv (.lit false))]
theorem oToZ_eq (W : World) (oa : Option Addr) (n c : Nat) (key : ByteArray) (L : Pairs) (g : Nat) (M : Pairs) (h : Nat) (F : HP) : wRun [(fSpeaks, cSpk), (fNew, cNew), (fMatch, cMatZ), (fLen, cLn)] hTOF [(fTO, 7, loopN fTO 7, lTO (slV oa n c) key n L g M h)] W fTO [slV oa n c, sv key] [] [] F = VT.leaf (AV.v (Value.bool true)) [] 1104 (((Cnd.p True).a ((Cnd.p (VW [] [])).a Cnd.t)).a (((Cnd.p (Wk (AV.v (Value.bool false)) (AV.lit false))).a Cnd.t).a (((Cnd.p True).a ((Cnd.p (VW [] [])).a Cnd.t)).a (((Cnd.p True).a ((Cnd.p (VW [] [])).a Cnd.t)).a (((Cnd.p (Wk (AV.v (Value.bool false)) (AV.lit false))).a Cnd.t).a (((Cnd.p (Wk (AV.v (Value.bool false)) (AV.lit false))).a Cnd.t).a ((Cnd.p ((fTO, 7, loopN fTO 7, lTO (slV oa n c) key n L g M h).snd.snd.fst = (fTO, 7, loopN fTO 7, lTO (slV oa n c) key n L g M h).snd.snd.fst)).a ((Cnd.p True).a ((Cnd.p (VW [AV.v (Value.slice oa n c), AV.v (Value.string key), AV.undef, AV.undef, AV.v (Value.bool false), AV.ptr 1100 0, AV.ptr 1101 0, AV.undef, AV.undef, AV.v (Value.bool true), AV.lit false, AV.ptr 1100 0, AV.ptr 1101 0, AV.ptr 1100 0, AV.v (Value.bool false), AV.lit false, AV.ptr 1101 0, AV.v (Value.bool false), AV.lit false, AV.v (Value.slice oa n c), AV.v (Value.int IntKind.i64 ↑n), AV.v (Value.int IntKind.i64 (Int.ofNat 0)), AV.undef, AV.undef, AV.undef, AV.undef, AV.undef, AV.undef, AV.undef, AV.undef, AV.undef, AV.undef, AV.undef, AV.undef, AV.undef, AV.undef, AV.undef, AV.undef, AV.undef, AV.undef, AV.undef, AV.undef, AV.undef, AV.undef, AV.undef, AV.undef, AV.undef, AV.undef, AV.undef, AV.undef, AV.undef, AV.undef, AV.undef, AV.undef, AV.undef, AV.undef, AV.undef, AV.undef, AV.undef, AV.undef, AV.undef, AV.undef, AV.undef, AV.undef, AV.undef, AV.undef, AV.undef, AV.undef] [AV.v (Value.slice oa n c), AV.v (Value.string key), AV.any, AV.any, AV.any, AV.ptr 1100 0, AV.ptr 1101 0, AV.any, AV.any, AV.any, AV.any, AV.any, AV.any, AV.any, AV.any, AV.any, AV.any, AV.any, AV.any, AV.any, AV.v (Value.int IntKind.i64 (Int.ofNat n)), AV.v (Value.int IntKind.i64 (Int.ofNat 0)), AV.any, AV.any, AV.any, AV.any, AV.any, AV.any, AV.any, AV.any, AV.any, AV.any, AV.any, AV.any, AV.any, AV.any, AV.any, AV.any, AV.any, AV.any, AV.any, AV.any, AV.any, AV.any, AV.any, AV.any, AV.any, AV.any, AV.any, AV.any, AV.any, AV.any, AV.any, AV.any, AV.any, AV.any, AV.any, AV.any, AV.any, AV.any, AV.any, AV.any, AV.any, AV.any, AV.any, AV.any, AV.any, AV.any])).a ((Cnd.p (OW (AO.own (Md.trie [] 1) (trHP [] 1)) (AO.own (Md.trie [] 1) (trHP [] 1)))).a ((Cnd.p (OW (AO.own (Md.trie [] 1) (trHP [] 1)) (AO.own (Md.trie [] 1) (trHP [] 1)))).a (((Cnd.p (g ≤ 1500000 ∧ key.size ≤ 1100000 ∧ matchA L key = [])).a ((Cnd.p (VW [AV.ptr 1102 0, AV.v (Value.string key)] [AV.ptr 1102 0, AV.v (Value.string key)])).a ((Cnd.p (OW (AO.own (Md.trie L g) (trHP L g)) (AO.own (Md.trie L g) (trHP L g)))).a Cnd.t))).a (((Cnd.p (h ≤ 1500000 ∧ key.size ≤ 1100000 ∧ matchA M key = [])).a ((Cnd.p (VW [AV.ptr 1103 0, AV.v (Value.string key)] [AV.ptr 1103 0, AV.v (Value.string key)])).a ((Cnd.p (OW (AO.own (Md.trie M h) (trHP M h)) (AO.own (Md.trie M h) (trHP M h)))).a Cnd.t))).a ((((Cnd.p (Wk (AV.v (Value.bool false)) (AV.lit false))).a Cnd.t).a (((Cnd.p (Wk (AV.v (Value.bool false)) (AV.lit false))).a Cnd.t).a Cnd.t)).a (((Cnd.p (Wk (AV.v (Value.bool true)) (AV.lit true))).a Cnd.t).a (((Cnd.p True).a ((Cnd.p (VW [AV.ptr 1102 0] [AV.ptr 1102 0])).a ((Cnd.p (OW (AO.own (Md.trie L g) (trHP L g)) (AO.own (Md.trie L g) (trHP L g)))).a Cnd.t))).a (((Cnd.p True).a ((Cnd.p (VW [AV.ptr 1103 0] [AV.ptr 1103 0])).a ((Cnd.p (OW (AO.own (Md.trie M h) (trHP M h)) (AO.own (Md.trie M h) (trHP M h)))).a Cnd.t))).a (((Cnd.p (Wk (AV.v (Value.bool (Int.ofNat (List.length L) == Int.ofNat (List.length M)))) (AV.v (Value.bool true)))).a Cnd.t).a Cnd.t)))))))))))))))))) := by kernel_rfl
theorem oToN_eq (W : World) (oa : Option Addr) (n c : Nat) (key : ByteArray) (L : Pairs) (g : Nat) (M : Pairs) (h : Nat) (l : List ByteArray) (F : HP) : wRun [(fSpeaks, cSpk), (fNew, cNew), (fMatch, cMatR l l.length), (fLen, cLn), (fST, cST l)] hTOF [(fTO, 7, loopN fTO 7, lTO (slV oa n c) key n L g M h)] W fTO [slV oa n c, sv key] [] [] F = VT.leaf (AV.v (Value.bool true)) [] 1106 (((Cnd.p True).a ((Cnd.p (VW [] [])).a Cnd.t)).a (((Cnd.p (Wk (AV.v (Value.bool false)) (AV.lit false))).a Cnd.t).a (((Cnd.p True).a ((Cnd.p (VW [] [])).a Cnd.t)).a (((Cnd.p True).a ((Cnd.p (VW [] [])).a Cnd.t)).a (((Cnd.p (Wk (AV.v (Value.bool false)) (AV.lit false))).a Cnd.t).a (((Cnd.p (Wk (AV.v (Value.bool false)) (AV.lit false))).a Cnd.t).a ((Cnd.p ((fTO, 7, loopN fTO 7, lTO (slV oa n c) key n L g M h).snd.snd.fst = (fTO, 7, loopN fTO 7, lTO (slV oa n c) key n L g M h).snd.snd.fst)).a ((Cnd.p True).a ((Cnd.p (VW [AV.v (Value.slice oa n c), AV.v (Value.string key), AV.undef, AV.undef, AV.v (Value.bool false), AV.ptr 1100 0, AV.ptr 1101 0, AV.undef, AV.undef, AV.v (Value.bool true), AV.lit false, AV.ptr 1100 0, AV.ptr 1101 0, AV.ptr 1100 0, AV.v (Value.bool false), AV.lit false, AV.ptr 1101 0, AV.v (Value.bool false), AV.lit false, AV.v (Value.slice oa n c), AV.v (Value.int IntKind.i64 ↑n), AV.v (Value.int IntKind.i64 (Int.ofNat 0)), AV.undef, AV.undef, AV.undef, AV.undef, AV.undef, AV.undef, AV.undef, AV.undef, AV.undef, AV.undef, AV.undef, AV.undef, AV.undef, AV.undef, AV.undef, AV.undef, AV.undef, AV.undef, AV.undef, AV.undef, AV.undef, AV.undef, AV.undef, AV.undef, AV.undef, AV.undef, AV.undef, AV.undef, AV.undef, AV.undef, AV.undef, AV.undef, AV.undef, AV.undef, AV.undef, AV.undef, AV.undef, AV.undef, AV.undef, AV.undef, AV.undef, AV.undef, AV.undef, AV.undef, AV.undef, AV.undef] [AV.v (Value.slice oa n c), AV.v (Value.string key), AV.any, AV.any, AV.any, AV.ptr 1100 0, AV.ptr 1101 0, AV.any, AV.any, AV.any, AV.any, AV.any, AV.any, AV.any, AV.any, AV.any, AV.any, AV.any, AV.any, AV.any, AV.v (Value.int IntKind.i64 (Int.ofNat n)), AV.v (Value.int IntKind.i64 (Int.ofNat 0)), AV.any, AV.any, AV.any, AV.any, AV.any, AV.any, AV.any, AV.any, AV.any, AV.any, AV.any, AV.any, AV.any, AV.any, AV.any, AV.any, AV.any, AV.any, AV.any, AV.any, AV.any, AV.any, AV.any, AV.any, AV.any, AV.any, AV.any, AV.any, AV.any, AV.any, AV.any, AV.any, AV.any, AV.any, AV.any, AV.any, AV.any, AV.any, AV.any, AV.any, AV.any, AV.any, AV.any, AV.any, AV.any, AV.any])).a ((Cnd.p (OW (AO.own (Md.trie [] 1) (trHP [] 1)) (AO.own (Md.trie [] 1) (trHP [] 1)))).a ((Cnd.p (OW (AO.own (Md.trie [] 1) (trHP [] 1)) (AO.own (Md.trie [] 1) (trHP [] 1)))).a (((Cnd.p (g ≤ 1500000 ∧ key.size ≤ 1100000 ∧ matchA L key = l)).a ((Cnd.p (VW [AV.ptr 1102 0, AV.v (Value.string key)] [AV.ptr 1102 0, AV.v (Value.string key)])).a ((Cnd.p (OW (AO.own (Md.trie L g) (trHP L g)) (AO.own (Md.trie L g) (trHP L g)))).a Cnd.t))).a (((Cnd.p (h ≤ 1500000 ∧ key.size ≤ 1100000 ∧ matchA M key = l)).a ((Cnd.p (VW [AV.ptr 1103 0, AV.v (Value.string key)] [AV.ptr 1103 0, AV.v (Value.string key)])).a ((Cnd.p (OW (AO.own (Md.trie M h) (trHP M h)) (AO.own (Md.trie M h) (trHP M h)))).a Cnd.t))).a (((Cnd.p (l.length = l.length ∧ l.length ≤ 9000000)).a ((Cnd.p (VW [AV.slice 1104 0 l.length 1 (Cp.lo l.length), AV.slice 1105 0 l.length 1 (Cp.lo l.length)] [AV.slice 1104 0 l.length 1 (Cp.lo l.length), AV.slice 1105 0 l.length 1 (Cp.lo l.length)])).a ((Cnd.p (OW (AO.cells (AV.rens (sgN (nm0 1102) [1000] 1104) (rowV encS l)) 18) (AO.cells (AV.rens (nmST 1104 1105) (rowV encS l)) 18))).a ((Cnd.p (OW (AO.cells (AV.rens (sgN (nm0 1103) [1000] 1105) (rowV encS l)) 18) (AO.cells (AV.rens (nmST 1104 1105) (rowV encS l)) 18))).a Cnd.t)))).a (((Cnd.p (Wk (AV.v (Value.bool true)) (AV.lit true))).a Cnd.t).a (((Cnd.p True).a ((Cnd.p (VW [AV.ptr 1102 0] [AV.ptr 1102 0])).a ((Cnd.p (OW (AO.own (Md.trie L g) (trHP L g)) (AO.own (Md.trie L g) (trHP L g)))).a Cnd.t))).a (((Cnd.p True).a ((Cnd.p (VW [AV.ptr 1103 0] [AV.ptr 1103 0])).a ((Cnd.p (OW (AO.own (Md.trie M h) (trHP M h)) (AO.own (Md.trie M h) (trHP M h)))).a Cnd.t))).a (((Cnd.p (Wk (AV.v (Value.bool (Int.ofNat (List.length L) == Int.ofNat (List.length M)))) (AV.v (Value.bool true)))).a Cnd.t).a Cnd.t)))))))))))))))))) := by kernel_rfl
end
structure InPr (W : World) (oa : Option Addr) (l : List (ByteArray × ByteArray)) : Prop where
  here : l ≠ [] → ∃ a, oa = some a
  at_ : ∀ a, oa = some a → ∀ k, k < l.length → W.cell? ((a.add (k * 2)).add 0) = some (.string (l.getD k (nil0, nil0)).1) ∧ W.cell? (Addr.mk (a.add (k * 2)).block ((a.add (k * 2)).off + 1) none) = some (.string (l.getD k (nil0, nil0)).2)
def addsL (L : Pairs) (l : List (ByteArray × ByteArray)) : Pairs := l.foldl (fun L p => addL L p.1 p.2) L
def gOf (l : List (ByteArray × ByteArray)) : Nat := 1 + (l.map fun p => (dots p.1).length + 1).sum
def wtP (p : ByteArray × ByteArray) : Nat := p.1.size + p.2.size + 3
theorem addL_mem {L : Pairs} {p d : ByteArray} (x : ByteArray × ByteArray) : x ∈ addL L p d ↔ x ∈ L ∨ x = (p, d) := by
  unfold addL
  by_cases h : inB L p d = true
  · rw [if_pos h]
    exact ⟨.inl, fun hx => hx.elim id fun e => e ▸ inB_iff.1 h⟩
  · rw [if_neg h, List.mem_append, List.mem_singleton]
theorem addL_nd {L : Pairs} {p d : ByteArray} (hL : L.Nodup) : (addL L p d).Nodup := by
  unfold addL
  by_cases h : inB L p d = true
  · rw [if_pos h]; exact hL
  · rw [if_neg h, List.nodup_append]
    refine ⟨hL, List.nodup_cons.2 ⟨List.not_mem_nil, List.nodup_nil⟩, fun a ha b hb => ?_⟩
    rw [List.mem_singleton] at hb
    subst hb
    intro e
    subst e
    exact h (inB_iff.2 ha)
theorem addL_len (L : Pairs) (p d : ByteArray) : (addL L p d).length ≤ L.length + 1 := by
  unfold addL
  split
  · omega
  · rw [List.length_append]; exact Nat.le_refl _
theorem addsL_mem : ∀ (l : List (ByteArray × ByteArray)) (L : Pairs) (x : ByteArray × ByteArray), x ∈ addsL L l ↔ x ∈ L ∨ x ∈ l
  | [], L, x => by simp [addsL]
  | p :: l, L, x => by
    show x ∈ addsL (addL L p.1 p.2) l ↔ _
    rw [addsL_mem l, addL_mem, List.mem_cons, or_assoc]
theorem addsL_nd : ∀ (l : List (ByteArray × ByteArray)) (L : Pairs), L.Nodup → (addsL L l).Nodup
  | [], L, h => h
  | p :: l, L, h => addsL_nd l _ (addL_nd h)
theorem addsL_len : ∀ (l : List (ByteArray × ByteArray)) (L : Pairs), (addsL L l).length ≤ L.length + l.length
  | [], L => Nat.le_refl _
  | p :: l, L => by
    have h1 := addsL_len l (addL L p.1 p.2)
    have h2 := addL_len L p.1 p.2
    have h3 : addsL L (p :: l) = addsL (addL L p.1 p.2) l := rfl
    rw [h3, List.length_cons]; omega
theorem addsL_next (l : List (ByteArray × ByteArray)) (i : Nat) (hi : i < l.length) : addsL [] (l.take (i + 1)) = addL (addsL [] (l.take i)) (l.getD i (nil0, nil0)).1 (l.getD i (nil0, nil0)).2 := by
  rw [take_next l (nil0, nil0) i hi]
  unfold addsL
  rw [List.foldl_append]
  rfl
theorem gOf_next (l : List (ByteArray × ByteArray)) (i : Nat) (hi : i < l.length) : gOf (l.take (i + 1)) = gOf (l.take i) + (dots (l.getD i (nil0, nil0)).1).length + 1 := by
  rw [take_next l (nil0, nil0) i hi]
  unfold gOf
  rw [List.map_append, List.sum_append]
  simp only [List.map_cons, List.map_nil, List.sum_cons, List.sum_nil]
  omega
theorem gOf_le (l : List (ByteArray × ByteArray)) : gOf l ≤ 1 + (l.map wtP).sum := by
  unfold gOf
  refine Nat.add_le_add_left ?_ 1
  induction l with
  | nil => exact Nat.le_refl _
  | cons p l ih =>
    have := dots_le (s := p.1) (Nat.le_refl _)
    simp only [List.map_cons, List.sum_cons]
    have e : wtP p = p.1.size + p.2.size + 3 := rfl
    omega
theorem wtP_mem {l : List (ByteArray × ByteArray)} {p : ByteArray × ByteArray} (h : p ∈ l) : wtP p ≤ (l.map wtP).sum := by
  induction l with
  | nil => cases h
  | cons q l ih =>
    simp only [List.map_cons, List.sum_cons]
    rcases List.mem_cons.1 h with rfl | h
    · omega
    · have := ih h; omega
theorem wtP_len (l : List (ByteArray × ByteArray)) : l.length ≤ (l.map wtP).sum := by
  induction l with
  | nil => exact Nat.le_refl _
  | cons q l ih =>
    simp only [List.map_cons, List.sum_cons, List.length_cons]
    have e : wtP q = q.1.size + q.2.size + 3 := rfl
    omega
theorem rev_get (l : List (ByteArray × ByteArray)) (i : Nat) (hi : i < l.length) : l.reverse.getD i (nil0, nil0) = l.getD (l.length - 1 - i) (nil0, nil0) := by
  rw [List.getD_eq_getElem?_getD, List.getD_eq_getElem?_getD, List.getElem?_reverse hi]
theorem wrap_in (x : Int) (h1 : -9223372036854775808 ≤ x) (h2 : x ≤ 9223372036854775807) : IntKind.i64.wrap x = x := IntWalk.i64_in _ ⟨h1, h2⟩
theorem to_loop (W : World) (oa : Option Addr) (c : Nat) (key : ByteArray) (l : List (ByteArray × ByteArray)) (hI : InPr W oa l) (hw : (l.map wtP).sum ≤ 1048576) :
    LTri Tryd.prog W (loopN fTO 7) (tms 0 68 (aTO (slV oa l.length c) key l.length 0)) (oTO [] 1 [] 1) (.exit 0) (tms 0 68 (zTO key)) (oTO (addsL [] l) (gOf l) (addsL [] l.reverse) (gOf l.reverse)) := by
  have hlen := wtP_len l
  refine ltri_run (W := W) (g := fTO) (b := loopN fTO 7) (σ := {j : Nat // j ≤ l.length}) 68 (fun j => aTO (slV oa l.length c) key l.length j.1) (fun j => oTO (addsL [] (l.take j.1)) (gOf (l.take j.1)) (addsL [] (l.reverse.take j.1)) (gOf (l.reverse.take j.1))) (.exit 0) (zTO key) (oTO (addsL [] l) (gOf l) (addsL [] l.reverse) (gOf l.reverse)) (fun j => l.length - j.1) [1000, 1001] [0, 1, 5, 6, 20, 21] (by intro h; cases h) (fun _ => rfl) rfl ?_ ⟨0, Nat.zero_le _⟩
  rintro ⟨j, hj⟩
  simp only
  by_cases h1 : j < l.length
  · obtain ⟨a, rfl⟩ := hI.here (fun e => by rw [e] at h1; cases h1)
    obtain ⟨e1, e2⟩ := hI.at_ a rfl j h1
    obtain ⟨e3, e4⟩ := hI.at_ a rfl (l.length - 1 - j) (by omega)
    have hsu := wrap_succ j (by omega)
    have q1 : decide (Int.ofNat j < (l.length : Int)) = true := ltTC h1
    have q2 : l.length - 1 - j < l.length := by omega
    have hsub : IntKind.i64.wrap (IntKind.i64.wrap ((l.length : Int) - Int.ofNat 1) - Int.ofNat j) = Int.ofNat (l.length - 1 - j) := by
      have x1 : IntKind.i64.wrap ((l.length : Int) - Int.ofNat 1) = (l.length : Int) - Int.ofNat 1 := wrap_in _ (by simp only [Int.ofNat_eq_natCast]; omega) (by simp only [Int.ofNat_eq_natCast]; omega)
      have x2 : (l.length : Int) - Int.ofNat 1 - Int.ofNat j = Int.ofNat (l.length - 1 - j) := by simp only [Int.ofNat_eq_natCast]; omega
      rw [x1, x2]
      exact wrap_in _ (by simp only [Int.ofNat_eq_natCast]; omega) (by simp only [Int.ofNat_eq_natCast]; omega)
    have n1 := addsL_next l j h1
    have n2 := gOf_next l j h1
    have n3 := addsL_next l.reverse j (by rw [List.length_reverse]; exact h1)
    have n4 := gOf_next l.reverse j (by rw [List.length_reverse]; exact h1)
    rw [rev_get l j h1] at n3 n4
    have m1 : (addsL [] (l.take j)).length ≤ 4611686018427387904 := by
      have := addsL_len (l.take j) []
      rw [List.length_take] at this
      simp only [List.length_nil] at this
      omega
    have m2 : (addsL [] (l.reverse.take j)).length ≤ 4611686018427387904 := by
      have := addsL_len (l.reverse.take j) []
      rw [List.length_take, List.length_reverse] at this
      simp only [List.length_nil] at this
      omega
    have mem : ∀ k, k < l.length → l.getD k (nil0, nil0) ∈ l := fun k hk => by
      rw [List.getD_eq_getElem?_getD, List.getElem?_eq_getElem hk]
      exact List.getElem_mem hk
    have z1 := wtP_mem (mem j h1)
    have z2 := wtP_mem (mem (l.length - 1 - j) q2)
    generalize l.getD j (nil0, nil0) = p at *
    generalize l.getD (l.length - 1 - j) (nil0, nil0) = q at *
    generalize l.length - 1 - j = r at *
    generalize addsL [] (l.take j) = L at *
    generalize addsL [] (l.reverse.take j) = M at *
    have z1 : p.1.size + p.2.size + 3 ≤ (l.map wtP).sum := z1
    have z2 : q.1.size + q.2.size + 3 ≤ (l.map wtP).sum := z2
    obtain ⟨f1, f1b, f1c⟩ : p.1.size ≤ 1100000 ∧ p.2.size ≤ 1099511627776 ∧ List.length L ≤ 4611686018427387904 := ⟨by omega, by omega, m1⟩
    obtain ⟨f2, f2b, f2c⟩ : q.1.size ≤ 1100000 ∧ q.2.size ≤ 1099511627776 ∧ List.length M ≤ 4611686018427387904 := ⟨by omega, by omega, m2⟩
    refine ⟨[(fAdd, cAdd)], hTO p q r j, [], fun F _ => one_c (cAdd_ok F), fun _ _ => noL, fun F => ?_⟩
    refine cast (congrArg (VAll _) (oToR_eq W a c key p q l.length j r L (gOf (l.take j)) M (gOf (l.reverse.take j)) F).symm) ⟨⟨?_, rfl, .inl ⟨rfl, ⟨j + 1, h1⟩, sub_down h1, [(1000, 1000), (1001, 1001)], by kernel_rfl, by kernel_rfl, ⟨Wk.refl _, Wk.refl _, Wk.refl _, Wk.refl _, Wk.refl _, Wk.refl _, trivial⟩, ⟨_, rfl, ?_⟩, ⟨_, rfl, ?_⟩, trivial⟩⟩⟩
    · simp only [Cnd.holds, e1, e2, e3, e4, q1, q2, h1, Option.isSome, Option.getD, AV.strOf, sv, Nat.blt_eq, true_and, and_true]
      and_intros
      all_goals first
        | (with_reducible exact wk_int hsu)
        | (with_reducible exact wk_int hsub)
        | exact wk_litE q1
        | (with_reducible exact trivial)
        | (with_reducible exact rfl)
        | (with_reducible exact Wk.refl _)
        | (with_reducible exact VW.refl _)
        | (with_reducible exact OW.refl _)
        | (with_reducible exact wk_lit _)
        | (with_reducible assumption)
        | exact rfl
        | exact Wk.refl _
        | exact VW.refl _
        | exact OW.refl _
        | ((repeat (first | exact VW.nil | refine VW.cons (Wk.refl _) ?_ | refine VW.cons (Wk.any _) ?_ | refine VW.cons (wk_cap (Nat.le_refl _)) ?_)); done)
    · rw [n1, n2]; exact OW.refl _
    · rw [n3, n4]; exact OW.refl _
  · have hje : j = l.length := by omega
    subst hje
    have t1 : l.take l.length = l := List.take_length
    have t2 : l.reverse.take l.length = l.reverse := List.take_of_length_le (by rw [List.length_reverse]; exact Nat.le_refl _)
    simp only [t1, t2]
    refine ⟨[], hTOE, [], fun _ _ => noC, fun _ _ => noL, fun F => ?_⟩
    refine cast (congrArg (VAll _) (oToE_eq W oa c key l.length (addsL [] l) (gOf l) (addsL [] l.reverse) (gOf l.reverse) F).symm) ⟨⟨?_, rfl, .inr ⟨rfl, [(1000, 1000), (1001, 1001)], by kernel_rfl, by kernel_rfl, ⟨Wk.refl _, Wk.refl _, Wk.refl _, trivial⟩, ⟨_, rfl, OW.refl _⟩, ⟨_, rfl, OW.refl _⟩, trivial⟩⟩⟩
    simp only [Cnd.holds, and_true]
    exact wk_litE ltFC
theorem gTO_ro : ∀ args, RO (gTO args) := by
  intro args
  unfold gTO
  split
  · split
    · exact RO.ret _
    · exact RO.fail _
  · exact RO.fail _
theorem gLn_ro : ∀ args, RO (gLn args) := by
  intro args
  unfold gLn
  split
  · refine RO.read _ _ fun o => ?_
    split
    · exact RO.ret _
    · exact RO.fail _
  · exact RO.fail _
theorem cLn_ok (F : HP) : C1OK Tryd.prog F fLen cLn :=
  mkC_ok (W := default) oldDef (fun q => iv (Int.ofNat q.2.1.length)) gLn_ro (fun _ => rfl) (fun q _ => Len_tri q.2.1 q.2.2) fun _ => ⟨rfl, rfl, ⟨rfl, trivial⟩, all_cons trivial all_nil, ⟨trivial, trivial⟩, all_cons trivial all_nil⟩
theorem lTO_ok (W : World) (oa : Option Addr) (c : Nat) (key : ByteArray) (l : List (ByteArray × ByteArray)) (hI : InPr W oa l) (hw : (l.map wtP).sum ≤ 1048576) (F : HP) (hF : OldOK W F) : L1OK Tryd.prog F (loopN fTO 7) (lTO (slV oa l.length c) key l.length (addsL [] l) (gOf l) (addsL [] l.reverse) (gOf l.reverse)) :=
  mkL_ok hF gTO_ro (fun _ _ => to_loop W oa c key l hI hw) fun _ => by
    simp only [RT.pick]
    exact closedT rfl rfl (all_cons trivial (all_cons trivial (all_cons rfl (all_cons rfl (all_cons trivial (all_cons trivial all_nil)))))) (all_cons trivial (all_cons trivial all_nil)) (all_cons trivial (all_cons rfl (all_cons rfl all_nil))) (all_cons trivial (all_cons trivial all_nil))
theorem nodup_same {L M : Pairs} (hL : L.Nodup) (hM : M.Nodup) (h : ∀ x, x ∈ L ↔ x ∈ M) : L.length = M.length := Nat.le_antisymm (nodup_len hL fun x hx => (h x).1 hx) (nodup_len hM fun x hx => (h x).2 hx)
theorem matchA_congr {L M : Pairs} (h : ∀ x, x ∈ L ↔ x ∈ M) (key : ByteArray) : matchA L key = matchA M key := by
  unfold matchA
  refine sortT_congr fun x => ?_
  simp only [List.mem_map, List.mem_filter, h]
theorem dedup_len (l : List (List UInt8)) : (dedup l).length ≤ l.length := by
  induction l with
  | nil => exact Nat.le_refl _
  | cons x l ih =>
    rw [dedup]
    split
    · rw [List.length_cons]; omega
    · rw [List.length_cons, List.length_cons]; omega
theorem sortT_len (T : List ByteArray) : (sortT T).length ≤ T.length := by
  unfold sortT
  rw [List.length_map, List.length_mergeSort]
  exact Nat.le_trans (dedup_len _) (by rw [List.length_map]; exact Nat.le_refl _)
theorem TO_tri (W : World) (oa : Option Addr) (c : Nat) (key : ByteArray) (l : List (ByteArray × ByteArray)) (hI : InPr W oa l) (hw : (l.map wtP).sum ≤ 1048576) (hk : key.size ≤ 1100000) : Tri Tryd.prog W fTO [slV oa l.length c, sv key] [] (bv true) [] := by
  have hmem : ∀ x, x ∈ addsL [] l ↔ x ∈ addsL [] l.reverse := fun x => by rw [addsL_mem, addsL_mem, List.mem_reverse]
  have hma := matchA_congr hmem key
  have hle := nodup_same (addsL_nd l [] List.nodup_nil) (addsL_nd l.reverse [] List.nodup_nil) hmem
  have g1 := gOf_le l
  have g2 := gOf_le l.reverse
  have hrs : (l.reverse.map wtP).sum = (l.map wtP).sum := by rw [List.map_reverse, List.sum_reverse]
  have hml : (matchA (addsL [] l) key).length ≤ 9000000 := by
    have h1 := sortT_len (((addsL [] l).filter fun e => mt (dots e.1).reverse (dots key).reverse).map (·.2))
    have h2 := List.length_filter_le (fun e : ByteArray × ByteArray => mt (dots e.1).reverse (dots key).reverse) (addsL [] l)
    have h3 := addsL_len l []
    have h4 := wtP_len l
    rw [List.length_map] at h1
    simp only [List.length_nil] at h3
    unfold matchA
    omega
  have b1 : gOf l ≤ 1500000 := by omega
  have b2 : gOf l.reverse ≤ 1500000 := by omega
  by_cases hz : matchA (addsL [] l) key = []
  · have hz2 := hma.symm.trans hz
    refine tri_run (con := [(fSpeaks, cSpk), (fNew, cNew), (fMatch, cMatZ), (fLen, cLn)]) (hints := hTOF) (lc := [(fTO, 7, loopN fTO 7, lTO (slV oa l.length c) key l.length (addsL [] l) (gOf l) (addsL [] l.reverse) (gOf l.reverse))]) [] rfl (fun F _ => con_cons (cSpk_ok F) (con_cons (cNew_ok F) (con_cons (cMatZ_ok F) (one_c (cLn_ok F))))) (fun F hF => one_l (lTO_ok W oa c key l hI hw F hF)) fun F => ?_
    refine cast (congrArg (VAll _) (oToZ_eq W oa l.length c key (addsL [] l) (gOf l) (addsL [] l.reverse) (gOf l.reverse) F).symm) ⟨⟨?_, (fit_mk (vs' := [bv true]) (H' := []) [] rfl rfl (VW.refl _) trivial).fits rfl⟩⟩
    obtain ⟨f1, f1b, f1c⟩ : gOf l ≤ 1500000 ∧ key.size ≤ 1100000 ∧ matchA (addsL [] l) key = [] := ⟨b1, hk, hz⟩
    obtain ⟨f2, f2b, f2c⟩ : gOf l.reverse ≤ 1500000 ∧ key.size ≤ 1100000 ∧ matchA (addsL [] l.reverse) key = [] := ⟨b2, hk, hz2⟩
    have f3 : (Int.ofNat (List.length (addsL [] l)) == Int.ofNat (List.length (addsL [] l.reverse))) = true := by rw [hle]; exact beq_self_eq_true _
    simp only [Cnd.holds, Nat.blt_eq, true_and, and_true]
    and_intros
    all_goals first
      | exact f1
      | exact f2
      | exact wk_bvE f3
      | (with_reducible exact wk_lb rfl)
      | exact wk_litE rfl
      | (with_reducible exact trivial)
      | (with_reducible exact rfl)
      | (with_reducible exact Wk.refl _)
      | (with_reducible exact VW.refl _)
      | (with_reducible exact OW.refl _)
      | (with_reducible exact wk_lit _)
      | (with_reducible assumption)
      | exact rfl
      | exact Wk.refl _
      | exact VW.refl _
      | exact OW.refl _
      | ((repeat (first | exact VW.nil | refine VW.cons (Wk.refl _) ?_ | refine VW.cons (Wk.any _) ?_ | refine VW.cons (wk_cap (Nat.le_refl _)) ?_)); done)
  · have hz2 := hma.symm
    refine tri_run (con := [(fSpeaks, cSpk), (fNew, cNew), (fMatch, cMatR (matchA (addsL [] l) key) (matchA (addsL [] l) key).length), (fLen, cLn), (fST, cST (matchA (addsL [] l) key))]) (hints := hTOF) (lc := [(fTO, 7, loopN fTO 7, lTO (slV oa l.length c) key l.length (addsL [] l) (gOf l) (addsL [] l.reverse) (gOf l.reverse))]) [] rfl (fun F _ => con_cons (cSpk_ok F) (con_cons (cNew_ok F) (con_cons (cMatR_ok hz F) (con_cons (cLn_ok F) (one_c (cST_ok _ F)))))) (fun F hF => one_l (lTO_ok W oa c key l hI hw F hF)) fun F => ?_
    refine cast (congrArg (VAll _) (oToN_eq W oa l.length c key (addsL [] l) (gOf l) (addsL [] l.reverse) (gOf l.reverse) (matchA (addsL [] l) key) F).symm) ⟨⟨?_, (fit_mk (vs' := [bv true]) (H' := []) [] rfl rfl (VW.refl _) trivial).fits rfl⟩⟩
    generalize matchA (addsL [] l) key = ml at *
    obtain ⟨f1, f1b, f1c⟩ : gOf l ≤ 1500000 ∧ key.size ≤ 1100000 ∧ ml = ml := ⟨b1, hk, rfl⟩
    obtain ⟨f2, f2b, f2c⟩ : gOf l.reverse ≤ 1500000 ∧ key.size ≤ 1100000 ∧ matchA (addsL [] l.reverse) key = ml := ⟨b2, hk, hz2⟩
    have f3 : (Int.ofNat (List.length (addsL [] l)) == Int.ofNat (List.length (addsL [] l.reverse))) = true := by rw [hle]; exact beq_self_eq_true _
    simp only [Cnd.holds, rens_rowV, Nat.blt_eq, true_and, and_true]
    and_intros
    all_goals first
      | exact f1
      | exact f2
      | exact wk_bvE f3
      | (with_reducible exact wk_lb rfl)
      | exact ⟨b1, hk⟩
      | exact ⟨b2, hk, hz2⟩
      | exact hml
      | (with_reducible exact trivial)
      | (with_reducible exact rfl)
      | (with_reducible exact Wk.refl _)
      | (with_reducible exact VW.refl _)
      | (with_reducible exact OW.refl _)
      | (with_reducible exact wk_lit _)
      | (with_reducible assumption)
      | exact rfl
      | exact Wk.refl _
      | exact VW.refl _
      | exact OW.refl _
      | ((repeat (first | exact VW.nil | refine VW.cons (Wk.refl _) ?_ | refine VW.cons (Wk.any _) ?_ | refine VW.cons (wk_cap (Nat.le_refl _)) ?_)); done)
end Go.Proofs.YtbmoancedlbhlaaDoor.Tpc

/- Topic: a list of pairs that comes in. -/
set_option linter.unusedVariables false
set_option linter.unusedSimpArgs false
set_option maxRecDepth 100000
namespace Go.Proofs.YtbmoancedlbhlaaDoor
open Go.ChangeShapes Go.WideShapes Go.RowKit Go.Deep
namespace Tpc
open Go.Proofs.YtbmoancedlbhlaaDoor.Eng Go.Proofs.YtbmoancedlbhlaaDoor.Kit
def encPr (p : ByteArray × ByteArray) : List Value := [.string p.1, .string p.2]
theorem encPr_len (x : ByteArray × ByteArray) : (encPr x).length = 2 := rfl
section
variable {H : Type} {encD : TypeId × Value → H} {w : World} {base : Nat} {spare : Nat → Bool} {held : Bool}
theorem cells_pair {fuel : Nat} {cs : List Value} {x : DataW H × List MemPlace} (h : DataW.trod encD Tryd.prog w base spare held fuel 31 cs = some x) : ∃ p : ByteArray × ByteArray, cs = encPr p ∧ True ∧ wtP p ≤ Rows.uptoBulk x.1 := by
  obtain ⟨ys, n, _, rfl, hlen, hyl, hf⟩ := DataW.trod_struct Tryd.underlying31 h
  have zS : Tryd.prog.cellsOf 9 = 1 := by kernel_rfl
  match cs, hlen.trans (by kernel_rfl : Tryd.prog.cellsOf 31 = 2) with
  | [c0, c1], _ =>
    match ys, hyl with
    | [y0, y1], _ =>
      obtain ⟨a0, e0, x0, b0⟩ := DataW.trod_string Tryd.underlying9 (by simpa [zS] using hf 0 _ rfl : DataW.trod encD Tryd.prog w base spare held n 9 [c0] = some y0)
      obtain rfl := (List.cons.inj e0).1
      obtain ⟨a1, e1, x1, b1⟩ := DataW.trod_string Tryd.underlying9 (by simpa [zS] using hf 1 _ rfl : DataW.trod encD Tryd.prog w base spare held n 9 [c1] = some y1)
      obtain rfl := (List.cons.inj e1).1
      refine ⟨(a0, a1), rfl, trivial, ?_⟩
      simp only [List.map_cons, List.map_nil, Rows.uptoBulk, Rows.uptoBulkAll, x0, x1]
      have z0 : a0.data.toList.length = a0.size := rfl
      have z1 : a1.data.toList.length = a1.size := rfl
      have zw : wtP (a0, a1) = a0.size + a1.size + 3 := rfl
      rw [zw, ← z0, ← z1]
      omega
end
theorem inPr_of_rd {W : World} {A : Option Addr} {l : List (ByteArray × ByteArray)} (h : Rd W A l.length 2 (l.flatMap encPr)) : InPr W A l := by
  refine ⟨fun hne => h.here (by cases l with | nil => exact absurd rfl hne | cons x l => simp), fun a ha k hk => ?_⟩
  have hc : ∀ j (v : Value), j < 2 → (encPr (l.getD k (nil0, nil0)))[j]? = some v → W.cell? ((a.add (k * 2)).add j) = some v := by
    intro j v hj hv
    rw [add_add']
    refine h.cells a ha _ _ ?_
    rw [pieces_get encPr_len l k j hk hj, ← hv]
    congr 2
    simp [List.getD, List.getElem?_eq_getElem hk]
  exact ⟨hc 0 _ (by decide) rfl, hc 1 _ (by decide) rfl⟩
end Tpc
end Go.Proofs.YtbmoancedlbhlaaDoor

