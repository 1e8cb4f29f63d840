/- Parts of the proof, merged. -/
import Derived.Test.YtbmoancedlbhlaaDoorTpl2
import Derived.Test.YtbmoancedlbhlaaDoorSorts
import Derived.Test.YtbmoancedlbhlaaDoorEngClosed
import Derived.Test.YtbmoancedlbhlaaDoorEngKit
import Derived.Sort.Walk0
/- Topic: Remove, Matches. -/
set_option linter.unusedVariables false
set_option linter.unusedSimpArgs false
set_option maxRecDepth 100000
namespace Go.Proofs.YtbmoancedlbhlaaDoor.Tpc
open Go Go.RowKit Go.Proofs.YtbmoancedlbhlaaDoor.Eng Go.Proofs.YtbmoancedlbhlaaDoor.Kit
noncomputable section
def gNone : List AV → AP Unit := fun _ => .ret ()
def cNew : List AV → Option (AP AV) := mkC gNone (fun _ => True) (fun _ i => i) (fun _ => []) (fun _ => []) (fun _ => .leaf .ret [.ptr 1000 0] [(1000, trO [] 1)])
def gAdd : List AV → AP (Nat × Pairs × Nat × ByteArray × ByteArray) := fun args => match args with
  | .ptr r _ :: .v (.string p) :: .v (.string d) :: _ => .read r fun o => match o with
    | .own (.trie L g) _ => .ret (r, L, g, p, d)
    | _ => .fail "add"
  | _ => .fail "add"
def cAdd : List AV → Option (AP AV) := mkC gAdd (fun q => q.2.2.2.1.size ≤ 1100000 ∧ q.2.2.2.2.size ≤ 1099511627776 ∧ q.2.1.length ≤ 4611686018427387904) (fun q => nm0 q.1) (fun q => [.ptr 0 0, sv q.2.2.2.1, sv q.2.2.2.2]) (fun q => [(0, trO q.2.1 q.2.2.1)]) (fun q => .leaf .ret [bv (!(inB q.2.1 q.2.2.2.1 q.2.2.2.2))] [(0, trO (addL q.2.1 q.2.2.2.1 q.2.2.2.2) (q.2.2.1 + (dots q.2.2.2.1).length + 1))])
def gMat : List AV → AP (Nat × Pairs × Nat × ByteArray) := fun args => match args with
  | .ptr r _ :: .v (.string k) :: _ => .read r fun o => match o with
    | .own (.trie L g) _ => .ret (r, L, g, k)
    | _ => .fail "match"
  | _ => .fail "match"
def cMatZ : List AV → Option (AP AV) := mkC gMat (fun q => q.2.2.1 ≤ 1500000 ∧ q.2.2.2.size ≤ 1100000 ∧ matchA q.2.1 q.2.2.2 = []) (fun q => nm0 q.1) (fun q => [.ptr 0 0, sv q.2.2.2]) (fun q => [(0, trO q.2.1 q.2.2.1)]) (fun q => .leaf .ret [nilV] [(0, trO q.2.1 q.2.2.1)])
def cMatR (l : List ByteArray) (n : Nat) : List AV → Option (AP AV) := mkC gMat (fun q => q.2.2.1 ≤ 1500000 ∧ q.2.2.2.size ≤ 1100000 ∧ matchA q.2.1 q.2.2.2 = l) (fun q => nm0 q.1) (fun q => [.ptr 0 0, sv q.2.2.2]) (fun q => [(0, trO q.2.1 q.2.2.1)]) (fun q => .leaf .ret [.slice 1000 0 n 1 (.lo n)] [(0, trO q.2.1 q.2.2.1), (1000, rS l)])
end
theorem delL_len {L : Pairs} {pat d : ByteArray} (h : L.Nodup) (hin : (pat, d) ∈ L) : (delL L pat d).length + 1 = L.length := by
  induction L with
  | nil => cases hin
  | cons e L ih =>
    rw [List.nodup_cons] at h
    by_cases he : e = (pat, d)
    · subst he
      have : delL ((pat, d) :: L) pat d = delL L pat d := by unfold delL; simp
      rw [this, delL_none h.1]; rfl
    · have hne : (!(decide (e.1 = pat) && decide (e.2 = d))) = true := by
        simp only [Bool.not_eq_true', Bool.and_eq_false_iff, decide_eq_false_iff_not]
        by_cases h1 : e.1 = pat
        · exact .inr fun h2 => he (by rw [← h1, ← h2])
        · exact .inl h1
      have : delL (e :: L) pat d = e :: delL L pat d := by unfold delL; rw [List.filter_cons, if_pos hne]
      rw [this, List.length_cons, List.length_cons, ih h.2 ((List.mem_cons.1 hin).resolve_left fun q => he q.symm)]
theorem Remove_tri (L : Pairs) (g : Nat) (pat d : ByteArray) (hp : pat.size ≤ 1100000) (hL : L.length ≤ 4611686018427387904) :
    Tri Tryd.prog default fRemove [.ptr 0 0, sv pat, sv d] [(0, trO L g)] (bv (inB L pat d)) [(0, trO (delL L pat d) g)] := by
  refine open_tr (R := []) Rest.nil ⟨rfl, trivial, trivial, trivial⟩ fun s hs => ?_
  obtain ⟨root, G, X⟩ := s
  obtain ⟨r, hr, hr1, hr2⟩ := hs.shp.rt
  obtain ⟨⟨rt1, G1, X1⟩, h1, hrt, _, htri⟩ := rem_tri (pat := pat) (d := d) (dots pat).length 0 ⟨root, G, X⟩ r hs hr (Nat.zero_add _) (by rw [hr1]; rfl)
  have hrt : rt1 = root := hrt
  subst hrt
  have hr2 : r.b = rt1 := hr2
  rw [hr2] at htri
  have hnd := hs.nd
  cases hb : inB L pat d with
  | true =>
    rw [hb] at htri
    have hlen := delL_len hnd (inB_iff.1 hb)
    have hw : IntKind.i64.wrap (Int.ofNat ((delL L pat d).length + 1) - Int.ofNat 1) = Int.ofNat (delL L pat d).length := by
      have : Int.ofNat ((delL L pat d).length + 1) - Int.ofNat 1 = Int.ofNat (delL L pat d).length := by simp only [Int.ofNat_eq_natCast]; omega
      rw [this]
      exact i64_small (by simp only [Int.ofNat_eq_natCast]; omega) (by simp only [Int.ofNat_eq_natCast]; omega)
    have key : Tri Tryd.prog default fRemove [.ptr 0 0, sv pat, sv d] (trU rt1 ((delL L pat d).length + 1) (G ++ X)) (bv true) (trU rt1 (delL L pat d).length (G1 ++ X1)) := by
      refine tri_run (con := [(fWords, cWd pat (dots pat).length (dots pat)), (fRem, cRem (dots pat) (G ++ X) (G1 ++ X1) rt1 0 (dots pat).length d true)]) (hints := hintL [(fRemove, 2, 0, hv (.lit true)), (fRemove, 3, 4, hv (iv (Int.ofNat (delL L pat d).length)))]) (lc := []) [0, 2] rfl (fun F _ => con_cons (cWd_ok pat hp F) (one_c (cRem_ok htri F))) (fun _ _ => noL) fun F => ?_
      refine cast (congrArg (VAll _) (oRmT_eq pat d rt1 (delL L pat d).length (G ++ X) (G1 ++ X1) (dots pat) (dots pat).length F).symm) ⟨⟨?_, (fit_mk (vs' := [bv true]) (H' := trU rt1 (delL L pat d).length (G1 ++ X1)) [] rfl rfl (VW.refl _) ⟨⟨_, rfl, OW.refl _⟩, ⟨_, rfl, OW.refl _⟩, trivial⟩).fits rfl⟩⟩
      simp only [Cnd.holds, rens_rowV, Nat.blt_eq, true_and, and_true]
      and_intros
      all_goals first
        | (with_reducible exact wk_int hw) | (with_reducible first | exact trivial | exact rfl | exact Wk.refl _ | exact VW.refl _ | exact OW.refl _ | exact wk_lit _ | assumption) | exact rfl | exact Wk.refl _ | exact VW.refl _ | exact OW.refl _ | ((repeat (first | exact VW.nil | refine VW.cons (Wk.refl _) ?_ | refine VW.cons (Wk.any _) ?_ | refine VW.cons (wk_cap (Nat.le_refl _)) ?_)); done)
    rw [hlen] at key
    exact Tri.post key (shut_tr ⟨rt1, G1, X1⟩ h1 _ Rest.nil ⟨trivial, trivial⟩)
  | false =>
    rw [hb] at htri
    have hin : (pat, d) ∉ L := fun hin => by rw [inB_iff.2 hin] at hb; cases hb
    rw [delL_none hin] at h1 ⊢
    have key : Tri Tryd.prog default fRemove [.ptr 0 0, sv pat, sv d] (trU rt1 L.length (G ++ X)) (bv false) (trU rt1 L.length (G1 ++ X1)) := by
      refine tri_run (con := [(fWords, cWd pat (dots pat).length (dots pat)), (fRem, cRem (dots pat) (G ++ X) (G1 ++ X1) rt1 0 (dots pat).length d false)]) (hints := hintL [(fRemove, 2, 0, hv (.lit false))]) (lc := []) [0, 2] rfl (fun F _ => con_cons (cWd_ok pat hp F) (one_c (cRem_ok htri F))) (fun _ _ => noL) fun F => ?_
      refine cast (congrArg (VAll _) (oRmF_eq pat d rt1 L.length (G ++ X) (G1 ++ X1) (dots pat) (dots pat).length F).symm) ⟨⟨?_, (fit_mk (vs' := [bv false]) (H' := trU rt1 L.length (G1 ++ X1)) [] rfl rfl (VW.refl _) ⟨⟨_, rfl, OW.refl _⟩, ⟨_, rfl, OW.refl _⟩, trivial⟩).fits rfl⟩⟩
      simp only [Cnd.holds, rens_rowV, Nat.blt_eq, true_and, and_true]
      and_intros
      all_goals first | (with_reducible first | exact trivial | exact rfl | exact Wk.refl _ | exact VW.refl _ | exact OW.refl _ | exact wk_lit _ | assumption) | exact rfl | exact Wk.refl _ | exact VW.refl _ | exact OW.refl _ | ((repeat (first | exact VW.nil | refine VW.cons (Wk.refl _) ?_ | refine VW.cons (Wk.any _) ?_ | refine VW.cons (wk_cap (Nat.le_refl _)) ?_)); done)
    exact Tri.post key (shut_tr ⟨rt1, G1, X1⟩ h1 _ Rest.nil ⟨trivial, trivial⟩)
theorem gAdd_ro : ∀ args, RO (gAdd args) := by
  intro args
  unfold gAdd
  split
  · refine RO.read _ _ fun o => ?_
    split
    · exact RO.ret _
    · exact RO.fail _
  · exact RO.fail _
theorem gMat_ro : ∀ args, RO (gMat args) := by
  intro args
  unfold gMat
  split
  · refine RO.read _ _ fun o => ?_
    split
    · exact RO.ret _
    · exact RO.fail _
  · exact RO.fail _
theorem cNew_ok (F : HP) : C1OK Tryd.prog F fNew cNew :=
  mkC_ok (W := default) oldDef (fun _ => .ptr 1000 0) (fun _ => RO.ret _) (fun _ => rfl) (fun _ _ => New_tri) fun _ => ⟨rfl, rfl, trivial, all_nil, ⟨rfl, trivial⟩, all_cons trivial all_nil⟩
theorem cAdd_ok (F : HP) : C1OK Tryd.prog F fAdd cAdd :=
  mkC_ok (W := default) oldDef (fun q => bv (!(inB q.2.1 q.2.2.2.1 q.2.2.2.2))) gAdd_ro (fun _ => rfl) (fun q hq => Add_tri q.2.1 q.2.2.1 q.2.2.2.1 q.2.2.2.2 hq.1 hq.2.1 hq.2.2) fun _ => ⟨rfl, rfl, ⟨rfl, trivial, trivial, trivial⟩, all_cons trivial all_nil, ⟨trivial, trivial⟩, all_cons trivial all_nil⟩
theorem cMatZ_ok (F : HP) : C1OK Tryd.prog F fMatch cMatZ :=
  mkC_ok (W := default) oldDef (fun _ => nilV) gMat_ro (fun _ => rfl) (fun q hq => by
    have := Match_tri q.2.1 q.2.2.1 hq.1 q.2.2.2 hq.2.1
    rw [hq.2.2] at this
    exact this) fun _ => ⟨rfl, rfl, ⟨rfl, trivial, trivial⟩, all_cons trivial all_nil, ⟨trivial, trivial⟩, all_cons trivial all_nil⟩
theorem cMatR_ok {l : List ByteArray} (hl : l ≠ []) (F : HP) : C1OK Tryd.prog F fMatch (cMatR l l.length) :=
  mkC_ok (W := default) oldDef (fun _ => .slice 1000 0 l.length 1 (.lo l.length)) gMat_ro (fun _ => rfl) (fun q hq => by
    have := Match_tri q.2.1 q.2.2.1 hq.1 q.2.2.2 hq.2.1
    rw [hq.2.2, ansV_ne hl, ansO_ne hl] at this
    exact this) fun _ => ⟨rfl, rfl, ⟨rfl, trivial, trivial⟩, all_cons trivial all_nil, ⟨rfl, trivial⟩, all_cons trivial (all_cons (rS_cl _ _) all_nil)⟩
theorem dots_le {s : ByteArray} {n : Nat} (h : s.size ≤ n) : (dots s).length ≤ n + 1 := by
  rw [dots_len]
  have : s.data.toList.count 46 ≤ s.data.toList.length := List.count_le_length
  have h2 : s.data.toList.length = s.size := rfl
  omega
end Go.Proofs.YtbmoancedlbhlaaDoor.Tpc

/- Topic: the document's words: runs. -/
set_option linter.unusedVariables false
set_option linter.unusedSimpArgs false
set_option maxRecDepth 100000
namespace Go.Proofs.YtbmoancedlbhlaaDoor.Tpc
open Go Go.RowKit Go.Proofs.YtbmoancedlbhlaaDoor.Eng Go.Proofs.YtbmoancedlbhlaaDoor.Kit
noncomputable section
abbrev fRW : Nat := 19
def aW (s : ByteArray) (t3 : AV) (a i : Nat) : List (Nat × AV) := [(0, sv s), (3, t3), (4, iv (Int.ofNat a)), (5, iv (Int.ofNat i))]
def sW (n : Nat) : AV := .slice 1000 0 n 1 (.lo n)
def hWN (i : Nat) (c : Int) : ClaimT := hintL [(fRW, 4, 3, hv (.lit true)), (fRW, 6, 3, hv (.lit false)), (fRW, 6, 7, h0v (.v (.int .u8 c))), (fRW, 6, 8, hv (.lit false)), (fRW, 6, 9, hv (.lit false)), (fRW, 5, 1, hv (iv (Int.ofNat (i + 1))))]
theorem oWN_eq (s : ByteArray) (L : List ByteArray) (n a i : Nat) (c : Int) (F : HP) : wLoop [] (hWN i c) [] default fRW (loopN fRW 4) (tms 0 33 (aW s (sW n) a i)) [(1000, rS L)] [1000, 1100, 1101] [0, 3, 4, 5] F = VT.leaf (AX.normal,[s' s,AV.slice 1000 0 n 1 (Cp.lo n),i' a,i' (i + 1)],33) [some (AO.cells (rowV encS L) 18),none,none] 1100 (((p' (Wk (b' (decide (Int.ofNat i ≤ ↑s.size))) (AV.lit true))).a t').a (((p' (Wk (b' (Int.ofNat i == ↑s.size)) (AV.lit false))).a t').a (((p' (i < s.size)).a ((p' (Wk (AV.v (Value.int IntKind.u8 ↑(s.data.toList.getD i 0).toNat)) (AV.v (Value.int IntKind.u8 c)))).a t')).a (((p' (Wk (b' (c == Int.ofNat 46)) (AV.lit false))).a t').a (((p' (Wk (AV.lit false) (AV.lit false))).a t').a (((p' (Wk (z' (IntKind.i64.wrap (Int.ofNat i + Int.ofNat 1))) (i' (i + 1)))).a t').a t')))))) := by kernel_rfl
def hWC (i : Nat) (y : ByteArray) (c : Int) : ClaimT := hintL [(fRW, 4, 3, hv (.lit true)), (fRW, 6, 3, hv (.lit false)), (fRW, 6, 7, h0v (.v (.int .u8 c))), (fRW, 6, 8, hv (.lit true)), (fRW, 6, 9, hv (.lit true)), (fRW, 7, 4, h0v (sv y)), (fRW, 8, 1, hv (iv (Int.ofNat (i + 1)))), (fRW, 5, 1, hv (iv (Int.ofNat (i + 1))))]
def hWL (i : Nat) (y : ByteArray) : ClaimT := hintL [(fRW, 4, 3, hv (.lit true)), (fRW, 6, 3, hv (.lit true)), (fRW, 7, 4, h0v (sv y)), (fRW, 8, 1, hv (iv (Int.ofNat (i + 1)))), (fRW, 5, 1, hv (iv (Int.ofNat (i + 1))))]
theorem oWC_eq (s y : ByteArray) (L : List ByteArray) (n a i : Nat) (c : Int) (F : HP) : wLoop [] (hWC i y c) [] default fRW (loopN fRW 4) (tms 0 33 (aW s (sW n) a i)) [(1000, rS L)] [1000, 1100, 1101] [0, 3, 4, 5] F = VT.leaf (AX.normal,[s' s,AV.slice 1101 0 (n + 1) 1 (Cp.lo (n + 1)),i' (i + 1),i' (i + 1)],33) [none,some (AO.cells [s' y] 18),some (AO.cells (List.take (n * 1) (List.drop 0 (rowV encS L)) ++ [s' y]) 18)] 1102 (((p' (Wk (b' (decide (Int.ofNat i ≤ ↑s.size))) (AV.lit true))).a t').a (((p' (Wk (b' (Int.ofNat i == ↑s.size)) (AV.lit false))).a t').a (((p' (i < s.size)).a ((p' (Wk (AV.v (Value.int IntKind.u8 ↑(s.data.toList.getD i 0).toNat)) (AV.v (Value.int IntKind.u8 c)))).a t')).a (((p' (Wk (b' (c == Int.ofNat 46)) (AV.lit true))).a t').a (((p' (Wk (AV.lit true) (AV.lit true))).a t').a (((p' (a ≤ i)).a ((p' (i ≤ s.size)).a ((p' (Wk (s' (s.extract a i)) (s' y))).a t'))).a (((p' (true = true)).a ((p' (true = true)).a ((p' (true = true)).a ((p' (true = true)).a ((p' ((0 + n * 1).ble (rowV encS L).length = true)).a ((p' (((n + 1) * 16).ble 140737488355328 = true)).a ((p' ((n + 1).ble 9223372036854775807 = true)).a ((p' ((List.take (n * 1) (List.drop 0 (rowV encS L))).length.beq (n * 1) = true)).a t')))))))).a (((p' (Wk (z' (IntKind.i64.wrap (Int.ofNat i + Int.ofNat 1))) (i' (i + 1)))).a t').a (((p' (Wk (z' (IntKind.i64.wrap (Int.ofNat i + Int.ofNat 1))) (i' (i + 1)))).a t').a t'))))))))) := by kernel_rfl
theorem oWL_eq (s y : ByteArray) (L : List ByteArray) (n a i : Nat) (F : HP) : wLoop [] (hWL i y) [] default fRW (loopN fRW 4) (tms 0 33 (aW s (sW n) a i)) [(1000, rS L)] [1000, 1100, 1101] [0, 3, 4, 5] F = VT.leaf (AX.normal,[s' s,AV.slice 1101 0 (n + 1) 1 (Cp.lo (n + 1)),i' (i + 1),i' (i + 1)],33) [none,some (AO.cells [s' y] 18),some (AO.cells (List.take (n * 1) (List.drop 0 (rowV encS L)) ++ [s' y]) 18)] 1102 (((p' (Wk (b' (decide (Int.ofNat i ≤ ↑s.size))) (AV.lit true))).a t').a (((p' (Wk (b' (Int.ofNat i == ↑s.size)) (AV.lit true))).a t').a (((p' (a ≤ i)).a ((p' (i ≤ s.size)).a ((p' (Wk (s' (s.extract a i)) (s' y))).a t'))).a (((p' (true = true)).a ((p' (true = true)).a ((p' (true = true)).a ((p' (true = true)).a ((p' ((0 + n * 1).ble (rowV encS L).length = true)).a ((p' (((n + 1) * 16).ble 140737488355328 = true)).a ((p' ((n + 1).ble 9223372036854775807 = true)).a ((p' ((List.take (n * 1) (List.drop 0 (rowV encS L))).length.beq (n * 1) = true)).a t')))))))).a (((p' (Wk (z' (IntKind.i64.wrap (Int.ofNat i + Int.ofNat 1))) (i' (i + 1)))).a t').a (((p' (Wk (z' (IntKind.i64.wrap (Int.ofNat i + Int.ofNat 1))) (i' (i + 1)))).a t').a t')))))) := by kernel_rfl
def gRw : List AV → AP Nat := fun tmps => match getL tmps 3 with
  | .slice i _ _ _ _ => .ret i
  | _ => .fail "row"
def nmRw (a : Nat) : Nat → Nat := fun k => match Nat.beq k 1000 with
  | true => a
  | false => k
def lRw (s : ByteArray) (L : List ByteArray) (n : Nat) : List AV → AP (AX × List AV) := mkL gRw (fun _ => True) nmRw (fun _ => tms 0 33 (aW s (sW 0) 0 0)) (fun _ => [(1000, rS [])]) (fun _ => .leaf (.exit 0) (tms 0 33 [(3, sW n)]) [(1000, rS L)])
theorem oRWf_eq (s : ByteArray) (L : List ByteArray) (n : Nat) (F : HP) : wRun [] noHints [(fRW, 4, loopN fRW 4, lRw s L n)] default fRW [sv s] [] [1100, 1101] F = VT.leaf (AV.slice 1101 0 n 1 (Cp.lo n)) [none,some (AO.cells (AV.rens (sgN (nmRw 1100) [1000] 1101) (rowV encS L)) 18)] 1102 ((p' ((fRW,4,loopN fRW 4,lRw s L n).snd.snd.fst = (fRW,4,loopN fRW 4,lRw s L n).snd.snd.fst)).a ((Cnd.p True).a ((p' (VW [s' s,u',AV.v (Value.slice none 0 0),AV.slice 1100 0 0 1 (Cp.ex 0),i' 0,i' 0,AV.slice 1100 0 0 1 (Cp.ex 0),u',u',u',u',u',u',u',u',u',u',u',u',u',u',u',u',u',u',u',u',u',u',u',u',u',u'] [s' s,a',a',AV.slice 1100 0 0 1 (Cp.lo 0),i' 0,i' 0,a',a',a',a',a',a',a',a',a',a',a',a',a',a',a',a',a',a',a',a',a',a',a',a',a',a',a'])).a ((p' (OW (AO.cells (rep [s' (ByteArray.mk (Array.mk []))] 0) 18) (AO.cells [] 18))).a t')))) := by kernel_rfl
theorem oWE_eq (s : ByteArray) (L : List ByteArray) (n a i : Nat) (F : HP) : wLoop [] (hintL [(fRW, 4, 3, hv (.lit false))]) [] default fRW (loopN fRW 4) (tms 0 33 (aW s (sW n) a i)) [(1000, rS L)] [1000, 1100, 1101] [0, 3, 4, 5] F = VT.leaf (AX.exit 0,[s' s,AV.slice 1000 0 n 1 (Cp.lo n),i' a,i' i],33) [some (AO.cells (rowV encS L) 18),none,none] 1100 (((p' (Wk (b' (decide (Int.ofNat i ≤ ↑s.size))) (AV.lit false))).a t').a t') := by kernel_rfl
end
end Go.Proofs.YtbmoancedlbhlaaDoor.Tpc

/- Topic: the document's words. -/
set_option linter.unusedVariables false
set_option linter.unusedSimpArgs false
set_option maxRecDepth 100000
namespace Go.Proofs.YtbmoancedlbhlaaDoor.Tpc
open Go Go.RowKit Go.Proofs.YtbmoancedlbhlaaDoor.Eng Go.Proofs.YtbmoancedlbhlaaDoor.Kit
theorem splitL_cut : ∀ (u v : List UInt8), (∀ x ∈ u, x ≠ 46) → splitL (u ++ 46 :: v) = u :: splitL v
  | [], v, _ => by rw [List.nil_append, splitL, if_pos rfl]
  | x :: u, v, h => by
    rw [List.cons_append, splitL, if_neg (h x List.mem_cons_self), splitL_cut u v fun y hy => h y (List.mem_cons_of_mem _ hy)]
theorem splitL_one : ∀ (u : List UInt8), (∀ x ∈ u, x ≠ 46) → splitL u = [u]
  | [], _ => rfl
  | x :: u, h => by rw [splitL, if_neg (h x List.mem_cons_self), splitL_one u fun y hy => h y (List.mem_cons_of_mem _ hy)]
structure RwI (s : ByteArray) (P : List ByteArray) (a i : Nat) : Prop where
  le : i ≤ s.size + 1
  run : i ≤ s.size → a ≤ i ∧ P ++ (splitL (s.data.toList.drop a)).map bsOf = dots s ∧ ∀ x ∈ (s.data.toList.drop a).take (i - a), x ≠ 46
  fin : i = s.size + 1 → P = dots s
theorem rw_len {s : ByteArray} {P : List ByteArray} {a i : Nat} (h : RwI s P a i) : P.length ≤ s.size + 1 := by
  have hd : (dots s).length ≤ s.size + 1 := by
    rw [dots_len]
    have : s.data.toList.count 46 ≤ s.data.toList.length := List.count_le_length
    have h2 : s.data.toList.length = s.size := rfl
    omega
  by_cases hi : i ≤ s.size
  · obtain ⟨_, h2, _⟩ := h.run hi
    have := congrArg List.length h2
    rw [List.length_append] at this
    omega
  · rw [h.fin (by have := h.le; omega)]; exact hd
theorem take_more {l : List UInt8} {a i : Nat} (ha : a ≤ i) (hi : i < l.length) : (l.drop a).take (i + 1 - a) = (l.drop a).take (i - a) ++ [l.getD i 0] := by
  have e : i + 1 - a = (i - a) + 1 := by omega
  rw [e, take_next _ 0 (i - a) (by rw [List.length_drop]; omega)]
  congr 2
  rw [List.getD_eq_getElem?_getD, List.getD_eq_getElem?_getD, List.getElem?_drop]
  congr 2
  omega
theorem drop_cut {l : List UInt8} {a i : Nat} (ha : a ≤ i) (hi : i < l.length) : l.drop a = (l.drop a).take (i - a) ++ l.getD i 0 :: l.drop (i + 1) := by
  have h1 := List.take_append_drop (i + 1 - a) (l.drop a)
  rw [take_more ha hi, List.drop_drop, show a + (i + 1 - a) = i + 1 from by omega, List.append_assoc] at h1
  exact h1.symm
theorem rw_loop (s : ByteArray) (hs : s.size ≤ 1100000) :
    LTri Tryd.prog default (loopN fRW 4) (tms 0 33 (aW s (sW 0) 0 0)) [(1000, rS [])] (.exit 0) (tms 0 33 [(3, sW (dots s).length)]) [(1000, rS (dots s))] := by
  have hsz : s.data.toList.length = s.size := rfl
  refine ltri_run (W := default) (g := fRW) (b := loopN fRW 4) (σ := {q : List ByteArray × Nat × Nat // RwI s q.1 q.2.1 q.2.2}) 33 (fun q => aW s (sW q.1.1.length) q.1.2.1 q.1.2.2) (fun q => [(1000, rS q.1.1)]) (.exit 0) [(3, sW (dots s).length)] [(1000, rS (dots s))] (fun q => s.size + 1 - q.1.2.2) [1000, 1100, 1101] [0, 3, 4, 5] (by intro h; cases h) (fun _ => rfl) rfl ?_ ⟨([], 0, 0), Nat.zero_le _, fun _ => ⟨Nat.le_refl _, rfl, fun x hx => (by cases hx)⟩, fun h => by have h : 0 = s.size + 1 := h; omega⟩
  rintro ⟨⟨P, a, i⟩, hI⟩
  have hI : RwI s P a i := hI
  simp only
  have hPl := rw_len hI
  by_cases hi : i ≤ s.size
  · obtain ⟨h1, h2, h3⟩ := hI.run hi
    have hw := wrap_succ i (by omega)
    have e1 : decide (Int.ofNat i ≤ (s.size : Int)) = true := decide_eq_true (by simp only [Int.ofNat_eq_natCast]; omega)
    have hlen : (rowV encS P).length = P.length := rS_len P
    have k1 : (0 + P.length * 1).ble (rowV encS P).length = true := row_in encS_len P
    have k2 : ((P.length + 1) * 16).ble 140737488355328 = true := by rw [Nat.ble_eq]; omega
    have k3 : (P.length + 1).ble 9223372036854775807 = true := by rw [Nat.ble_eq]; omega
    have k4 := row_full encS_len P
    have hrow : ∀ y : ByteArray, List.take (P.length * 1) (List.drop 0 (rowV encS P)) ++ [AV.v (Value.string y)] = rowV encS (P ++ [y]) := fun y => row_addW encS_len P y
    by_cases hlast : i = s.size
    · subst hlast
      have hb : (Int.ofNat s.size == (s.size : Int)) = true := beq_iff_eq.2 rfl
      have hP : P ++ [s.extract a s.size] = dots s := by
        rw [← h2]
        congr 1
        have ht : (s.data.toList.drop a).take (s.size - a) = s.data.toList.drop a := List.take_of_length_le (by rw [List.length_drop, hsz]; exact Nat.le_refl _)
        rw [ht] at h3
        rw [splitL_one _ h3, List.map_cons, List.map_nil]
        congr 1
        refine ba_ext ?_
        rw [extract_eq _ _ _ (Nat.le_refl _), ht]; rfl
      refine ⟨[], hWL s.size (s.extract a s.size), [], fun _ _ => noC, fun _ _ => noL, fun F => ?_⟩
      refine cast (congrArg (VAll _) (oWL_eq s (s.extract a s.size) P P.length a s.size F).symm) ⟨⟨?_, rfl, .inl ⟨rfl, ⟨(P ++ [s.extract a s.size], s.size + 1, s.size + 1), Nat.le_refl _, fun h => by have h : s.size + 1 ≤ s.size := h; omega, fun _ => hP⟩, by show s.size + 1 - (s.size + 1) < s.size + 1 - s.size; omega, [(1000, 1101)], by kernel_rfl, by kernel_rfl, ⟨Wk.refl _, ?_, Wk.refl _, Wk.refl _, trivial⟩, ⟨_, rfl, rS_ow (hrow _) rfl⟩, trivial⟩⟩⟩
      · simp only [Cnd.holds, e1, hb, k1, k2, k3, k4, h1, Nat.blt_eq, true_and, and_true]
        and_intros
        all_goals first
          | (with_reducible exact wk_int hw) | (with_reducible first | exact trivial | exact rfl | exact Wk.refl _ | exact VW.refl _ | exact OW.refl _ | exact wk_lit _ | assumption) | exact rfl | exact Wk.refl _ | exact VW.refl _ | exact OW.refl _ | ((repeat (first | exact VW.nil | refine VW.cons (Wk.refl _) ?_ | refine VW.cons (Wk.any _) ?_ | refine VW.cons (wk_cap (Nat.le_refl _)) ?_)); done)
      · rw [List.length_append]; exact Wk.refl _
    · have hlt : i < s.size := by omega
      have hb : (Int.ofNat i == (s.size : Int)) = false := by rw [beq_eq_false_iff_ne]; intro e; simp only [Int.ofNat_eq_natCast] at e; omega
      have hcut := drop_cut (l := s.data.toList) h1 (by rw [hsz]; exact hlt)
      have hmore := take_more (l := s.data.toList) h1 (by rw [hsz]; exact hlt)
      by_cases hd : s.data.toList.getD i 0 = 46
      · have hc : ((((s.data.toList.getD i 0).toNat : Nat) : Int) == Int.ofNat 46) = true := by rw [hd]; rfl
        have hP : (P ++ [s.extract a i]) ++ (splitL (s.data.toList.drop (i + 1))).map bsOf = dots s := by
          rw [← h2]
          conv => rhs; rw [hcut]
          have hx : s.extract a i = bsOf ((s.data.toList.drop a).take (i - a)) := by
            refine ba_ext ?_
            rw [extract_eq _ _ _ (by omega)]; rfl
          rw [hd, splitL_cut _ _ h3, List.map_cons, List.append_assoc, hx]
          rfl
        refine ⟨[], hWC i (s.extract a i) ((s.data.toList.getD i 0).toNat : Int), [], fun _ _ => noC, fun _ _ => noL, fun F => ?_⟩
        refine cast (congrArg (VAll _) (oWC_eq s (s.extract a i) P P.length a i ((s.data.toList.getD i 0).toNat : Int) F).symm) ⟨⟨?_, rfl, .inl ⟨rfl, ⟨(P ++ [s.extract a i], i + 1, i + 1), by show i + 1 ≤ s.size + 1; omega, fun h => ⟨Nat.le_refl _, hP, fun x hx => by simp only [Nat.sub_self, List.take_zero] at hx; cases hx⟩, fun h => by have h : i + 1 = s.size + 1 := h; omega⟩, by show s.size + 1 - (i + 1) < s.size + 1 - i; omega, [(1000, 1101)], by kernel_rfl, by kernel_rfl, ⟨Wk.refl _, ?_, Wk.refl _, Wk.refl _, trivial⟩, ⟨_, rfl, rS_ow (hrow _) rfl⟩, trivial⟩⟩⟩
        · simp only [Cnd.holds, e1, hb, k1, k2, k3, k4, h1, hlt, hi, Nat.blt_eq, true_and, and_true]
          and_intros
          all_goals first
            | (with_reducible exact wk_int hw)
            | exact wk_litE hc | (with_reducible first | exact trivial | exact rfl | exact Wk.refl _ | exact VW.refl _ | exact OW.refl _ | exact wk_lit _ | assumption) | exact rfl | exact Wk.refl _ | exact VW.refl _ | exact OW.refl _ | ((repeat (first | exact VW.nil | refine VW.cons (Wk.refl _) ?_ | refine VW.cons (Wk.any _) ?_ | refine VW.cons (wk_cap (Nat.le_refl _)) ?_)); done)
        · rw [List.length_append]; exact Wk.refl _
      · have hc : ((((s.data.toList.getD i 0).toNat : Nat) : Int) == Int.ofNat 46) = false := by
          rw [beq_eq_false_iff_ne]
          intro e
          refine hd (UInt8.toNat_inj.1 ?_)
          have : (s.data.toList.getD i 0).toNat = 46 := Int.ofNat.inj e
          rw [this]; rfl
        refine ⟨[], hWN i ((s.data.toList.getD i 0).toNat : Int), [], fun _ _ => noC, fun _ _ => noL, fun F => ?_⟩
        refine cast (congrArg (VAll _) (oWN_eq s P P.length a i ((s.data.toList.getD i 0).toNat : Int) F).symm) ⟨⟨?_, rfl, .inl ⟨rfl, ⟨(P, a, i + 1), by show i + 1 ≤ s.size + 1; omega, fun h => ⟨by show a ≤ i + 1; omega, h2, fun x hx => ?_⟩, fun h => by have h : i + 1 = s.size + 1 := h; omega⟩, by show s.size + 1 - (i + 1) < s.size + 1 - i; omega, [(1000, 1000)], by kernel_rfl, by kernel_rfl, ⟨Wk.refl _, Wk.refl _, Wk.refl _, Wk.refl _, trivial⟩, ⟨_, rfl, rS_ow rfl rfl⟩, trivial⟩⟩⟩
        · simp only [Cnd.holds, e1, hb, hlt, Nat.blt_eq, true_and, and_true]
          and_intros
          all_goals first
            | (with_reducible exact wk_int hw)
            | exact wk_litE hc | (with_reducible first | exact trivial | exact rfl | exact Wk.refl _ | exact VW.refl _ | exact OW.refl _ | exact wk_lit _ | assumption) | exact rfl | exact Wk.refl _ | exact VW.refl _ | exact OW.refl _ | ((repeat (first | exact VW.nil | refine VW.cons (Wk.refl _) ?_ | refine VW.cons (Wk.any _) ?_ | refine VW.cons (wk_cap (Nat.le_refl _)) ?_)); done)
        · simp only at hx
          rw [hmore] at hx
          rcases List.mem_append.1 hx with hx | hx
          · exact h3 x hx
          · rw [List.mem_singleton.1 hx]; exact hd
  · have hP := hI.fin (by have := hI.le; omega)
    have e1 : decide (Int.ofNat i ≤ (s.size : Int)) = false := decide_eq_false (by simp only [Int.ofNat_eq_natCast]; omega)
    rw [hP]
    refine ⟨[], hintL [(fRW, 4, 3, hv (.lit false))], [], fun _ _ => noC, fun _ _ => noL, fun F => ?_⟩
    refine cast (congrArg (VAll _) (oWE_eq s (dots s) (dots s).length a i F).symm) ⟨⟨?_, rfl, .inr ⟨rfl, [(1000, 1000)], by kernel_rfl, by kernel_rfl, ⟨Wk.refl _, trivial⟩, ⟨_, rfl, rS_ow rfl rfl⟩, trivial⟩⟩⟩
    simp only [Cnd.holds, and_true]
    exact wk_litE e1
theorem gRw_ro : ∀ args, RO (gRw args) := by
  intro args
  unfold gRw
  split
  · exact RO.ret _
  · exact RO.fail _
theorem lRw_ok (s : ByteArray) (hs : s.size ≤ 1100000) (F : HP) : L1OK Tryd.prog F (loopN fRW 4) (lRw s (dots s) (dots s).length) :=
  mkL_ok (W := default) oldDef gRw_ro (fun _ _ => rw_loop s hs) fun _ => by
    simp only [RT.pick]
    exact closedT rfl rfl (all_cons trivial (all_cons rfl (all_cons trivial (all_cons trivial all_nil)))) (all_cons (rS_cl _ _) all_nil) (all_cons rfl all_nil) (all_cons (rS_cl _ _) all_nil)
theorem RWords_tri (s : ByteArray) (hs : s.size ≤ 1100000) : Tri Tryd.prog default fRW [sv s] [] (sW (dots s).length) [(1000, rS (dots s))] := by
  refine tri_run (con := []) (hints := noHints) (lc := [(fRW, 4, loopN fRW 4, lRw s (dots s) (dots s).length)]) [1100, 1101] rfl (fun F _ => noC) (fun F _ => one_l (lRw_ok s hs F)) fun F => ?_
  refine cast (congrArg (VAll _) (oRWf_eq s (dots s) (dots s).length F).symm) ⟨⟨?_, (fit_mk (vs' := [sW (dots s).length]) (H' := [(1000, rS (dots s))]) [(1000, 1101)] rfl rfl (VW.refl _) ⟨⟨_, rfl, rS_ow (by rw [rens_rowV]) rfl⟩, trivial⟩).fits rfl⟩⟩
  simp only [Cnd.holds, Nat.blt_eq, true_and, and_true]
  and_intros
  all_goals first | (with_reducible first | exact trivial | exact rfl | exact Wk.refl _ | exact VW.refl _ | exact OW.refl _ | exact wk_lit _ | assumption) | exact rfl | exact Wk.refl _ | exact VW.refl _ | exact OW.refl _ | ((repeat (first | exact VW.nil | refine VW.cons (Wk.refl _) ?_ | refine VW.cons (Wk.any _) ?_ | refine VW.cons (wk_cap (Nat.le_refl _)) ?_)); done)
end Go.Proofs.YtbmoancedlbhlaaDoor.Tpc

/- Topic: the document's match: runs. -/
set_option linter.unusedVariables false
set_option linter.unusedSimpArgs false
set_option maxRecDepth 100000
namespace Go.Proofs.YtbmoancedlbhlaaDoor.Tpc
open Go Go.RowKit Go.Proofs.YtbmoancedlbhlaaDoor.Eng Go.Proofs.YtbmoancedlbhlaaDoor.Kit
noncomputable section
abbrev fRM : Nat := 10
abbrev tBool : TypeId := 2 * 4
def encB (b : Bool) : List Value := [.bool b]
def rB (l : List Bool) : AO := .cells (rowV encB l) tBool
def sB (i n : Nat) : AV := .slice i 0 n 1 (.lo n)
def aX (np nk n j : Nat) : List (Nat × AV) := [(5, sB 0 np), (6, sB 1 nk), (7, sB 1000 n), (8, iv (Int.ofNat j))]
def oX (ps ks : List ByteArray) (R : List Bool) : LH := [(0, rS ps), (1, rS ks), (1000, rB R)]
theorem oX1_eq (ps ks : List ByteArray) (R : List Bool) (np nk n j : Nat) (F : HP) : wLoop [] (hintL [(fRM, 4, 3, hv (.lit true)), (fRM, 5, 1, hv (iv (Int.ofNat (j + 1))))]) [] default fRM (loopN fRM 4) (tms 0 96 (aX np nk n j)) (oX ps ks R) [0, 1, 1000, 1100, 1101] [5, 6, 7, 8] F = VT.leaf (AX.normal,[AV.slice 0 0 np 1 (Cp.lo np),AV.slice 1 0 nk 1 (Cp.lo nk),AV.slice 1101 0 (n + 1) 1 (Cp.lo (n + 1)),i' (j + 1)],96) [some (AO.cells (rowV encS ps) 18),some (AO.cells (rowV encS ks) 18),none,some (AO.cells [b' false] 8),some (AO.cells (List.take (n * 1) (List.drop 0 (rowV encB R)) ++ [b' false]) 8)] 1102 (((p' (Wk (b' (decide (Int.ofNat j < ↑nk))) (AV.lit true))).a t').a (((p' (true = true)).a ((p' (true = true)).a ((p' (true = true)).a ((p' (true = true)).a ((p' ((0 + n * 1).ble (rowV encB R).length = true)).a ((p' (((n + 1) * 1).ble 140737488355328 = true)).a ((p' ((n + 1).ble 9223372036854775807 = true)).a ((p' ((List.take (n * 1) (List.drop 0 (rowV encB R))).length.beq (n * 1) = true)).a t')))))))).a (((p' (Wk (z' (IntKind.i64.wrap (Int.ofNat j + Int.ofNat 1))) (i' (j + 1)))).a t').a t'))) := by kernel_rfl
theorem oXE_eq (ps ks : List ByteArray) (R : List Bool) (np nk n : Nat) (F : HP) : wLoop [] (hintL [(fRM, 4, 3, hv (.lit false))]) [] default fRM (loopN fRM 4) (tms 0 96 (aX np nk n nk)) (oX ps ks R) [0, 1, 1000, 1100, 1101] [5, 6, 7, 8] F = VT.leaf (AX.exit 0,[AV.slice 0 0 np 1 (Cp.lo np),AV.slice 1 0 nk 1 (Cp.lo nk),AV.slice 1000 0 n 1 (Cp.lo n),i' nk],96) [some (AO.cells (rowV encS ps) 18),some (AO.cells (rowV encS ks) 18),some (AO.cells (rowV encB R) 8),none,none] 1100 (((p' (Wk (b' (decide (Int.ofNat nk < ↑nk))) (AV.lit false))).a t').a t') := by kernel_rfl
def aY (np nk n i m j : Nat) : List (Nat × AV) := [(5, sB 0 np), (6, sB 1 nk), (7, sB 2 n), (9, iv (Int.ofNat i)), (10, sB 1000 m), (11, iv (Int.ofNat j))]
def oY (ps ks : List ByteArray) (R T : List Bool) : LH := [(0, rS ps), (1, rS ks), (2, rB R), (1000, rB T)]
def hYH (j : Nat) (p : ByteArray) (q b : Bool) : ClaimT := hintL [(fRM, 12, 3, hv (.lit true)), (fRM, 13, 1, hv (iv (Int.ofNat (j + 1)))), (fRM, 15, 3, hv (sv p)), (fRM, 15, 4, hv (.lit true)), (fRM, 16, 2, hv (iv (Int.ofNat (j + 1)))), (fRM, 16, 4, hv (.lit q)), (fRM, 16, 9, hv (bv b))]
theorem oYH1_eq (ps ks : List ByteArray) (R T : List Bool) (p : ByteArray) (np nk n i m j : Nat) (b : Bool) (F : HP) : wLoop [] (hYH j p true b) [] default fRM (loopN fRM 12) (tms 0 96 (aY np nk n i m j)) (oY ps ks R T) [0, 1, 2, 1000, 1100, 1101] [5, 6, 7, 9, 10, 11] F = VT.leaf (AX.normal,[AV.slice 0 0 np 1 (Cp.lo np),AV.slice 1 0 nk 1 (Cp.lo nk),AV.slice 2 0 n 1 (Cp.lo n),i' i,AV.slice 1101 0 (m + 1) 1 (Cp.lo (m + 1)),i' (j + 1)],96) [some (AO.cells (rowV encS ps) 18),some (AO.cells (rowV encS ks) 18),some (AO.cells (rowV encB R) 8),none,some (AO.cells [b' true] 8),some (AO.cells (List.take (m * 1) (List.drop 0 (rowV encB T)) ++ [b' true]) 8)] 1102 (((p' (Wk (b' (decide (Int.ofNat j < ↑nk))) (AV.lit true))).a t').a (((p' (i.blt np = true)).a t').a (((p' ((0 + i * 1).blt (rowV encS ps).length = true)).a ((p' ((rowV encS ps).getD (0 + i * 1) (u') = AV.v (Value.string ((rowV encS ps).getD (0 + i * 1) (u')).strOf))).a ((p' (Wk (AV.v (Value.string ((rowV encS ps).getD (0 + i * 1) (u')).strOf)) (s' p))).a t'))).a (((p' (Wk (b' (p.toList == [(ByteArray.mk (Array.mk [35])).get! 0])) (AV.lit true))).a t').a (((p' (Wk (z' (IntKind.i64.wrap (Int.ofNat j + Int.ofNat 1))) (i' (j + 1)))).a t').a (((p' ((j + 1).blt n = true)).a t').a (((p' ((0 + (j + 1) * 1).blt (rowV encB R).length = true)).a ((p' (((rowV encB R).getD (0 + (j + 1) * 1) (u')).bool? = some ((rowV encB R).getD (0 + (j + 1) * 1) (u')).boolOf)).a ((p' (Wk (AV.v (Value.bool ((rowV encB R).getD (0 + (j + 1) * 1) (u')).boolOf)) (AV.lit true))).a t'))).a (((p' (true = true)).a ((p' (true = true)).a ((p' (true = true)).a ((p' (true = true)).a ((p' ((0 + m * 1).ble (rowV encB T).length = true)).a ((p' (((m + 1) * 1).ble 140737488355328 = true)).a ((p' ((m + 1).ble 9223372036854775807 = true)).a ((p' ((List.take (m * 1) (List.drop 0 (rowV encB T))).length.beq (m * 1) = true)).a t')))))))).a (((p' (Wk (z' (IntKind.i64.wrap (Int.ofNat j + Int.ofNat 1))) (i' (j + 1)))).a t').a t'))))))))) := by kernel_rfl
theorem oYH0_eq (ps ks : List ByteArray) (R T : List Bool) (p : ByteArray) (np nk n i m j : Nat) (b : Bool) (F : HP) : wLoop [] (hYH j p false b) [] default fRM (loopN fRM 12) (tms 0 96 (aY np nk n i m j)) (oY ps ks R T) [0, 1, 2, 1000, 1100, 1101] [5, 6, 7, 9, 10, 11] F = VT.leaf (AX.normal,[AV.slice 0 0 np 1 (Cp.lo np),AV.slice 1 0 nk 1 (Cp.lo nk),AV.slice 2 0 n 1 (Cp.lo n),i' i,AV.slice 1101 0 (m + 1) 1 (Cp.lo (m + 1)),i' (j + 1)],96) [some (AO.cells (rowV encS ps) 18),some (AO.cells (rowV encS ks) 18),some (AO.cells (rowV encB R) 8),none,some (AO.cells [b' b] 8),some (AO.cells (List.take (m * 1) (List.drop 0 (rowV encB T)) ++ [b' b]) 8)] 1102 (((p' (Wk (b' (decide (Int.ofNat j < ↑nk))) (AV.lit true))).a t').a (((p' (i.blt np = true)).a t').a (((p' ((0 + i * 1).blt (rowV encS ps).length = true)).a ((p' ((rowV encS ps).getD (0 + i * 1) (u') = AV.v (Value.string ((rowV encS ps).getD (0 + i * 1) (u')).strOf))).a ((p' (Wk (AV.v (Value.string ((rowV encS ps).getD (0 + i * 1) (u')).strOf)) (s' p))).a t'))).a (((p' (Wk (b' (p.toList == [(ByteArray.mk (Array.mk [35])).get! 0])) (AV.lit true))).a t').a (((p' (Wk (z' (IntKind.i64.wrap (Int.ofNat j + Int.ofNat 1))) (i' (j + 1)))).a t').a (((p' ((j + 1).blt n = true)).a t').a (((p' ((0 + (j + 1) * 1).blt (rowV encB R).length = true)).a ((p' (((rowV encB R).getD (0 + (j + 1) * 1) (u')).bool? = some ((rowV encB R).getD (0 + (j + 1) * 1) (u')).boolOf)).a ((p' (Wk (AV.v (Value.bool ((rowV encB R).getD (0 + (j + 1) * 1) (u')).boolOf)) (AV.lit false))).a t'))).a (((p' (j.blt m = true)).a t').a (((p' ((0 + j * 1).blt (rowV encB T).length = true)).a ((p' (((rowV encB T).getD (0 + j * 1) (u')).bool? = some ((rowV encB T).getD (0 + j * 1) (u')).boolOf)).a ((p' (Wk (AV.v (Value.bool ((rowV encB T).getD (0 + j * 1) (u')).boolOf)) (b' b))).a t'))).a (((p' (true = true)).a ((p' (true = true)).a ((p' (true = true)).a ((p' (true = true)).a ((p' ((0 + m * 1).ble (rowV encB T).length = true)).a ((p' (((m + 1) * 1).ble 140737488355328 = true)).a ((p' ((m + 1).ble 9223372036854775807 = true)).a ((p' ((List.take (m * 1) (List.drop 0 (rowV encB T))).length.beq (m * 1) = true)).a t')))))))).a (((p' (Wk (z' (IntKind.i64.wrap (Int.ofNat j + Int.ofNat 1))) (i' (j + 1)))).a t').a t'))))))))))) := by kernel_rfl
def hYN (j : Nat) (p k : ByteArray) (star eq b : Bool) : ClaimT := hintL [(fRM, 12, 3, hv (.lit true)), (fRM, 13, 1, hv (iv (Int.ofNat (j + 1)))), (fRM, 15, 3, hv (sv p)), (fRM, 15, 4, hv (.lit false)), (fRM, 17, 3, hv (sv p)), (fRM, 17, 4, hv (.lit star)), (fRM, 17, 9, hv (sv p)), (fRM, 17, 13, hv (sv k)), (fRM, 17, 14, hv (.lit eq)), (fRM, 17, 15, hv (.lit (star || eq))), (fRM, 18, 3, hv (bv b))]
theorem oYS_eq (ps ks : List ByteArray) (R T : List Bool) (p k : ByteArray) (np nk n i m j : Nat) (b : Bool) (F : HP) : wLoop [] (hYN j p k true false b) [] default fRM (loopN fRM 12) (tms 0 96 (aY np nk n i m j)) (oY ps ks R T) [0, 1, 2, 1000, 1100, 1101] [5, 6, 7, 9, 10, 11] F = VT.leaf (AX.normal,[AV.slice 0 0 np 1 (Cp.lo np),AV.slice 1 0 nk 1 (Cp.lo nk),AV.slice 2 0 n 1 (Cp.lo n),i' i,AV.slice 1101 0 (m + 1) 1 (Cp.lo (m + 1)),i' (j + 1)],96) [some (AO.cells (rowV encS ps) 18),some (AO.cells (rowV encS ks) 18),some (AO.cells (rowV encB R) 8),none,some (AO.cells [b' b] 8),some (AO.cells (List.take (m * 1) (List.drop 0 (rowV encB T)) ++ [b' b]) 8)] 1102 (((p' (Wk (b' (decide (Int.ofNat j < ↑nk))) (AV.lit true))).a t').a (((p' (i.blt np = true)).a t').a (((p' ((0 + i * 1).blt (rowV encS ps).length = true)).a ((p' ((rowV encS ps).getD (0 + i * 1) (u') = AV.v (Value.string ((rowV encS ps).getD (0 + i * 1) (u')).strOf))).a ((p' (Wk (AV.v (Value.string ((rowV encS ps).getD (0 + i * 1) (u')).strOf)) (s' p))).a t'))).a (((p' (Wk (b' (p.toList == [(ByteArray.mk (Array.mk [35])).get! 0])) (AV.lit false))).a t').a (((p' (i.blt np = true)).a t').a (((p' ((0 + i * 1).blt (rowV encS ps).length = true)).a ((p' ((rowV encS ps).getD (0 + i * 1) (u') = AV.v (Value.string ((rowV encS ps).getD (0 + i * 1) (u')).strOf))).a ((p' (Wk (AV.v (Value.string ((rowV encS ps).getD (0 + i * 1) (u')).strOf)) (s' p))).a t'))).a (((p' (Wk (b' (p.toList == [(ByteArray.mk (Array.mk [42])).get! 0])) (AV.lit true))).a t').a (((p' (Wk (AV.lit true) (AV.lit true))).a t').a (((p' (j.blt n = true)).a t').a (((p' ((0 + j * 1).blt (rowV encB R).length = true)).a ((p' (((rowV encB R).getD (0 + j * 1) (u')).bool? = some ((rowV encB R).getD (0 + j * 1) (u')).boolOf)).a ((p' (Wk (AV.v (Value.bool ((rowV encB R).getD (0 + j * 1) (u')).boolOf)) (b' b))).a t'))).a (((p' (true = true)).a ((p' (true = true)).a ((p' (true = true)).a ((p' (true = true)).a ((p' ((0 + m * 1).ble (rowV encB T).length = true)).a ((p' (((m + 1) * 1).ble 140737488355328 = true)).a ((p' ((m + 1).ble 9223372036854775807 = true)).a ((p' ((List.take (m * 1) (List.drop 0 (rowV encB T))).length.beq (m * 1) = true)).a t')))))))).a (((p' (Wk (z' (IntKind.i64.wrap (Int.ofNat j + Int.ofNat 1))) (i' (j + 1)))).a t').a t')))))))))))) := by kernel_rfl
theorem oYE_eq (ps ks : List ByteArray) (R T : List Bool) (p k : ByteArray) (np nk n i m j : Nat) (b : Bool) (F : HP) : wLoop [] (hYN j p k false true b) [] default fRM (loopN fRM 12) (tms 0 96 (aY np nk n i m j)) (oY ps ks R T) [0, 1, 2, 1000, 1100, 1101] [5, 6, 7, 9, 10, 11] F = VT.leaf (AX.normal,[AV.slice 0 0 np 1 (Cp.lo np),AV.slice 1 0 nk 1 (Cp.lo nk),AV.slice 2 0 n 1 (Cp.lo n),i' i,AV.slice 1101 0 (m + 1) 1 (Cp.lo (m + 1)),i' (j + 1)],96) [some (AO.cells (rowV encS ps) 18),some (AO.cells (rowV encS ks) 18),some (AO.cells (rowV encB R) 8),none,some (AO.cells [b' b] 8),some (AO.cells (List.take (m * 1) (List.drop 0 (rowV encB T)) ++ [b' b]) 8)] 1102 (((p' (Wk (b' (decide (Int.ofNat j < ↑nk))) (AV.lit true))).a t').a (((p' (i.blt np = true)).a t').a (((p' ((0 + i * 1).blt (rowV encS ps).length = true)).a ((p' ((rowV encS ps).getD (0 + i * 1) (u') = AV.v (Value.string ((rowV encS ps).getD (0 + i * 1) (u')).strOf))).a ((p' (Wk (AV.v (Value.string ((rowV encS ps).getD (0 + i * 1) (u')).strOf)) (s' p))).a t'))).a (((p' (Wk (b' (p.toList == [(ByteArray.mk (Array.mk [35])).get! 0])) (AV.lit false))).a t').a (((p' (i.blt np = true)).a t').a (((p' ((0 + i * 1).blt (rowV encS ps).length = true)).a ((p' ((rowV encS ps).getD (0 + i * 1) (u') = AV.v (Value.string ((rowV encS ps).getD (0 + i * 1) (u')).strOf))).a ((p' (Wk (AV.v (Value.string ((rowV encS ps).getD (0 + i * 1) (u')).strOf)) (s' p))).a t'))).a (((p' (Wk (b' (p.toList == [(ByteArray.mk (Array.mk [42])).get! 0])) (AV.lit false))).a t').a (((p' (i.blt np = true)).a t').a (((p' ((0 + i * 1).blt (rowV encS ps).length = true)).a ((p' ((rowV encS ps).getD (0 + i * 1) (u') = AV.v (Value.string ((rowV encS ps).getD (0 + i * 1) (u')).strOf))).a ((p' (Wk (AV.v (Value.string ((rowV encS ps).getD (0 + i * 1) (u')).strOf)) (s' p))).a t'))).a (((p' (j.blt nk = true)).a t').a (((p' ((0 + j * 1).blt (rowV encS ks).length = true)).a ((p' ((rowV encS ks).getD (0 + j * 1) (u') = AV.v (Value.string ((rowV encS ks).getD (0 + j * 1) (u')).strOf))).a ((p' (Wk (AV.v (Value.string ((rowV encS ks).getD (0 + j * 1) (u')).strOf)) (s' k))).a t'))).a (((p' (Wk (b' (p.toList == k.toList)) (AV.lit true))).a t').a (((p' (Wk (AV.lit true) (AV.lit true))).a t').a (((p' (j.blt n = true)).a t').a (((p' ((0 + j * 1).blt (rowV encB R).length = true)).a ((p' (((rowV encB R).getD (0 + j * 1) (u')).bool? = some ((rowV encB R).getD (0 + j * 1) (u')).boolOf)).a ((p' (Wk (AV.v (Value.bool ((rowV encB R).getD (0 + j * 1) (u')).boolOf)) (b' b))).a t'))).a (((p' (true = true)).a ((p' (true = true)).a ((p' (true = true)).a ((p' (true = true)).a ((p' ((0 + m * 1).ble (rowV encB T).length = true)).a ((p' (((m + 1) * 1).ble 140737488355328 = true)).a ((p' ((m + 1).ble 9223372036854775807 = true)).a ((p' ((List.take (m * 1) (List.drop 0 (rowV encB T))).length.beq (m * 1) = true)).a t')))))))).a (((p' (Wk (z' (IntKind.i64.wrap (Int.ofNat j + Int.ofNat 1))) (i' (j + 1)))).a t').a t'))))))))))))))))) := by kernel_rfl
theorem oYN_eq (ps ks : List ByteArray) (R T : List Bool) (p k : ByteArray) (np nk n i m j : Nat) (F : HP) : wLoop [] (hYN j p k false false false) [] default fRM (loopN fRM 12) (tms 0 96 (aY np nk n i m j)) (oY ps ks R T) [0, 1, 2, 1000, 1100, 1101] [5, 6, 7, 9, 10, 11] F = VT.leaf (AX.normal,[AV.slice 0 0 np 1 (Cp.lo np),AV.slice 1 0 nk 1 (Cp.lo nk),AV.slice 2 0 n 1 (Cp.lo n),i' i,AV.slice 1101 0 (m + 1) 1 (Cp.lo (m + 1)),i' (j + 1)],96) [some (AO.cells (rowV encS ps) 18),some (AO.cells (rowV encS ks) 18),some (AO.cells (rowV encB R) 8),none,some (AO.cells [b' false] 8),some (AO.cells (List.take (m * 1) (List.drop 0 (rowV encB T)) ++ [b' false]) 8)] 1102 (((p' (Wk (b' (decide (Int.ofNat j < ↑nk))) (AV.lit true))).a t').a (((p' (i.blt np = true)).a t').a (((p' ((0 + i * 1).blt (rowV encS ps).length = true)).a ((p' ((rowV encS ps).getD (0 + i * 1) (u') = AV.v (Value.string ((rowV encS ps).getD (0 + i * 1) (u')).strOf))).a ((p' (Wk (AV.v (Value.string ((rowV encS ps).getD (0 + i * 1) (u')).strOf)) (s' p))).a t'))).a (((p' (Wk (b' (p.toList == [(ByteArray.mk (Array.mk [35])).get! 0])) (AV.lit false))).a t').a (((p' (i.blt np = true)).a t').a (((p' ((0 + i * 1).blt (rowV encS ps).length = true)).a ((p' ((rowV encS ps).getD (0 + i * 1) (u') = AV.v (Value.string ((rowV encS ps).getD (0 + i * 1) (u')).strOf))).a ((p' (Wk (AV.v (Value.string ((rowV encS ps).getD (0 + i * 1) (u')).strOf)) (s' p))).a t'))).a (((p' (Wk (b' (p.toList == [(ByteArray.mk (Array.mk [42])).get! 0])) (AV.lit false))).a t').a (((p' (i.blt np = true)).a t').a (((p' ((0 + i * 1).blt (rowV encS ps).length = true)).a ((p' ((rowV encS ps).getD (0 + i * 1) (u') = AV.v (Value.string ((rowV encS ps).getD (0 + i * 1) (u')).strOf))).a ((p' (Wk (AV.v (Value.string ((rowV encS ps).getD (0 + i * 1) (u')).strOf)) (s' p))).a t'))).a (((p' (j.blt nk = true)).a t').a (((p' ((0 + j * 1).blt (rowV encS ks).length = true)).a ((p' ((rowV encS ks).getD (0 + j * 1) (u') = AV.v (Value.string ((rowV encS ks).getD (0 + j * 1) (u')).strOf))).a ((p' (Wk (AV.v (Value.string ((rowV encS ks).getD (0 + j * 1) (u')).strOf)) (s' k))).a t'))).a (((p' (Wk (b' (p.toList == k.toList)) (AV.lit false))).a t').a (((p' (Wk (AV.lit false) (AV.lit false))).a t').a (((p' (true = true)).a ((p' (true = true)).a ((p' (true = true)).a ((p' (true = true)).a ((p' ((0 + m * 1).ble (rowV encB T).length = true)).a ((p' (((m + 1) * 1).ble 140737488355328 = true)).a ((p' ((m + 1).ble 9223372036854775807 = true)).a ((p' ((List.take (m * 1) (List.drop 0 (rowV encB T))).length.beq (m * 1) = true)).a t')))))))).a (((p' (Wk (z' (IntKind.i64.wrap (Int.ofNat j + Int.ofNat 1))) (i' (j + 1)))).a t').a t'))))))))))))))) := by kernel_rfl
theorem oYX_eq (ps ks : List ByteArray) (R T : List Bool) (np nk n i m : Nat) (F : HP) : wLoop [] (hintL [(fRM, 12, 3, hv (.lit false))]) [] default fRM (loopN fRM 12) (tms 0 96 (aY np nk n i m nk)) (oY ps ks R T) [0, 1, 2, 1000, 1100, 1101] [5, 6, 7, 9, 10, 11] F = VT.leaf (AX.exit 4,[AV.slice 0 0 np 1 (Cp.lo np),AV.slice 1 0 nk 1 (Cp.lo nk),AV.slice 2 0 n 1 (Cp.lo n),i' i,AV.slice 1000 0 m 1 (Cp.lo m),i' nk],96) [some (AO.cells (rowV encS ps) 18),some (AO.cells (rowV encS ks) 18),some (AO.cells (rowV encB R) 8),some (AO.cells (rowV encB T) 8),none,none] 1100 (((p' (Wk (b' (decide (Int.ofNat nk < ↑nk))) (AV.lit false))).a t').a t') := by kernel_rfl
end
end Go.Proofs.YtbmoancedlbhlaaDoor.Tpc

/- Topic: the document's match: its loops. -/
set_option linter.unusedVariables false
set_option linter.unusedSimpArgs false
set_option maxRecDepth 100000
namespace Go.Proofs.YtbmoancedlbhlaaDoor.Tpc
open Go Go.RowKit Go.Proofs.YtbmoancedlbhlaaDoor.Eng Go.Proofs.YtbmoancedlbhlaaDoor.Kit
theorem encB_len (x : Bool) : (encB x).length = 1 := rfl
theorem rB_len (M : List Bool) : (rowV encB M).length = M.length := by rw [rowV_length (k := 1) encB_len, Nat.mul_one]
theorem rB_get (M : List Bool) (i : Nat) (hi : i < M.length) (d : AV) : (rowV encB M).getD (0 + i * 1) d = bv (M.getD i false) := by
  have := row_getD encB_len M false i hi 0 (by decide) _ rfl d
  rwa [Nat.add_zero] at this
theorem rB_lt (M : List Bool) (i : Nat) (hi : i < M.length) : (0 + i * 1).blt (rowV encB M).length = true := by
  rw [rB_len, Nat.blt_eq]; omega
theorem rB_ren (σ : Nat → Nat) (L : List Bool) : (rB L).ren σ = rB L := by simp only [rB, AO.ren, rens_rowV]
theorem rB_ow {x : List AV} {L : List Bool} {e : TypeId} {σ : Nat → Nat} (h : x = rowV encB L) (he : e = tBool) : OW (.cells x e) ((rB L).ren σ) := by rw [rB_ren]; subst h he; exact OW.refl _
theorem rB_cl (K : Nat → Bool) (L : List Bool) : (rB L).cl K := cls_rowV _ _
theorem rB_add (P : List Bool) (y : Bool) : List.take (P.length * 1) (List.drop 0 (rowV encB P)) ++ [AV.v (Value.bool y)] = rowV encB (P ++ [y]) := row_addW encB_len P y
def rowT (p k : Path) (i : Nat) : List Bool := (List.range (k.length + 1)).map fun j => mt (p.take i).reverse (k.take j).reverse
theorem rowT_len (p k : Path) (i : Nat) : (rowT p k i).length = k.length + 1 := by simp [rowT]
theorem rowT_get (p k : Path) (i j : Nat) (hj : j ≤ k.length) : (rowT p k i).getD j false = mt (p.take i).reverse (k.take j).reverse := by
  unfold rowT
  rw [List.getD_eq_getElem?_getD, List.getElem?_map, List.getElem?_range (by omega)]
  rfl
theorem rowT_next (p k : Path) (i j : Nat) (hj : j < k.length) : (rowT p k i).take (j + 1 + 1) = (rowT p k i).take (j + 1) ++ [mt (p.take i).reverse (k.take (j + 1)).reverse] := by
  rw [take_next _ false (j + 1) (by rw [rowT_len]; omega), rowT_get _ _ _ _ (by omega)]
theorem rowT_tlen (p k : Path) (i j : Nat) (hj : j ≤ k.length) : ((rowT p k i).take (j + 1)).length = j + 1 := by rw [List.length_take, rowT_len]; omega
theorem rowT_tget (p k : Path) (i j : Nat) (hj : j ≤ k.length) : ((rowT p k i).take (j + 1)).getD j false = mt (p.take i).reverse (k.take j).reverse := by
  rw [← rowT_get p k i j hj, List.getD_eq_getElem?_getD, List.getD_eq_getElem?_getD, List.getElem?_take_of_lt (by omega)]
theorem rev_next (k : Path) (j : Nat) (hj : j < k.length) : (k.take (j + 1)).reverse = k.getD j nil0 :: (k.take j).reverse := by
  rw [take_next k nil0 j hj, List.reverse_append]; rfl
theorem ltFC {n : Nat} : decide (Int.ofNat n < (n : Int)) = false := decide_eq_false (by simp only [Int.ofNat_eq_natCast]; omega)
theorem ltTC {j n : Nat} (h : j < n) : decide (Int.ofNat j < (n : Int)) = true := decide_eq_true (by simp only [Int.ofNat_eq_natCast]; omega)
theorem x_loop (p k : Path) (hk : k.length ≤ 1200000) :
    LTri Tryd.prog default (loopN fRM 4) (tms 0 96 (aX p.length k.length 1 0)) (oX p k [true]) (.exit 0) (tms 0 96 [(5, sB 0 p.length), (6, sB 1 k.length), (7, sB 1000 (k.length + 1))]) (oX p k (rowT p k 0)) := by
  have h0 : (rowT p k 0).take (0 + 1) = [true] := by
    rw [take_next _ false 0 (by rw [rowT_len]; omega), rowT_get _ _ _ _ (Nat.zero_le _)]
    simp [mt]
  have key := ltri_run (W := default) (g := fRM) (b := loopN fRM 4) (σ := {j : Nat // j ≤ k.length}) 96 (fun j => aX p.length k.length (j.1 + 1) j.1) (fun j => oX p k ((rowT p k 0).take (j.1 + 1))) (.exit 0) [(5, sB 0 p.length), (6, sB 1 k.length), (7, sB 1000 (k.length + 1))] (oX p k (rowT p k 0)) (fun j => k.length - j.1) [0, 1, 1000, 1100, 1101] [5, 6, 7, 8] (by intro h; cases h) (fun _ => rfl) rfl ?_ ⟨0, Nat.zero_le _⟩
  · rw [← h0]
    exact key
  rintro ⟨j, hj⟩
  simp only
  by_cases h1 : j < k.length
  · have hw := wrap_succ j (by omega)
    have e1 : decide (Int.ofNat j < (k.length : Int)) = true := decide_eq_true (by simp only [Int.ofNat_eq_natCast]; omega)
    have hl := rowT_tlen p k 0 j hj
    have hnx := rowT_next p k 0 j h1
    have hval : mt (p.take 0).reverse (k.take (j + 1)).reverse = false := by
      rw [rev_next k j h1, List.take_zero, List.reverse_nil, mt]; rfl
    rw [hval] at hnx
    generalize (rowT p k 0).take (j + 1) = R at hl hnx ⊢
    have k1 : (0 + R.length * 1).ble (rowV encB R).length = true := row_in encB_len R
    have k2 : ((R.length + 1) * 1).ble 140737488355328 = true := by rw [Nat.ble_eq]; omega
    have k3 : (R.length + 1).ble 9223372036854775807 = true := by rw [Nat.ble_eq]; omega
    have k4 := row_full encB_len R
    refine ⟨[], hintL [(fRM, 4, 3, hv (.lit true)), (fRM, 5, 1, hv (iv (Int.ofNat (j + 1))))], [], fun _ _ => noC, fun _ _ => noL, fun F => ?_⟩
    have hq := oX1_eq p k R p.length k.length R.length j F
    rw [hl] at hq k1 k2 k3 k4
    refine cast (congrArg (VAll _) hq.symm) ⟨⟨?_, rfl, .inl ⟨rfl, ⟨j + 1, h1⟩, sub_down h1, [(1000, 1101)], by kernel_rfl, by kernel_rfl, ⟨Wk.refl _, Wk.refl _, Wk.refl _, Wk.refl _, trivial⟩, ⟨_, rfl, rS_ow rfl rfl⟩, ⟨_, rfl, rS_ow rfl rfl⟩, ⟨_, rfl, ?_⟩, trivial⟩⟩⟩
    · simp only [Cnd.holds, e1, k1, k2, k3, k4, Nat.blt_eq, true_and, and_true]
      and_intros
      all_goals first
        | (with_reducible exact wk_int hw) | (with_reducible first | exact trivial | exact rfl | exact Wk.refl _ | exact VW.refl _ | exact OW.refl _ | exact wk_lit _ | assumption) | exact rfl | exact Wk.refl _ | exact VW.refl _ | exact OW.refl _ | ((repeat (first | exact VW.nil | refine VW.cons (Wk.refl _) ?_ | refine VW.cons (Wk.any _) ?_ | refine VW.cons (wk_cap (Nat.le_refl _)) ?_)); done)
    · simp only
      rw [hnx]
      refine rB_ow ?_ rfl
      rw [← rB_add, hl]
  · have hje : j = k.length := by omega
    subst hje
    have ht : (rowT p k 0).take (k.length + 1) = rowT p k 0 := List.take_of_length_le (by rw [rowT_len]; exact Nat.le_refl _)
    simp only [ht]
    refine ⟨[], hintL [(fRM, 4, 3, hv (.lit false))], [], fun _ _ => noC, fun _ _ => noL, fun F => ?_⟩
    refine cast (congrArg (VAll _) (oXE_eq p k (rowT p k 0) p.length k.length (k.length + 1) F).symm) ⟨⟨?_, rfl, .inr ⟨rfl, [(1000, 1000)], by kernel_rfl, by kernel_rfl, ⟨Wk.refl _, Wk.refl _, Wk.refl _, trivial⟩, ⟨_, rfl, rS_ow rfl rfl⟩, ⟨_, rfl, rS_ow rfl rfl⟩, ⟨_, rfl, rB_ow rfl rfl⟩, trivial⟩⟩⟩
    simp only [Cnd.holds, and_true]
    exact wk_litE ltFC
theorem bs_ne {p k : ByteArray} (h : p ≠ k) : (p.toList == k.toList) = false := by
  rw [beq_eq_false_iff_ne]
  intro e
  refine h (ba_ext ?_)
  rw [← Lib.toList_data, ← Lib.toList_data, e]
theorem y_loop (p k : Path) (i : Nat) (hk : k.length ≤ 1200000) (hi : i < p.length) (hp : p.length ≤ 1200000) :
    LTri Tryd.prog default (loopN fRM 12) (tms 0 96 (aY p.length k.length (k.length + 1) i 1 0)) (oY p k (rowT p k i) ((rowT p k (i + 1)).take 1)) (.exit 4) (tms 0 96 [(5, sB 0 p.length), (6, sB 1 k.length), (9, iv (Int.ofNat i)), (10, sB 1000 (k.length + 1))]) [(0, rS p), (1, rS k), (1000, rB (rowT p k (i + 1)))] := by
  refine ltri_run (W := default) (g := fRM) (b := loopN fRM 12) (σ := {j : Nat // j ≤ k.length}) 96 (fun j => aY p.length k.length (k.length + 1) i (j.1 + 1) j.1) (fun j => oY p k (rowT p k i) ((rowT p k (i + 1)).take (j.1 + 1))) (.exit 4) [(5, sB 0 p.length), (6, sB 1 k.length), (9, iv (Int.ofNat i)), (10, sB 1000 (k.length + 1))] [(0, rS p), (1, rS k), (1000, rB (rowT p k (i + 1)))] (fun j => k.length - j.1) [0, 1, 2, 1000, 1100, 1101] [5, 6, 7, 9, 10, 11] (by intro h; cases h) (fun _ => rfl) rfl ?_ ⟨0, Nat.zero_le _⟩
  rintro ⟨j, hj⟩
  simp only
  by_cases h1 : j < k.length
  · have hw := wrap_succ j (by omega)
    have e1 : decide (Int.ofNat j < (k.length : Int)) = true := ltTC h1
    have hl := rowT_tlen p k (i + 1) j hj
    have hnx := rowT_next p k (i + 1) j h1
    have hold := rowT_tget p k (i + 1) j hj
    have g0 := rS_get p i hi
    have g1 := rS_lt p i hi
    have g2 := rS_get k j h1
    have g3 := rS_lt k j h1
    have rl := rowT_len p k i
    have b0 := rB_get (rowT p k i) j (by omega)
    have b1 := rB_lt (rowT p k i) j (by omega)
    have b2 := rB_get (rowT p k i) (j + 1) (by omega)
    have b3 := rB_lt (rowT p k i) (j + 1) (by omega)
    rw [rowT_get p k i j hj] at b0
    rw [rowT_get p k i (j + 1) h1] at b2
    rw [rev_next p i hi, rev_next k j h1, mt] at hnx
    rw [rev_next p i hi] at hold
    rw [rev_next k j h1] at b2
    have q1 : j < k.length + 1 := by omega
    have q2 : j + 1 < k.length + 1 := by omega
    generalize (rowT p k (i + 1)).take (j + 1) = T at hl hnx hold ⊢
    have b4 := rB_get T j (by omega)
    have b5 := rB_lt T j (by omega)
    rw [hold] at b4
    have k1 : (0 + T.length * 1).ble (rowV encB T).length = true := row_in encB_len T
    have k2 : ((T.length + 1) * 1).ble 140737488355328 = true := by rw [Nat.ble_eq]; omega
    have k3 : (T.length + 1).ble 9223372036854775807 = true := by rw [Nat.ble_eq]; omega
    have k4 := row_full encB_len T
    have hadd := fun y => rB_add T y
    rw [hl] at k1 k2 k3 k4 hadd
    have q3 : j < j + 1 := Nat.lt_succ_self j
    generalize p.getD i nil0 = w at *
    generalize k.getD j nil0 = y at *
    generalize mt (p.take i).reverse (y :: (k.take j).reverse) = m1 at *
    generalize mt (w :: (p.take i).reverse) (k.take j).reverse = m2 at *
    generalize mt (p.take i).reverse (k.take j).reverse = m3 at *
    generalize rowT p k i = R at *
    by_cases hh : w = hash
    · rw [if_pos hh] at hnx
      have c1 : (w.toList == [(ByteArray.mk (Array.mk [35])).get! 0]) = true := (bl_one w 35).trans (decide_eq_true hh)
      cases m1 with
      | true =>
        rw [Bool.true_or] at hnx
        refine ⟨[], hYH j w true true, [], fun _ _ => noC, fun _ _ => noL, fun F => ?_⟩
        refine cast (congrArg (VAll _) (oYH1_eq p k R T w p.length k.length (k.length + 1) i (j + 1) j true F).symm) ⟨⟨?_, rfl, .inl ⟨rfl, ⟨j + 1, h1⟩, sub_down h1, [(1000, 1101)], by kernel_rfl, by kernel_rfl, ⟨Wk.refl _, Wk.refl _, Wk.refl _, Wk.refl _, Wk.refl _, Wk.refl _, trivial⟩, ⟨_, rfl, rS_ow rfl rfl⟩, ⟨_, rfl, rS_ow rfl rfl⟩, ⟨_, rfl, rB_ow rfl rfl⟩, ⟨_, rfl, ?_⟩, trivial⟩⟩⟩
        · simp only [Cnd.holds, e1, k1, k2, k3, k4, g0, g1, hi, b2, b3, q2, AV.strOf, AV.boolOf, AV.bool?, sv, Nat.blt_eq, true_and, and_true]
          and_intros
          all_goals first
            | (with_reducible exact wk_int hw)
            | exact wk_litE c1 | (with_reducible first | exact trivial | exact rfl | exact Wk.refl _ | exact VW.refl _ | exact OW.refl _ | exact wk_lit _ | assumption) | exact rfl | exact Wk.refl _ | exact VW.refl _ | exact OW.refl _ | ((repeat (first | exact VW.nil | refine VW.cons (Wk.refl _) ?_ | refine VW.cons (Wk.any _) ?_ | refine VW.cons (wk_cap (Nat.le_refl _)) ?_)); done)
        · simp only [hnx]; exact rB_ow (hadd _) rfl
      | false =>
        rw [Bool.false_or] at hnx
        refine ⟨[], hYH j w false m2, [], fun _ _ => noC, fun _ _ => noL, fun F => ?_⟩
        refine cast (congrArg (VAll _) (oYH0_eq p k R T w p.length k.length (k.length + 1) i (j + 1) j m2 F).symm) ⟨⟨?_, rfl, .inl ⟨rfl, ⟨j + 1, h1⟩, sub_down h1, [(1000, 1101)], by kernel_rfl, by kernel_rfl, ⟨Wk.refl _, Wk.refl _, Wk.refl _, Wk.refl _, Wk.refl _, Wk.refl _, trivial⟩, ⟨_, rfl, rS_ow rfl rfl⟩, ⟨_, rfl, rS_ow rfl rfl⟩, ⟨_, rfl, rB_ow rfl rfl⟩, ⟨_, rfl, ?_⟩, trivial⟩⟩⟩
        · simp only [Cnd.holds, e1, k1, k2, k3, k4, g0, g1, hi, b2, b3, b4, b5, q2, q3, AV.strOf, AV.boolOf, AV.bool?, sv, Nat.blt_eq, true_and, and_true]
          and_intros
          all_goals first
            | (with_reducible exact wk_int hw)
            | exact wk_litE c1 | (with_reducible first | exact trivial | exact rfl | exact Wk.refl _ | exact VW.refl _ | exact OW.refl _ | exact wk_lit _ | assumption) | exact rfl | exact Wk.refl _ | exact VW.refl _ | exact OW.refl _ | ((repeat (first | exact VW.nil | refine VW.cons (Wk.refl _) ?_ | refine VW.cons (Wk.any _) ?_ | refine VW.cons (wk_cap (Nat.le_refl _)) ?_)); done)
        · simp only [hnx]; exact rB_ow (hadd _) rfl
    · rw [if_neg hh] at hnx
      have c1 : (w.toList == [(ByteArray.mk (Array.mk [35])).get! 0]) = false := (bl_one w 35).trans (decide_eq_false hh)
      by_cases hs : w = star
      · have c2 : (w.toList == [(ByteArray.mk (Array.mk [42])).get! 0]) = true := (bl_one w 42).trans (decide_eq_true hs)
        rw [decide_eq_true hs, Bool.true_or, Bool.true_and] at hnx
        refine ⟨[], hYN j w y true false m3, [], fun _ _ => noC, fun _ _ => noL, fun F => ?_⟩
        refine cast (congrArg (VAll _) (oYS_eq p k R T w y p.length k.length (k.length + 1) i (j + 1) j m3 F).symm) ⟨⟨?_, rfl, .inl ⟨rfl, ⟨j + 1, h1⟩, sub_down h1, [(1000, 1101)], by kernel_rfl, by kernel_rfl, ⟨Wk.refl _, Wk.refl _, Wk.refl _, Wk.refl _, Wk.refl _, Wk.refl _, trivial⟩, ⟨_, rfl, rS_ow rfl rfl⟩, ⟨_, rfl, rS_ow rfl rfl⟩, ⟨_, rfl, rB_ow rfl rfl⟩, ⟨_, rfl, ?_⟩, trivial⟩⟩⟩
        · simp only [Cnd.holds, e1, k1, k2, k3, k4, g0, g1, hi, b0, b1, q1, AV.strOf, AV.boolOf, AV.bool?, sv, Nat.blt_eq, true_and, and_true]
          and_intros
          all_goals first
            | (with_reducible exact wk_int hw)
            | exact wk_litE c1
            | exact wk_litE c2 | (with_reducible first | exact trivial | exact rfl | exact Wk.refl _ | exact VW.refl _ | exact OW.refl _ | exact wk_lit _ | assumption) | exact rfl | exact Wk.refl _ | exact VW.refl _ | exact OW.refl _ | ((repeat (first | exact VW.nil | refine VW.cons (Wk.refl _) ?_ | refine VW.cons (Wk.any _) ?_ | refine VW.cons (wk_cap (Nat.le_refl _)) ?_)); done)
        · simp only [hnx]; exact rB_ow (hadd _) rfl
      · have c2 : (w.toList == [(ByteArray.mk (Array.mk [42])).get! 0]) = false := (bl_one w 42).trans (decide_eq_false hs)
        by_cases he : w = y
        · have c3 : (w.toList == y.toList) = true := by rw [he]; exact beq_iff_eq.2 rfl
          rw [decide_eq_false hs, decide_eq_true he, Bool.false_or, Bool.true_and] at hnx
          refine ⟨[], hYN j w y false true m3, [], fun _ _ => noC, fun _ _ => noL, fun F => ?_⟩
          refine cast (congrArg (VAll _) (oYE_eq p k R T w y p.length k.length (k.length + 1) i (j + 1) j m3 F).symm) ⟨⟨?_, rfl, .inl ⟨rfl, ⟨j + 1, h1⟩, sub_down h1, [(1000, 1101)], by kernel_rfl, by kernel_rfl, ⟨Wk.refl _, Wk.refl _, Wk.refl _, Wk.refl _, Wk.refl _, Wk.refl _, trivial⟩, ⟨_, rfl, rS_ow rfl rfl⟩, ⟨_, rfl, rS_ow rfl rfl⟩, ⟨_, rfl, rB_ow rfl rfl⟩, ⟨_, rfl, ?_⟩, trivial⟩⟩⟩
          · simp only [Cnd.holds, e1, k1, k2, k3, k4, g0, g1, g2, g3, h1, hi, b0, b1, q1, AV.strOf, AV.boolOf, AV.bool?, sv, Nat.blt_eq, true_and, and_true]
            and_intros
            all_goals first
              | (with_reducible exact wk_int hw)
              | exact wk_litE c1
              | exact wk_litE c2
              | exact wk_litE c3 | (with_reducible first | exact trivial | exact rfl | exact Wk.refl _ | exact VW.refl _ | exact OW.refl _ | exact wk_lit _ | assumption) | exact rfl | exact Wk.refl _ | exact VW.refl _ | exact OW.refl _ | ((repeat (first | exact VW.nil | refine VW.cons (Wk.refl _) ?_ | refine VW.cons (Wk.any _) ?_ | refine VW.cons (wk_cap (Nat.le_refl _)) ?_)); done)
          · simp only [hnx]; exact rB_ow (hadd _) rfl
        · have c3 : (w.toList == y.toList) = false := bs_ne he
          rw [decide_eq_false hs, decide_eq_false he, Bool.false_or, Bool.false_and] at hnx
          refine ⟨[], hYN j w y false false false, [], fun _ _ => noC, fun _ _ => noL, fun F => ?_⟩
          refine cast (congrArg (VAll _) (oYN_eq p k R T w y p.length k.length (k.length + 1) i (j + 1) j F).symm) ⟨⟨?_, rfl, .inl ⟨rfl, ⟨j + 1, h1⟩, sub_down h1, [(1000, 1101)], by kernel_rfl, by kernel_rfl, ⟨Wk.refl _, Wk.refl _, Wk.refl _, Wk.refl _, Wk.refl _, Wk.refl _, trivial⟩, ⟨_, rfl, rS_ow rfl rfl⟩, ⟨_, rfl, rS_ow rfl rfl⟩, ⟨_, rfl, rB_ow rfl rfl⟩, ⟨_, rfl, ?_⟩, trivial⟩⟩⟩
          · simp only [Cnd.holds, e1, k1, k2, k3, k4, g0, g1, g2, g3, h1, hi, AV.strOf, AV.boolOf, AV.bool?, sv, Nat.blt_eq, true_and, and_true]
            and_intros
            all_goals first
              | (with_reducible exact wk_int hw)
              | exact wk_litE c1
              | exact wk_litE c2
              | exact wk_litE c3 | (with_reducible first | exact trivial | exact rfl | exact Wk.refl _ | exact VW.refl _ | exact OW.refl _ | exact wk_lit _ | assumption) | exact rfl | exact Wk.refl _ | exact VW.refl _ | exact OW.refl _ | ((repeat (first | exact VW.nil | refine VW.cons (Wk.refl _) ?_ | refine VW.cons (Wk.any _) ?_ | refine VW.cons (wk_cap (Nat.le_refl _)) ?_)); done)
          · simp only [hnx]; exact rB_ow (hadd _) rfl
  · have hje : j = k.length := by omega
    subst hje
    have ht : (rowT p k (i + 1)).take (k.length + 1) = rowT p k (i + 1) := List.take_of_length_le (by rw [rowT_len]; exact Nat.le_refl _)
    simp only [ht]
    refine ⟨[], hintL [(fRM, 12, 3, hv (.lit false))], [], fun _ _ => noC, fun _ _ => noL, fun F => ?_⟩
    refine cast (congrArg (VAll _) (oYX_eq p k (rowT p k i) (rowT p k (i + 1)) p.length k.length (k.length + 1) i (k.length + 1) F).symm) ⟨⟨?_, rfl, .inr ⟨rfl, [(1000, 1000)], by kernel_rfl, by kernel_rfl, ⟨Wk.refl _, Wk.refl _, Wk.refl _, Wk.refl _, trivial⟩, ⟨_, rfl, rS_ow rfl rfl⟩, ⟨_, rfl, rS_ow rfl rfl⟩, ⟨_, rfl, rB_ow rfl rfl⟩, trivial⟩⟩⟩
    simp only [Cnd.holds, and_true]
    exact wk_litE ltFC
end Go.Proofs.YtbmoancedlbhlaaDoor.Tpc

/- Topic: the document's match: whole, runs. -/
set_option linter.unusedVariables false
set_option linter.unusedSimpArgs false
set_option maxRecDepth 100000
namespace Go.Proofs.YtbmoancedlbhlaaDoor.Tpc
open Go Go.RowKit Go.Proofs.YtbmoancedlbhlaaDoor.Eng Go.Proofs.YtbmoancedlbhlaaDoor.Kit
noncomputable section
def gY : List AV → AP (Nat × Nat × Nat × Nat) := fun tmps => match getL tmps 5 with
  | .slice a _ _ _ _ => match getL tmps 6 with
    | .slice b _ _ _ _ => match getL tmps 7 with
      | .slice c _ _ _ _ => match getL tmps 10 with
        | .slice d _ _ _ _ => .ret (a, b, c, d)
        | _ => .fail "table"
      | _ => .fail "table"
    | _ => .fail "table"
  | _ => .fail "table"
def nmY (a b c d : Nat) : Nat → Nat := fun k => match Nat.beq k 0 with
  | true => a
  | false => match Nat.beq k 1 with
    | true => b
    | false => match Nat.beq k 2 with
      | true => c
      | false => match Nat.beq k 1000 with
        | true => d
        | false => k
def lY (p k : Path) (np nk n i : Nat) (R T0 T : List Bool) : List AV → AP (AX × List AV) := mkL gY (fun _ => True) (fun q => nmY q.1 q.2.1 q.2.2.1 q.2.2.2) (fun _ => tms 0 96 (aY np nk n i 1 0)) (fun _ => oY p k R T0) (fun _ => .leaf (.exit 4) (tms 0 96 [(5, sB 0 np), (6, sB 1 nk), (9, iv (Int.ofNat i)), (10, sB 1000 n)]) [(0, rS p), (1, rS k), (1000, rB T)])
def aO (np nk n i : Nat) : List (Nat × AV) := [(5, sB 0 np), (6, sB 1 nk), (7, sB 1000 n), (9, iv (Int.ofNat i))]
def oO (p k : Path) (R : List Bool) : LH := [(0, rS p), (1, rS k), (1000, rB R)]
theorem oOH_eq (p k : Path) (R T : List Bool) (w : ByteArray) (np nk n i : Nat) (b : Bool) (F : HP) : wLoop [] (hintL [(fRM, 8, 3, hv (.lit true)), (fRM, 10, 3, hv (sv w)), (fRM, 10, 4, hv (.lit true)), (fRM, 10, 8, hv (bv b)), (fRM, 9, 1, hv (iv (Int.ofNat (i + 1))))]) [(fRM, 12, loopN fRM 12, lY p k np nk n i R [b] T)] default fRM (loopN fRM 8) (tms 0 96 (aO np nk n i)) (oO p k R) [0, 1, 1000, 1100, 1101] [5, 6, 7, 9] F = VT.leaf (AX.normal,[AV.slice 0 0 np 1 (Cp.lo np),AV.slice 1 0 nk 1 (Cp.lo nk),AV.slice 1101 0 n 1 (Cp.lo n),i' (i + 1)],96) [some (AO.cells (AV.rens (sgN (nmY 0 1 1000 1100) [1000] 1101) (rowV encS p)) 18),some (AO.cells (AV.rens (sgN (nmY 0 1 1000 1100) [1000] 1101) (rowV encS k)) 18),none,none,some (AO.cells (AV.rens (sgN (nmY 0 1 1000 1100) [1000] 1101) (rowV encB T)) 8)] 1102 (((p' (Wk (b' (decide (Int.ofNat i < ↑np))) (AV.lit true))).a t').a (((p' (i.blt np = true)).a t').a (((p' ((0 + i * 1).blt (rowV encS p).length = true)).a ((p' ((rowV encS p).getD (0 + i * 1) (u') = AV.v (Value.string ((rowV encS p).getD (0 + i * 1) (u')).strOf))).a ((p' (Wk (AV.v (Value.string ((rowV encS p).getD (0 + i * 1) (u')).strOf)) (s' w))).a t'))).a (((p' (Wk (b' (w.toList == [(ByteArray.mk (Array.mk [35])).get! 0])) (AV.lit true))).a t').a (((p' (Nat.blt 0 n = true)).a t').a (((p' (Nat.blt 0 (rowV encB R).length = true)).a ((p' (((rowV encB R).getD 0 (u')).bool? = some ((rowV encB R).getD 0 (u')).boolOf)).a ((p' (Wk (AV.v (Value.bool ((rowV encB R).getD 0 (u')).boolOf)) (b' b))).a t'))).a ((p' ((fRM,12,loopN fRM 12,lY p k np nk n i R [b] T).snd.snd.fst = (fRM,12,loopN fRM 12,lY p k np nk n i R [b] T).snd.snd.fst)).a ((Cnd.p True).a ((p' (VW [a',a',a',a',a',AV.slice 0 0 np 1 (Cp.lo np),AV.slice 1 0 nk 1 (Cp.lo nk),AV.slice 1000 0 n 1 (Cp.lo n),a',i' i,AV.slice 1100 0 1 1 (Cp.ex 1),i' 0,a',a',a',a',a',a',a',a',a',a',a',a',a',a',a',i' i,AV.slice 0 0 np 1 (Cp.lo np),z' ↑np,AV.lit true,a',a',AV.slice 0 0 np 1 (Cp.lo np),i' i,AV.ptr 0 (0 + i * 1),s' w,AV.lit true,AV.lit true,AV.slice 1000 0 n 1 (Cp.lo n),AV.ptr 1000 0,b' b,b' b,AV.slice 1100 0 1 1 (Cp.ex 1),a',a',a',a',a',a',a',a',a',a',a',a',a',a',a',a',a',a',a',a',a',a',a',a',a',a',a',a',a',a',a',a',a',a',a',a',a',a',a',a',a',a',a',a',a',a',a',a',a',a',a',a'] [a',a',a',a',a',AV.slice 0 0 np 1 (Cp.lo np),AV.slice 1 0 nk 1 (Cp.lo nk),AV.slice 1000 0 n 1 (Cp.lo n),a',i' i,AV.slice 1100 0 1 1 (Cp.lo 1),i' 0,a',a',a',a',a',a',a',a',a',a',a',a',a',a',a',a',a',a',a',a',a',a',a',a',a',a',a',a',a',a',a',a',a',a',a',a',a',a',a',a',a',a',a',a',a',a',a',a',a',a',a',a',a',a',a',a',a',a',a',a',a',a',a',a',a',a',a',a',a',a',a',a',a',a',a',a',a',a',a',a',a',a',a',a'])).a ((p' (OW (AO.cells (rowV encS p) 18) (AO.cells (AV.rens (nmY 0 1 1000 1100) (rowV encS p)) 18))).a ((p' (OW (AO.cells (rowV encS k) 18) (AO.cells (AV.rens (nmY 0 1 1000 1100) (rowV encS k)) 18))).a ((p' (OW (AO.cells (rowV encB R) 8) (AO.cells (AV.rens (nmY 0 1 1000 1100) (rowV encB R)) 8))).a ((p' (OW (AO.cells [b' b] 8) (AO.cells [b' b] 8))).a (((p' (Wk (z' (IntKind.i64.wrap (Int.ofNat i + Int.ofNat 1))) (i' (i + 1)))).a t').a t')))))))))))))) := by kernel_rfl
theorem oON_eq (p k : Path) (R T : List Bool) (w : ByteArray) (np nk n i : Nat) (F : HP) : wLoop [] (hintL [(fRM, 8, 3, hv (.lit true)), (fRM, 10, 3, hv (sv w)), (fRM, 10, 4, hv (.lit false)), (fRM, 9, 1, hv (iv (Int.ofNat (i + 1))))]) [(fRM, 12, loopN fRM 12, lY p k np nk n i R [false] T)] default fRM (loopN fRM 8) (tms 0 96 (aO np nk n i)) (oO p k R) [0, 1, 1000, 1100, 1101] [5, 6, 7, 9] F = VT.leaf (AX.normal,[AV.slice 0 0 np 1 (Cp.lo np),AV.slice 1 0 nk 1 (Cp.lo nk),AV.slice 1101 0 n 1 (Cp.lo n),i' (i + 1)],96) [some (AO.cells (AV.rens (sgN (nmY 0 1 1000 1100) [1000] 1101) (rowV encS p)) 18),some (AO.cells (AV.rens (sgN (nmY 0 1 1000 1100) [1000] 1101) (rowV encS k)) 18),none,none,some (AO.cells (AV.rens (sgN (nmY 0 1 1000 1100) [1000] 1101) (rowV encB T)) 8)] 1102 (((p' (Wk (b' (decide (Int.ofNat i < ↑np))) (AV.lit true))).a t').a (((p' (i.blt np = true)).a t').a (((p' ((0 + i * 1).blt (rowV encS p).length = true)).a ((p' ((rowV encS p).getD (0 + i * 1) (u') = AV.v (Value.string ((rowV encS p).getD (0 + i * 1) (u')).strOf))).a ((p' (Wk (AV.v (Value.string ((rowV encS p).getD (0 + i * 1) (u')).strOf)) (s' w))).a t'))).a (((p' (Wk (b' (w.toList == [(ByteArray.mk (Array.mk [35])).get! 0])) (AV.lit false))).a t').a ((p' ((fRM,12,loopN fRM 12,lY p k np nk n i R [false] T).snd.snd.fst = (fRM,12,loopN fRM 12,lY p k np nk n i R [false] T).snd.snd.fst)).a ((Cnd.p True).a ((p' (VW [a',a',a',a',a',AV.slice 0 0 np 1 (Cp.lo np),AV.slice 1 0 nk 1 (Cp.lo nk),AV.slice 1000 0 n 1 (Cp.lo n),a',i' i,AV.slice 1100 0 1 1 (Cp.ex 1),i' 0,a',a',a',a',a',a',a',a',a',a',a',a',a',a',a',i' i,AV.slice 0 0 np 1 (Cp.lo np),z' ↑np,AV.lit true,a',a',AV.slice 0 0 np 1 (Cp.lo np),i' i,AV.ptr 0 (0 + i * 1),s' w,AV.lit false,AV.lit false,u',u',u',AV.lit false,AV.slice 1100 0 1 1 (Cp.ex 1),a',a',a',a',a',a',a',a',a',a',a',a',a',a',a',a',a',a',a',a',a',a',a',a',a',a',a',a',a',a',a',a',a',a',a',a',a',a',a',a',a',a',a',a',a',a',a',a',a',a',a',a'] [a',a',a',a',a',AV.slice 0 0 np 1 (Cp.lo np),AV.slice 1 0 nk 1 (Cp.lo nk),AV.slice 1000 0 n 1 (Cp.lo n),a',i' i,AV.slice 1100 0 1 1 (Cp.lo 1),i' 0,a',a',a',a',a',a',a',a',a',a',a',a',a',a',a',a',a',a',a',a',a',a',a',a',a',a',a',a',a',a',a',a',a',a',a',a',a',a',a',a',a',a',a',a',a',a',a',a',a',a',a',a',a',a',a',a',a',a',a',a',a',a',a',a',a',a',a',a',a',a',a',a',a',a',a',a',a',a',a',a',a',a',a',a'])).a ((p' (OW (AO.cells (rowV encS p) 18) (AO.cells (AV.rens (nmY 0 1 1000 1100) (rowV encS p)) 18))).a ((p' (OW (AO.cells (rowV encS k) 18) (AO.cells (AV.rens (nmY 0 1 1000 1100) (rowV encS k)) 18))).a ((p' (OW (AO.cells (rowV encB R) 8) (AO.cells (AV.rens (nmY 0 1 1000 1100) (rowV encB R)) 8))).a ((p' (OW (AO.cells [b' false] 8) (AO.cells [b' false] 8))).a (((p' (Wk (z' (IntKind.i64.wrap (Int.ofNat i + Int.ofNat 1))) (i' (i + 1)))).a t').a t')))))))))))) := by kernel_rfl
theorem oOX_eq (p k : Path) (R : List Bool) (np nk n : Nat) (F : HP) : wLoop [] (hintL [(fRM, 8, 3, hv (.lit false))]) [] default fRM (loopN fRM 8) (tms 0 96 (aO np nk n np)) (oO p k R) [0, 1, 1000, 1100, 1101] [5, 6, 7, 9] F = VT.leaf (AX.exit 2,[AV.slice 0 0 np 1 (Cp.lo np),AV.slice 1 0 nk 1 (Cp.lo nk),AV.slice 1000 0 n 1 (Cp.lo n),i' np],96) [some (AO.cells (rowV encS p) 18),some (AO.cells (rowV encS k) 18),some (AO.cells (rowV encB R) 8),none,none] 1100 (((p' (Wk (b' (decide (Int.ofNat np < ↑np))) (AV.lit false))).a t').a t') := by kernel_rfl
/-! The function. -/
def cRWd : List AV → Option (AP AV) := mkC gS1 (fun s => s.size ≤ 1100000) (fun _ k => k) (fun s => [sv s]) (fun _ => []) (fun s => .leaf .ret [sB 1000 (dots s).length] [(1000, rS (dots s))])
def gX : List AV → AP (Nat × Nat × Nat) := fun tmps => match getL tmps 5 with
  | .slice a _ _ _ _ => match getL tmps 6 with
    | .slice b _ _ _ _ => match getL tmps 7 with
      | .slice c _ _ _ _ => .ret (a, b, c)
      | _ => .fail "table"
    | _ => .fail "table"
  | _ => .fail "table"
def nmX (a b c : Nat) : Nat → Nat := fun k => match Nat.beq k 0 with
  | true => a
  | false => match Nat.beq k 1 with
    | true => b
    | false => match Nat.beq k 1000 with
      | true => c
      | false => k
def lX (p k : Path) (np nk : Nat) (T : List Bool) : List AV → AP (AX × List AV) := mkL gX (fun _ => True) (fun q => nmX q.1 q.2.1 q.2.2) (fun _ => tms 0 96 (aX np nk 1 0)) (fun _ => oX p k [true]) (fun _ => .leaf (.exit 0) (tms 0 96 [(5, sB 0 np), (6, sB 1 nk), (7, sB 1000 (nk + 1))]) (oX p k T))
def gO : List AV → AP (Nat × Nat × Nat) := fun tmps => match getL tmps 5 with
  | .slice a _ _ _ _ => match getL tmps 6 with
    | .slice b _ _ _ _ => match getL tmps 7 with
      | .slice c _ _ _ _ => .ret (a, b, c)
      | _ => .fail "table"
    | _ => .fail "table"
  | _ => .fail "table"
def nmO (a b c : Nat) : Nat → Nat := fun k => match Nat.beq k 0 with
  | true => a
  | false => match Nat.beq k 1 with
    | true => b
    | false => match Nat.beq k 1000 with
      | true => c
      | false => k
def lO (p k : Path) (np nk n : Nat) (R0 R : List Bool) : List AV → AP (AX × List AV) := mkL gO (fun _ => True) (fun q => nmO q.1 q.2.1 q.2.2) (fun _ => tms 0 96 (aO np nk n 0)) (fun _ => oO p k R0) (fun _ => .leaf (.exit 2) (tms 0 96 [(6, sB 1 nk), (7, sB 1000 n)]) [(1, rS k), (1000, rB R)])
theorem oRMf_eq (s t : ByteArray) (np nk : Nat) (R0 R : List Bool) (b : Bool) (F : HP) : wRun [(fRW, cRWd)] (hintL [(fRM, 21, 4, hv (bv b))]) [(fRM, 4, loopN fRM 4, lX (dots s) (dots t) (dots s).length (dots t).length R0), (fRM, 8, loopN fRM 8, lO (dots s) (dots t) (dots s).length (dots t).length ((dots t).length + 1) R0 R)] default fRM [sv s, sv t] [] [] F = VT.leaf (b' b) [] 1105 (((p' (s.size ≤ 1100000)).a ((p' (VW [s' s] [s' s])).a t')).a (((p' (t.size ≤ 1100000)).a ((p' (VW [s' t] [s' t])).a t')).a ((p' ((fRM,4,loopN fRM 4,lX (dots s) (dots t) (dots s).length (dots t).length R0).snd.snd.fst = (fRM,4,loopN fRM 4,lX (dots s) (dots t) (dots s).length (dots t).length R0).snd.snd.fst)).a ((Cnd.p True).a ((p' (VW [s' s,s' t,u',u',b' false,AV.slice 1100 0 (dots s).length 1 (Cp.lo (dots s).length),AV.slice 1101 0 (dots t).length 1 (Cp.lo (dots t).length),AV.slice 1102 0 1 1 (Cp.ex 1),i' 0,u',u',u',u',s' s,AV.slice 1100 0 (dots s).length 1 (Cp.lo (dots s).length),s' t,AV.slice 1101 0 (dots t).length 1 (Cp.lo (dots t).length),AV.slice 1102 0 1 1 (Cp.ex 1),u',u',u',u',u',u',u',u',u',u',u',u',u',u',u',u',u',u',u',u',u',u',u',u',u',u',u',u',u',u',u',u',u',u',u',u',u',u',u',u',u',u',u',u',u',u',u',u',u',u',u',u',u',u',u',u',u',u',u',u',u',u',u',u',u',u',u',u',u',u',u',u',u',u',u',u',u',u'] [a',a',a',a',a',AV.slice 1100 0 (dots s).length 1 (Cp.lo (dots s).length),AV.slice 1101 0 (dots t).length 1 (Cp.lo (dots t).length),AV.slice 1102 0 1 1 (Cp.lo 1),i' 0,a',a',a',a',a',a',a',a',a',a',a',a',a',a',a',a',a',a',a',a',a',a',a',a',a',a',a',a',a',a',a',a',a',a',a',a',a',a',a',a',a',a',a',a',a',a',a',a',a',a',a',a',a',a',a',a',a',a',a',a',a',a',a',a',a',a',a',a',a',a',a',a',a',a',a',a',a',a',a',a',a',a',a',a',a',a',a'])).a ((p' (OW (AO.cells (AV.rens (sgN (fun k => k) [1000] 1100) (rowV encS (dots s))) 18) (AO.cells (AV.rens (nmX 1100 1101 1102) (rowV encS (dots s))) 18))).a ((p' (OW (AO.cells (AV.rens (sgN (fun k => k) [1000] 1101) (rowV encS (dots t))) 18) (AO.cells (AV.rens (nmX 1100 1101 1102) (rowV encS (dots t))) 18))).a ((p' (OW (AO.cells [b' true] 8) (AO.cells [b' true] 8))).a ((p' ((fRM,8,loopN fRM 8,lO (dots s) (dots t) (dots s).length (dots t).length ((dots t).length + 1) R0 R).snd.snd.fst = (fRM,8,loopN fRM 8,lO (dots s) (dots t) (dots s).length (dots t).length ((dots t).length + 1) R0 R).snd.snd.fst)).a ((Cnd.p True).a ((p' (VW [a',a',a',a',a',AV.slice 1100 0 (dots s).length 1 (Cp.lo (dots s).length),AV.slice 1101 0 (dots t).length 1 (Cp.lo (dots t).length),AV.slice 1103 0 ((dots t).length + 1) 1 (Cp.lo ((dots t).length + 1)),a',i' 0,a',a',a',a',a',a',a',a',a',a',a',a',a',a',a',a',a',a',a',a',a',a',a',a',a',a',a',a',a',a',a',a',a',a',a',a',a',a',a',a',a',a',a',a',a',a',a',a',a',a',a',a',a',a',a',a',a',a',a',a',a',a',a',a',a',a',a',a',a',a',a',a',a',a',a',a',a',a',a',a',a',a',a',a',a',a'] [a',a',a',a',a',AV.slice 1100 0 (dots s).length 1 (Cp.lo (dots s).length),AV.slice 1101 0 (dots t).length 1 (Cp.lo (dots t).length),AV.slice 1103 0 ((dots t).length + 1) 1 (Cp.lo ((dots t).length + 1)),a',i' 0,a',a',a',a',a',a',a',a',a',a',a',a',a',a',a',a',a',a',a',a',a',a',a',a',a',a',a',a',a',a',a',a',a',a',a',a',a',a',a',a',a',a',a',a',a',a',a',a',a',a',a',a',a',a',a',a',a',a',a',a',a',a',a',a',a',a',a',a',a',a',a',a',a',a',a',a',a',a',a',a',a',a',a',a',a',a'])).a ((p' (OW (AO.cells (AV.rens (sgN (nmX 1100 1101 1102) [1000] 1103) (rowV encS (dots s))) 18) (AO.cells (AV.rens (nmO 1100 1101 1103) (rowV encS (dots s))) 18))).a ((p' (OW (AO.cells (AV.rens (sgN (nmX 1100 1101 1102) [1000] 1103) (rowV encS (dots t))) 18) (AO.cells (AV.rens (nmO 1100 1101 1103) (rowV encS (dots t))) 18))).a ((p' (OW (AO.cells (AV.rens (sgN (nmX 1100 1101 1102) [1000] 1103) (rowV encB R0)) 8) (AO.cells (AV.rens (nmO 1100 1101 1103) (rowV encB R0)) 8))).a (((p' ((dots t).length.blt ((dots t).length + 1) = true)).a t').a (((p' ((0 + (dots t).length * 1).blt (AV.rens (sgN (nmO 1100 1101 1103) [1000] 1104) (rowV encB R)).length = true)).a ((p' (((AV.rens (sgN (nmO 1100 1101 1103) [1000] 1104) (rowV encB R)).getD (0 + (dots t).length * 1) (u')).bool? = some ((AV.rens (sgN (nmO 1100 1101 1103) [1000] 1104) (rowV encB R)).getD (0 + (dots t).length * 1) (u')).boolOf)).a ((p' (Wk (AV.v (Value.bool ((AV.rens (sgN (nmO 1100 1101 1103) [1000] 1104) (rowV encB R)).getD (0 + (dots t).length * 1) (u')).boolOf)) (b' b))).a t'))).a t')))))))))))))))) := by kernel_rfl
end
end Go.Proofs.YtbmoancedlbhlaaDoor.Tpc

/- Topic: the document's match: whole. -/
set_option linter.unusedVariables false
set_option linter.unusedSimpArgs false
set_option maxRecDepth 100000
namespace Go.Proofs.YtbmoancedlbhlaaDoor.Tpc
open Go Go.RowKit Go.Proofs.YtbmoancedlbhlaaDoor.Eng Go.Proofs.YtbmoancedlbhlaaDoor.Kit
theorem gY_ro : ∀ args, RO (gY args) := by
  intro args
  unfold gY
  repeat' split
  all_goals first | exact RO.ret _ | exact RO.fail _
theorem gX_ro : ∀ args, RO (gX args) := by
  intro args
  unfold gX
  repeat' split
  all_goals first | exact RO.ret _ | exact RO.fail _
theorem gO_ro : ∀ args, RO (gO args) := by
  intro args
  unfold gO
  repeat' split
  all_goals first | exact RO.ret _ | exact RO.fail _
theorem lY_ok (p k : Path) (i : Nat) (hk : k.length ≤ 1200000) (hi : i < p.length) (hp : p.length ≤ 1200000) (T0 : List Bool) (h0 : (rowT p k (i + 1)).take 1 = T0) (F : HP) : L1OK Tryd.prog F (loopN fRM 12) (lY p k p.length k.length (k.length + 1) i (rowT p k i) T0 (rowT p k (i + 1))) :=
  mkL_ok (W := default) oldDef gY_ro (fun _ _ => by rw [← h0]; exact y_loop p k i hk hi hp) fun _ => by
    simp only [RT.pick]
    exact closedT rfl rfl (all_cons rfl (all_cons rfl (all_cons rfl (all_cons trivial (all_cons rfl (all_cons trivial all_nil)))))) (all_cons (rS_cl _ _) (all_cons (rS_cl _ _) (all_cons (rB_cl _ _) (all_cons (rB_cl _ _) all_nil)))) (all_cons rfl (all_cons rfl (all_cons trivial (all_cons rfl all_nil)))) (all_cons (rS_cl _ _) (all_cons (rS_cl _ _) (all_cons (rB_cl _ _) all_nil)))
theorem o_loop (p k : Path) (hk : k.length ≤ 1200000) (hp : p.length ≤ 1200000) :
    LTri Tryd.prog default (loopN fRM 8) (tms 0 96 (aO p.length k.length (k.length + 1) 0)) (oO p k (rowT p k 0)) (.exit 2) (tms 0 96 [(6, sB 1 k.length), (7, sB 1000 (k.length + 1))]) [(1, rS k), (1000, rB (rowT p k p.length))] := by
  refine ltri_run (W := default) (g := fRM) (b := loopN fRM 8) (σ := {i : Nat // i ≤ p.length}) 96 (fun i => aO p.length k.length (k.length + 1) i.1) (fun i => oO p k (rowT p k i.1)) (.exit 2) [(6, sB 1 k.length), (7, sB 1000 (k.length + 1))] [(1, rS k), (1000, rB (rowT p k p.length))] (fun i => p.length - i.1) [0, 1, 1000, 1100, 1101] [5, 6, 7, 9] (by intro h; cases h) (fun _ => rfl) rfl ?_ ⟨0, Nat.zero_le _⟩
  rintro ⟨i, hi⟩
  simp only
  by_cases h1 : i < p.length
  · have hw := wrap_succ i (by omega)
    have e1 : decide (Int.ofNat i < (p.length : Int)) = true := ltTC h1
    have g0 := rS_get p i h1
    have g1 := rS_lt p i h1
    have rl := rowT_len p k i
    have b0 := rB_get (rowT p k i) 0 (by omega)
    have b1 := rB_lt (rowT p k i) 0 (by omega)
    rw [rowT_get p k i 0 (Nat.zero_le _)] at b0
    simp only [Nat.zero_mul, Nat.add_zero] at b0 b1
    have ht0 : (rowT p k (i + 1)).take 1 = [mt (p.take (i + 1)).reverse []] := by
      rw [take_next _ false 0 (by rw [rowT_len]; omega), rowT_get _ _ _ _ (Nat.zero_le _)]
      rfl
    rw [rev_next p i h1, mt] at ht0
    have q0 : (0 : Nat) < k.length + 1 := by omega
    have hlY := lY_ok p k i hk h1 hp _ ht0
    have b0' : ∀ d : AV, (rowV encB (rowT p k i)).getD 0 d = bv (mt (p.take i).reverse []) := b0
    generalize p.getD i nil0 = w at *
    by_cases hh : w = hash
    · have c1 : (w.toList == [(ByteArray.mk (Array.mk [35])).get! 0]) = true := (bl_one w 35).trans (decide_eq_true hh)
      rw [decide_eq_true hh, Bool.true_and] at hlY
      refine ⟨[], hintL [(fRM, 8, 3, hv (.lit true)), (fRM, 10, 3, hv (sv w)), (fRM, 10, 4, hv (.lit true)), (fRM, 10, 8, hv (bv (mt (p.take i).reverse []))), (fRM, 9, 1, hv (iv (Int.ofNat (i + 1))))], [(fRM, 12, loopN fRM 12, lY p k p.length k.length (k.length + 1) i (rowT p k i) [mt (p.take i).reverse []] (rowT p k (i + 1)))], fun _ _ => noC, fun F _ => one_l (hlY F), fun F => ?_⟩
      refine cast (congrArg (VAll _) (oOH_eq p k (rowT p k i) (rowT p k (i + 1)) w p.length k.length (k.length + 1) i (mt (p.take i).reverse []) F).symm) ⟨⟨?_, rfl, .inl ⟨rfl, ⟨i + 1, h1⟩, sub_down h1, [(1000, 1101)], by kernel_rfl, by kernel_rfl, ⟨Wk.refl _, Wk.refl _, Wk.refl _, Wk.refl _, trivial⟩, ⟨_, rfl, rS_ow (by rw [rens_rowV]) rfl⟩, ⟨_, rfl, rS_ow (by rw [rens_rowV]) rfl⟩, ⟨_, rfl, rB_ow (by rw [rens_rowV]) rfl⟩, trivial⟩⟩⟩
      simp only [Cnd.holds, e1, g0, g1, h1, b0', b1, q0, rens_rowV, AV.strOf, AV.boolOf, AV.bool?, sv, Nat.blt_eq, true_and, and_true]
      and_intros
      all_goals first
        | (with_reducible exact wk_int hw)
        | exact wk_litE c1 | (with_reducible first | exact trivial | exact rfl | exact Wk.refl _ | exact VW.refl _ | exact OW.refl _ | exact wk_lit _ | assumption) | exact rfl | exact Wk.refl _ | exact VW.refl _ | exact OW.refl _ | ((repeat (first | exact VW.nil | refine VW.cons (Wk.refl _) ?_ | refine VW.cons (Wk.any _) ?_ | refine VW.cons (wk_cap (Nat.le_refl _)) ?_)); done)
    · have c1 : (w.toList == [(ByteArray.mk (Array.mk [35])).get! 0]) = false := (bl_one w 35).trans (decide_eq_false hh)
      rw [decide_eq_false hh, Bool.false_and] at hlY
      refine ⟨[], hintL [(fRM, 8, 3, hv (.lit true)), (fRM, 10, 3, hv (sv w)), (fRM, 10, 4, hv (.lit false)), (fRM, 9, 1, hv (iv (Int.ofNat (i + 1))))], [(fRM, 12, loopN fRM 12, lY p k p.length k.length (k.length + 1) i (rowT p k i) [false] (rowT p k (i + 1)))], fun _ _ => noC, fun F _ => one_l (hlY F), fun F => ?_⟩
      refine cast (congrArg (VAll _) (oON_eq p k (rowT p k i) (rowT p k (i + 1)) w p.length k.length (k.length + 1) i F).symm) ⟨⟨?_, rfl, .inl ⟨rfl, ⟨i + 1, h1⟩, sub_down h1, [(1000, 1101)], by kernel_rfl, by kernel_rfl, ⟨Wk.refl _, Wk.refl _, Wk.refl _, Wk.refl _, trivial⟩, ⟨_, rfl, rS_ow (by rw [rens_rowV]) rfl⟩, ⟨_, rfl, rS_ow (by rw [rens_rowV]) rfl⟩, ⟨_, rfl, rB_ow (by rw [rens_rowV]) rfl⟩, trivial⟩⟩⟩
      simp only [Cnd.holds, e1, g0, g1, h1, q0, rens_rowV, AV.strOf, AV.boolOf, AV.bool?, sv, Nat.blt_eq, true_and, and_true]
      and_intros
      all_goals first
        | (with_reducible exact wk_int hw)
        | exact wk_litE c1 | (with_reducible first | exact trivial | exact rfl | exact Wk.refl _ | exact VW.refl _ | exact OW.refl _ | exact wk_lit _ | assumption) | exact rfl | exact Wk.refl _ | exact VW.refl _ | exact OW.refl _ | ((repeat (first | exact VW.nil | refine VW.cons (Wk.refl _) ?_ | refine VW.cons (Wk.any _) ?_ | refine VW.cons (wk_cap (Nat.le_refl _)) ?_)); done)
  · have hie : i = p.length := by omega
    subst hie
    refine ⟨[], hintL [(fRM, 8, 3, hv (.lit false))], [], fun _ _ => noC, fun _ _ => noL, fun F => ?_⟩
    refine cast (congrArg (VAll _) (oOX_eq p k (rowT p k p.length) p.length k.length (k.length + 1) F).symm) ⟨⟨?_, rfl, .inr ⟨rfl, [(1000, 1000)], by kernel_rfl, by kernel_rfl, ⟨Wk.refl _, Wk.refl _, trivial⟩, ⟨_, rfl, rS_ow rfl rfl⟩, ⟨_, rfl, rB_ow rfl rfl⟩, trivial⟩⟩⟩
    simp only [Cnd.holds, and_true]
    exact wk_litE ltFC
end Go.Proofs.YtbmoancedlbhlaaDoor.Tpc

/- Topic: the document's examples, a closed run. -/
set_option linter.unusedVariables false
set_option linter.unusedSimpArgs false
set_option maxRecDepth 100000
namespace Go.Proofs.YtbmoancedlbhlaaDoor.Tpc
open Go Go.RowKit Go.Proofs.YtbmoancedlbhlaaDoor.Eng Go.Proofs.YtbmoancedlbhlaaDoor.Kit
abbrev fSpeaks : Nat := 8
def cfg : Cfg := { strs := [(27, 33, 9)], ints := [], same := [], clone := [], laid := [] }
theorem cfg_ok : CfgOk Tryd.prog cfg where
  strs := fun x hx => by
    simp only [cfg, List.mem_cons, List.not_mem_nil, or_false] at hx
    subst hx
    exact ⟨by kernel_rfl, sorted27_33⟩
  ints := fun x hx => by cases hx
  same := fun x hx => by cases hx
  clone := fun x hx => by cases hx
theorem speaks_calls (w : World) : Calls Tryd.prog fSpeaks (List.toArray []) w fun e w' => e = .returned (.bool true) ∧ Below w.heap.size w w' :=
  closed_callK (args := []) cfg_ok (by kernel_rfl) (fuel := 100000) (fun w => by kernel_rfl) (w := w) (fun x hx => by cases hx)
noncomputable def cSpk : List AV → Option (AP AV) := mkC (fun _ => .ret ()) (fun _ => True) (fun _ i => i) (fun _ => []) (fun _ => []) (fun _ => .leaf .ret [.v (.bool true)] [])
theorem cSpk_ok (F : HP) : C1OK Tryd.prog F fSpeaks cSpk :=
  mkC_ok (W := default) oldDef (fun _ => .v (.bool true)) (fun _ => RO.ret _) (fun _ => rfl) (fun _ _ => tri_closed (args := []) speaks_calls) fun _ => ⟨rfl, rfl, trivial, all_nil, ⟨trivial, trivial⟩, all_nil⟩
end Go.Proofs.YtbmoancedlbhlaaDoor.Tpc

/- Topic: the document's match; TopicMatches. -/
set_option linter.unusedVariables false
set_option linter.unusedSimpArgs false
set_option maxRecDepth 100000
namespace Go.Proofs.YtbmoancedlbhlaaDoor.Tpc
open Go Go.RowKit Go.Proofs.YtbmoancedlbhlaaDoor.Eng Go.Proofs.YtbmoancedlbhlaaDoor.Kit
noncomputable section
def mtB (s t : ByteArray) : Bool := mt (dots s).reverse (dots t).reverse
def gS2 : List AV → AP (ByteArray × ByteArray) := fun args => match args with
  | .v (.string s) :: .v (.string t) :: _ => .ret (s, t)
  | _ => .fail "texts"
def cMs : List AV → Option (AP AV) := mkC gS2 (fun q => q.1.size ≤ 1100000 ∧ q.2.size ≤ 1100000) (fun _ i => i) (fun q => [sv q.1, sv q.2]) (fun _ => []) (fun q => .leaf .ret [bv (mtB q.1 q.2)] [])
end
theorem cRWd_ok (F : HP) : C1OK Tryd.prog F fRW cRWd :=
  mkC_ok (W := default) oldDef (fun s => sB 1000 (dots s).length) gS1_ro (fun _ => rfl) (fun s hs => RWords_tri s hs) fun _ => ⟨rfl, rfl, ⟨trivial, trivial⟩, (fun x hx => by cases hx), ⟨rfl, trivial⟩, all_cons (rS_cl _ _) all_nil⟩
theorem lX_ok (p k : Path) (hk : k.length ≤ 1200000) (F : HP) : L1OK Tryd.prog F (loopN fRM 4) (lX p k p.length k.length (rowT p k 0)) :=
  mkL_ok (W := default) oldDef gX_ro (fun _ _ => x_loop p k hk) fun _ => by
    simp only [RT.pick]
    exact closedT rfl rfl (all_cons rfl (all_cons rfl (all_cons rfl (all_cons trivial all_nil)))) (all_cons (rS_cl _ _) (all_cons (rS_cl _ _) (all_cons (rB_cl _ _) all_nil))) (all_cons rfl (all_cons rfl (all_cons rfl all_nil))) (all_cons (rS_cl _ _) (all_cons (rS_cl _ _) (all_cons (rB_cl _ _) all_nil)))
theorem lO_ok (p k : Path) (hk : k.length ≤ 1200000) (hp : p.length ≤ 1200000) (F : HP) : L1OK Tryd.prog F (loopN fRM 8) (lO p k p.length k.length (k.length + 1) (rowT p k 0) (rowT p k p.length)) :=
  mkL_ok (W := default) oldDef gO_ro (fun _ _ => o_loop p k hk hp) fun _ => by
    simp only [RT.pick]
    exact closedT rfl rfl (all_cons rfl (all_cons rfl (all_cons rfl (all_cons trivial all_nil)))) (all_cons (rS_cl _ _) (all_cons (rS_cl _ _) (all_cons (rB_cl _ _) all_nil))) (all_cons rfl (all_cons rfl all_nil)) (all_cons (rS_cl _ _) (all_cons (rB_cl _ _) all_nil))
theorem RMatches_tri (s t : ByteArray) (hs : s.size ≤ 1100000) (ht : t.size ≤ 1100000) : Tri Tryd.prog default fRM [sv s, sv t] [] (bv (mtB s t)) [] := by
  have h1 := dots_le hs
  have h2 := dots_le ht
  have hlO := lO_ok (dots s) (dots t) (by omega) (by omega)
  have hlX := lX_ok (dots s) (dots t) (by omega)
  have rl := rowT_len (dots s) (dots t) (dots s).length
  have b0 := rB_get (rowT (dots s) (dots t) (dots s).length) (dots t).length (by omega)
  have b1 := rB_lt (rowT (dots s) (dots t) (dots s).length) (dots t).length (by omega)
  rw [rowT_get _ _ _ _ (Nat.le_refl _), List.take_length, List.take_length] at b0
  have q1 : (dots t).length < (dots t).length + 1 := Nat.lt_succ_self _
  unfold mtB
  refine tri_run (con := [(fRW, cRWd)]) (hints := hintL [(fRM, 21, 4, hv (bv (mt (dots s).reverse (dots t).reverse)))]) (lc := [(fRM, 4, loopN fRM 4, lX (dots s) (dots t) (dots s).length (dots t).length (rowT (dots s) (dots t) 0)), (fRM, 8, loopN fRM 8, lO (dots s) (dots t) (dots s).length (dots t).length ((dots t).length + 1) (rowT (dots s) (dots t) 0) (rowT (dots s) (dots t) (dots s).length))]) [] rfl (fun F _ => one_c (cRWd_ok F)) (fun F _ => lc_cons (hlX F) (one_l (hlO F))) fun F => ?_
  refine cast (congrArg (VAll _) (oRMf_eq s t (dots s).length (dots t).length (rowT (dots s) (dots t) 0) (rowT (dots s) (dots t) (dots s).length) (mt (dots s).reverse (dots t).reverse) F).symm) ⟨⟨?_, (fit_mk (vs' := [bv (mt (dots s).reverse (dots t).reverse)]) (H' := []) [] rfl rfl (VW.refl _) trivial).fits rfl⟩⟩
  simp only [Cnd.holds, rens_rowV, b0, b1, q1, AV.boolOf, AV.bool?, Nat.blt_eq, true_and, and_true]
  and_intros
  all_goals first | (with_reducible first | exact trivial | exact rfl | exact Wk.refl _ | exact VW.refl _ | exact OW.refl _ | exact wk_lit _ | assumption) | exact rfl | exact Wk.refl _ | exact VW.refl _ | exact OW.refl _ | ((repeat (first | exact VW.nil | refine VW.cons (Wk.refl _) ?_ | refine VW.cons (Wk.any _) ?_ | refine VW.cons (wk_cap (Nat.le_refl _)) ?_)); done)
theorem gS2_ro : ∀ args, RO (gS2 args) := by
  intro args
  unfold gS2
  split
  · exact RO.ret _
  · exact RO.fail _
theorem cMs_ok {f : FuncId} (h : ∀ p k : ByteArray, p.size ≤ 1100000 → k.size ≤ 1100000 → Tri Tryd.prog default f [sv p, sv k] [] (bv (mtB p k)) []) (F : HP) : C1OK Tryd.prog F f cMs :=
  mkC_ok (W := default) oldDef (fun q => bv (mtB q.1 q.2)) gS2_ro (fun _ => rfl) (fun q hq => h q.1 q.2 hq.1 hq.2) fun _ => ⟨rfl, rfl, ⟨trivial, trivial, trivial⟩, (fun x hx => by cases hx), ⟨trivial, trivial⟩, fun x hx => by cases hx⟩
end Go.Proofs.YtbmoancedlbhlaaDoor.Tpc

/- Topic: SameTexts. -/
set_option linter.unusedVariables false
set_option linter.unusedSimpArgs false
set_option maxRecDepth 100000
namespace Go.Proofs.YtbmoancedlbhlaaDoor.Tpc
open Go Go.RowKit Go.Proofs.YtbmoancedlbhlaaDoor.Eng Go.Proofs.YtbmoancedlbhlaaDoor.Kit
noncomputable section
abbrev fST : Nat := 16
def aST (n i : Nat) : List (Nat × AV) := [(0, sB 0 n), (1, sB 1 n), (5, iv (Int.ofNat i))]
def oST (L : List ByteArray) : LH := [(0, rS L), (1, rS L)]
def hST (x : ByteArray) (i : Nat) : ClaimT := hintL [(fST, 4, 3, hv (.lit true)), (fST, 6, 3, hv (sv x)), (fST, 6, 7, hv (sv x)), (fST, 6, 8, hv (.lit false)), (fST, 5, 1, hv (iv (Int.ofNat (i + 1))))]
def hSE : ClaimT := hintL [(fST, 4, 3, hv (.lit false))]
theorem oStR_eq (L : List ByteArray) (x : ByteArray) (n i : Nat) (F : HP) : wLoop [] (hST x i) [] default fST (loopN fST 4) (tms 0 26 (aST n i)) (oST L) [0, 1] [0, 1, 5] F = VT.leaf (AX.normal,[AV.slice 0 0 n 1 (Cp.lo n),AV.slice 1 0 n 1 (Cp.lo n),i' (i + 1)],26) [some (AO.cells (rowV encS L) 18),some (AO.cells (rowV encS L) 18)] 1100 (((p' (Wk (b' (decide (Int.ofNat i < ↑n))) (AV.lit true))).a t').a (((p' (i.blt n = true)).a t').a (((p' ((0 + i * 1).blt (rowV encS L).length = true)).a ((p' ((rowV encS L).getD (0 + i * 1) (u') = AV.v (Value.string ((rowV encS L).getD (0 + i * 1) (u')).strOf))).a ((p' (Wk (AV.v (Value.string ((rowV encS L).getD (0 + i * 1) (u')).strOf)) (s' x))).a t'))).a (((p' (i.blt n = true)).a t').a (((p' ((0 + i * 1).blt (rowV encS L).length = true)).a ((p' ((rowV encS L).getD (0 + i * 1) (u') = AV.v (Value.string ((rowV encS L).getD (0 + i * 1) (u')).strOf))).a ((p' (Wk (AV.v (Value.string ((rowV encS L).getD (0 + i * 1) (u')).strOf)) (s' x))).a t'))).a (((p' (Wk (AV.v (Value.bool !x.toList == x.toList)) (AV.lit false))).a t').a (((p' (Wk (z' (IntKind.i64.wrap (Int.ofNat i + Int.ofNat 1))) (i' (i + 1)))).a t').a t'))))))) := by kernel_rfl
theorem oStE_eq (L : List ByteArray) (n : Nat) (F : HP) : wLoop [] hSE [] default fST (loopN fST 4) (tms 0 26 (aST n n)) (oST L) [0, 1] [0, 1, 5] F = VT.leaf (AX.exit 0,[AV.slice 0 0 n 1 (Cp.lo n),AV.slice 1 0 n 1 (Cp.lo n),i' n],26) [some (AO.cells (rowV encS L) 18),some (AO.cells (rowV encS L) 18)] 1100 (((p' (Wk (b' (decide (Int.ofNat n < ↑n))) (AV.lit false))).a t').a t') := by kernel_rfl
def lST (L : List ByteArray) (n : Nat) : List AV → AP (AX × List AV) := mkL (fun _ => .ret ()) (fun _ => True) (fun _ k => k) (fun _ => tms 0 26 (aST n 0)) (fun _ => oST L) (fun _ => .leaf (.exit 0) (tms 0 26 []) (oST L))
theorem oSt_eq (L : List ByteArray) (n : Nat) (F : HP) : wRun [] (hintL [(fST, 1, 4, hv (.lit false))]) [(fST, 4, loopN fST 4, lST L n)] default fST [sB 0 n, sB 1 n] (oST L) [0, 1] F = VT.leaf (b' true) [some (AO.cells (AV.rens (sgN (fun k => k) [] 0) (rowV encS L)) 18),some (AO.cells (AV.rens (sgN (fun k => k) [] 0) (rowV encS L)) 18)] 1100 (((p' (Wk (b' ((↑n : Int) != ↑n)) (AV.lit false))).a t').a ((p' ((fST,4,loopN fST 4,lST L n).snd.snd.fst = (fST,4,loopN fST 4,lST L n).snd.snd.fst)).a ((Cnd.p True).a ((p' (VW [AV.slice 0 0 n 1 (Cp.lo n),AV.slice 1 0 n 1 (Cp.lo n),u',u',b' false,i' 0,AV.slice 0 0 n 1 (Cp.lo n),z' ↑n,AV.slice 1 0 n 1 (Cp.lo n),z' ↑n,AV.lit false,u',u',u',u',u',u',u',u',u',u',u',u',u',u',u'] [AV.slice 0 0 n 1 (Cp.lo n),AV.slice 1 0 n 1 (Cp.lo n),a',a',a',i' 0,a',a',a',a',a',a',a',a',a',a',a',a',a',a',a',a',a',a',a',a'])).a ((p' (OW (AO.cells (rowV encS L) 18) (AO.cells (AV.rens (fun k => k) (rowV encS L)) 18))).a ((p' (OW (AO.cells (rowV encS L) 18) (AO.cells (AV.rens (fun k => k) (rowV encS L)) 18))).a t')))))) := by kernel_rfl
def gST : List AV → AP (Nat × Nat × Nat × List ByteArray) := fun args => match args with
  | .slice a _ n _ _ :: .slice b _ _ _ _ :: _ => .ret (a, b, n, [])
  | _ => .fail "same texts"
def nmST (a b : Nat) : Nat → Nat := fun k => match Nat.beq k 0 with
  | true => a
  | false => b
def cST (L : List ByteArray) : List AV → Option (AP AV) := mkC gST (fun q => q.2.2.1 = L.length ∧ L.length ≤ 9000000) (fun q => nmST q.1 q.2.1) (fun q => [sB 0 q.2.2.1, sB 1 q.2.2.1]) (fun q => oST L) (fun q => .leaf .ret [bv true] (oST L))
end
theorem st_loop (L : List ByteArray) (hL : L.length ≤ 9000000) :
    LTri Tryd.prog default (loopN fST 4) (tms 0 26 (aST L.length 0)) (oST L) (.exit 0) (tms 0 26 []) (oST L) := by
  refine ltri_run (W := default) (g := fST) (b := loopN fST 4) (σ := {j : Nat // j ≤ L.length}) 26 (fun j => aST L.length j.1) (fun j => oST L) (.exit 0) [] (oST L) (fun j => L.length - j.1) [0, 1] [0, 1, 5] (by intro h; cases h) (fun _ => rfl) rfl ?_ ⟨0, Nat.zero_le _⟩
  rintro ⟨j, hj⟩
  simp only
  by_cases h1 : j < L.length
  · have hw := wrap_succ j (by omega)
    have e1 : decide (Int.ofNat j < (L.length : Int)) = true := ltTC h1
    have g0 := rS_get L j h1
    have g1 := rS_lt L j h1
    generalize L.getD j nil0 = w at g0
    have c1 : (!(w.toList == w.toList)) = false := by rw [beq_self_eq_true]; rfl
    refine ⟨[], hST w j, [], fun _ _ => noC, fun _ _ => noL, fun F => ?_⟩
    refine cast (congrArg (VAll _) (oStR_eq L w L.length j F).symm) ⟨⟨?_, rfl, .inl ⟨rfl, ⟨j + 1, h1⟩, sub_down h1, [], by kernel_rfl, by kernel_rfl, ⟨Wk.refl _, Wk.refl _, Wk.refl _, trivial⟩, ⟨_, rfl, rS_ow rfl rfl⟩, ⟨_, rfl, rS_ow rfl rfl⟩, trivial⟩⟩⟩
    simp only [Cnd.holds, e1, g0, g1, h1, AV.strOf, sv, Nat.blt_eq, true_and, and_true]
    and_intros
    all_goals first
      | (with_reducible exact wk_int hw)
      | exact wk_litE e1
      | exact wk_litE c1 | (with_reducible first | exact trivial | exact rfl | exact Wk.refl _ | exact VW.refl _ | exact OW.refl _ | exact wk_lit _ | assumption) | exact rfl | exact Wk.refl _ | exact VW.refl _ | exact OW.refl _ | ((repeat (first | exact VW.nil | refine VW.cons (Wk.refl _) ?_ | refine VW.cons (Wk.any _) ?_ | refine VW.cons (wk_cap (Nat.le_refl _)) ?_)); done)
  · have hje : j = L.length := by omega
    subst hje
    refine ⟨[], hSE, [], fun _ _ => noC, fun _ _ => noL, fun F => ?_⟩
    refine cast (congrArg (VAll _) (oStE_eq L L.length F).symm) ⟨⟨?_, rfl, .inr ⟨rfl, [], by kernel_rfl, by kernel_rfl, trivial, ⟨_, rfl, rS_ow rfl rfl⟩, ⟨_, rfl, rS_ow rfl rfl⟩, trivial⟩⟩⟩
    simp only [Cnd.holds, and_true]
    exact wk_litE ltFC
theorem lST_ok (L : List ByteArray) (hL : L.length ≤ 9000000) (F : HP) : L1OK Tryd.prog F (loopN fST 4) (lST L L.length) :=
  mkL_ok (W := default) oldDef (fun _ => RO.ret _) (fun _ _ => st_loop L hL) fun _ => by
    simp only [RT.pick]
    exact closedT rfl rfl (all_cons rfl (all_cons rfl (all_cons trivial all_nil))) (all_cons (rS_cl _ _) (all_cons (rS_cl _ _) all_nil)) all_nil (all_cons (rS_cl _ _) (all_cons (rS_cl _ _) all_nil))
theorem Same_tri (L : List ByteArray) (hL : L.length ≤ 9000000) : Tri Tryd.prog default fST [sB 0 L.length, sB 1 L.length] (oST L) (bv true) (oST L) := by
  refine tri_run (con := []) (hints := hintL [(fST, 1, 4, hv (.lit false))]) (lc := [(fST, 4, loopN fST 4, lST L L.length)]) [0, 1] rfl (fun F _ => noC) (fun F _ => one_l (lST_ok L hL F)) fun F => ?_
  refine cast (congrArg (VAll _) (oSt_eq L L.length F).symm) ⟨⟨?_, (fit_mk (vs' := [bv true]) (H' := oST L) [] rfl rfl (VW.refl _) ⟨⟨_, rfl, rS_ow (by simp only [rens_rowV]) rfl⟩, ⟨_, rfl, rS_ow (by simp only [rens_rowV]) rfl⟩, trivial⟩).fits rfl⟩⟩
  have c1 : (!(Int.ofNat L.length == Int.ofNat L.length)) = false := by rw [beq_self_eq_true]; rfl
  simp only [Cnd.holds, rens_rowV, Nat.blt_eq, true_and, and_true]
  and_intros
  all_goals first
    | exact wk_litE c1 | (with_reducible first | exact trivial | exact rfl | exact Wk.refl _ | exact VW.refl _ | exact OW.refl _ | exact wk_lit _ | assumption) | exact rfl | exact Wk.refl _ | exact VW.refl _ | exact OW.refl _ | ((repeat (first | exact VW.nil | refine VW.cons (Wk.refl _) ?_ | refine VW.cons (Wk.any _) ?_ | refine VW.cons (wk_cap (Nat.le_refl _)) ?_)); done)
theorem gST_ro : ∀ args, RO (gST args) := by
  intro args
  unfold gST
  split
  · exact RO.ret _
  · exact RO.fail _
theorem cST_ok (L : List ByteArray) (F : HP) : C1OK Tryd.prog F fST (cST L) :=
  mkC_ok (W := default) oldDef (fun _ => bv true) gST_ro (fun _ => rfl) (fun q hq => by
    obtain ⟨h1, h2⟩ := hq
    rw [h1]
    exact Same_tri L h2) fun q => ⟨rfl, rfl, ⟨rfl, rfl, trivial⟩, all_cons (rS_cl _ _) (all_cons (rS_cl _ _) all_nil), ⟨trivial, trivial⟩, all_cons (rS_cl _ _) (all_cons (rS_cl _ _) all_nil)⟩
end Go.Proofs.YtbmoancedlbhlaaDoor.Tpc

/- Topic: # stands for nothing, for one word, or for one word and # again. -/
set_option linter.unusedVariables false
set_option linter.unusedSimpArgs false
set_option maxRecDepth 100000
namespace Go.Proofs.YtbmoancedlbhlaaDoor.Tpc
open Go Go.RowKit Go.Proofs.YtbmoancedlbhlaaDoor.Eng Go.Proofs.YtbmoancedlbhlaaDoor.Kit
noncomputable section
end
end Go.Proofs.YtbmoancedlbhlaaDoor.Tpc

/- Topic: TopicWords. -/
set_option linter.unusedVariables false
set_option linter.unusedSimpArgs false
set_option maxRecDepth 100000
namespace Go.Proofs.YtbmoancedlbhlaaDoor.Tpc
open Go Go.RowKit Go.Proofs.YtbmoancedlbhlaaDoor.Eng Go.Proofs.YtbmoancedlbhlaaDoor.Kit
noncomputable section
end
theorem VAll.ite {α : Type} {Q : α → List (Option AO) → Nat → Prop} {b : Bool} {x y : VT α} (h1 : b = true → VAll Q x) (h2 : b = false → VAll Q y) : VAll Q (.ite b x y) := ⟨⟨fun h => (h1 h).out, fun h => (h2 h).out⟩⟩
end Go.Proofs.YtbmoancedlbhlaaDoor.Tpc

/- Topic: TopicOrder: runs. -/
set_option linter.unusedVariables false
set_option linter.unusedSimpArgs false
set_option maxRecDepth 100000
namespace Go.Proofs.YtbmoancedlbhlaaDoor.Tpc
open Go Go.RowKit Go.Proofs.YtbmoancedlbhlaaDoor.Eng Go.Proofs.YtbmoancedlbhlaaDoor.Kit
noncomputable section
def gLn : List AV → AP (Nat × Pairs × Nat) := fun args => match args with
  | .ptr r _ :: _ => .read r fun o => match o with
    | .own (.trie L g) _ => .ret (r, L, g)
    | _ => .fail "len"
  | _ => .fail "len"
def cLn : List AV → Option (AP AV) := mkC gLn (fun _ => True) (fun q => nm0 q.1) (fun q => [.ptr 0 0]) (fun q => [(0, trO q.2.1 q.2.2)]) (fun q => .leaf .ret [iv (Int.ofNat q.2.1.length)] [(0, trO q.2.1 q.2.2)])
end
structure InPr (W : World) (oa : Option Addr) (l : List (ByteArray × ByteArray)) : Prop where
  here : l ≠ [] → ∃ a, oa = some a
  at_ : ∀ a, oa = some a → ∀ k, k < l.length → W.cell? ((a.add (k * 2)).add 0) = some (.string (l.getD k (nil0, nil0)).1) ∧ W.cell? (Addr.mk (a.add (k * 2)).block ((a.add (k * 2)).off + 1) none) = some (.string (l.getD k (nil0, nil0)).2)
theorem addL_mem {L : Pairs} {p d : ByteArray} (x : ByteArray × ByteArray) : x ∈ addL L p d ↔ x ∈ L ∨ x = (p, d) := by
  unfold addL
  by_cases h : inB L p d = true
  · rw [if_pos h]
    exact ⟨.inl, fun hx => hx.elim id fun e => e ▸ inB_iff.1 h⟩
  · rw [if_neg h, List.mem_append, List.mem_singleton]
theorem addL_nd {L : Pairs} {p d : ByteArray} (hL : L.Nodup) : (addL L p d).Nodup := by
  unfold addL
  by_cases h : inB L p d = true
  · rw [if_pos h]; exact hL
  · rw [if_neg h, List.nodup_append]
    refine ⟨hL, List.nodup_cons.2 ⟨List.not_mem_nil, List.nodup_nil⟩, fun a ha b hb => ?_⟩
    rw [List.mem_singleton] at hb
    subst hb
    intro e
    subst e
    exact h (inB_iff.2 ha)
theorem wrap_in (x : Int) (h1 : -9223372036854775808 ≤ x) (h2 : x ≤ 9223372036854775807) : IntKind.i64.wrap x = x := IntWalk.i64_in _ ⟨h1, h2⟩
theorem gLn_ro : ∀ args, RO (gLn args) := by
  intro args
  unfold gLn
  split
  · refine RO.read _ _ fun o => ?_
    split
    · exact RO.ret _
    · exact RO.fail _
  · exact RO.fail _
theorem cLn_ok (F : HP) : C1OK Tryd.prog F fLen cLn :=
  mkC_ok (W := default) oldDef (fun q => iv (Int.ofNat q.2.1.length)) gLn_ro (fun _ => rfl) (fun q _ => Len_tri q.2.1 q.2.2) fun _ => ⟨rfl, rfl, ⟨rfl, trivial⟩, all_cons trivial all_nil, ⟨trivial, trivial⟩, all_cons trivial all_nil⟩
theorem dedup_len (l : List (List UInt8)) : (dedup l).length ≤ l.length := by
  induction l with
  | nil => exact Nat.le_refl _
  | cons x l ih =>
    rw [dedup]
    split
    · rw [List.length_cons]; omega
    · rw [List.length_cons, List.length_cons]; omega
theorem sortT_len (T : List ByteArray) : (sortT T).length ≤ T.length := by
  unfold sortT
  rw [List.length_map, List.length_mergeSort]
  exact Nat.le_trans (dedup_len _) (by rw [List.length_map]; exact Nat.le_refl _)
end Go.Proofs.YtbmoancedlbhlaaDoor.Tpc

/- Topic: the document's Sorted: runs. -/
set_option linter.unusedVariables false
set_option linter.unusedSimpArgs false
set_option maxRecDepth 100000
namespace Go.Proofs.YtbmoancedlbhlaaDoor.Tpc.Srt
open Go Go.RowKit Go.Proofs.YtbmoancedlbhlaaDoor.Eng Go.Proofs.YtbmoancedlbhlaaDoor.Kit
noncomputable section
abbrev fSo : Nat := 29
def aFi (nT n i j : Nat) : List (Nat × AV) := [(0, sB 0 nT), (3, sB 1000 n), (4, iv (Int.ofNat i)), (5, iv (Int.ofNat j))]
def oSo (T S : List ByteArray) : LH := [(0, rS T), (1000, rS S)]
def hFi (j : Nat) (y x : ByteArray) (b : Bool) : ClaimT := hintL [(fSo, 6, 3, hv (.lit true)), (fSo, 6, 8, hv (sv y)), (fSo, 6, 12, hv (sv x)), (fSo, 6, 13, hv (.lit b)), (fSo, 7, 1, hv (iv (Int.ofNat (j + 1))))]
def hFE : ClaimT := hintL [(fSo, 6, 3, hv (.lit false))]
theorem oFiR_eq (T S : List ByteArray) (y x : ByteArray) (nT n i j : Nat) (F : HP) : wLoop [] (hFi j y x true) [] default fSo (loopN fSo 6) (tms 0 73 (aFi nT n i j)) (oSo T S) [0, 1000] [0, 3, 4, 5] F = VT.leaf (AX.normal,[AV.slice 0 0 nT 1 (Cp.lo nT),AV.slice 1000 0 n 1 (Cp.lo n),i' i,i' (j + 1)],73) [some (AO.cells (rowV encS T) 18),some (AO.cells (rowV encS S) 18)] 1100 (((p' (Wk (b' (decide (Int.ofNat j < ↑n))) (AV.lit true))).a t').a (((p' (j.blt n = true)).a t').a (((p' ((0 + j * 1).blt (rowV encS S).length = true)).a ((p' ((rowV encS S).getD (0 + j * 1) (u') = AV.v (Value.string ((rowV encS S).getD (0 + j * 1) (u')).strOf))).a ((p' (Wk (AV.v (Value.string ((rowV encS S).getD (0 + j * 1) (u')).strOf)) (s' y))).a t'))).a (((p' (i.blt nT = true)).a t').a (((p' ((0 + i * 1).blt (rowV encS T).length = true)).a ((p' ((rowV encS T).getD (0 + i * 1) (u') = AV.v (Value.string ((rowV encS T).getD (0 + i * 1) (u')).strOf))).a ((p' (Wk (AV.v (Value.string ((rowV encS T).getD (0 + i * 1) (u')).strOf)) (s' x))).a t'))).a (((p' (Wk (b' (Op.bytesLess y.toList x.toList)) (AV.lit true))).a t').a (((p' (Wk (z' (IntKind.i64.wrap (Int.ofNat j + Int.ofNat 1))) (i' (j + 1)))).a t').a t'))))))) := by kernel_rfl
theorem oFiN_eq (T S : List ByteArray) (y x : ByteArray) (nT n i j : Nat) (F : HP) : wLoop [] (hFi j y x false) [] default fSo (loopN fSo 6) (tms 0 73 (aFi nT n i j)) (oSo T S) [0, 1000] [0, 3, 4, 5] F = VT.leaf (AX.exit 2,[AV.slice 0 0 nT 1 (Cp.lo nT),AV.slice 1000 0 n 1 (Cp.lo n),i' i,i' j],73) [some (AO.cells (rowV encS T) 18),some (AO.cells (rowV encS S) 18)] 1100 (((p' (Wk (b' (decide (Int.ofNat j < ↑n))) (AV.lit true))).a t').a (((p' (j.blt n = true)).a t').a (((p' ((0 + j * 1).blt (rowV encS S).length = true)).a ((p' ((rowV encS S).getD (0 + j * 1) (u') = AV.v (Value.string ((rowV encS S).getD (0 + j * 1) (u')).strOf))).a ((p' (Wk (AV.v (Value.string ((rowV encS S).getD (0 + j * 1) (u')).strOf)) (s' y))).a t'))).a (((p' (i.blt nT = true)).a t').a (((p' ((0 + i * 1).blt (rowV encS T).length = true)).a ((p' ((rowV encS T).getD (0 + i * 1) (u') = AV.v (Value.string ((rowV encS T).getD (0 + i * 1) (u')).strOf))).a ((p' (Wk (AV.v (Value.string ((rowV encS T).getD (0 + i * 1) (u')).strOf)) (s' x))).a t'))).a (((p' (Wk (b' (Op.bytesLess y.toList x.toList)) (AV.lit false))).a t').a t')))))) := by kernel_rfl
theorem oFiE_eq (T S : List ByteArray) (nT n i : Nat) (F : HP) : wLoop [] hFE [] default fSo (loopN fSo 6) (tms 0 73 (aFi nT n i n)) (oSo T S) [0, 1000] [0, 3, 4, 5] F = VT.leaf (AX.exit 2,[AV.slice 0 0 nT 1 (Cp.lo nT),AV.slice 1000 0 n 1 (Cp.lo n),i' i,i' n],73) [some (AO.cells (rowV encS T) 18),some (AO.cells (rowV encS S) 18)] 1100 (((p' (Wk (b' (decide (Int.ofNat n < ↑n))) (AV.lit false))).a t').a t') := by kernel_rfl
def aSh (nT n i a k : Nat) : List (Nat × AV) := [(0, sB 0 nT), (3, sB 1000 n), (4, iv (Int.ofNat i)), (5, iv (Int.ofNat a)), (6, iv (Int.ofNat k))]
def hSh (k : Nat) (y : ByteArray) : ClaimT := hintL [(fSo, 11, 2, hv (.lit true)), (fSo, 13, 4, hv (iv (Int.ofNat k))), (fSo, 13, 6, hv (sv y)), (fSo, 12, 1, hv (iv (Int.ofNat k)))]
def hShE : ClaimT := hintL [(fSo, 11, 2, hv (.lit false))]
theorem oShR_eq (T S : List ByteArray) (y : ByteArray) (nT n i a k : Nat) (F : HP) : wLoop [] (hSh k y) [] default fSo (loopN fSo 11) (tms 0 73 (aSh nT n i a (k + 1))) (oSo T S) [0, 1000] [0, 3, 4, 5, 6] F = VT.leaf (AX.normal,[AV.slice 0 0 nT 1 (Cp.lo nT),AV.slice 1000 0 n 1 (Cp.lo n),i' i,i' a,i' k],73) [some (AO.cells (rowV encS T) 18),some (AO.cells (splice (rowV encS S) (0 + (k + 1) * 1) [s' y]) 18)] 1100 (((p' (Wk (b' (decide (Int.ofNat (k + 1) > Int.ofNat a))) (AV.lit true))).a t').a (((p' (Wk (z' (IntKind.i64.wrap (Int.ofNat (k + 1) - Int.ofNat 1))) (i' k))).a t').a (((p' (k.blt n = true)).a t').a (((p' ((0 + k * 1).blt (rowV encS S).length = true)).a ((p' ((rowV encS S).getD (0 + k * 1) (u') = AV.v (Value.string ((rowV encS S).getD (0 + k * 1) (u')).strOf))).a ((p' (Wk (AV.v (Value.string ((rowV encS S).getD (0 + k * 1) (u')).strOf)) (s' y))).a t'))).a (((p' ((k + 1).blt n = true)).a t').a (((p' ((0 + (k + 1) * 1 + 1).ble (rowV encS S).length = true)).a t').a (((p' (Wk (z' (IntKind.i64.wrap (Int.ofNat (k + 1) - Int.ofNat 1))) (i' k))).a t').a t'))))))) := by kernel_rfl
theorem oShE_eq (T S : List ByteArray) (nT n i a : Nat) (F : HP) : wLoop [] hShE [] default fSo (loopN fSo 11) (tms 0 73 (aSh nT n i a a)) (oSo T S) [0, 1000] [0, 3, 4, 5, 6] F = VT.leaf (AX.exit 4,[AV.slice 0 0 nT 1 (Cp.lo nT),AV.slice 1000 0 n 1 (Cp.lo n),i' i,i' a,i' a],73) [some (AO.cells (rowV encS T) 18),some (AO.cells (rowV encS S) 18)] 1100 (((p' (Wk (b' (decide (Int.ofNat a > Int.ofNat a))) (AV.lit false))).a t').a t') := by kernel_rfl
def gSo : List AV → AP (Nat × Nat) := fun tmps => match getL tmps 0 with
  | .slice a _ _ _ _ => match getL tmps 3 with
    | .slice b _ _ _ _ => .ret (a, b)
    | _ => .fail "sorted"
  | _ => .fail "sorted"
def nmSo (a b : Nat) : Nat → Nat := fun k => match Nat.beq k 0 with
  | true => a
  | false => b
def lFi (T S : List ByteArray) (nT n i a : Nat) : List AV → AP (AX × List AV) := mkL gSo (fun _ => True) (fun q => nmSo q.1 q.2) (fun _ => tms 0 73 (aFi nT n i 0)) (fun _ => oSo T S) (fun _ => .leaf (.exit 2) (tms 0 73 (aFi nT n i a)) (oSo T S))
def lSh (T S S' : List ByteArray) (nT n i a k : Nat) : List AV → AP (AX × List AV) := mkL gSo (fun _ => True) (fun q => nmSo q.1 q.2) (fun _ => tms 0 73 (aSh nT n i a k)) (fun _ => oSo T S) (fun _ => .leaf (.exit 4) (tms 0 73 (aFi nT n i a)) (oSo T S'))
def aSo (nT n i : Nat) : List (Nat × AV) := [(0, sB 0 nT), (3, sB 1000 n), (4, iv (Int.ofNat i))]
def hSoD (i : Nat) (y x : ByteArray) : ClaimT := hintL [(fSo, 3, 3, hv (.lit true)), (fSo, 8, 3, hv (.lit true)), (fSo, 8, 8, hv (sv y)), (fSo, 8, 12, hv (sv x)), (fSo, 8, 13, hv (.lit true)), (fSo, 4, 1, hv (iv (Int.ofNat (i + 1))))]
def hSoI (i n : Nat) (y x : ByteArray) : ClaimT := hintL [(fSo, 3, 3, hv (.lit true)), (fSo, 8, 3, hv (.lit true)), (fSo, 8, 8, hv (sv y)), (fSo, 8, 12, hv (sv x)), (fSo, 8, 13, hv (.lit false)), (fSo, 10, 2, hv (iv (Int.ofNat n))), (fSo, 14, 5, hv (sv x)), (fSo, 4, 1, hv (iv (Int.ofNat (i + 1))))]
def hSoL (i n : Nat) (x : ByteArray) : ClaimT := hintL [(fSo, 3, 3, hv (.lit true)), (fSo, 8, 3, hv (.lit false)), (fSo, 10, 2, hv (iv (Int.ofNat n))), (fSo, 14, 5, hv (sv x)), (fSo, 4, 1, hv (iv (Int.ofNat (i + 1))))]
def hSoE : ClaimT := hintL [(fSo, 3, 3, hv (.lit false))]
theorem oSoD_eq (T S : List ByteArray) (y x : ByteArray) (nT n i a : Nat) (F : HP) : wLoop [] (hSoD i y x) [(fSo, 6, loopN fSo 6, lFi T S nT n i a)] default fSo (loopN fSo 3) (tms 0 73 (aSo nT n i)) (oSo T S) [0, 1000, 1100, 1103] [0, 3, 4] F = VT.leaf (AX.normal,[AV.slice 0 0 nT 1 (Cp.lo nT),AV.slice 1100 0 n 1 (Cp.lo n),i' (i + 1)],73) [some (AO.cells (AV.rens (sgN (nmSo 0 1000) [1000] 1100) (rowV encS T)) 18),none,some (AO.cells (AV.rens (sgN (nmSo 0 1000) [1000] 1100) (rowV encS S)) 18),none] 1101 (((p' (Wk (b' (decide (Int.ofNat i < ↑nT))) (AV.lit true))).a t').a ((p' ((fSo,6,loopN fSo 6,lFi T S nT n i a).snd.snd.fst = (fSo,6,loopN fSo 6,lFi T S nT n i a).snd.snd.fst)).a ((Cnd.p True).a ((p' (VW [AV.slice 0 0 nT 1 (Cp.lo nT),a',a',AV.slice 1000 0 n 1 (Cp.lo n),i' i,i' 0,a',a',i' i,AV.slice 0 0 nT 1 (Cp.lo nT),z' ↑nT,AV.lit true,a',a',a',a',a',a',a',a',a',a',a',a',a',a',a',a',a',a',a',a',a',a',a',a',a',a',a',a',a',a',a',a',a',a',a',a',a',a',a',a',a',a',a',a',a',a',a',a',a',a',a',a',a',a',a',a',a',a',a',a',a'] [AV.slice 0 0 nT 1 (Cp.lo nT),a',a',AV.slice 1000 0 n 1 (Cp.lo n),i' i,i' 0,a',a',a',a',a',a',a',a',a',a',a',a',a',a',a',a',a',a',a',a',a',a',a',a',a',a',a',a',a',a',a',a',a',a',a',a',a',a',a',a',a',a',a',a',a',a',a',a',a',a',a',a',a',a',a',a',a',a',a',a',a',a',a',a',a',a',a'])).a ((p' (OW (AO.cells (rowV encS T) 18) (AO.cells (AV.rens (nmSo 0 1000) (rowV encS T)) 18))).a ((p' (OW (AO.cells (rowV encS S) 18) (AO.cells (AV.rens (nmSo 0 1000) (rowV encS S)) 18))).a (((p' (Wk (b' (decide (Int.ofNat a < ↑n))) (AV.lit true))).a t').a (((p' (a.blt n = true)).a t').a (((p' ((0 + a * 1).blt (AV.rens (sgN (nmSo 0 1000) [1000] 1100) (rowV encS S)).length = true)).a ((p' ((AV.rens (sgN (nmSo 0 1000) [1000] 1100) (rowV encS S)).getD (0 + a * 1) (u') = AV.v (Value.string ((AV.rens (sgN (nmSo 0 1000) [1000] 1100) (rowV encS S)).getD (0 + a * 1) (u')).strOf))).a ((p' (Wk (AV.v (Value.string ((AV.rens (sgN (nmSo 0 1000) [1000] 1100) (rowV encS S)).getD (0 + a * 1) (u')).strOf)) (s' y))).a t'))).a (((p' (i.blt nT = true)).a t').a (((p' ((0 + i * 1).blt (AV.rens (sgN (nmSo 0 1000) [1000] 1100) (rowV encS T)).length = true)).a ((p' ((AV.rens (sgN (nmSo 0 1000) [1000] 1100) (rowV encS T)).getD (0 + i * 1) (u') = AV.v (Value.string ((AV.rens (sgN (nmSo 0 1000) [1000] 1100) (rowV encS T)).getD (0 + i * 1) (u')).strOf))).a ((p' (Wk (AV.v (Value.string ((AV.rens (sgN (nmSo 0 1000) [1000] 1100) (rowV encS T)).getD (0 + i * 1) (u')).strOf)) (s' x))).a t'))).a (((p' (Wk (b' (y.toList == x.toList)) (AV.lit true))).a t').a (((p' (Wk (z' (IntKind.i64.wrap (Int.ofNat i + Int.ofNat 1))) (i' (i + 1)))).a t').a t'))))))))))))) := by kernel_rfl
theorem oSoI_eq (T S S1 S2 : List ByteArray) (y x : ByteArray) (nT n i a : Nat) (F : HP) : wLoop [] (hSoI i n y x) [(fSo, 6, loopN fSo 6, lFi T S nT n i a), (fSo, 11, loopN fSo 11, lSh T S1 S2 nT (n + 1) i a n)] default fSo (loopN fSo 3) (tms 0 73 (aSo nT n i)) (oSo T S) [0, 1000, 1100, 1103] [0, 3, 4] F = VT.leaf (AX.normal,[AV.slice 0 0 nT 1 (Cp.lo nT),AV.slice 1103 0 (n + 1) 1 (Cp.lo (n + 1)),i' (i + 1)],73) [some (AO.cells (AV.rens (sgN (nmSo 0 1102) [1000] 1103) (rowV encS T)) 18),none,none,some (AO.cells (splice (AV.rens (sgN (nmSo 0 1102) [1000] 1103) (rowV encS S2)) (0 + a * 1) [s' x]) 18)] 1104 (((p' (Wk (b' (decide (Int.ofNat i < ↑nT))) (AV.lit true))).a t').a ((p' ((fSo,6,loopN fSo 6,lFi T S nT n i a).snd.snd.fst = (fSo,6,loopN fSo 6,lFi T S nT n i a).snd.snd.fst)).a ((Cnd.p True).a ((p' (VW [AV.slice 0 0 nT 1 (Cp.lo nT),a',a',AV.slice 1000 0 n 1 (Cp.lo n),i' i,i' 0,a',a',i' i,AV.slice 0 0 nT 1 (Cp.lo nT),z' ↑nT,AV.lit true,a',a',a',a',a',a',a',a',a',a',a',a',a',a',a',a',a',a',a',a',a',a',a',a',a',a',a',a',a',a',a',a',a',a',a',a',a',a',a',a',a',a',a',a',a',a',a',a',a',a',a',a',a',a',a',a',a',a',a',a',a'] [AV.slice 0 0 nT 1 (Cp.lo nT),a',a',AV.slice 1000 0 n 1 (Cp.lo n),i' i,i' 0,a',a',a',a',a',a',a',a',a',a',a',a',a',a',a',a',a',a',a',a',a',a',a',a',a',a',a',a',a',a',a',a',a',a',a',a',a',a',a',a',a',a',a',a',a',a',a',a',a',a',a',a',a',a',a',a',a',a',a',a',a',a',a',a',a',a',a'])).a ((p' (OW (AO.cells (rowV encS T) 18) (AO.cells (AV.rens (nmSo 0 1000) (rowV encS T)) 18))).a ((p' (OW (AO.cells (rowV encS S) 18) (AO.cells (AV.rens (nmSo 0 1000) (rowV encS S)) 18))).a (((p' (Wk (b' (decide (Int.ofNat a < ↑n))) (AV.lit true))).a t').a (((p' (a.blt n = true)).a t').a (((p' ((0 + a * 1).blt (AV.rens (sgN (nmSo 0 1000) [1000] 1100) (rowV encS S)).length = true)).a ((p' ((AV.rens (sgN (nmSo 0 1000) [1000] 1100) (rowV encS S)).getD (0 + a * 1) (u') = AV.v (Value.string ((AV.rens (sgN (nmSo 0 1000) [1000] 1100) (rowV encS S)).getD (0 + a * 1) (u')).strOf))).a ((p' (Wk (AV.v (Value.string ((AV.rens (sgN (nmSo 0 1000) [1000] 1100) (rowV encS S)).getD (0 + a * 1) (u')).strOf)) (s' y))).a t'))).a (((p' (i.blt nT = true)).a t').a (((p' ((0 + i * 1).blt (AV.rens (sgN (nmSo 0 1000) [1000] 1100) (rowV encS T)).length = true)).a ((p' ((AV.rens (sgN (nmSo 0 1000) [1000] 1100) (rowV encS T)).getD (0 + i * 1) (u') = AV.v (Value.string ((AV.rens (sgN (nmSo 0 1000) [1000] 1100) (rowV encS T)).getD (0 + i * 1) (u')).strOf))).a ((p' (Wk (AV.v (Value.string ((AV.rens (sgN (nmSo 0 1000) [1000] 1100) (rowV encS T)).getD (0 + i * 1) (u')).strOf)) (s' x))).a t'))).a (((p' (Wk (b' (y.toList == x.toList)) (AV.lit false))).a t').a (((p' (true = true)).a ((p' (true = true)).a ((p' (true = true)).a ((p' (true = true)).a ((p' ((0 + n * 1).ble (AV.rens (sgN (nmSo 0 1000) [1000] 1100) (rowV encS S)).length = true)).a ((p' (((n + 1) * 16).ble 140737488355328 = true)).a ((p' ((n + 1).ble 9223372036854775807 = true)).a ((p' ((List.take (n * 1) (List.drop 0 (AV.rens (sgN (nmSo 0 1000) [1000] 1100) (rowV encS S)))).length.beq (n * 1) = true)).a t')))))))).a (((p' (Wk (z' (IntKind.i64.wrap (↑(n + 1) - Int.ofNat 1))) (i' n))).a t').a ((p' ((fSo,11,loopN fSo 11,lSh T S1 S2 nT (n + 1) i a n).snd.snd.fst = (fSo,11,loopN fSo 11,lSh T S1 S2 nT (n + 1) i a n).snd.snd.fst)).a ((Cnd.p True).a ((p' (VW [AV.slice 0 0 nT 1 (Cp.lo nT),a',a',AV.slice 1102 0 (n + 1) 1 (Cp.lo (n + 1)),i' i,i' a,i' n,a',a',a',a',a',a',a',a',a',a',a',a',a',a',a',a',a',a',a',a',a',a',a',a',i' a,AV.slice 1100 0 n 1 (Cp.lo n),z' ↑n,AV.lit true,AV.lit true,AV.slice 1100 0 n 1 (Cp.lo n),i' a,AV.ptr 1100 (0 + a * 1),s' y,AV.slice 0 0 nT 1 (Cp.lo nT),i' i,AV.ptr 0 (0 + i * 1),s' x,AV.lit false,AV.lit false,AV.slice 1100 0 n 1 (Cp.lo n),AV.slice 1101 0 1 1 (Cp.ex 1),AV.slice 1102 0 (n + 1) 1 (Cp.lo (n + 1)),AV.slice 1102 0 (n + 1) 1 (Cp.lo (n + 1)),AV.v (Value.int IntKind.i64 ↑(n + 1)),i' n,a',a',a',a',a',a',a',a',a',a',a',a',a',a',a',a',a',a',a',a',a'] [AV.slice 0 0 nT 1 (Cp.lo nT),a',a',AV.slice 1102 0 (n + 1) 1 (Cp.lo (n + 1)),i' i,i' a,i' n,a',a',a',a',a',a',a',a',a',a',a',a',a',a',a',a',a',a',a',a',a',a',a',a',a',a',a',a',a',a',a',a',a',a',a',a',a',a',a',a',a',a',a',a',a',a',a',a',a',a',a',a',a',a',a',a',a',a',a',a',a',a',a',a',a',a'])).a ((p' (OW (AO.cells (AV.rens (sgN (nmSo 0 1000) [1000] 1100) (rowV encS T)) 18) (AO.cells (AV.rens (nmSo 0 1102) (rowV encS T)) 18))).a ((p' (OW (AO.cells (List.take (n * 1) (List.drop 0 (AV.rens (sgN (nmSo 0 1000) [1000] 1100) (rowV encS S))) ++ [s' (ByteArray.mk (Array.mk []))]) 18) (AO.cells (AV.rens (nmSo 0 1102) (rowV encS S1)) 18))).a (((p' (i.blt nT = true)).a t').a (((p' ((0 + i * 1).blt (AV.rens (sgN (nmSo 0 1102) [1000] 1103) (rowV encS T)).length = true)).a ((p' ((AV.rens (sgN (nmSo 0 1102) [1000] 1103) (rowV encS T)).getD (0 + i * 1) (u') = AV.v (Value.string ((AV.rens (sgN (nmSo 0 1102) [1000] 1103) (rowV encS T)).getD (0 + i * 1) (u')).strOf))).a ((p' (Wk (AV.v (Value.string ((AV.rens (sgN (nmSo 0 1102) [1000] 1103) (rowV encS T)).getD (0 + i * 1) (u')).strOf)) (s' x))).a t'))).a (((p' (a.blt (n + 1) = true)).a t').a (((p' ((0 + a * 1 + 1).ble (AV.rens (sgN (nmSo 0 1102) [1000] 1103) (rowV encS S2)).length = true)).a t').a (((p' (Wk (z' (IntKind.i64.wrap (Int.ofNat i + Int.ofNat 1))) (i' (i + 1)))).a t').a t')))))))))))))))))))))))) := by kernel_rfl
theorem oSoL_eq (T S S1 S2 : List ByteArray) (x : ByteArray) (nT n i a : Nat) (F : HP) : wLoop [] (hSoL i n x) [(fSo, 6, loopN fSo 6, lFi T S nT n i a), (fSo, 11, loopN fSo 11, lSh T S1 S2 nT (n + 1) i a n)] default fSo (loopN fSo 3) (tms 0 73 (aSo nT n i)) (oSo T S) [0, 1000, 1100, 1103] [0, 3, 4] F = VT.leaf (AX.normal,[AV.slice 0 0 nT 1 (Cp.lo nT),AV.slice 1103 0 (n + 1) 1 (Cp.lo (n + 1)),i' (i + 1)],73) [some (AO.cells (AV.rens (sgN (nmSo 0 1102) [1000] 1103) (rowV encS T)) 18),none,none,some (AO.cells (splice (AV.rens (sgN (nmSo 0 1102) [1000] 1103) (rowV encS S2)) (0 + a * 1) [s' x]) 18)] 1104 (((p' (Wk (b' (decide (Int.ofNat i < ↑nT))) (AV.lit true))).a t').a ((p' ((fSo,6,loopN fSo 6,lFi T S nT n i a).snd.snd.fst = (fSo,6,loopN fSo 6,lFi T S nT n i a).snd.snd.fst)).a ((Cnd.p True).a ((p' (VW [AV.slice 0 0 nT 1 (Cp.lo nT),a',a',AV.slice 1000 0 n 1 (Cp.lo n),i' i,i' 0,a',a',i' i,AV.slice 0 0 nT 1 (Cp.lo nT),z' ↑nT,AV.lit true,a',a',a',a',a',a',a',a',a',a',a',a',a',a',a',a',a',a',a',a',a',a',a',a',a',a',a',a',a',a',a',a',a',a',a',a',a',a',a',a',a',a',a',a',a',a',a',a',a',a',a',a',a',a',a',a',a',a',a',a',a'] [AV.slice 0 0 nT 1 (Cp.lo nT),a',a',AV.slice 1000 0 n 1 (Cp.lo n),i' i,i' 0,a',a',a',a',a',a',a',a',a',a',a',a',a',a',a',a',a',a',a',a',a',a',a',a',a',a',a',a',a',a',a',a',a',a',a',a',a',a',a',a',a',a',a',a',a',a',a',a',a',a',a',a',a',a',a',a',a',a',a',a',a',a',a',a',a',a',a'])).a ((p' (OW (AO.cells (rowV encS T) 18) (AO.cells (AV.rens (nmSo 0 1000) (rowV encS T)) 18))).a ((p' (OW (AO.cells (rowV encS S) 18) (AO.cells (AV.rens (nmSo 0 1000) (rowV encS S)) 18))).a (((p' (Wk (b' (decide (Int.ofNat a < ↑n))) (AV.lit false))).a t').a (((p' (true = true)).a ((p' (true = true)).a ((p' (true = true)).a ((p' (true = true)).a ((p' ((0 + n * 1).ble (AV.rens (sgN (nmSo 0 1000) [1000] 1100) (rowV encS S)).length = true)).a ((p' (((n + 1) * 16).ble 140737488355328 = true)).a ((p' ((n + 1).ble 9223372036854775807 = true)).a ((p' ((List.take (n * 1) (List.drop 0 (AV.rens (sgN (nmSo 0 1000) [1000] 1100) (rowV encS S)))).length.beq (n * 1) = true)).a t')))))))).a (((p' (Wk (z' (IntKind.i64.wrap (↑(n + 1) - Int.ofNat 1))) (i' n))).a t').a ((p' ((fSo,11,loopN fSo 11,lSh T S1 S2 nT (n + 1) i a n).snd.snd.fst = (fSo,11,loopN fSo 11,lSh T S1 S2 nT (n + 1) i a n).snd.snd.fst)).a ((Cnd.p True).a ((p' (VW [AV.slice 0 0 nT 1 (Cp.lo nT),a',a',AV.slice 1102 0 (n + 1) 1 (Cp.lo (n + 1)),i' i,i' a,i' n,a',a',a',a',a',a',a',a',a',a',a',a',a',a',a',a',a',a',a',a',a',a',a',a',i' a,AV.slice 1100 0 n 1 (Cp.lo n),z' ↑n,AV.lit false,AV.lit false,u',u',u',u',u',u',u',u',u',AV.lit false,AV.slice 1100 0 n 1 (Cp.lo n),AV.slice 1101 0 1 1 (Cp.ex 1),AV.slice 1102 0 (n + 1) 1 (Cp.lo (n + 1)),AV.slice 1102 0 (n + 1) 1 (Cp.lo (n + 1)),AV.v (Value.int IntKind.i64 ↑(n + 1)),i' n,a',a',a',a',a',a',a',a',a',a',a',a',a',a',a',a',a',a',a',a',a'] [AV.slice 0 0 nT 1 (Cp.lo nT),a',a',AV.slice 1102 0 (n + 1) 1 (Cp.lo (n + 1)),i' i,i' a,i' n,a',a',a',a',a',a',a',a',a',a',a',a',a',a',a',a',a',a',a',a',a',a',a',a',a',a',a',a',a',a',a',a',a',a',a',a',a',a',a',a',a',a',a',a',a',a',a',a',a',a',a',a',a',a',a',a',a',a',a',a',a',a',a',a',a',a'])).a ((p' (OW (AO.cells (AV.rens (sgN (nmSo 0 1000) [1000] 1100) (rowV encS T)) 18) (AO.cells (AV.rens (nmSo 0 1102) (rowV encS T)) 18))).a ((p' (OW (AO.cells (List.take (n * 1) (List.drop 0 (AV.rens (sgN (nmSo 0 1000) [1000] 1100) (rowV encS S))) ++ [s' (ByteArray.mk (Array.mk []))]) 18) (AO.cells (AV.rens (nmSo 0 1102) (rowV encS S1)) 18))).a (((p' (i.blt nT = true)).a t').a (((p' ((0 + i * 1).blt (AV.rens (sgN (nmSo 0 1102) [1000] 1103) (rowV encS T)).length = true)).a ((p' ((AV.rens (sgN (nmSo 0 1102) [1000] 1103) (rowV encS T)).getD (0 + i * 1) (u') = AV.v (Value.string ((AV.rens (sgN (nmSo 0 1102) [1000] 1103) (rowV encS T)).getD (0 + i * 1) (u')).strOf))).a ((p' (Wk (AV.v (Value.string ((AV.rens (sgN (nmSo 0 1102) [1000] 1103) (rowV encS T)).getD (0 + i * 1) (u')).strOf)) (s' x))).a t'))).a (((p' (a.blt (n + 1) = true)).a t').a (((p' ((0 + a * 1 + 1).ble (AV.rens (sgN (nmSo 0 1102) [1000] 1103) (rowV encS S2)).length = true)).a t').a (((p' (Wk (z' (IntKind.i64.wrap (Int.ofNat i + Int.ofNat 1))) (i' (i + 1)))).a t').a t'))))))))))))))))))) := by kernel_rfl
theorem oSoE_eq (T S : List ByteArray) (nT n : Nat) (F : HP) : wLoop [] hSoE [] default fSo (loopN fSo 3) (tms 0 73 (aSo nT n nT)) (oSo T S) [0, 1000, 1100, 1103] [0, 3, 4] F = VT.leaf (AX.exit 0,[AV.slice 0 0 nT 1 (Cp.lo nT),AV.slice 1000 0 n 1 (Cp.lo n),i' nT],73) [some (AO.cells (rowV encS T) 18),some (AO.cells (rowV encS S) 18),none,none] 1100 (((p' (Wk (b' (decide (Int.ofNat nT < ↑nT))) (AV.lit false))).a t').a t') := by kernel_rfl
def lSo (T S : List ByteArray) (nT n : Nat) : List AV → AP (AX × List AV) := mkL gSo (fun _ => True) (fun q => nmSo q.1 q.2) (fun _ => tms 0 73 (aSo nT 0 0)) (fun _ => oSo T []) (fun _ => .leaf (.exit 0) (tms 0 73 (aSo nT n nT)) (oSo T S))
theorem oSo_eq (T S : List ByteArray) (nT n : Nat) (F : HP) : wRun [] noHints [(fSo, 3, loopN fSo 3, lSo T S nT n)] default fSo [sB 0 nT] [(0, rS T)] [0, 1100, 1101] F = VT.leaf (AV.slice 1101 0 n 1 (Cp.lo n)) [some (AO.cells (AV.rens (sgN (nmSo 0 1100) [1000] 1101) (rowV encS T)) 18),none,some (AO.cells (AV.rens (sgN (nmSo 0 1100) [1000] 1101) (rowV encS S)) 18)] 1102 ((p' ((fSo,3,loopN fSo 3,lSo T S nT n).snd.snd.fst = (fSo,3,loopN fSo 3,lSo T S nT n).snd.snd.fst)).a ((Cnd.p True).a ((p' (VW [AV.slice 0 0 nT 1 (Cp.lo nT),u',AV.v (Value.slice none 0 0),AV.slice 1100 0 0 1 (Cp.ex 0),i' 0,u',u',AV.slice 1100 0 0 1 (Cp.ex 0),u',u',u',u',u',u',u',u',u',u',u',u',u',u',u',u',u',u',u',u',u',u',u',u',u',u',u',u',u',u',u',u',u',u',u',u',u',u',u',u',u',u',u',u',u',u',u',u',u',u',u',u',u',u',u',u',u',u',u',u',u',u',u',u',u'] [AV.slice 0 0 nT 1 (Cp.lo nT),a',a',AV.slice 1100 0 0 1 (Cp.lo 0),i' 0,a',a',a',a',a',a',a',a',a',a',a',a',a',a',a',a',a',a',a',a',a',a',a',a',a',a',a',a',a',a',a',a',a',a',a',a',a',a',a',a',a',a',a',a',a',a',a',a',a',a',a',a',a',a',a',a',a',a',a',a',a',a',a',a',a',a',a',a'])).a ((p' (OW (AO.cells (rowV encS T) 18) (AO.cells (AV.rens (nmSo 0 1100) (rowV encS T)) 18))).a ((p' (OW (AO.cells (rep [s' (ByteArray.mk (Array.mk []))] 0) 18) (AO.cells [] 18))).a t'))))) := by kernel_rfl
end
end Go.Proofs.YtbmoancedlbhlaaDoor.Tpc.Srt

/- Topic: a text put into a row of texts in order. No program. -/
set_option linter.unusedVariables false
set_option linter.unusedSimpArgs false
namespace Go.Proofs.YtbmoancedlbhlaaDoor.Tpc.Srt
open Go Go.Proofs.YtbmoancedlbhlaaDoor.Eng
def lt (a b : ByteArray) : Prop := a.data.toList < b.data.toList
instance (a b : ByteArray) : Decidable (lt a b) := inferInstanceAs (Decidable (a.data.toList < b.data.toList))
theorem lt_irrefl (a : ByteArray) : ¬ lt a a := List.lt_irrefl _
theorem lt_trans {a b c : ByteArray} (h : lt a b) (h' : lt b c) : lt a c := List.lt_trans h h'
theorem lt_total {a b : ByteArray} (h : ¬ lt a b) (hne : a ≠ b) : lt b a := by
  by_cases h1 : lt b a
  · exact h1
  · exact absurd (ba_ext (List.le_antisymm (List.not_lt.1 h1) (List.not_lt.1 h))) hne
theorem uniq {S T : List ByteArray} (hs : S.Pairwise lt) (ht : T.Pairwise lt) (h : ∀ x, x ∈ S ↔ x ∈ T) : S = T := by
  have nd : ∀ {l : List ByteArray}, l.Pairwise lt → l.Nodup := fun hl => hl.imp fun {a b} (hab : lt a b) (e : a = b) => lt_irrefl b (e ▸ hab)
  refine List.Perm.eq_of_pairwise (le := fun a b => lt a b) (fun a b _ _ h1 h2 => absurd (lt_trans h1 h2) (lt_irrefl a)) hs ht ((List.perm_ext_iff_of_nodup (nd hs) (nd ht)).2 h)
theorem sortT_pw (T : List ByteArray) : (sortT T).Pairwise lt := by
  have tr : ∀ a b c : List UInt8, Go.leB a b = true → Go.leB b c = true → Go.leB a c = true := fun a b c h1 h2 => by simp only [Go.leB, decide_eq_true_eq] at *; exact List.le_trans h1 h2
  have to : ∀ a b : List UInt8, (Go.leB a b || Go.leB b a) = true := fun a b => by simp only [Go.leB, Bool.or_eq_true, decide_eq_true_eq]; exact List.le_total a b
  unfold sortT
  rw [List.pairwise_map]
  have h1 := List.pairwise_mergeSort tr to (dedup (T.map Eng.bytes))
  have h2 : ((dedup (T.map Eng.bytes)).mergeSort Go.leB).Nodup := (List.mergeSort_perm _ _).nodup_iff.2 (nodup_dedup _)
  refine (h1.and h2).imp fun {a b} hab => ?_
  show a < b
  have h3 : a ≤ b := by simpa [Go.leB] using hab.1
  by_cases h : a < b
  · exact h
  · exact absurd (List.le_antisymm h3 (List.not_lt.1 h)) hab.2
theorem sortT_mem (T : List ByteArray) (x : ByteArray) : x ∈ sortT T ↔ x ∈ T := by
  unfold sortT
  rw [List.mem_map]
  constructor
  · rintro ⟨l, hl, rfl⟩
    rw [(List.mergeSort_perm _ _).mem_iff, mem_dedup, List.mem_map] at hl
    obtain ⟨y, hy, rfl⟩ := hl
    exact hy
  · intro hx
    refine ⟨Eng.bytes x, ?_, rfl⟩
    rw [(List.mergeSort_perm _ _).mem_iff, mem_dedup]
    exact List.mem_map.2 ⟨x, hx, rfl⟩
theorem sortT_char {T S : List ByteArray} (hs : S.Pairwise lt) (hm : ∀ x, x ∈ S ↔ x ∈ T) : S = sortT T := uniq hs (sortT_pw T) fun x => (hm x).trans (sortT_mem T x).symm
def atS : List ByteArray → ByteArray → Nat
  | [], _ => 0
  | y :: l, x => if lt y x then atS l x + 1 else 0
theorem atS_le : ∀ (S : List ByteArray) (x : ByteArray), atS S x ≤ S.length
  | [], _ => Nat.le_refl _
  | y :: l, x => by
    have := atS_le l x
    rw [atS]
    split
    · rw [List.length_cons]; omega
    · omega
theorem atS_take : ∀ (S : List ByteArray) (x : ByteArray), ∀ y ∈ S.take (atS S x), lt y x
  | [], _, y, h => by rw [List.take_nil] at h; cases h
  | z :: l, x, y, h => by
    rw [atS] at h
    split at h
    · rename_i hz
      rw [List.take_succ_cons] at h
      rcases List.mem_cons.1 h with rfl | h
      · exact hz
      · exact atS_take l x y h
    · rw [List.take_zero] at h; cases h
theorem atS_lt : ∀ {S : List ByteArray} {x : ByteArray} {i : Nat}, i < atS S x → lt (S.getD i nil0) x
  | [], _, _, h => by cases h
  | z :: l, x, i, h => by
    rw [atS] at h
    split at h
    · rename_i hz
      cases i with
      | zero => exact hz
      | succ i => exact atS_lt (S := l) (Nat.lt_of_succ_lt_succ h)
    · cases h
theorem atS_not : ∀ {S : List ByteArray} {x : ByteArray}, atS S x < S.length → ¬ lt (S.getD (atS S x) nil0) x
  | [], _, h => by cases h
  | z :: l, x, h => by
    rw [atS] at h ⊢
    split
    · rename_i hz
      rw [if_pos hz] at h
      exact atS_not (S := l) (Nat.lt_of_succ_lt_succ h)
    · rename_i hz
      exact hz
theorem atS_gt {S : List ByteArray} {x : ByteArray} (hs : S.Pairwise lt) (hx : x ∉ S) : ∀ y ∈ S.drop (atS S x), lt x y := by
  intro y hy
  have hlt : atS S x < S.length := by
    rcases Nat.lt_or_ge (atS S x) S.length with h | h
    · exact h
    · rw [List.drop_of_length_le h] at hy; cases hy
  have h0 := atS_not hlt
  have hd : S.drop (atS S x) = S.getD (atS S x) nil0 :: S.drop (atS S x + 1) := by
    rw [List.getD_eq_getElem?_getD, List.getElem?_eq_getElem hlt]
    exact List.drop_eq_getElem_cons hlt
  have hm : S.getD (atS S x) nil0 ∈ S := by
    rw [List.getD_eq_getElem?_getD, List.getElem?_eq_getElem hlt]
    exact List.getElem_mem hlt
  have h1 : lt x (S.getD (atS S x) nil0) := lt_total h0 fun e => hx (e ▸ hm)
  rw [hd] at hy
  rcases List.mem_cons.1 hy with rfl | hy
  · exact h1
  · have hs2 : (S.drop (atS S x)).Pairwise lt := hs.drop
    rw [hd] at hs2
    exact lt_trans h1 ((List.pairwise_cons.1 hs2).1 y hy)
def insT (S : List ByteArray) (x : ByteArray) : List ByteArray := S.take (atS S x) ++ x :: S.drop (atS S x)
theorem insT_pw {S : List ByteArray} {x : ByteArray} (hs : S.Pairwise lt) (hx : x ∉ S) : (insT S x).Pairwise lt := by
  unfold insT
  rw [List.pairwise_append, List.pairwise_cons]
  have h1 : ∀ a ∈ S.take (atS S x), lt a x := fun a ha => by
    exact atS_take S x a ha
  refine ⟨hs.take, ⟨atS_gt hs hx, hs.drop⟩, fun a ha b hb => ?_⟩
  rcases List.mem_cons.1 hb with rfl | hb
  · exact h1 a ha
  · exact lt_trans (h1 a ha) (atS_gt hs hx b hb)
theorem insT_mem {S : List ByteArray} {x y : ByteArray} : y ∈ insT S x ↔ y ∈ S ∨ y = x := by
  unfold insT
  rw [List.mem_append, List.mem_cons]
  conv => rhs; rw [← List.take_append_drop (atS S x) S, List.mem_append]
  constructor
  · rintro (h | h | h)
    · exact .inl (.inl h)
    · exact .inr h
    · exact .inl (.inr h)
  · rintro ((h | h) | h)
    · exact .inl h
    · exact .inr (.inr h)
    · exact .inr (.inl h)
theorem atS_dup {S : List ByteArray} {x : ByteArray} (hs : S.Pairwise lt) : x ∈ S ↔ atS S x < S.length ∧ S.getD (atS S x) nil0 = x := by
  constructor
  · intro hx
    have hlt : atS S x < S.length := by
      rcases Nat.lt_or_ge (atS S x) S.length with h | h
      · exact h
      · have h1 := atS_take S x
        rw [List.take_of_length_le h] at h1
        exact absurd (h1 x hx) (lt_irrefl x)
    refine ⟨hlt, ?_⟩
    obtain ⟨i, hi, he⟩ := List.getElem_of_mem hx
    have hget : ∀ j (hj : j < S.length), S.getD j nil0 = S[j] := fun j hj => by rw [List.getD_eq_getElem?_getD, List.getElem?_eq_getElem hj]; rfl
    rcases Nat.lt_trichotomy i (atS S x) with h | h | h
    · have := atS_lt h
      rw [hget i hi, he] at this
      exact absurd this (lt_irrefl x)
    · rw [← h, hget i hi, he]
    · have h1 := List.pairwise_iff_getElem.1 hs _ _ hlt hi h
      rw [he, ← hget _ hlt] at h1
      exact absurd h1 (atS_not hlt)
  · rintro ⟨h1, h2⟩
    rw [← h2, List.getD_eq_getElem?_getD, List.getElem?_eq_getElem h1]
    exact List.getElem_mem h1
def rowK (S : List ByteArray) (k : Nat) : List ByteArray := S.take k ++ (S ++ [nil0]).getD k nil0 :: S.drop k
theorem rowK_len (S : List ByteArray) (k : Nat) (hk : k ≤ S.length) : (rowK S k).length = S.length + 1 := by
  unfold rowK
  rw [List.length_append, List.length_take, List.length_cons, List.length_drop]; omega
theorem rowK_end (S : List ByteArray) : rowK S S.length = S ++ [nil0] := by
  unfold rowK
  rw [List.take_length, List.drop_length, List.getD_eq_getElem?_getD, List.getElem?_append_right (Nat.le_refl _)]
  simp
theorem rowK_get (S : List ByteArray) (k : Nat) (hk : k < S.length) : (rowK S (k + 1)).getD k nil0 = S.getD k nil0 := by
  unfold rowK
  rw [List.getD_eq_getElem?_getD, List.getD_eq_getElem?_getD, List.getElem?_append_left (by rw [List.length_take]; omega), List.getElem?_take_of_lt (Nat.lt_succ_self k)]; rfl
theorem rowK_set (S : List ByteArray) (k : Nat) (hk : k < S.length) : (rowK S (k + 1)).set (k + 1) (S.getD k nil0) = rowK S k := by
  unfold rowK
  have hl : (S.take (k + 1)).length = k + 1 := by rw [List.length_take]; omega
  have h1 : S.take (k + 1) = S.take k ++ [S.getD k nil0] := by
    rw [List.take_succ_eq_append_getElem hk]
    simp [List.getD, List.getElem?_eq_getElem hk]
  have h2 : S.drop k = S.getD k nil0 :: S.drop (k + 1) := by
    rw [List.getD_eq_getElem?_getD, List.getElem?_eq_getElem hk]
    exact List.drop_eq_getElem_cons hk
  have h3 : (S ++ [nil0]).getD k nil0 = S.getD k nil0 := by
    rw [List.getD_eq_getElem?_getD, List.getD_eq_getElem?_getD, List.getElem?_append_left hk]
  rw [List.set_append_right _ _ (by rw [hl]; exact Nat.le_refl _), hl, Nat.sub_self, List.set_cons_zero, h1, h2, h3, List.append_assoc]
  rfl
theorem rowK_ins (S : List ByteArray) (x : ByteArray) : (rowK S (atS S x)).set (atS S x) x = insT S x := by
  unfold rowK insT
  have hl : (S.take (atS S x)).length = atS S x := by rw [List.length_take]; have := atS_le S x; omega
  rw [List.set_append_right _ _ (by rw [hl]; exact Nat.le_refl _), hl, Nat.sub_self, List.set_cons_zero]
end Go.Proofs.YtbmoancedlbhlaaDoor.Tpc.Srt

