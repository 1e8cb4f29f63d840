/- Parts of the proof, merged. -/
import Derived.Test.YtdphpillcaajpaaDoorBck5
import Derived.Test.YtdphpillcaajpaaDoorBck3
import Derived.Test.YtdphpillcaajpaaDoorEngXBck
noncomputable section
set_option linter.unusedVariables false
set_option linter.unusedSimpArgs false
set_option maxRecDepth 100000
set_option linter.unusedSectionVars false
namespace Go.Proofs.YtdphpillcaajpaaDoor.Js
open Go Go.RowKit Eng Kit
abbrev fJc : Nat := 10
abbrev mdJ : Md := .nothing
def ownJ (d : Nat) (l : List Jv) : AO := .own mdJ fun b _ => Tree.frz fun C => LOf (JAt C d) C (some ⟨b, 0, none⟩) l
def sL5 (i n : Nat) : AV := .slice i 0 n 5 (.lo n)
def sS1 (i n : Nat) : AV := .slice i 0 n 1 (.lo n)
def encJ (r : Rj) : List Value := r.cells
def rJ (R : List Rj) : AO := .cells (rowV encJ R) tJs
def zR : Rj := ⟨0, 0, nil0, none, 0, 0, none, 0, 0⟩
def oZJ : AO := .cells (vmap zR.cells) tJs
open Tree (CD' C0' frz WD' KG' NG' I6' five)
open Int renaming ofNat -> o'
open Go.Value renaming int -> vi'
open AO renaming cells -> ce'
open AV renaming ptr -> pt'
open Go.IntKind renaming u8 -> u8'
open List renaming length_append -> la'
variable {v : Jv} {w W0 : World} {m d e : Nat} {N N1 : A5'} {C : Mem} {ys : List Value} {OL ON : AO} {l : List Jv} {H : LH} {LV NV : AV} {vs : List AV} {x : UInt8} {t : Δ}
structure JcOk (W : World) (e : Nat) (v : Jv) (r : Rj) : Prop where
 z : v.list = [] -> Tri Θ W fJc [aggJ r] [] (.agg [iv r.k, iv r.n, sv r.t, .mt, sS1 1001 v.names.length]) [(1001, rS v.names)]
 n : v.list ≠ [] -> Tri Θ W fJc [aggJ r] [] (.agg [iv r.k, iv r.n, sv r.t, sL5 1000 v.list.length, sS1 1001 v.names.length]) [(1000, ownJ e v.list), (1001, rS v.names)]
theorem JL.mono {C' : Mem} (h : ∀ a v, C a = some v -> C' a = some v) {oa : Option Addr} (hl : LOf (JAt C d) C oa l) : LOf (JAt C' d) C' oa l := LOf.mono (fun _ _ hx => JAt.mono h hx) h hl
theorem LOf.nil {V : Jv -> Rj -> Prop} (oa : Option Addr) : LOf V C oa [] := ⟨Nat.zero_le _, fun i x h => by simp at h⟩
theorem NOf.nil (oa : Option Addr) : NOf C oa [] := ⟨Nat.zero_le _, fun i x h => by simp at h⟩
theorem bH' {k : Nat} {y : Value} {D : Nat -> Prop} (ho : OR N k (ownJ d l) D w) (hy : VR N (.slice k 0 l.length 5 (.lo l.length)) y) : ∃ la lc, y = .slice la l.length lc /\ LOf (JAt (CD' D w) d) (CD' D w) la l := by
 obtain ⟨lo, x, c, h1, rfl, h3⟩ := I6' hy; obtain ⟨lo', h1', h0, h2⟩ := ho; rw [h1] at h1'; cases h1'; refine ⟨_, _, rfl, ?_⟩
 cases l with
 | nil => exact LOf.nil _
 | cons v l => rw [h3 (Nat.succ_pos _), h0]; exact h2.1
theorem PC' {k : Nat} {ns : List Δ} {y : Value} {D : Nat -> Prop} (hb : ns.length * 16 <= big) (ho : OR N k (rS ns) D w) (hy : VR N (.slice k 0 ns.length 1 (.lo ns.length)) y) : ∃ la lc, y = .slice la ns.length lc /\ NOf (CD' D w) la ns := by
 obtain ⟨lo, x, c, h1, rfl, h3⟩ := I6' hy; obtain ⟨lo', h1', h0, h2⟩ := NG' (f := encS) (m := 1) EW' ho; rw [h1] at h1'; cases h1'; refine ⟨_, _, rfl, ?_⟩
 cases ns with
 | nil => exact NOf.nil _
 | cons v l =>
  rw [h3 (Nat.succ_pos _), h0]
  refine ⟨hb, fun i x hx => ⟨_, rfl, ?_⟩⟩
  have := h2 i x hx 0 (.string x) rfl; rw [Nat.mul_one] at this; exact this
def PJ (d : Nat) (R : List Rj) (l : List Jv) (C : Mem) : Prop := R.length = l.length /\ ∀ (i : Nat) (x : Jv), l[i]? = some x -> ∃ r, R[i]? = some r /\ JAt C d x r
theorem PJ.mono {R : List Rj} {C' : Mem} (h : ∀ a v, C a = some v -> C' a = some v) (hp : PJ d R l C) : PJ d R l C' := ⟨hp.1, fun i x hx => by
 obtain ⟨r, h1, h2⟩ := hp.2 i x hx
 exact ⟨r, h1, h2.mono h⟩⟩
theorem PJ.add {R : List Rj} {f : List Jv} (hp : PJ d R f C) {x : Jv} {r : Rj} (hx : JAt C d x r) : PJ d (R ++ [r]) (f ++ [x]) C := by
 refine ⟨by simp [hp.1], fun i y hy => ?_⟩
 rcases Nat.lt_or_ge i f.length with h | h
 ·rw [List.getElem?_append_left h] at hy; obtain ⟨s, h1, h2⟩ := hp.2 i y hy
  exact ⟨s, by rw [List.getElem?_append_left (by have := hp.1; omega)]; exact h1, h2⟩
 ·rw [List.getElem?_append_right h] at hy
  have : i - f.length = 0 := by
   cases hk : i - f.length with
   | zero => rfl
   | succ n => rw [hk] at hy; simp at hy
  rw [this] at hy; simp only [List.getElem?_cons_zero, Option.some.injEq] at hy; subst hy; refine ⟨r, ?_, hx⟩
  rw [List.getElem?_append_right (by have := hp.1; omega), show i - R.length = 0 by have := hp.1; omega]
  rfl
theorem PJ.nil (d : Nat) (C : Mem) : PJ d [] [] C := ⟨rfl, fun i x h => by simp at h⟩
def QJ (d : Nat) (v : Jv) (c : List Value) (C : Mem) : Prop := ∃ r : Rj, c = r.cells /\ JAt C (d + 1) v r
theorem UZ' {r r' : Rj} (h : r.cells = r'.cells) : r = r' := by
 obtain ⟨a, b, c, d, e, f, g, i, j⟩ := r; obtain ⟨a', b', c', d', e', f', g', i', j'⟩ := r'; simp only [Rj.cells, List.cons.injEq, Value.int.injEq, Value.string.injEq, Value.slice.injEq, true_and, and_true] at h; obtain ⟨rfl, rfl, rfl, ⟨rfl, rfl, rfl⟩, rfl, rfl, rfl⟩ := h; rfl
theorem IH' {D : Nat -> Nat -> Prop} {kl : Nat} {DD : Nat -> Prop} (hD : ∀ n o, getO H n = some o -> OR N1 n o (D n) w) (hkl : getO H kl = some (ownJ d l)) (hDl : ∀ b, D kl b -> DD b) :
  ∀ y, VR N1 (.slice kl 0 l.length 5 (.lo l.length)) y -> ∃ la lc, y = .slice la l.length lc /\ LOf (JAt (CD' DD w) d) (CD' DD w) la l := by
 intro y hy; obtain ⟨la, lc, e, h⟩ := bH' (hD kl _ hkl) hy; exact ⟨la, lc, e, JL.mono (C0' hDl) h⟩
theorem CZ' (r : Rj) : (encJ r).length = 5 := rfl
theorem VI' {R : List Rj} {i : Nat} {Di Dk : Nat -> Prop} (hb : l.length * 80 <= big) (h : OR N1 i (rJ R) Di w) (hp : PJ d R l (CD' Dk w)) (hlt : ∀ b, Dk b -> b < w.heap.size) : OR N1 i (ownJ d l) (fun x => Di x \/ Dk x) w := by
 have hDi := h.lt; obtain ⟨lo, h1, h2, h3⟩ := NG' (f := encJ) CZ' h
 refine ⟨lo, h1, h2, ⟨hb, fun k x hx => ?_⟩, fun b hb => hb.elim (hDi b) (hlt b)⟩
 obtain ⟨r, q1, q2⟩ := hp.2 k x hx; exact ⟨_, r, rfl, (show IX' _ _ r.cells from fun j u hu => C0' (fun b hb => .inl hb) _ _ (h3 k r q1 j u hu)), q2.mono (C0' fun b hb => .inr hb)⟩
noncomputable section
def QY' (r : Nat) : Code -> Option Code
 | .region id ops d => match Nat.beq id r with
  | true => some (.region id ops d)
  | false => none
 | .loop b => QY' r b
 | .seq a b => match QY' r a with | some c => some c | none => QY' r b
 | .cond _ a b => match QY' r a with | some c => some c | none => QY' r b
 | .block _ b | .scope b => QY' r b
 | _ => none
def regN (f : FuncId) (r : Nat) : Code := ((Θ.funcs[f]?).bind fun fn => fn.body.bind (QY' r)).getD .skip
def JY' (r : Nat) : Code -> Option Code
 | .seq a b => match BG' a with
  | some i => match Nat.beq i r with
   | true => some (.seq a b)
   | false => match JY' r a with | some c => some c | none => JY' r b
  | none => match JY' r a with | some c => some c | none => JY' r b
 | .cond _ a b => match JY' r a with | some c => some c | none => JY' r b
 | .loop b | .block _ b | .scope b => JY' r b
 | _ => none
def C6' (f : FuncId) (r : Nat) : Code := ((Θ.funcs[f]?).bind fun fn => fn.body.bind (JY' r)).getD .skip
def cJ (k : Int) (LX NX : AV) : AO := .cells [iv k, iv 0, sv nil0, LX, NX] tJs
def oL0 (s : Δ) (i : Nat) (kd : Int) (P : Tree.Mem -> Prop) : LH := [(0, rdO s i), (999, upO), (1001, cJ kd nilS nilS), (1003, .any (Tree.frz P)), (1004, oZJ)]
def oL1 (s : Δ) (i : Nat) (kd : Int) (m : Nat) (R : List Rj) (P : Tree.Mem -> Prop) : LH := [(0, rdO s i), (999, upO), (1001, cJ kd (sL5 1002 m) nilS), (1002, rJ R), (1003, .any (Tree.frz P)), (1004, oZJ)]
def aL (dep : Nat) : List (Nat × AV) := [(0, .ptr 0 0), (1, iv (o' dep)), (4, .ptr 1004 0), (5, .ptr 1001 0)]
def kL : List Nat := [0, 999, 1001, 1002, 1003, 1004, 1100, 1101, 1102, 1103]
def iL : List Nat := [0, 1, 4, 5]
def hL (dep : Nat) : AX' := AD' [(fLs, 4, 4, hv (iv (o' (dep + 1))))]
abbrev PQ' (q0 : Nat) (q1 : Δ) (q2 : Nat) (z : Cnd) : Cnd := ((fe' true).a ((f' (Wk (z' (IntKind.i64.wrap (o' q0 + o' 1))) (i' (q0 + 1)))).a (((p' (BW' q1 q2 (RS.mk 0 q2 q1))).a ((vw' [pt' 0 0,i' (q0 + 1)]).a ((ow' (ce' [s' q1,i' q2] 114)).a (f' (OW Ω Ω))))).a ((tt'.a (tt'.a (tt'.a (tt'.a (ee' true))))).a ((fe' true).a z)))))
theorem lK' (W : World) (s : Δ) (i dep c : Nat) (P : Tree.Mem -> Prop) (F : HP) : B5' (trb c) [(fVal, cDie (aVal (dep + 1)) s i (aV 0 0 nil0 nilS nilS))] (hL dep) [] W fLs (regN fLs 4) (tms 0 23 (aL dep)) (oL0 s i 5 P) kL iL F = VT.leaf (AX.ret,[pt' 0 0,i' dep,pt' 1004 0,pt' 1001 0],23) [some (ce' [s' s,i' i] 114),some (AO.own Md.nothing noH),some (ce' [i' 5,i' 0,s' nil0,AV.slice 1101 0 1 5 (Cp.lo 1),e'] 52),none,some (AO.any (Tree.frz P)),some (ce' [i' 0,i' 0,s' nil0,e',e'] 52),some (ce' [i' 0,i' 0,s' nil0,e',e'] 52),some (ce' [i' 0,i' 0,s' nil0,e',e'] 52),none,none] 1102 (PQ' dep s i (k49'.a k1')) := χ
theorem lH' (W : World) (s : Δ) (i dep c : Nat) (P : Tree.Mem -> Prop) (k n : Int) (t : Δ) (j : Nat) (F : HP) : B5' (trb c) [(fVal, cVO (aVal (dep + 1)) s i k n t nilS nilS dum dum j)] (hL dep) [] W fLs (regN fLs 4) (tms 0 23 (aL dep)) (oL0 s i 5 P) kL iL F = VT.leaf (AX.normal,[pt' 0 0,i' dep,pt' 1004 0,pt' 1001 0],23) [some (ce' [s' s,i' j] 114),some Ω,some (ce' [i' 5,i' 0,s' nil0,AV.slice 1103 0 1 5 (Cp.lo 1),e'] 52),none,some (AO.any (Tree.frz P)),some (ce' [i' 0,i' 0,s' nil0,e',e'] 52),some Ω,some Ω,some (ce' [z' k,z' n,s' t,e',e'] 52),some (ce' [z' k,z' n,s' t,e',e'] 52)] 1104 (PQ' dep s i k1') := χ
theorem lJ' (W : World) (s : Δ) (i dep c : Nat) (P : Tree.Mem -> Prop) (k n : Int) (t : Δ) (m1 d : Nat) (l : List Jv) (j : Nat) (F : HP) : B5' (trb c) [(fVal, cVO (aVal (dep + 1)) s i k n t (sL5 1006 m1) nilS (ownJ d l) dum j)] (hL dep) [] W fLs (regN fLs 4) (tms 0 23 (aL dep)) (oL0 s i 5 P) kL iL F = VT.leaf (AX.normal,[pt' 0 0,i' dep,pt' 1004 0,pt' 1001 0],23) [some (ce' [s' s,i' j] 114),some Ω,some (ce' [i' 5,i' 0,s' nil0,AV.slice 1103 0 1 5 (Cp.lo 1),e'] 52),none,some (AO.any (Tree.frz P)),some (ce' [i' 0,i' 0,s' nil0,e',e'] 52),some (AO.own mdJ fun b x => Tree.frz fun C => LOf (JAt C d) C (some (Addr.mk b 0 none)) l),some Ω,some (ce' [z' k,z' n,s' t,AV.slice 1100 0 m1 5 (Cp.lo m1),e'] 52),some (ce' [z' k,z' n,s' t,AV.slice 1100 0 m1 5 (Cp.lo m1),e'] 52)] 1104 (PQ' dep s i k1') := χ
theorem lI' (W : World) (s : Δ) (i dep c : Nat) (P : Tree.Mem -> Prop) (k n : Int) (t : Δ) (m1 m2 d : Nat) (l : List Jv) (ns : List Δ) (j : Nat) (F : HP) : B5' (trb c) [(fVal, cVO (aVal (dep + 1)) s i k n t (sL5 1006 m1) (sS1 1007 m2) (ownJ d l) (rS ns) j)] (hL dep) [] W fLs (regN fLs 4) (tms 0 23 (aL dep)) (oL0 s i 5 P) kL iL F = VT.leaf (AX.normal,[pt' 0 0,i' dep,pt' 1004 0,pt' 1001 0],23) [some (ce' [s' s,i' j] 114),some Ω,some (ce' [i' 5,i' 0,s' nil0,AV.slice 1103 0 1 5 (Cp.lo 1),e'] 52),none,some (AO.any (Tree.frz P)),some (ce' [i' 0,i' 0,s' nil0,e',e'] 52),some (AO.own mdJ fun b x => Tree.frz fun C => LOf (JAt C d) C (some (Addr.mk b 0 none)) l),some (ce' (AV.rens (sgN (nmR (RS.mk 0 i s)) [1006,1007] 1100) (rowV encS ns)) 18),some (ce' [z' k,z' n,s' t,AV.slice 1100 0 m1 5 (Cp.lo m1),AV.slice 1101 0 m2 1 (Cp.lo m2)] 52),some (ce' [z' k,z' n,s' t,AV.slice 1100 0 m1 5 (Cp.lo m1),AV.slice 1101 0 m2 1 (Cp.lo m2)] 52)] 1104 (PQ' dep s i k1') := χ
abbrev PP' (q0 : Nat) (q1 : Δ) (q2 q3 : Nat) (q4 : List Rj) (z : Cnd) : Cnd := ((fe' true).a ((f' (Wk (z' (IntKind.i64.wrap (o' q0 + o' 1))) (i' (q0 + 1)))).a (((p' (BW' q1 q2 (RS.mk 0 q2 q1))).a ((vw' [pt' 0 0,i' (q0 + 1)]).a ((ow' (ce' [s' q1,i' q2] 114)).a (f' (OW Ω Ω))))).a ((tt'.a (tt'.a (tt'.a (tt'.a ((p' ((0 + q3 * 5).ble (rowV encJ q4).length = true)).a ((p' (((q3 + 1) * 80).ble 140737488355328 = true)).a ((p' ((q3 + 1).ble 9223372036854775807 = true)).a (f' ((List.take (q3 * 5) (List.drop 0 (rowV encJ q4))).length.beq (q3 * 5) = true))))))))).a ((fe' true).a z)))))
theorem lG' (W : World) (s : Δ) (i dep c : Nat) (P : Tree.Mem -> Prop) (m : Nat) (R : List Rj) (F : HP) : B5' (trb c) [(fVal, cDie (aVal (dep + 1)) s i (aV 0 0 nil0 nilS nilS))] (hL dep) [] W fLs (regN fLs 4) (tms 0 23 (aL dep)) (oL1 s i 5 m R P) kL iL F = VT.leaf (AX.ret,[pt' 0 0,i' dep,pt' 1004 0,pt' 1001 0],23) [some (ce' [s' s,i' i] 114),some (AO.own Md.nothing noH),some (ce' [i' 5,i' 0,s' nil0,AV.slice 1101 0 (m + 1) 5 (Cp.lo (m + 1)),e'] 52),none,some (AO.any (Tree.frz P)),some (ce' [i' 0,i' 0,s' nil0,e',e'] 52),some (ce' [i' 0,i' 0,s' nil0,e',e'] 52),some (ce' (List.take (m * 5) (List.drop 0 (rowV encJ R)) ++ [i' 0,i' 0,s' nil0,e',e']) 52),none,none] 1102 (PP' dep s i m R (k49'.a k1')) := χ
theorem lD' (W : World) (s : Δ) (i dep c : Nat) (P : Tree.Mem -> Prop) (m : Nat) (R : List Rj) (k n : Int) (t : Δ) (j : Nat) (F : HP) : B5' (trb c) [(fVal, cVO (aVal (dep + 1)) s i k n t nilS nilS dum dum j)] (hL dep) [] W fLs (regN fLs 4) (tms 0 23 (aL dep)) (oL1 s i 5 m R P) kL iL F = VT.leaf (AX.normal,[pt' 0 0,i' dep,pt' 1004 0,pt' 1001 0],23) [some (ce' [s' s,i' j] 114),some Ω,some (ce' [i' 5,i' 0,s' nil0,AV.slice 1103 0 (m + 1) 5 (Cp.lo (m + 1)),e'] 52),none,some (AO.any (Tree.frz P)),some (ce' [i' 0,i' 0,s' nil0,e',e'] 52),some Ω,some Ω,some (ce' [z' k,z' n,s' t,e',e'] 52),some (ce' (List.take (m * 5) (List.drop 0 (rowV encJ R)) ++ [z' k,z' n,s' t,e',e']) 52)] 1104 (PP' dep s i m R k1') := χ
theorem lF' (W : World) (s : Δ) (i dep c : Nat) (P : Tree.Mem -> Prop) (m : Nat) (R : List Rj) (k n : Int) (t : Δ) (m1 d : Nat) (l : List Jv) (j : Nat) (F : HP) : B5' (trb c) [(fVal, cVO (aVal (dep + 1)) s i k n t (sL5 1006 m1) nilS (ownJ d l) dum j)] (hL dep) [] W fLs (regN fLs 4) (tms 0 23 (aL dep)) (oL1 s i 5 m R P) kL iL F = VT.leaf (AX.normal,[pt' 0 0,i' dep,pt' 1004 0,pt' 1001 0],23) [some (ce' [s' s,i' j] 114),some Ω,some (ce' [i' 5,i' 0,s' nil0,AV.slice 1103 0 (m + 1) 5 (Cp.lo (m + 1)),e'] 52),none,some (AO.any (Tree.frz P)),some (ce' [i' 0,i' 0,s' nil0,e',e'] 52),some (AO.own mdJ fun b x => Tree.frz fun C => LOf (JAt C d) C (some (Addr.mk b 0 none)) l),some Ω,some (ce' [z' k,z' n,s' t,AV.slice 1100 0 m1 5 (Cp.lo m1),e'] 52),some (ce' (List.take (m * 5) (List.drop 0 (rowV encJ R)) ++ [z' k,z' n,s' t,AV.slice 1100 0 m1 5 (Cp.lo m1),e']) 52)] 1104 (PP' dep s i m R k1') := χ
theorem lE' (W : World) (s : Δ) (i dep c : Nat) (P : Tree.Mem -> Prop) (m : Nat) (R : List Rj) (k n : Int) (t : Δ) (m1 m2 d : Nat) (l : List Jv) (ns : List Δ) (j : Nat) (F : HP) : B5' (trb c) [(fVal, cVO (aVal (dep + 1)) s i k n t (sL5 1006 m1) (sS1 1007 m2) (ownJ d l) (rS ns) j)] (hL dep) [] W fLs (regN fLs 4) (tms 0 23 (aL dep)) (oL1 s i 5 m R P) kL iL F = VT.leaf (AX.normal,[pt' 0 0,i' dep,pt' 1004 0,pt' 1001 0],23) [some (ce' [s' s,i' j] 114),some Ω,some (ce' [i' 5,i' 0,s' nil0,AV.slice 1103 0 (m + 1) 5 (Cp.lo (m + 1)),e'] 52),none,some (AO.any (Tree.frz P)),some (ce' [i' 0,i' 0,s' nil0,e',e'] 52),some (AO.own mdJ fun b x => Tree.frz fun C => LOf (JAt C d) C (some (Addr.mk b 0 none)) l),some (ce' (AV.rens (sgN (nmR (RS.mk 0 i s)) [1006,1007] 1100) (rowV encS ns)) 18),some (ce' [z' k,z' n,s' t,AV.slice 1100 0 m1 5 (Cp.lo m1),AV.slice 1101 0 m2 1 (Cp.lo m2)] 52),some (ce' (List.take (m * 5) (List.drop 0 (rowV encJ R)) ++ [z' k,z' n,s' t,AV.slice 1100 0 m1 5 (Cp.lo m1),AV.slice 1101 0 m2 1 (Cp.lo m2)]) 52)] 1104 (PP' dep s i m R k1') := χ
end
inductive VSh (d : Nat) (v : Jv) : AV -> AV -> AO -> AO -> Prop where
 | P (h1 : v.list = []) (h2 : v.names = []) : VSh d v nilS nilS dum dum
 | L (h2 : v.names = [] /\ v.list ≠ []) : VSh d v (sL5 1006 v.list.length) nilS (ownJ d v.list) dum
 | O (h3 : v.names ≠ []) : VSh d v (sL5 1006 v.list.length) (sS1 1007 v.names.length) (ownJ d v.list) (rS v.names)
theorem T5' {V : Jv -> Rj -> Prop} (hl : l = []) : ∀ y, VR N1 nilS y -> ∃ la lc, y = .slice la l.length lc /\ LOf V C la l := by
 intro y hy; subst hl; rw [VR_v.1 hy]; exact ⟨_, _, rfl, LOf.nil _⟩
theorem KK' {l : List Δ} (hl : l = []) : ∀ y, VR N1 nilS y -> ∃ la lc, y = .slice la l.length lc /\ NOf C la l := by
 intro y hy; subst hl; rw [VR_v.1 hy]; exact ⟨_, _, rfl, NOf.nil _⟩
theorem WC' {F : HP} {R : List Rj} {l0 : List Jv} (hl : AE' 1100 H = true) (hs : St W0 F N H vs ys w)
  (h2 : getO H 1002 = some (.cells (rowV encJ R ++ [iv v.kind, iv v.num, sv v.text, LV, NV]) tJs)) (h3 : getO H 1003 = some (.any (frz (PJ (e + 1) R l0)))) (h6 : getO H 1006 = some OL) (h7 : getO H 1007 = some ON) (hv : VSh e v LV NV OL ON) (hb : v.names.length * 16 <= big) :
  ∃ r', ∀ H', AE' 1100 H' = true -> getO H' 1002 = some (rJ (R ++ [r'])) -> getO H' 1003 = some (.any (frz (PJ (e + 1) (R ++ [r']) (l0 ++ [v])))) -> (∀ n o, n ≠ 1002 -> n ≠ 1003 -> getO H' n = some o -> (n ≠ 1006 /\ n ≠ 1007) /\ getO H n = some o) ->
   AV.cls (fun n => Nat.blt n 1000 || (getO H' n).isSome) vs -> (∀ x ∈ H', x.2.cl (fun n => Nat.blt n 1000 || (getO H' n).isSome)) -> St W0 F N H' vs ys w := by
 obtain ⟨c, hc⟩ := WD' hl hs 1002 1003 [1006, 1007] δ δ δ (a := rowV encJ R) (b := [iv v.kind, iv v.num, sv v.text, LV, NV]) (e := tJs) h2 h3 (fun N1 D w h => h.lt)
  (fun c C => PJ (e + 1) R l0 C /\ QJ e v c C) (fun N1 D hD yb hy => by
   have hP : PJ (e + 1) R l0 (CD' (D 1003) w) := (hD 1003 _ h3).1; obtain ⟨yl, yt, a1, a2, rfl⟩ := five hy
   have d6 : ∀ b, D 1006 b -> (D 1003 b \/ ∃ j, j ∈ [1006, 1007] /\ (∃ o, getO H j = some o) /\ D j b) := fun b hb => .inr ⟨1006, by decide, ⟨_, h6⟩, hb⟩
   have d7 : ∀ b, D 1007 b -> (D 1003 b \/ ∃ j, j ∈ [1006, 1007] /\ (∃ o, getO H j = some o) /\ D j b) := fun b hb => .inr ⟨1007, by decide, ⟨_, h7⟩, hb⟩
   have hL : ∃ la lc, yl = .slice la v.list.length lc /\ LOf (JAt (CD' (fun x => D 1003 x \/ ∃ j, j ∈ [1006, 1007] /\ (∃ o, getO H j = some o) /\ D j x) w) e) (CD' (fun x => D 1003 x \/ ∃ j, j ∈ [1006, 1007] /\ (∃ o, getO H j = some o) /\ D j x) w) la v.list := by
    cases hv with
    | P k1 k2 => exact T5' k1 _ a1
    | L k2 => exact IH' hD h6 d6 _ a1
    | O _ => exact IH' hD h6 d6 _ a1
   have hN : ∃ ta tc, yt = .slice ta v.names.length tc /\ NOf (CD' (fun x => D 1003 x \/ ∃ j, j ∈ [1006, 1007] /\ (∃ o, getO H j = some o) /\ D j x) w) ta v.names := by
    cases hv with
    | P k1 k2 => exact KK' k2 _ a2
    | L k2 => exact KK' k2.1 _ a2
    | O _ =>
     obtain ⟨ta, tc, q1, q2⟩ := PC' hb (hD 1007 _ h7) a2; exact ⟨ta, tc, q1, q2.mono (C0' d7)⟩
   obtain ⟨la, lc, rfl, b1⟩ := hL; obtain ⟨ta, tc, rfl, b2⟩ := hN
   exact ⟨_, rfl, VRs.vmap _, hP.mono (C0' fun b hb => .inl hb), ⟨v.kind, v.num, v.text, la, v.list.length, lc, ta, v.names.length, tc⟩, rfl, ⟨rfl, rfl, rfl, rfl, rfl⟩, b1, b2⟩)
 obtain ⟨⟨C0, _, r', rfl, _⟩, hc⟩ := hc
 refine ⟨r', fun H' k1 k2 k3 k4 k5 k6 => hc H' _ k1 ?_ k3 (fun C ⟨h1, r2, h2, h3⟩ => ?_) (fun n o m1 m2 m3 => ?_) k5 k6⟩
 ·rw [k2]; unfold rJ; rw [HQ', ST']; rfl
 ·rw [<- UZ' h2] at h3; exact h1.add h3
 ·obtain ⟨q1, q2⟩ := k4 n o m1 m2 m3
  refine ⟨fun h => ?_, q2⟩
  rcases List.mem_cons.1 h with h | h
  ·exact q1.1 h
  ·exact q1.2 (List.mem_singleton.1 h)
theorem HR' {σ : Nat -> Nat} : ∀ (a b : List AV), AV.rens σ (a ++ b) = AV.rens σ a ++ AV.rens σ b
 | [], b => rfl
 | x :: a, b => by simp only [List.cons_append, AV.rens, HR' a b]
def VOut (c : Nat) (W : World) (s : Δ) (i dep e : Nat) : Rd Jv -> Prop
 | .err er => er = c /\ ∀ v H', TriU Θ (trb c) W fVal (aVal dep) (oU s i) v H'
 | .ok v j => i < j /\ j <= s.size /\ v.names.length <= 1000000 /\ ∃ LV NV OL ON, VSh e v LV NV OL ON /\ TriU Θ (trb c) W fVal (aVal dep) (oU s i) (aV v.kind v.num v.text LV NV) (oV s j OL ON)
theorem aG' (s : Δ) (i dep : Nat) : AV.cls (kH (oU s i)) (aVal dep) := ⟨rfl, Ye, Ye⟩
theorem JL' {W : World} {F : HP} (hF : AH' W F) {c : Nat} {s : Δ} {i dep : Nat} {f : FuncId} {k n : Int} (h : ∀ v H', TriU Θ (trb c) W f (aVal dep) (oU s i) v H') : C8' Θ (trb c) F f (cDie (aVal dep) s i (aV k n t nilS nilS)) :=
 CL' hF MV' fun p hp => ⟨_, rfl, by obtain ⟨h1, h2⟩ := hp; rw [h1, h2]; exact h _ _, clX _ _ _ _ _ (aG' _ _ _) ⟨⟨Ye, Ye, Ye, Ye, Ye, Ye⟩, Ye⟩⟩
theorem oV_cl (K : Nat -> Bool) (s : Δ) (j : Nat) (hv : VSh e v LV NV OL ON) : ∀ x ∈ oV s j OL ON, x.2.cl K :=
 A2' ⟨Ye, Ye, Ye⟩ (A2' Ye (A2' (by cases hv <;> trivial) (A2' (by cases hv <;> first | trivial | exact G9' _ _) A4')))
theorem aV_cl (s : Δ) (i j : Nat) (hv : VSh e v LV NV OL ON) (k n : Int) (t : Δ) : AV.cls (kR (oU s i) (oV s j OL ON)) [aV k n t LV NV] := by
 cases hv with
 | P => exact ⟨⟨Ye, Ye, Ye, Ye, Ye, Ye⟩, Ye⟩
 | L => exact ⟨⟨Ye, Ye, Ye, rfl, Ye, Ye⟩, Ye⟩
 | O => exact ⟨⟨Ye, Ye, Ye, rfl, rfl, Ye⟩, Ye⟩
theorem BS' {W : World} {F : HP} (hF : AH' W F) {c : Nat} {s : Δ} {i dep j : Nat} {f : FuncId} {k n : Int} (hv : VSh e v LV NV OL ON) (h : TriU Θ (trb c) W f (aVal dep) (oU s i) (aV k n t LV NV) (oV s j OL ON)) : C8' Θ (trb c) F f (cVO (aVal dep) s i k n t LV NV OL ON j) :=
 CL' hF MV' fun p hp => ⟨_, rfl, by obtain ⟨h1, h2⟩ := hp; rw [h1, h2]; exact h, by
  obtain ⟨h1, h2⟩ := hp; rw [h1, h2]
  exact ⟨rfl, rfl, aG' _ _ _, P5' _ _ _, aV_cl _ _ _ hv _ _ _, oV_cl _ _ _ hv⟩⟩
def lsH (s : Δ) (k i : Nat) (vs : List Jv) : List Rj -> LH
 | [] => oL0 s i 5 (PJ (k + 1) [] [])
 | a :: R => oL1 s i 5 (a :: R).length (a :: R) (PJ (k + 1) (a :: R) vs)
def LP (s : Δ) (k dep i : Nat) (vs : List Jv) : SP := fun W0 F N ys w => ∃ R : List Rj, R.length = vs.length /\ St W0 F N (lsH s k i vs R) (tms 0 23 (aL dep)) ys w
def oLE (s : Δ) (j : Nat) (kd : Int) (m : Nat) (cs : List AV) (P : Mem -> Prop) (OL ON : AO) : LH := [(0, rdO s j), (999, upO), (1001, cJ kd (sL5 1002 m) nilS), (1002, .cells cs tJs), (1003, .any (frz P)), (1004, oZJ), (1006, OL), (1007, ON)]
def lE : List (Nat × Nat) := [(1001, 1001), (1002, 1103), (1003, 1003), (1004, 1004), (1006, 1100), (1007, 1101)]
theorem MP' {s : Δ} {j dep : Nat} {P : Mem -> Prop} {cs cs0 : List AV} {o6 o7 ob : AO} (h6 : OW o6 (OL.ren (sg lE))) (h7 : OW o7 (ON.ren (sg lE))) (hcs : cs0 = AV.rens (sg lE) cs) :
  FitT kL iL [.ptr 0 0, iv (o' dep), .ptr 1004 0, .ptr 1001 0] [some (rdO s j), some upO, some (cJ 5 (.slice 1103 0 m 5 (.lo m)) nilS), none, some (.any (frz P)), some oZJ, some o6, some o7, some ob, some (.cells cs0 tJs)] (aL dep) (oLE s j 5 m cs P OL ON) lE :=
 ⟨χ, by kernel_rfl, ⟨Ya, Ya, Ya, Ya, Ye⟩, ⟨⟨_, rfl, Yc⟩, ⟨_, rfl, Yc⟩, ⟨_, rfl, Yc⟩, ⟨_, rfl, OW.of_eq (by rw [hcs]; rfl)⟩, ⟨_, rfl, Yc⟩, ⟨_, rfl, Yc⟩, ⟨_, rfl, h6⟩, ⟨_, rfl, h7⟩, Ye⟩⟩
theorem aL_cls (K : Nat -> Bool) (h : K 0 = true /\ K 1001 = true /\ K 1004 = true) (dep : Nat) : AV.cls K (tms 0 23 (aL dep)) := E9' (show ∀ x ∈ aL dep, AV.cl K x.2 from A2' h.1 (A2' Ye (A2' h.2.2 (A2' h.2.1 A4')))) 23 0
theorem JB' {F : HP} {s : Δ} {k j dep : Nat} {R : List Rj} {vs : List Jv} (hR : R.length = vs.length) (hm : m = R.length + 1) (hv : VSh k v LV NV OL ON) (hb : v.names.length <= 1000000)
  (hs : St W0 F N (oLE s j 5 m (rowV encJ R ++ [iv v.kind, iv v.num, sv v.text, LV, NV]) (PJ (k + 1) R vs) OL ON) (tms 0 23 (aL dep)) ys w) : LP s k dep j (vs ++ [v]) W0 F N ys w := by
 subst hm; obtain ⟨r', hr⟩ := WC' (e := k) (R := R) (l0 := vs) (v := v) rfl hs rfl rfl rfl rfl hv (by have : big = 140737488351232 := rfl; omega)
 refine ⟨R ++ [r'], by rw [la', la', hR]; rfl, ?_⟩
 have hH : lsH s k j (vs ++ [v]) (R ++ [r']) = oL1 s j 5 (R.length + 1) (R ++ [r']) (PJ (k + 1) (R ++ [r']) (vs ++ [v])) := by
  cases R with
  | nil => rfl
  | cons a R =>
   show oL1 s j 5 (a :: (R ++ [r'])).length (a :: (R ++ [r'])) _ = _
   rw [show (a :: (R ++ [r'])).length = (a :: R).length + 1 from by simp]
   rfl
 rw [hH]; refine hr _ rfl rfl rfl (fun n o h1 h2 h3 => ?_) (aL_cls _ ⟨rfl, rfl, rfl⟩ _) (A2' ⟨Ye, Ye, Ye⟩ (A2' Ye (A2' ⟨Ye, Ye, Ye, rfl, Ye, Ye⟩ (A2' (IQ' _ _) (A2' Ye (A2' ⟨Ye, Ye, Ye, Ye, Ye, Ye⟩ A4')))))); simp only [oL1, getO] at h3; simp only [oLE, getO]
 by_cases e0 : n = 0
 ·subst e0; exact ⟨⟨δ, by decide⟩, h3⟩
 by_cases e9 : n = 999
 ·subst e9; exact ⟨⟨δ, by decide⟩, h3⟩
 by_cases e1 : n = 1001
 ·subst e1; exact ⟨⟨δ, by decide⟩, h3⟩
 by_cases e4 : n = 1004
 ·subst e4; exact ⟨⟨δ, by decide⟩, h3⟩
 rw [if_neg e0, if_neg e9, if_neg e1, if_neg h1, if_neg h2, if_neg e4] at h3; cases h3
theorem EF' {R : List Rj} (hR : R.length = m) (hm : m <= 1000000) : (0 + m * 5).ble (rowV encJ R).length = true /\ ((m + 1) * 80).ble 140737488355328 = true /\ (m + 1).ble 9223372036854775807 = true /\ (List.take (m * 5) (List.drop 0 (rowV encJ R))).length.beq (m * 5) = true := by
 refine ⟨?_, ?_, ?_, ?_⟩
 ·rw [CP' CZ', Nat.ble_eq]; omega
 ·rw [Nat.ble_eq]; omega
 ·rw [Nat.ble_eq]; omega
 ·rw [<- hR, CJ' CZ' _ _ rfl, CP' CZ']; exact Nat.beq_refl _
theorem KX' {L : List Δ} {σ τ : Nat -> Nat} : OW (.cells (AV.rens τ (rowV encS L)) tStr) ((rS L).ren σ) := OV' (by rw [AO']) rfl
section
variable {W : World} {s : Δ} {k dep c i : Nat}
variable (hd : dep <= 100)
include hd
theorem ls_E0 (h : VOut c W s i (dep + 1) k (.err c)) (q : AX -> SP) (P : Mem -> Prop) : PTri (trb c) W (regN fLs 4) (stP (oL0 s i 5 P) (tms 0 23 (aL dep))) q := by
 obtain ⟨_, h⟩ := h
 refine AY' 23 kL iL rfl (fun F hF => A1' (JL' hF h) noCU) (fun _ _ => noLU) fun F => Yj (lK' W s i dep c P F) ⟨⟨?_, rfl, AV' (m := .nothing) rfl⟩⟩
 exact Cb16'
theorem ls_E1 (h : VOut c W s i (dep + 1) k (.err c)) (q : AX -> SP) (P : Mem -> Prop) {R : List Rj} (hR : R.length = m) (hm : m <= 1000000) : PTri (trb c) W (regN fLs 4) (stP (oL1 s i 5 m R P) (tms 0 23 (aL dep))) q := by
 obtain ⟨_, h⟩ := h; obtain ⟨q1, q2, q3, q4⟩ := EF' hR hm
 refine AY' 23 kL iL rfl (fun F hF => A1' (JL' hF h) noCU) (fun _ _ => noLU) fun F => Yj (lG' W s i dep c P m R F) ⟨⟨?_, rfl, AV' (m := .nothing) rfl⟩⟩
 exact Cb17'
theorem ls_P0 {j : Nat} (q : AX -> SP) (P : Mem -> Prop) (hv : VSh k v nilS nilS dum dum) (h : TriU Θ (trb c) W fVal (aVal (dep + 1)) (oU s i) (aV v.kind v.num v.text nilS nilS) (oV s j dum dum))
  (hq : ∀ W0 F N ys w, St W0 F N (oLE s j 5 1 (rowV encJ [] ++ [iv v.kind, iv v.num, sv v.text, nilS, nilS]) P dum dum) (tms 0 23 (aL dep)) ys w -> q .normal W0 F N ys w) : PTri (trb c) W (regN fLs 4) (stP (oL0 s i 5 P) (tms 0 23 (aL dep))) q := by
 refine AY' 23 kL iL rfl (fun F hF => A1' (BS' hF hv h) noCU) (fun _ _ => noLU) fun F => Yj (lH' W s i dep c P v.kind v.num v.text j F) ⟨⟨?_, rfl, _, _, _, rfl, MP' (OL := dum) (ON := dum) (cs := rowV encJ [] ++ [iv v.kind, iv v.num, sv v.text, nilS, nilS]) (Yc) (Yc) (rfl), hq⟩⟩
 exact Cb16'
theorem ls_L0 {j : Nat} (q : AX -> SP) (P : Mem -> Prop) (hv : VSh k v (sL5 1006 v.list.length) nilS (ownJ k v.list) dum) (h : TriU Θ (trb c) W fVal (aVal (dep + 1)) (oU s i) (aV v.kind v.num v.text (sL5 1006 v.list.length) nilS) (oV s j (ownJ k v.list) dum))
  (hq : ∀ W0 F N ys w, St W0 F N (oLE s j 5 1 (rowV encJ [] ++ [iv v.kind, iv v.num, sv v.text, (sL5 1006 v.list.length), nilS]) P (ownJ k v.list) dum) (tms 0 23 (aL dep)) ys w -> q .normal W0 F N ys w) : PTri (trb c) W (regN fLs 4) (stP (oL0 s i 5 P) (tms 0 23 (aL dep))) q := by
 refine AY' 23 kL iL rfl (fun F hF => A1' (BS' hF hv h) noCU) (fun _ _ => noLU) fun F => Yj (lJ' W s i dep c P v.kind v.num v.text v.list.length k v.list j F) ⟨⟨?_, rfl, _, _, _, rfl, MP' (OL := (ownJ k v.list)) (ON := dum) (cs := rowV encJ [] ++ [iv v.kind, iv v.num, sv v.text, (sL5 1006 v.list.length), nilS]) (Yc) (Yc) (rfl), hq⟩⟩
 exact Cb16'
theorem ls_O0 {j : Nat} (q : AX -> SP) (P : Mem -> Prop) (hv : VSh k v (sL5 1006 v.list.length) (sS1 1007 v.names.length) (ownJ k v.list) (rS v.names)) (h : TriU Θ (trb c) W fVal (aVal (dep + 1)) (oU s i) (aV v.kind v.num v.text (sL5 1006 v.list.length) (sS1 1007 v.names.length)) (oV s j (ownJ k v.list) (rS v.names)))
  (hq : ∀ W0 F N ys w, St W0 F N (oLE s j 5 1 (rowV encJ [] ++ [iv v.kind, iv v.num, sv v.text, (sL5 1006 v.list.length), (sS1 1007 v.names.length)]) P (ownJ k v.list) (rS v.names)) (tms 0 23 (aL dep)) ys w -> q .normal W0 F N ys w) : PTri (trb c) W (regN fLs 4) (stP (oL0 s i 5 P) (tms 0 23 (aL dep))) q := by
 refine AY' 23 kL iL rfl (fun F hF => A1' (BS' hF hv h) noCU) (fun _ _ => noLU) fun F => Yj (lI' W s i dep c P v.kind v.num v.text v.list.length v.names.length k v.list v.names j F) ⟨⟨?_, rfl, _, _, _, rfl, MP' (OL := (ownJ k v.list)) (ON := (rS v.names)) (cs := rowV encJ [] ++ [iv v.kind, iv v.num, sv v.text, (sL5 1006 v.list.length), (sS1 1007 v.names.length)]) (Yc) (KX') (rfl), hq⟩⟩
 exact Cb16'
theorem ls_P1 {j : Nat} (q : AX -> SP) (P : Mem -> Prop) {R : List Rj} (hR : R.length = m) (hm : m <= 1000000) (hv : VSh k v nilS nilS dum dum) (h : TriU Θ (trb c) W fVal (aVal (dep + 1)) (oU s i) (aV v.kind v.num v.text nilS nilS) (oV s j dum dum))
  (hq : ∀ W0 F N ys w, St W0 F N (oLE s j 5 (m + 1) (rowV encJ R ++ [iv v.kind, iv v.num, sv v.text, nilS, nilS]) P dum dum) (tms 0 23 (aL dep)) ys w -> q .normal W0 F N ys w) : PTri (trb c) W (regN fLs 4) (stP (oL1 s i 5 m R P) (tms 0 23 (aL dep))) q := by
 obtain ⟨q1, q2, q3, q4⟩ := EF' hR hm
 refine AY' 23 kL iL rfl (fun F hF => A1' (BS' hF hv h) noCU) (fun _ _ => noLU) fun F => Yj (lD' W s i dep c P m R v.kind v.num v.text j F) ⟨⟨?_, rfl, _, _, _, rfl, MP' (OL := dum) (ON := dum) (cs := rowV encJ R ++ [iv v.kind, iv v.num, sv v.text, nilS, nilS]) (Yc) (Yc) (by rw [HR', AO', <- hR, CJ' CZ' _ _ rfl]; rfl), hq⟩⟩
 exact Cb17'
theorem ls_L1 {j : Nat} (q : AX -> SP) (P : Mem -> Prop) {R : List Rj} (hR : R.length = m) (hm : m <= 1000000) (hv : VSh k v (sL5 1006 v.list.length) nilS (ownJ k v.list) dum) (h : TriU Θ (trb c) W fVal (aVal (dep + 1)) (oU s i) (aV v.kind v.num v.text (sL5 1006 v.list.length) nilS) (oV s j (ownJ k v.list) dum))
  (hq : ∀ W0 F N ys w, St W0 F N (oLE s j 5 (m + 1) (rowV encJ R ++ [iv v.kind, iv v.num, sv v.text, (sL5 1006 v.list.length), nilS]) P (ownJ k v.list) dum) (tms 0 23 (aL dep)) ys w -> q .normal W0 F N ys w) : PTri (trb c) W (regN fLs 4) (stP (oL1 s i 5 m R P) (tms 0 23 (aL dep))) q := by
 obtain ⟨q1, q2, q3, q4⟩ := EF' hR hm
 refine AY' 23 kL iL rfl (fun F hF => A1' (BS' hF hv h) noCU) (fun _ _ => noLU) fun F => Yj (lF' W s i dep c P m R v.kind v.num v.text v.list.length k v.list j F) ⟨⟨?_, rfl, _, _, _, rfl, MP' (OL := (ownJ k v.list)) (ON := dum) (cs := rowV encJ R ++ [iv v.kind, iv v.num, sv v.text, (sL5 1006 v.list.length), nilS]) (Yc) (Yc) (by rw [HR', AO', <- hR, CJ' CZ' _ _ rfl]; rfl), hq⟩⟩
 exact Cb17'
theorem ls_O1 {j : Nat} (q : AX -> SP) (P : Mem -> Prop) {R : List Rj} (hR : R.length = m) (hm : m <= 1000000) (hv : VSh k v (sL5 1006 v.list.length) (sS1 1007 v.names.length) (ownJ k v.list) (rS v.names)) (h : TriU Θ (trb c) W fVal (aVal (dep + 1)) (oU s i) (aV v.kind v.num v.text (sL5 1006 v.list.length) (sS1 1007 v.names.length)) (oV s j (ownJ k v.list) (rS v.names)))
  (hq : ∀ W0 F N ys w, St W0 F N (oLE s j 5 (m + 1) (rowV encJ R ++ [iv v.kind, iv v.num, sv v.text, (sL5 1006 v.list.length), (sS1 1007 v.names.length)]) P (ownJ k v.list) (rS v.names)) (tms 0 23 (aL dep)) ys w -> q .normal W0 F N ys w) : PTri (trb c) W (regN fLs 4) (stP (oL1 s i 5 m R P) (tms 0 23 (aL dep))) q := by
 obtain ⟨q1, q2, q3, q4⟩ := EF' hR hm
 refine AY' 23 kL iL rfl (fun F hF => A1' (BS' hF hv h) noCU) (fun _ _ => noLU) fun F => Yj (lE' W s i dep c P m R v.kind v.num v.text v.list.length v.names.length k v.list v.names j F) ⟨⟨?_, rfl, _, _, _, rfl, MP' (OL := (ownJ k v.list)) (ON := (rS v.names)) (cs := rowV encJ R ++ [iv v.kind, iv v.num, sv v.text, (sL5 1006 v.list.length), (sS1 1007 v.names.length)]) (Yc) (KX') (by rw [HR', AO', <- hR, CJ' CZ' _ _ rfl]; rfl), hq⟩⟩
 exact Cb17'
end
noncomputable section
def aMo (e : UInt8) : List AV := [.ptr 0 0, byv e]
def kM : List Nat := [0, 999, 1001, 1002, 1003, 1004]
abbrev k155' (q0 : Δ) (q1 : Nat) : Cnd := ((p' (BW' q0 q1 (RS.mk 0 q1 q0))).a ((vw' [pt' 0 0,AV.v (vi' u8' (o' 93))]).a ((ow' (ce' [s' q0,i' q1] 114)).a (f' (OW Ω Ω)))))
theorem oJE_eq (W : World) (s : Δ) (i dep c m : Nat) (R : List Rj) (P : Tree.Mem -> Prop) (F : HP) : B5' (trb c) [(fMo, cDie (aMo 93) s i (bv false))] B4' [] W fLs (C6' fLs 5) (tms 0 23 (aL dep)) (oL1 s i 5 m R P) kM iL F = VT.leaf (AX.ret,[pt' 0 0,i' dep,pt' 1004 0,pt' 1001 0],23) [some (ce' [s' s,i' i] 114),some (AO.own Md.nothing noH),some (ce' [i' 5,i' 0,s' nil0,AV.slice 1002 0 m 5 (Cp.lo m),e'] 52),some (ce' (rowV encJ R) 52),some (AO.any (Tree.frz P)),some (ce' [i' 0,i' 0,s' nil0,e',e'] 52)] 1100 ((k155' s i).a (k49'.a k1')) := χ
theorem oJT_eq (W : World) (s : Δ) (i j dep c m : Nat) (R : List Rj) (P : Tree.Mem -> Prop) (F : HP) : B5' (trb c) [(fMo, cTo2 (aMo 93) s i (bv true) j)] (AD' [hf' fLs 5 2]) [] W fLs (C6' fLs 5) (tms 0 23 (aL dep)) (oL1 s i 5 m R P) kM iL F = VT.leaf (AX.normal,[pt' 0 0,i' dep,pt' 1004 0,pt' 1001 0],23) [some (ce' [s' s,i' j] 114),some Ω,some (ce' [i' 5,i' 0,s' nil0,AV.slice 1002 0 m 5 (Cp.lo m),e'] 52),some (ce' (rowV encJ R) 52),some (AO.any (Tree.frz P)),some (ce' [i' 0,i' 0,s' nil0,e',e'] 52)] 1100 ((k155' s i).a (k78'.a k1')) := χ
theorem oJF_eq (W : World) (s : Δ) (i j dep c m : Nat) (R : List Rj) (P : Tree.Mem -> Prop) (F : HP) : B5' (trb c) [(fMo, cTo2 (aMo 93) s i (bv false) j)] (AD' [ht' fLs 5 2]) [] W fLs (C6' fLs 5) (tms 0 23 (aL dep)) (oL1 s i 5 m R P) kM iL F = VT.leaf (AX.ret,[pt' 0 0,i' dep,pt' 1004 0,pt' 1001 0],23) [some (ce' [s' s,i' j] 114),some Ω,some (ce' [i' 5,i' 0,s' nil0,AV.slice 1002 0 m 5 (Cp.lo m),e'] 52),some (ce' (rowV encJ R) 52),some (AO.any (Tree.frz P)),some (ce' [i' 5,i' 0,s' nil0,AV.slice 1002 0 m 5 (Cp.lo m),e'] 52)] 1100 ((k155' s i).a (k86'.a ((ee' [i' 5,i' 0,s' nil0,AV.slice 1002 0 m 5 (Cp.lo m),e']).a (k40'.a k1')))) := χ
def oLB (s : Δ) (i : Nat) (kd : Int) : LH := [(0, rdO s i), (999, upO), (1001, cJ kd nilS nilS), (1004, oZJ)]
def oLZ (s : Δ) (j : Nat) (d : Nat) (vs : List Jv) : LH := [(0, rdO s j), (999, upO), (1004, cJ 5 (sL5 1002 vs.length) nilS), (1002, ownJ d vs)]
def oLX (s : Δ) (j : Nat) : LH := [(0, rdO s j), (999, K9' .nothing), (1004, oZJ)]
def gLs : List AV -> AP (Nat × Nat) := fun tmps => match getL tmps 5 with
 | .ptr a _ => match getL tmps 4 with
  | .ptr b _ => .ret (a, b)
  | _ => .fail "list"
 | _ => .fail "list"
def nmLs (q : Nat × Nat) : Nat -> Nat := fun k => match Nat.beq k 1001 with
 | true => q.1
 | false => match Nat.beq k 1004 with
  | true => q.2
  | false => k
def lLsO (s : Δ) (i dep j d : Nat) (vs : List Jv) : List AV -> AP (AX × List AV) := mkL gLs (fun _ => True) nmLs (fun _ => tms 0 23 (aL dep)) (fun _ => oLB s i 5) (fun _ => .leaf .ret (tms 0 23 [(4, .ptr 1004 0)]) (oLZ s j d vs))
def lLsE (s : Δ) (i dep : Nat) : List AV -> AP (AX × List AV) := mkL gLs (fun _ => True) nmLs (fun _ => tms 0 23 (aL dep)) (fun _ => oLB s i 5) (fun _ => .leaf .ret (tms 0 23 [(4, .ptr 1004 0)]) (oLX s i))
def kF4 : List Nat := [0, 999, 1100, 1101, 1102, 1103]
abbrev eG' (q0 : Δ) (q1 : Nat) (z : Cnd) : Cnd := ((fe' true).a (((p' (BW' q0 q1 (RS.mk 0 q1 q0))).a ((vw' [pt' 0 0,AV.v (vi' u8' (o' 93))]).a ((ow' (ce' [s' q0,i' q1] 114)).a (f' (OW Ω Ω))))).a z))
theorem l3' (W : World) (s : Δ) (i dep c : Nat) (F : HP) : uRun (trb c) [(fEm, cDie (aMo 93) s i (bv false))] B4' [] W fLs (aVal dep) (oU s i) kF4 F = VT.leaf (AV.agg [i' 0,i' 0,s' y9',e',e']) [some (ce' [s' s,i' i] 114),some (AO.own Md.nothing noH),some (ce' [i' 0,i' 0,s' y9',e',e'] 52),some (ce' [i' 5,i' 0,s' y9',e',e'] 52),none,none] 1102 (eG' s i (LY' k1')) := χ
theorem l0' (W : World) (s : Δ) (i j dep c : Nat) (F : HP) : uRun (trb c) [(fEm, cTo2 (aMo 93) s i (.lit true) j)] B4' [] W fLs (aVal dep) (oU s i) kF4 F = VT.leaf (AV.agg [i' 5,i' 0,s' y9',e',e']) [some (ce' [s' s,i' j] 114),some Ω,some (ce' [i' 5,i' 0,s' y9',e',e'] 52),some (ce' [i' 5,i' 0,s' y9',e',e'] 52),none,none] 1102 (eG' s i ((ee' [i' 5,i' 0,s' y9',e',e']).a (h15' ((p' ([i' 5,i' 0,s' y9',e',e'] = [i' 5,i' 0,s' y9',e',e'])).a k1')))) := χ
abbrev k157' : Cnd := (p' ([i' 0,i' 0,s' nil0,e',e'] = [i' 0,i' 0,s' nil0,e',e']))
abbrev k158' : Cnd := tt'
abbrev k159' : Cnd := (p' (OW (ce' [i' 0,i' 0,s' y9',e',e'] 52) (ce' [i' 0,i' 0,s' nil0,e',e'] 52)))
abbrev k160' : Cnd := (p' (OW (ce' [i' 5,i' 0,s' y9',e',e'] 52) (ce' [i' 5,i' 0,s' nil0,e',e'] 52)))
abbrev eF' (q0 : Δ) (q1 : Nat) (z : Cnd) : Cnd := ((ow' (ce' [s' q0,i' q1] 114)).a ((ow' Ω).a z))
abbrev k162' (q0 q1 q2 : Nat) : Cnd := (p' (VW (pt' 0 0::i' q0::u'::u'::pt' q1 0::pt' q2 0::AV.agg [i' 5,i' 0,s' y9',e',e']::pt' 0 0::g'::ru8 (ru4 (u'::u'::[]))) (pt' 0 0::i' q0::a'::a'::pt' q1 0::pt' q2 0::ra16 (a'::[]))))
theorem l2' (W : World) (s : Δ) (i j dep c : Nat) (F : HP) : uRun (trb c) [(fEm, cTo2 (aMo 93) s i (.lit false) j)] B4' [(fLs, 4, AA' fLs 4, lLsE s j dep)] W fLs (aVal dep) (oU s i) kF4 F = VT.leaf (AV.agg [i' 0,i' 0,s' nil0,e',e']) [some (ce' [s' s,i' j] 114),some (AO.own Md.nothing noH),none,none,some (ce' [i' 0,i' 0,s' nil0,e',e'] 52),none] 1103 (eG' s i ((p' ((fLs,4,AA' fLs 4,lLsE s j dep).snd.snd.fst = (fLs,4,AA' fLs 4,lLsE s j dep).snd.snd.fst)).a (k13'.a ((k162' dep 1100 1101).a (eF' s j (k160'.a (k159'.a (k158'.a (k157'.a k1'))))))))) := χ
theorem l1' (W : World) (s : Δ) (i j j2 dep c d : Nat) (vs : List Jv) (F : HP) : uRun (trb c) [(fEm, cTo2 (aMo 93) s i (.lit false) j)] B4' [(fLs, 4, AA' fLs 4, lLsO s j dep j2 d vs)] W fLs (aVal dep) (oU s i) kF4 F = VT.leaf (AV.agg [i' 5,i' 0,s' nil0,AV.slice 1103 0 vs.length 5 (Cp.lo vs.length),e']) [some (ce' [s' s,i' j2] 114),some Ω,none,none,some (ce' [i' 5,i' 0,s' nil0,AV.slice 1103 0 vs.length 5 (Cp.lo vs.length),e'] 52),some (AO.own mdJ fun b x => Tree.frz fun C => LOf (JAt C d) C (some (Addr.mk b 0 none)) vs)] 1104 (eG' s i ((p' ((fLs,4,AA' fLs 4,lLsO s j dep j2 d vs).snd.snd.fst = (fLs,4,AA' fLs 4,lLsO s j dep j2 d vs).snd.snd.fst)).a (k13'.a ((k162' dep 1100 1101).a (eF' s j (k160'.a (k159'.a (k158'.a ((p' ([i' 5,i' 0,s' nil0,AV.slice 1103 0 vs.length 5 (Cp.lo vs.length),e'] = [i' 5,i' 0,s' nil0,AV.slice 1103 0 vs.length 5 (Cp.lo vs.length),e'])).a k1'))))))))) := χ
end
section
variable {W : World} {F : HP} {c : Nat} {s : Δ} {i j : Nat} {f : FuncId} {A : List AV} {z : AV}
theorem EY' (hF : AH' W F) (hA : AV.cls (kH (oU s i)) A) (hz : AV.cls (kR (oU s i) (oX s i)) [z]) (h : ∀ v H', TriU Θ (trb c) W f A (oU s i) v H') : C8' Θ (trb c) F f (cDie A s i z) :=
 CL' hF MV' fun p hp => ⟨_, rfl, by obtain ⟨h1, h2⟩ := hp; rw [h1, h2]; exact h _ _, by obtain ⟨h1, h2⟩ := hp; rw [h1, h2]; exact clX _ _ _ _ _ hA hz⟩
theorem CS' (hF : AH' W F) (hA : AV.cls (kH (oU s i)) A) (hz : AV.cls (kR (oU s i) (oU s j)) [z]) (h : TriU Θ (trb c) W f A (oU s i) z (oU s j)) : C8' Θ (trb c) F f (cTo2 A s i z j) :=
 CL' hF MV' fun p hp => ⟨_, rfl, by obtain ⟨h1, h2⟩ := hp; rw [h1, h2]; exact h, by obtain ⟨h1, h2⟩ := hp; rw [h1, h2]; exact clU _ _ _ _ _ hA hz⟩
end
theorem z4_cls (K : Nat -> Bool) (h : K 1004 = true) : AV.cls K (tms 0 23 [(4, .ptr 1004 0)]) := E9' (show ∀ x ∈ [(4, pt' 1004 0)], AV.cl K x.2 from A2' h A4') 23 0
theorem E3' (s : Δ) (i : Nat) (e : UInt8) : AV.cls (kH (oU s i)) (aMo e) := ⟨rfl, Ye, Ye⟩
theorem Q7' (K : Nat -> Bool) (b : Bool) : AV.cls K [bv b] := ⟨Ye, Ye⟩
section
variable {W : World} {s : Δ} {k dep c i : Nat}
theorem ls_JE (h : ∀ v H', TriU Θ (trb c) W fMo (aMo 93) (oU s i) v H') (q : AX -> SP) (P : Mem -> Prop) (R : List Rj) (m : Nat) : PTri (trb c) W (C6' fLs 5) (stP (oL1 s i 5 m R P) (tms 0 23 (aL dep))) q := by
 refine AY' 23 kM iL rfl (fun F hF => A1' (EY' hF (E3' _ _ _) (Q7' _ _) h) noCU) (fun _ _ => noLU) fun F => Yj (oJE_eq W s i dep c m R P F) ⟨⟨?_, rfl, AV' (m := .nothing) rfl⟩⟩
 exact Cb18'
theorem ls_JT {j : Nat} (h : TriU Θ (trb c) W fMo (aMo 93) (oU s i) (bv true) (oU s j)) (q : AX -> SP) (P : Mem -> Prop) (R : List Rj) (m : Nat) (hq : ∀ W0 F N ys w, St W0 F N (oL1 s j 5 m R P) (tms 0 23 (aL dep)) ys w -> q .normal W0 F N ys w) :
  PTri (trb c) W (C6' fLs 5) (stP (oL1 s i 5 m R P) (tms 0 23 (aL dep))) q := by
 refine AY' 23 kM iL rfl (fun F hF => A1' (CS' hF (E3' _ _ _) (Q7' _ _) h) noCU) (fun _ _ => noLU) fun F => Yj (oJT_eq W s i j dep c m R P F) ⟨⟨?_, rfl, aL dep, oL1 s j 5 m R P, [(1001, 1001), (1002, 1002), (1003, 1003), (1004, 1004)], rfl, ⟨χ, by kernel_rfl, ⟨Ya, Ya, Ya, Ya, Ye⟩, ⟨⟨_, rfl, Yc⟩, ⟨_, rfl, Yc⟩, ⟨_, rfl, Yc⟩, ⟨_, rfl, OW.of_eq (E0' _ _ _).symm⟩, ⟨_, rfl, Yc⟩, ⟨_, rfl, Yc⟩, Ye⟩⟩, hq⟩⟩
 exact Cb18'
def oLR (s : Δ) (j m : Nat) (R : List Rj) (P : Mem -> Prop) : LH := [(0, rdO s j), (999, upO), (1002, rJ R), (1003, .any (frz P)), (1004, cJ 5 (sL5 1002 m) nilS)]
theorem ls_JF {j : Nat} (h : TriU Θ (trb c) W fMo (aMo 93) (oU s i) (bv false) (oU s j)) (q : AX -> SP) (P : Mem -> Prop) (R : List Rj) (m : Nat) (hq : ∀ W0 F N ys w, St W0 F N (oLR s j m R P) (tms 0 23 [(4, .ptr 1004 0)]) ys w -> q .ret W0 F N ys w) :
  PTri (trb c) W (C6' fLs 5) (stP (oL1 s i 5 m R P) (tms 0 23 (aL dep))) q := by
 refine AY' 23 kM iL rfl (fun F hF => A1' (CS' hF (E3' _ _ _) (Q7' _ _) h) noCU) (fun _ _ => noLU) fun F => Yj (oJF_eq W s i j dep c m R P F) ⟨⟨?_, rfl, [(4, .ptr 1004 0)], oLR s j m R P, [(1002, 1002), (1003, 1003), (1004, 1004)], rfl, ⟨χ, by kernel_rfl, ⟨Ya, Ye⟩, ⟨⟨_, rfl, Yc⟩, ⟨_, rfl, Yc⟩, ⟨_, rfl, OW.of_eq (E0' _ _ _).symm⟩, ⟨_, rfl, Yc⟩, ⟨_, rfl, Yc⟩, Ye⟩⟩, hq⟩⟩
 exact Cb18'
theorem e5' {F : HP} {j : Nat} {R : List Rj} {vs : List Jv} (hR : R.length = vs.length) (hvs : vs.length <= 1000000) (hs : St W0 F N (oLR s j R.length R (PJ (k + 1) R vs)) (tms 0 23 [(4, .ptr 1004 0)]) ys w) : St W0 F N (oLZ s j (k + 1) vs) (tms 0 23 [(4, .ptr 1004 0)]) ys w := by
 rw [hR] at hs; refine KG' (H' := oLZ s j (k + 1) vs) rfl rfl hs 1002 1003 δ rfl rfl rfl rfl (fun n o h1 h2 h3 => ?_) (fun N1 Di Dk h1 h2 h3 _ => VI' (by have : big = 140737488351232 := rfl; omega) h1 h2 h3) (z4_cls _ rfl) (A2' ⟨Ye, Ye, Ye⟩ (A2' Ye (A2' ⟨Ye, Ye, Ye, rfl, Ye, Ye⟩ (A2' Ye A4')))); simp only [oLZ, getO] at h3; simp only [oLR, getO]
 by_cases e0 : n = 0
 ·subst e0; exact h3
 by_cases e9 : n = 999
 ·subst e9; exact h3
 by_cases e4 : n = 1004
 ·subst e4; exact h3
 rw [if_neg e0, if_neg e9, if_neg e4, if_neg h1] at h3; cases h3
end
theorem m8' : AA' fLs 4 = .block 1 (.seq (regN fLs 4) (C6' fLs 5)) := χ
theorem HP' {F : HP} {H' : LH} {i : Nat} {h : HP} (hl : AE' 1100 H = true) (hl' : AE' 1100 H' = true) (hh : ∀ w, h.on (fun _ => False) w) (hi : getO H i = none) (hi' : getO H' i = some (.any h)) (hn : ∀ n, n ≠ i -> getO H' n = getO H n) (hs : St W0 F N H vs ys w) : St W0 F N H' vs ys w := by
 obtain ⟨N', g1, g2, r, g4⟩ := hs
 have lim : ∀ {H : LH}, AE' 1100 H = true -> AE' T.limit H = true := fun h => B7' δ h
 refine ⟨N', g1, fun n h1 h2 => ?_, ⟨r.os, r.tape, r.output, ?_⟩, g4⟩
 ·by_cases e : n = i
  ·subst e; rw [hi'] at h2; cases h2
  ·rw [hn n e] at h2; exact g2 n h1 h2
 ·obtain ⟨D0, D, q1, q2, q3⟩ := r.sat; have hf : ∀ n, (AL' H).find n = getO H n := AI' (lim hl); have hf' : ∀ n, (AL' H').find n = getO H' n := AI' (lim hl')
  refine ⟨D0, fun n => if n = i then (fun _ => False) else D n, q1, fun n o ho => ?_, fun n m o o' ho hm hnm => ?_⟩
  ·rw [hf'] at ho
   by_cases e : n = i
   ·subst e; rw [hi'] at ho; cases ho; simp only [if_pos]
    exact ⟨hh w, fun b hb => hb.elim⟩
   ·simp only [if_neg e]; exact q2 n o (by rw [hf, <- hn n e]; exact ho)
  ·rw [hf'] at ho hm
   by_cases e : n = i
   ·simp only [if_pos e]; exact fun b hb => hb.elim
   ·by_cases e2 : m = i
    ·simp only [if_pos e2]; exact fun b _ hb => hb.elim
    ·simp only [if_neg e, if_neg e2]; exact q3 n m o o' (by rw [hf, <- hn n e]; exact ho) (by rw [hf, <- hn m e2]; exact hm) hnm
def qE (s : Δ) (k dep j : Nat) (vs : List Jv) : AX -> SP := fun x W0 F N ys w => x = .normal /\ LP s k dep j vs W0 F N ys w
section
variable {W : World} {s : Δ} {k dep c i : Nat}
theorem ls_r4E (hd : dep <= 100) {vs : List Jv} (hvs : vs.length <= 1000000) (h : VOut c W s i (dep + 1) k (.err c)) (q : AX -> SP) : PTri (trb c) W (regN fLs 4) (LP s k dep i vs) q := by
 intro W0 F N w a Q hF ⟨R, hR, hst⟩ hU hK
 cases R with
 | nil => exact ls_E0 hd h q _ W0 F N w a Q hF hst hU hK
 | cons r R => exact ls_E1 hd h q _ rfl (by rw [hR]; exact hvs) W0 F N w a Q hF hst hU hK
theorem ls_r4O (hd : dep <= 100) {vs : List Jv} (hvs : vs.length <= 1000000) {j : Nat} (h : VOut c W s i (dep + 1) k (.ok v j)) : PTri (trb c) W (regN fLs 4) (LP s k dep i vs) (qE s k dep j (vs ++ [v])) := by
 obtain ⟨_, _, hb, LV, NV, OL, ON, hv, h⟩ := h; intro W0 F N w a Q hF ⟨R, hR, hst⟩ hU hK
 cases R with
 | nil =>
  have hvs0 : vs = [] := List.length_eq_zero_iff.1 hR.symm; subst hvs0
  cases hv with
  | P h1 h2 => exact ls_P0 (k := k) hd (qE s k dep j [v]) _ (.P h1 h2) h (fun W0 F N ys w hs => ⟨rfl, JB' (R := []) (vs := []) rfl rfl (.P h1 h2) hb hs⟩) W0 F N w a Q hF hst hU hK
  | L h2 => exact ls_L0 (k := k) hd (qE s k dep j [v]) _ (.L h2) h (fun W0 F N ys w hs => ⟨rfl, JB' (R := []) (vs := []) rfl rfl (.L h2) hb hs⟩) W0 F N w a Q hF hst hU hK
  | O h3 => exact ls_O0 (k := k) hd (qE s k dep j [v]) _ (.O h3) h (fun W0 F N ys w hs => ⟨rfl, JB' (R := []) (vs := []) rfl rfl (.O h3) hb hs⟩) W0 F N w a Q hF hst hU hK
 | cons r R =>
  have hm : (r :: R).length <= 1000000 := by rw [hR]; exact hvs
  cases hv with
  | P h1 h2 => exact ls_P1 (k := k) hd (qE s k dep j (vs ++ [v])) _ rfl hm (.P h1 h2) h (fun W0 F N ys w hs => ⟨rfl, JB' hR rfl (.P h1 h2) hb hs⟩) W0 F N w a Q hF hst hU hK
  | L h2 => exact ls_L1 (k := k) hd (qE s k dep j (vs ++ [v])) _ rfl hm (.L h2) h (fun W0 F N ys w hs => ⟨rfl, JB' hR rfl (.L h2) hb hs⟩) W0 F N w a Q hF hst hU hK
  | O h3 => exact ls_O1 (k := k) hd (qE s k dep j (vs ++ [v])) _ rfl hm (.O h3) h (fun W0 F N ys w hs => ⟨rfl, JB' hR rfl (.O h3) hb hs⟩) W0 F N w a Q hF hst hU hK
theorem NI' (hs : s.size <= 1000000) (hi : i <= s.size) (h3 : CT' s i = true -> c = 3) : preN s i c ((bts s).getD (skB (bts s) i) 0) := ⟨hi, by unfold Few; omega, h3, fun _ => rfl⟩
theorem m7' (hs : s.size <= 1000000) (hd : dep <= 100) {T : Rd Jv} (hT : ∀ e, T = .err e -> e = c) (hV : ∀ i, i <= s.size -> (∀ e, valP (bts s) k i = .err e -> e = c) -> VOut c W s i (dep + 1) k (valP (bts s) k i))
  (z : {z : Nat × Nat × List Jv // z.2.1 <= s.size /\ s.size < z.2.1 + z.1 /\ z.2.2.length <= z.2.1 /\ lsP (valP (bts s) k) (bts s) z.1 z.2.1 z.2.2 = T}) :
  PTri (trb c) W (.loop (AA' fLs 4)) (LP s k dep z.1.2.1 z.1.2.2) (fun x W0 F N ys w => x = .ret /\ ∃ vs j, T = .ok (.mk 5 0 nil0 vs []) j /\ St W0 F N (oLZ s j (k + 1) vs) (tms 0 23 [(4, .ptr 1004 0)]) ys w) := by
 refine PTri.loop (p := fun z : {z : Nat × Nat × List Jv // z.2.1 <= s.size /\ s.size < z.2.1 + z.1 /\ z.2.2.length <= z.2.1 /\ lsP (valP (bts s) k) (bts s) z.1 z.2.1 z.2.2 = T} => LP s k dep z.1.2.1 z.1.2.2) (fun z => z.1.1) ?_ z; rintro ⟨⟨f, i, vs⟩, h1, h2, h3, h4⟩; simp only at h1 h2 h3 h4 ⊢
 obtain ⟨f, rfl⟩ : ∃ g, f = g + 1 := ⟨f - 1, by omega⟩
 rw [m8']; refine PTri.block ?_ (fun j W0 F N ys w h => by cases h.1); rw [lsP] at h4
 cases hv : valP (bts s) k i with
 | err e =>
  rw [hv] at h4; have he : e = c := hT e h4.symm; have ho := hV i h1 (fun e' h' => by rw [hv] at h'; injection h' with h'; rw [<- h']; exact he); rw [hv, he] at ho; exact PTri.seq (ls_r4E hd ω ho fun _ _ _ _ _ _ => False) (fun W0 F N w a Q hF hp => hp.elim) (fun x _ W0 F N ys w h => h.elim)
 | ok v j =>
  rw [hv] at h4; simp only at h4; have ho := hV i h1 (fun e' h' => by rw [hv] at h'; cases h'); rw [hv] at ho; have hj := ho; obtain ⟨hij, hjs, _⟩ := hj; refine PTri.seq (ls_r4O hd ω ho) ?_ (fun x hx W0 F N ys w h => absurd h.1 hx)
  have hll : (vs ++ [v]).length <= j := by rw [la']; simp only [List.length_cons, List.length_nil]; omega
  -- what stands behind it
  intro W0 F N w a Q hF ⟨_, R, hR, hst⟩ hU hK
  have hne : ∃ r R', R = r :: R' := by
   cases R with
   | nil => rw [la'] at hR; simp at hR
   | cons r R' => exact ⟨r, R', rfl⟩
  obtain ⟨r, R', rfl⟩ := hne
  have fin : ∀ q : AX -> SP, PTri (trb c) W (C6' fLs 5) (stP (oL1 s j 5 (r :: R').length (r :: R') (PJ (k + 1) (r :: R') (vs ++ [v]))) (tms 0 23 (aL dep))) q -> (∀ x a' w', q x W0 F N a'.tmps.toList w' -> a'.defers = a.defers -> Q (CO' x) a' w') -> Code.wp Θ (C6' fLs 5) Q a w := fun q hq hqK => hq W0 F N w a Q hF hst hU hqK
  cases he : CT' s j with
  | true =>
   rw [GE' he] at h4; have h3c : 3 = c := hT 3 h4.symm; exact fin (fun _ _ _ _ _ _ => False) (ls_JE (fun v H' => K7' (NI' hs hjs fun _ => h3c.symm) (fun h => by rw [he] at h; cases h) fun h => by rw [he] at h; cases h) _ _ _ _) (fun x a' w' h => h.elim)
  | false =>
   rw [DV' hjs he] at h4; simp only at h4; obtain ⟨x, hx⟩ : ∃ x, (bts s).getD (skB (bts s) j) 0 = x := ⟨_, rfl⟩
   have hp : preN s j c x := ⟨hjs, (by unfold Few; omega), (fun h => by rw [he] at h; cases h), fun _ => hx⟩
   have hsk := G4' hjs he; have hsg := C2' (bts s) j; rw [hx] at h4
   by_cases h44 : x = 44
   ·rw [if_pos h44] at h4
    have hb : (x != 44 && x != 93) = false := by rw [h44]; rfl
    refine fin _ (ls_JT (j := skB (bts s) j + 1) (K7' hp (fun _ h => by rw [hb] at h; cases h) fun _ _ => ⟨by rw [h44]; rfl, rfl⟩) (fun x W0 F N ys w => x = .normal /\ St W0 F N (oL1 s (skB (bts s) j + 1) 5 (r :: R').length (r :: R') (PJ (k + 1) (r :: R') (vs ++ [v]))) (tms 0 23 (aL dep)) ys w) _ _ _ fun W0 F N ys w h => ⟨rfl, h⟩) (fun x a' w' h hd => ?_)
    obtain ⟨rfl, h⟩ := h; exact hK .normal a' w' ⟨⟨(f, skB (bts s) j + 1, vs ++ [v]), hsk, (show s.size < skB (bts s) j + 1 + f by omega), (by show (vs ++ [v]).length <= skB (bts s) j + 1; omega), h4⟩, Nat.lt_succ_self f, r :: R', hR, h⟩ hd
   ·rw [if_neg h44] at h4
    by_cases h93 : x = 93
    ·rw [if_pos h93] at h4
     have hb : (x != 44 && x != 93) = false := by rw [h93]; rfl
     refine fin _ (ls_JF (j := skB (bts s) j + 1) (K7' hp (fun _ h => by rw [hb] at h; cases h) fun _ _ => ⟨by rw [h93]; rfl, rfl⟩) (fun x W0 F N ys w => x = .ret /\ St W0 F N (oLR s (skB (bts s) j + 1) (r :: R').length (r :: R') (PJ (k + 1) (r :: R') (vs ++ [v]))) (tms 0 23 [(4, .ptr 1004 0)]) ys w) _ _ _ fun W0 F N ys w h => ⟨rfl, h⟩) (fun x a' w' h hd => ?_)
     obtain ⟨rfl, h⟩ := h; exact hK .ret a' w' ⟨rfl, vs ++ [v], skB (bts s) j + 1, h4.symm, e5' hR ω h⟩ hd
    ·rw [if_neg h93] at h4; have h3c : 231 = c := hT 231 h4.symm
     have hb : (x != 44 && x != 93) = true := by rw [Bool.and_eq_true]; exact ⟨bne_iff_ne.2 h44, bne_iff_ne.2 h93⟩
     exact fin (fun _ _ _ _ _ _ => False) (ls_JE (fun v H' => K7' hp (fun _ _ => h3c) fun _ h => by rw [hb] at h; cases h) _ _ _ _) (fun x a' w' h => h.elim)
end
theorem TriU.wk {R : PanT} {W : World} {f : FuncId} {A : List AV} {H' : LH} {v v' : AV} (h : TriU Θ R W f A H v H') (hw : Wk v v') : TriU Θ R W f A H v' H' := by
 intro W0 F N w vargs hF hNB r ha; refine (h W0 F N w vargs hF hNB r ha).mono ?_; rintro e w' (⟨y, rfl, N', h1, h2, h3, h4⟩ | hp)
 ·exact .inl ⟨y, rfl, N', h1, h2, h3, AC'.2 ⟨hw _ _ (AC'.1 h4).1, AU'⟩⟩
 ·exact .inr hp
theorem KH' (l : Γ) (i : Nat) : skB l (skB l i) = skB l i := by
 have h : (l.drop (skB l i)).takeWhile isBl = [] := by
  unfold skB; rw [<- List.drop_drop]
  generalize l.drop i = m
  induction m with
  | nil => simp
  | cons a m ih =>
   rw [List.takeWhile_cons]; split
   ·rename_i ha; rw [List.length_cons, List.drop_succ_cons]; exact ih
   ·rename_i ha; rw [List.length_nil, List.drop_zero, List.takeWhile_cons, if_neg ha]
 conv => lhs; unfold skB
 rw [show List.drop (i + (List.takeWhile isBl (List.drop i l)).length) l = l.drop (skB l i) from rfl, h]; rfl
theorem WF' (l : Γ) (i : Nat) : sgA l (skB l i) = sgA l i := by unfold sgA; rw [KH']
theorem hY' (l : Γ) (k i : Nat) : valP l k (skB l i) = valP l k i := by
 cases k with
 | zero => rw [valP, valP, WF', KH']
 | succ k => rw [valP, valP, WF', KH']
theorem lsP_sk (l : Γ) (k f i : Nat) (vs : List Jv) : lsP (valP l k) l (f + 1) (skB l i) vs = lsP (valP l k) l (f + 1) i vs := by rw [lsP, lsP, hY']
def FOut (f : FuncId) (c : Nat) (W : World) (s : Δ) (i dep e : Nat) : Rd Jv -> Prop
 | .err er => er = c /\ ∀ v H', TriU Θ (trb c) W f (aVal dep) (oU s i) v H'
 | .ok v j => i < j /\ j <= s.size /\ v.names.length <= 1000000 /\ ∃ LV NV OL ON, VSh e v LV NV OL ON /\ TriU Θ (trb c) W f (aVal dep) (oU s i) (aV v.kind v.num v.text LV NV) (oV s j OL ON)
theorem PY' (w : World) : (HP.pure True).on (fun _ => False) w := ⟨fun _ h => h, Ye⟩
theorem BV' {F : HP} {s : Δ} {j : Nat} (h : St W0 F N (oU s j) vs ys w) : St W0 F N (oV s j dum dum) vs ys w := by
 have h1 : St W0 F N [(0, rdO s j), (999, upO), (1006, dum)] vs ys w := HP' (i := 1006) (h := HP.pure True) rfl rfl PY' rfl rfl (fun n hn => by
  simp only [oU, getO]
  by_cases e0 : n = 0
  ·rw [if_pos e0, if_pos e0]
  by_cases e9 : n = 999
  ·rw [if_neg e0, if_neg e0, if_pos e9, if_pos e9]
  rw [if_neg e0, if_neg e0, if_neg e9, if_neg e9, if_neg hn]) h
 exact HP' (i := 1007) (h := HP.pure True) rfl rfl PY' rfl rfl (fun n hn => by
  simp only [oV, getO]
  by_cases e0 : n = 0
  ·rw [if_pos e0, if_pos e0]
  by_cases e9 : n = 999
  ·rw [if_neg e0, if_neg e0, if_pos e9, if_pos e9]
  by_cases e6 : n = 1006
  ·rw [if_neg e0, if_neg e0, if_neg e9, if_neg e9, if_pos e6, if_pos e6]
  rw [if_neg e0, if_neg e0, if_neg e9, if_neg e9, if_neg e6, if_neg e6, if_neg hn]) h1
theorem iI' {F : HP} {s : Δ} {j : Nat} (h : St W0 F N [(0, rdO s j), (999, upO), (1006, OL)] vs ys w) : St W0 F N (oV s j OL dum) vs ys w :=
 HP' (i := 1007) (h := HP.pure True) rfl rfl PY' rfl rfl (fun n hn => by
  simp only [oV, getO]
  by_cases e0 : n = 0
  ·rw [if_pos e0, if_pos e0]
  by_cases e9 : n = 999
  ·rw [if_neg e0, if_neg e0, if_pos e9, if_pos e9]
  by_cases e6 : n = 1006
  ·rw [if_neg e0, if_neg e0, if_neg e9, if_neg e9, if_pos e6, if_pos e6]
  rw [if_neg e0, if_neg e0, if_neg e9, if_neg e9, if_neg e6, if_neg e6, if_neg hn]) h
theorem TE' : ∀ args, RO (gLs args) := fun args => by
 unfold gLs
 repeat' split
 all_goals exact Kb21'
section
variable {W : World} {s : Δ} {k dep c i : Nat}
theorem b3' {F : HP} (h : St W0 F N (oLB s i 5) (tms 0 23 (aL dep)) ys w) : LP s k dep i [] W0 F N ys w :=
 ⟨[], rfl, HP' (i := 1003) (h := frz (PJ (k + 1) [] [])) rfl rfl (fun w => ⟨PJ.nil _ _, fun b hb => hb.elim⟩) rfl rfl (fun n hn => by
  simp only [lsH, oL0, oLB, getO]
  by_cases e0 : n = 0
  ·rw [if_pos e0, if_pos e0]
  by_cases e9 : n = 999
  ·rw [if_neg e0, if_neg e0, if_pos e9, if_pos e9]
  by_cases e1 : n = 1001
  ·rw [if_neg e0, if_neg e0, if_neg e9, if_neg e9, if_pos e1, if_pos e1]
  rw [if_neg e0, if_neg e0, if_neg e9, if_neg e9, if_neg e1, if_neg e1, if_neg hn]) h⟩
theorem YF' (hs : s.size <= 1000000) (hd : dep <= 100) {T : Rd Jv} (hT : ∀ e, T = .err e -> e = c) (hV : ∀ i, i <= s.size -> (∀ e, valP (bts s) k i = .err e -> e = c) -> VOut c W s i (dep + 1) k (valP (bts s) k i))
  {f : Nat} (hi : i <= s.size) (hf : s.size < i + f) (h : lsP (valP (bts s) k) (bts s) f i [] = T) {HZ : LH} (hZ : ∀ vs j, T = .ok (.mk 5 0 nil0 vs []) j -> HZ = oLZ s j (k + 1) vs) :
  OG' Θ (trb c) W (AA' fLs 4) (tms 0 23 (aL dep)) (oLB s i 5) .ret (tms 0 23 [(4, .ptr 1004 0)]) HZ :=
 PTri.ltri (((m7' hs hd hT hV ⟨(f, i, []), hi, hf, Nat.zero_le _, h⟩).post fun x W0 F N ys w hq => by
  obtain ⟨hx, vs, j, hj, hst⟩ := hq
  exact ⟨hx, by rw [hZ vs j hj]; exact hst⟩).pre fun W0 F N ys w hp => b3' hp)
theorem hM' (dep : Nat) : ∀ x ∈ aL dep, AV.cl (kH (oLB s i 5)) x.2 := A2' rfl (A2' Ye (A2' rfl (A2' rfl A4')))
theorem gB' (K : Nat -> Bool) : ∀ x ∈ oLB s i 5, x.2.cl K := A2' ⟨Ye, Ye, Ye⟩ (A2' Ye (A2' ⟨Ye, Ye, Ye, Ye, Ye, Ye⟩ (A2' ⟨Ye, Ye, Ye, Ye, Ye, Ye⟩ A4')))
end
section
variable {W : World} {s : Δ} {k dep c i : Nat}
theorem gE' {V : Nat -> Rd Jv} {l : Γ} (hV : ∀ i, i <= l.length -> ∀ v j, V i = .ok v j -> i < j /\ j <= l.length) : ∀ (f i : Nat) (vs : List Jv) (v : Jv) (j : Nat), i <= l.length -> vs.length <= i -> lsP V l f i vs = .ok v j -> ∃ ws, v = .mk 5 0 nil0 ws [] /\ ws.length <= j /\ i < j /\ j <= l.length
 | 0, i, vs, v, j, hi, hvs, h => by cases h
 | f + 1, i, vs, v, j, hi, hvs, h => by
  rw [lsP] at h
  cases hv : V i with
  | err e => rw [hv] at h; cases h
  | ok w m =>
   rw [hv] at h; simp only at h; obtain ⟨h1, h2⟩ := hV i hi w m hv
   have hl : (vs ++ [w]).length <= m := by rw [la']; simp only [List.length_cons, List.length_nil]; omega
   cases hg : sgA l m with
   | none => rw [hg] at h; cases h
   | some x =>
    rw [hg] at h; simp only at h; have hsk : skB l m < l.length := (List.getElem?_eq_some_iff.1 hg).1; have hge := C2' l m; split at h
    ·obtain ⟨ws, q1, q2, q3, q4⟩ := gE' hV f _ _ v j ω ω h
     exact ⟨ws, q1, q2, by omega, q4⟩
    ·split at h
     ·injection h with h3 h4
      subst h4
      exact ⟨vs ++ [w], h3.symm, by omega, by omega, by omega⟩
     ·cases h
theorem MQ' (K : Nat -> Bool) (b : Bool) : AV.cls K [.lit b] := ⟨Ye, Ye⟩
theorem Ls_out (hs : s.size <= 1000000) (hd : dep <= 99) (hi : i <= s.size) (hT : ∀ e, grP (valP (bts s) k) (bts s) false i = .err e -> e = c) (hV : ∀ i, i <= s.size -> (∀ e, valP (bts s) k i = .err e -> e = c) -> VOut c W s i (dep + 1) k (valP (bts s) k i)) :
  FOut fLs c W s i dep (k + 1) (grP (valP (bts s) k) (bts s) false i) := by
 have hlen : (bts s).length = s.size := rfl; unfold grP at hT ⊢
 cases he : CT' s i with
 | true =>
  rw [GE' he] at hT ⊢; have h3 : 3 = c := hT 3 rfl
  refine ⟨h3, fun v H' => ?_⟩
  refine A9' kF4 rfl (fun F hF => A1' (EY' hF (E3' _ _ _) (Q7' _ _) fun v H' => N7' (NI' hs hi fun _ => h3.symm) fun h => by rw [he] at h; cases h) noCU) (fun _ _ => noLU) fun F => Yj (l3' W s i dep c F) ⟨⟨?_, AG' (m := .nothing) rfl⟩⟩
  exact Cb18'
 | false =>
  rw [DV' hi he] at hT ⊢; simp only at hT ⊢; obtain ⟨x, hx⟩ : ∃ x, (bts s).getD (skB (bts s) i) 0 = x := ⟨_, rfl⟩; rw [hx] at hT ⊢
  have hp : preN s i c x := ⟨hi, (by unfold Few; omega), (fun h => by rw [he] at h; cases h), fun _ => hx⟩
  have hsk := G4' hi he; have hge := C2' (bts s) i
  by_cases h93 : x = 93
  ·rw [if_pos h93]; have hEm : TriU Θ (trb c) W fEm (aMo 93) (oU s i) (.lit true) (oU s (skB (bts s) i + 1)) := TriU.wk (v := bv true) (N7' hp fun _ => ⟨by rw [h93]; rfl, by rw [h93]; rfl⟩) (A3' true)
   refine ⟨ω, by omega, Nat.zero_le _, nilS, nilS, dum, dum, .P rfl rfl, ?_⟩
   obtain ⟨j, hj⟩ : ∃ j, skB (bts s) i + 1 = j := ⟨_, rfl⟩; rw [hj] at hEm ⊢
   refine A9' kF4 rfl (fun F hF => A1' (CS' hF (E3' _ _ _) (MQ' _ _) hEm) noCU) (fun _ _ => noLU) fun F => Yj (l0' W s i j dep c F) ⟨⟨?_, [aV 5 0 nil0 nilS nilS], oU s j, [], rfl, AJ' [] rfl rfl (Yb) ⟨⟨_, rfl, Yc⟩, ⟨_, rfl, Yc⟩, Ye⟩, fun W0 F N ys w h => BV' h⟩⟩
   exact Cb18'
  ·rw [if_neg h93] at hT ⊢; have hxe : (x == 93) = false := beq_eq_false_iff_ne.2 h93; have hEm : TriU Θ (trb c) W fEm (aMo 93) (oU s i) (.lit false) (oU s (skB (bts s) i)) := TriU.wk (v := bv false) (N7' hp fun _ => ⟨by rw [hxe], by rw [hxe]; rfl⟩) (A3' false)
   have hbd : ∀ i, i <= (bts s).length -> ∀ v j, valP (bts s) k i = .ok v j -> i < j /\ j <= (bts s).length := fun i hi v j h => by
    have ho := hV i hi (fun e h' => by rw [h] at h'; cases h'); rw [h] at ho; exact ⟨ho.1, ho.2.1⟩
   have hsk2 := lsP_sk (bts s) k (bts s).length i []
   cases hl : lsP (valP (bts s) k) (bts s) ((bts s).length + 1) i [] with
   | err e =>
    rw [hl] at hT hsk2; have h3 : e = c := hT e rfl
    refine ⟨h3, fun v H' => ?_⟩
    have hlt := YF' (dep := dep) hs ω (T := .err e) hT hV (Nat.le_of_lt hsk) ω hsk2 (HZ := oLX s (skB (bts s) i)) (fun vs j h => by cases h); obtain ⟨j, hj⟩ : ∃ j, skB (bts s) i = j := ⟨_, rfl⟩; rw [hj] at hEm hlt
    refine A9' kF4 rfl (fun F hF => A1' (CS' hF (E3' _ _ _) (MQ' _ _) hEm) noCU) (fun F hF => MJ' (L4' hF TE' (fun _ _ => hlt) fun _ _ => by
     simp only [RT.pick]
     exact C4' rfl rfl (hM' dep) (gB' _) (A2' rfl A4') (A2' ⟨Ye, Ye, Ye⟩ (A2' Ye (A2' ⟨Ye, Ye, Ye, Ye, Ye, Ye⟩ A4'))))) fun F => Yj (l2' W s i j dep c F) ⟨⟨?_, AG' (m := .nothing) rfl⟩⟩
    exact Cb18'
   | ok v j2 =>
    rw [hl] at hT hsk2; obtain ⟨ws, rfl, q2, q3, q4⟩ := gE' hbd _ _ _ _ _ hi (Nat.zero_le _) hl; refine ⟨q3, q4, Nat.zero_le _, _, _, _, _, .L ⟨rfl, gG' _ _ _ _ _ hl⟩, ?_⟩; have hlt := YF' (dep := dep) hs ω (T := .ok (.mk 5 0 nil0 ws []) j2) hT hV (Nat.le_of_lt hsk) ω hsk2 (HZ := oLZ s j2 (k + 1) ws) (fun vs j h => by injection h with h1 h2; injection h1 with _ _ _ h3; rw [h2, h3]); obtain ⟨j, hj⟩ : ∃ j, skB (bts s) i = j := ⟨_, rfl⟩; rw [hj] at hEm hlt
    refine A9' kF4 rfl (fun F hF => A1' (CS' hF (E3' _ _ _) (MQ' _ _) hEm) noCU) (fun F hF => MJ' (L4' hF TE' (fun _ _ => hlt) fun _ _ => by
     simp only [RT.pick]
     exact C4' rfl rfl (hM' dep) (gB' _) (A2' rfl A4') (A2' ⟨Ye, Ye, Ye⟩ (A2' Ye (A2' ⟨Ye, Ye, Ye, rfl, Ye, Ye⟩ (A2' Ye A4')))))) fun F => Yj (l1' W s i j j2 dep c (k + 1) ws F) ⟨⟨?_, [aV 5 0 nil0 (sL5 1006 ws.length) nilS], [(0, rdO s j2), (999, upO), (1006, ownJ (k + 1) ws)], [(1006, 1103)], rfl, AJ' [(1006, 1103)] χ χ (Yb) ⟨⟨_, rfl, Yc⟩, ⟨_, rfl, Yc⟩, ⟨_, rfl, Yc⟩, Ye⟩, fun W0 F N ys w h => iI' h⟩⟩
    exact Cb18'
end
def JZ' (r : Nat) : Code -> Option Code
 | .seq a b => match BG' a with
  | some i => match Nat.beq i r with
   | true => some a
   | false => match JZ' r a with | some c => some c | none => JZ' r b
  | none => match JZ' r a with | some c => some c | none => JZ' r b
 | .cond _ a b => match JZ' r a with | some c => some c | none => JZ' r b
 | .loop b | .block _ b | .scope b => JZ' r b
 | _ => none
def BL' (f : FuncId) (r : Nat) : Code := ((Θ.funcs[f]?).bind fun fn => fn.body.bind (JZ' r)).getD .skip
def oO (s : Δ) (i : Nat) (LX NX : AV) (o2 : AO) (P : Tree.Mem -> Prop) (o5 : AO) : LH := [(0, rdO s i), (999, upO), (1001, cJ 6 LX NX), (1002, o2), (1003, .any (Tree.frz P)), (1004, oZJ), (1005, o5)]
def aO (dep : Nat) (n : AV) : List (Nat × AV) := [(0, .ptr 0 0), (1, iv (o' dep)), (4, .ptr 1004 0), (5, .ptr 1001 0), (6, n)]
def kO : List Nat := [0, 999, 1001, 1002, 1003, 1004, 1005, 1100, 1101, 1102, 1103]
def iO : List Nat := [0, 1, 4, 5, 6]
structure CN where
 a : Nat
def gCt : List AV -> AP Nat := fun args => match args with
 | [.slice a _ _ _ _, _] => .ret a
 | _ => .fail "names"
def nmCt (a : Nat) : Nat -> Nat := fun k => match Nat.beq k 1 with
 | true => a
 | false => k
def cCtO (L : List Δ) (m : Nat) (n : Δ) (b : Bool) : List AV -> Option (AP AV) := mkC gCt (fun _ => L.length = m /\ m <= 1000000 /\ hasM L n = b) nmCt (fun _ => [sS 1 m, sv n]) (fun _ => [(1, rS L)]) (fun _ => .leaf .ret [.lit b] [(1, rS L)])
def cCtZ (n : Δ) : List AV -> Option (AP AV) := mkC (fun _ => .ret ()) (fun _ => True) (fun _ k => k) (fun _ => [nilS, sv n]) (fun _ => []) (fun _ => .leaf .ret [.lit false] [])
theorem oAE_eq (W : World) (s : Δ) (i dep c : Nat) (LX NX : AV) (o2 : AO) (P : Tree.Mem -> Prop) (o5 : AO) (nv : AV) (F : HP) : B5' (trb c) [(fNx, V1' s i (byv 0)), (fGv, cGv c)] (AD' [ht' fOb 4 2]) [] W fOb (BL' fOb 4) (tms 0 52 (aO dep (nv))) (oO s i LX NX o2 P o5) kO iO F = VT.leaf (AX.ret,[pt' 0 0,i' dep,pt' 1004 0,pt' 1001 0,getL [pt' 0 0,i' dep,a',a',pt' 1004 0,pt' 1001 0,nv,a',a',a',a',pt' 0 0,AV.v (vi' u8' (o' 0)),j',a',a',a',a',a',a',a',a',a',a',a',a',a',a',a',a',a',a',a',a',a',a',a',a',a',a',a',a',a',a',a',a',a',a',a',a',a',a'] 6],52) [some (ce' [s' s,i' i] 114),some (AO.own Md.nothing noH),some (ce' [i' 6,i' 0,s' nil0,LX,NX] 52),some o2,some (AO.any (Tree.frz P)),some (ce' [i' 0,i' 0,s' nil0,e',e'] 52),some o5,none,none,none,none] 1100 ((k141' s i).a (k86'.a (k49'.a k1'))) := χ
theorem oAN_eq (W : World) (s : Δ) (i dep c : Nat) (LX NX : AV) (o2 : AO) (P : Tree.Mem -> Prop) (o5 : AO) (nv : AV) (x : UInt8) (j : Nat) (F : HP) : B5' (trb c) [(fNx, cTo1 s i (byv x) j), (fGv, cGv c)] (AD' [ht' fOb 4 2]) [] W fOb (BL' fOb 4) (tms 0 52 (aO dep (nv))) (oO s i LX NX o2 P o5) kO iO F = VT.leaf (AX.ret,[pt' 0 0,i' dep,pt' 1004 0,pt' 1001 0,getL [pt' 0 0,i' dep,a',a',pt' 1004 0,pt' 1001 0,nv,a',a',a',a',pt' 0 0,AV.v (vi' u8' ↑x.toNat),j',AV.tuple [],a',a',a',a',a',a',a',a',a',a',a',a',a',a',a',a',a',a',a',a',a',a',a',a',a',a',a',a',a',a',a',a',a',a',a',a',a'] 6],52) [some (ce' [s' s,i' j] 114),some (AO.own Md.nothing noH),some (ce' [i' 6,i' 0,s' nil0,LX,NX] 52),some o2,some (AO.any (Tree.frz P)),some (ce' [i' 0,i' 0,s' nil0,e',e'] 52),some o5,none,none,none,none] 1100 ((k141' s i).a ((wb' (↑x.toNat != o' 34) j').a ((k54' c).a (k49'.a k1')))) := χ
theorem oAO_eq (W : World) (s : Δ) (i dep c : Nat) (LX NX : AV) (o2 : AO) (P : Tree.Mem -> Prop) (o5 : AO) (nv : AV) (x : UInt8) (j : Nat) (F : HP) : B5' (trb c) [(fNx, cTo1 s i (byv x) j), (fGv, cGv c)] (AD' [hf' fOb 4 2]) [] W fOb (BL' fOb 4) (tms 0 52 (aO dep (nv))) (oO s i LX NX o2 P o5) kO iO F = VT.leaf (AX.normal,[pt' 0 0,i' dep,pt' 1004 0,pt' 1001 0,getL [pt' 0 0,i' dep,a',a',pt' 1004 0,pt' 1001 0,nv,a',a',a',a',pt' 0 0,AV.v (vi' u8' ↑x.toNat),g',a',a',a',a',a',a',a',a',a',a',a',a',a',a',a',a',a',a',a',a',a',a',a',a',a',a',a',a',a',a',a',a',a',a',a',a',a',a'] 6],52) [some (ce' [s' s,i' j] 114),some Ω,some (ce' [i' 6,i' 0,s' nil0,LX,NX] 52),some o2,some (AO.any (Tree.frz P)),some (ce' [i' 0,i' 0,s' nil0,e',e'] 52),some o5,none,none,none,none] 1100 ((k141' s i).a ((wb' (↑x.toNat != o' 34) g').a k1')) := χ
theorem oBE_eq (W : World) (s : Δ) (i dep c : Nat) (LX NX : AV) (o2 : AO) (P : Tree.Mem -> Prop) (o5 : AO) (nv : AV) (F : HP) : B5' (trb c) [(fTxt, V1' s i (sv nil0))] (B4') [] W fOb (BL' fOb 6) (tms 0 52 (aO dep (nv))) (oO s i LX NX o2 P o5) kO iO F = VT.leaf (AX.ret,[pt' 0 0,i' dep,pt' 1004 0,pt' 1001 0,s' nil0],52) [some (ce' [s' s,i' i] 114),some (AO.own Md.nothing noH),some (ce' [i' 6,i' 0,s' nil0,LX,NX] 52),some o2,some (AO.any (Tree.frz P)),some (ce' [i' 0,i' 0,s' nil0,e',e'] 52),some o5,none,none,none,none] 1100 ((k141' s i).a (k49'.a k1')) := χ
theorem oBO_eq (W : World) (s : Δ) (i dep c : Nat) (LX NX : AV) (o2 : AO) (P : Tree.Mem -> Prop) (o5 : AO) (nv : AV) (t : Δ) (j : Nat) (F : HP) : B5' (trb c) [(fTxt, cTo1 s i (sv t) j)] (B4') [] W fOb (BL' fOb 6) (tms 0 52 (aO dep (nv))) (oO s i LX NX o2 P o5) kO iO F = VT.leaf (AX.normal,[pt' 0 0,i' dep,pt' 1004 0,pt' 1001 0,s' t],52) [some (ce' [s' s,i' j] 114),some Ω,some (ce' [i' 6,i' 0,s' nil0,LX,NX] 52),some o2,some (AO.any (Tree.frz P)),some (ce' [i' 0,i' 0,s' nil0,e',e'] 52),some o5,none,none,none,none] 1100 ((k141' s i).a k1') := χ
theorem oDE_eq (W : World) (s : Δ) (i dep c : Nat) (LX NX : AV) (o2 : AO) (P : Tree.Mem -> Prop) (o5 : AO) (nv : AV) (F : HP) : B5' (trb c) [(fNx, V1' s i (byv 0)), (fGv, cGv c)] (AD' [ht' fOb 9 2]) [] W fOb (BL' fOb 9) (tms 0 52 (aO dep (nv))) (oO s i LX NX o2 P o5) kO iO F = VT.leaf (AX.ret,[pt' 0 0,i' dep,pt' 1004 0,pt' 1001 0,getL [pt' 0 0,i' dep,a',a',pt' 1004 0,pt' 1001 0,nv,a',a',a',a',a',a',a',a',a',a',a',a',a',a',a',pt' 0 0,AV.v (vi' u8' (o' 0)),j',a',a',a',a',a',a',a',a',a',a',a',a',a',a',a',a',a',a',a',a',a',a',a',a',a',a',a'] 6],52) [some (ce' [s' s,i' i] 114),some (AO.own Md.nothing noH),some (ce' [i' 6,i' 0,s' nil0,LX,NX] 52),some o2,some (AO.any (Tree.frz P)),some (ce' [i' 0,i' 0,s' nil0,e',e'] 52),some o5,none,none,none,none] 1100 ((k141' s i).a (k86'.a (k49'.a k1'))) := χ
theorem oDN_eq (W : World) (s : Δ) (i dep c : Nat) (LX NX : AV) (o2 : AO) (P : Tree.Mem -> Prop) (o5 : AO) (nv : AV) (x : UInt8) (j : Nat) (F : HP) : B5' (trb c) [(fNx, cTo1 s i (byv x) j), (fGv, cGv c)] (AD' [ht' fOb 9 2]) [] W fOb (BL' fOb 9) (tms 0 52 (aO dep (nv))) (oO s i LX NX o2 P o5) kO iO F = VT.leaf (AX.ret,[pt' 0 0,i' dep,pt' 1004 0,pt' 1001 0,getL [pt' 0 0,i' dep,a',a',pt' 1004 0,pt' 1001 0,nv,a',a',a',a',a',a',a',a',a',a',a',a',a',a',a',pt' 0 0,AV.v (vi' u8' ↑x.toNat),j',AV.tuple [],a',a',a',a',a',a',a',a',a',a',a',a',a',a',a',a',a',a',a',a',a',a',a',a',a',a'] 6],52) [some (ce' [s' s,i' j] 114),some (AO.own Md.nothing noH),some (ce' [i' 6,i' 0,s' nil0,LX,NX] 52),some o2,some (AO.any (Tree.frz P)),some (ce' [i' 0,i' 0,s' nil0,e',e'] 52),some o5,none,none,none,none] 1100 ((k141' s i).a ((wb' (↑x.toNat != o' 58) j').a ((k54' c).a (k49'.a k1')))) := χ
theorem oDO_eq (W : World) (s : Δ) (i dep c : Nat) (LX NX : AV) (o2 : AO) (P : Tree.Mem -> Prop) (o5 : AO) (nv : AV) (x : UInt8) (j : Nat) (F : HP) : B5' (trb c) [(fNx, cTo1 s i (byv x) j), (fGv, cGv c)] (AD' [hf' fOb 9 2]) [] W fOb (BL' fOb 9) (tms 0 52 (aO dep (nv))) (oO s i LX NX o2 P o5) kO iO F = VT.leaf (AX.normal,[pt' 0 0,i' dep,pt' 1004 0,pt' 1001 0,getL [pt' 0 0,i' dep,a',a',pt' 1004 0,pt' 1001 0,nv,a',a',a',a',a',a',a',a',a',a',a',a',a',a',a',pt' 0 0,AV.v (vi' u8' ↑x.toNat),g',a',a',a',a',a',a',a',a',a',a',a',a',a',a',a',a',a',a',a',a',a',a',a',a',a',a',a'] 6],52) [some (ce' [s' s,i' j] 114),some Ω,some (ce' [i' 6,i' 0,s' nil0,LX,NX] 52),some o2,some (AO.any (Tree.frz P)),some (ce' [i' 0,i' 0,s' nil0,e',e'] 52),some o5,none,none,none,none] 1100 ((k141' s i).a ((wb' (↑x.toNat != o' 58) g').a k1')) := χ
theorem oEO_eq (W : World) (s : Δ) (i dep c : Nat) (LX NX : AV) (o2 : AO) (P : Tree.Mem -> Prop) (o5 : AO) (nv : AV) (j : Nat) (F : HP) : B5' (trb c) [] (AD' [(fOb, 11, 4, hv (iv (o' j)))]) [] W fOb (BL' fOb 11) (tms 0 52 (aO dep (nv))) (oO s i LX NX o2 P o5) kO iO F = VT.leaf (AX.normal,[pt' 0 0,i' dep,pt' 1004 0,pt' 1001 0,getL [pt' 0 0,i' dep,a',a',pt' 1004 0,pt' 1001 0,nv,a',a',a',a',a',a',a',a',a',a',a',a',a',a',a',a',a',a',a',pt' 0 0,pt' 0 0,pt' 0 1,i' i,i' j,pt' 0 0,pt' 0 1,a',a',a',a',a',a',a',a',a',a',a',a',a',a',a',a',a',a',a'] 6],52) [some (ce' [s' s,i' j] 114),some Ω,some (ce' [i' 6,i' 0,s' nil0,LX,NX] 52),some o2,some (AO.any (Tree.frz P)),some (ce' [i' 0,i' 0,s' nil0,e',e'] 52),some o5,none,none,none,none] 1100 ((k12' i).a ((f' (Wk (z' (IntKind.i64.wrap (o' i + o' 1))) (i' j))).a (k40'.a k1'))) := χ
theorem oCZ_eq (W : World) (s : Δ) (i dep c : Nat) (LX : AV) (o2 : AO) (P : Tree.Mem -> Prop) (n : Δ) (F : HP) : B5' (trb c) [(fCt, cCtZ n), (fGv, cGv c)] (B4') [] W fOb (BL' fOb 7) (tms 0 52 (aO dep (sv n))) (oO s i LX nilS o2 P dum) kO iO F = VT.leaf (AX.normal,[pt' 0 0,i' dep,pt' 1004 0,pt' 1001 0,s' n],52) [some (ce' [s' s,i' i] 114),some Ω,some (ce' [i' 6,i' 0,s' nil0,LX,e'] 52),some o2,some (AO.any (Tree.frz P)),some (ce' [i' 0,i' 0,s' nil0,e',e'] 52),some Ω,none,none,none,none] 1100 (k40'.a (((Cnd.p True).a (f' (VW [e',s' n] [e',s' n]))).a k1')) := χ
theorem oCD_eq (W : World) (s : Δ) (i dep c : Nat) (LX : AV) (o2 : AO) (P : Tree.Mem -> Prop) (n : Δ) (m : Nat) (L : List Δ) (F : HP) : B5' (trb c) [(fCt, cCtO L m n true), (fGv, cGv c)] (B4') [] W fOb (BL' fOb 7) (tms 0 52 (aO dep (sv n))) (oO s i LX (sS1 1005 m) o2 P (rS L)) kO iO F = VT.leaf (AX.ret,[pt' 0 0,i' dep,pt' 1004 0,pt' 1001 0,s' n],52) [some (ce' [s' s,i' i] 114),some (AO.own Md.nothing noH),some (ce' [i' 6,i' 0,s' nil0,LX,AV.slice 1005 0 m 1 (Cp.lo m)] 52),some o2,some (AO.any (Tree.frz P)),some (ce' [i' 0,i' 0,s' nil0,e',e'] 52),some (ce' (AV.rens (sgN (nmCt 1005) [] 0) (rowV encS L)) 18),none,none,none,none] 1100 (k40'.a (((p' (L.length = m /\ m <= 1000000 /\ hasM L n = true)).a ((vw' [AV.slice 1005 0 m 1 (Cp.lo m),s' n]).a (f' (OW (ce' (rowV encS L) 18) (ce' (AV.rens (nmCt 1005) (rowV encS L)) 18))))).a (((p' (5 = c /\ 5 <= 255)).a ((vw' [i' 5]).a (f' (OW Ω Ω)))).a (k49'.a k1')))) := χ
theorem oCO_eq (W : World) (s : Δ) (i dep c : Nat) (LX : AV) (o2 : AO) (P : Tree.Mem -> Prop) (n : Δ) (m : Nat) (L : List Δ) (F : HP) : B5' (trb c) [(fCt, cCtO L m n false), (fGv, cGv c)] (B4') [] W fOb (BL' fOb 7) (tms 0 52 (aO dep (sv n))) (oO s i LX (sS1 1005 m) o2 P (rS L)) kO iO F = VT.leaf (AX.normal,[pt' 0 0,i' dep,pt' 1004 0,pt' 1001 0,s' n],52) [some (ce' [s' s,i' i] 114),some Ω,some (ce' [i' 6,i' 0,s' nil0,LX,AV.slice 1005 0 m 1 (Cp.lo m)] 52),some o2,some (AO.any (Tree.frz P)),some (ce' [i' 0,i' 0,s' nil0,e',e'] 52),some (ce' (AV.rens (sgN (nmCt 1005) [] 0) (rowV encS L)) 18),none,none,none,none] 1100 (k40'.a (((p' (L.length = m /\ m <= 1000000 /\ hasM L n = false)).a ((vw' [AV.slice 1005 0 m 1 (Cp.lo m),s' n]).a (f' (OW (ce' (rowV encS L) 18) (ce' (AV.rens (nmCt 1005) (rowV encS L)) 18))))).a k1')) := χ
theorem oFZ_eq (W : World) (s : Δ) (i dep c : Nat) (LX : AV) (o2 : AO) (P : Tree.Mem -> Prop) (n : Δ) (F : HP) : B5' (trb c) [] (B4') [] W fOb (BL' fOb 12) (tms 0 52 (aO dep (sv n))) (oO s i LX nilS o2 P dum) kO iO F = VT.leaf (AX.normal,[pt' 0 0,i' dep,pt' 1004 0,pt' 1001 0,s' n],52) [some (ce' [s' s,i' i] 114),some Ω,some (ce' [i' 6,i' 0,s' nil0,LX,AV.slice 1101 0 1 1 (Cp.lo 1)] 52),some o2,some (AO.any (Tree.frz P)),some (ce' [i' 0,i' 0,s' nil0,e',e'] 52),some Ω,some (ce' [s' n] 18),some (ce' [s' n] 18),none,none] 1102 (k40'.a (k89'.a (k40'.a k1'))) := χ
theorem oFO_eq (W : World) (s : Δ) (i dep c : Nat) (LX : AV) (o2 : AO) (P : Tree.Mem -> Prop) (n : Δ) (m : Nat) (L : List Δ) (F : HP) : B5' (trb c) [] (B4') [] W fOb (BL' fOb 12) (tms 0 52 (aO dep (sv n))) (oO s i LX (sS1 1005 m) o2 P (rS L)) kO iO F = VT.leaf (AX.normal,[pt' 0 0,i' dep,pt' 1004 0,pt' 1001 0,s' n],52) [some (ce' [s' s,i' i] 114),some Ω,some (ce' [i' 6,i' 0,s' nil0,LX,AV.slice 1101 0 (m + 1) 1 (Cp.lo (m + 1))] 52),some o2,some (AO.any (Tree.frz P)),some (ce' [i' 0,i' 0,s' nil0,e',e'] 52),none,some (ce' [s' n] 18),some (ce' (List.take (m * 1) (List.drop 0 (rowV encS L)) ++ [s' n]) 18),none,none] 1102 (k40'.a ((tt'.a (tt'.a (tt'.a (tt'.a ((p' ((0 + m * 1).ble (rowV encS L).length = true)).a ((p' (((m + 1) * 16).ble 140737488355328 = true)).a ((p' ((m + 1).ble 9223372036854775807 = true)).a (f' ((List.take (m * 1) (List.drop 0 (rowV encS L))).length.beq (m * 1) = true))))))))).a (k40'.a k1'))) := χ
noncomputable section
def kP : List Nat := [0, 999, 1001, 1002, 1003, 1004, 1005, 1100, 1101, 1102, 1103]
def hO (dep : Nat) : AX' := AD' [(fOb, 13, 4, hv (iv (o' (dep + 1))))]
theorem jL' (W : World) (s : Δ) (i dep c : Nat) (NX : AV) (P : Tree.Mem -> Prop) (o5 : AO) (nv : AV) (F : HP) : B5' (trb c) [(fVal, cDie (aVal (dep + 1)) s i (aV 0 0 nil0 nilS nilS))] (hO dep) [] W fOb (regN fOb 13) (tms 0 52 (aO dep nv)) (oO s i nilS NX dum P o5) kP iO F = VT.leaf (AX.ret,[pt' 0 0,i' dep,pt' 1004 0,pt' 1001 0,getL [pt' 0 0,i' dep,a',a',pt' 1004 0,pt' 1001 0,nv,a',a',a',a',a',a',a',a',a',a',a',a',a',a',a',a',a',a',a',a',a',a',a',a',a',a',a',a',a',a',a',a',pt' 1001 3,e',pt' 0 0,i' dep,i' (dep + 1),AV.agg [i' 0,i' 0,s' nil0,e',e'],AV.slice 1100 0 1 5 (Cp.ex 1),AV.slice 1101 0 1 5 (Cp.lo 1),pt' 1001 3,a',a',a',a'] 6],52) [some (ce' [s' s,i' i] 114),some (AO.own Md.nothing noH),some (ce' [i' 6,i' 0,s' nil0,AV.slice 1101 0 1 5 (Cp.lo 1),NX] 52),some Ω,some (AO.any (Tree.frz P)),some (ce' [i' 0,i' 0,s' nil0,e',e'] 52),some o5,some (ce' [i' 0,i' 0,s' nil0,e',e'] 52),some (ce' [i' 0,i' 0,s' nil0,e',e'] 52),none,none] 1102 (PQ' dep s i (k49'.a k1')) := χ
theorem jI' (W : World) (s : Δ) (i dep c : Nat) (NX : AV) (P : Tree.Mem -> Prop) (o5 : AO) (nv : AV) (k n : Int) (t : Δ) (j : Nat) (F : HP) : B5' (trb c) [(fVal, cVO (aVal (dep + 1)) s i k n t nilS nilS dum dum j)] (hO dep) [] W fOb (regN fOb 13) (tms 0 52 (aO dep nv)) (oO s i nilS NX dum P o5) kP iO F = VT.leaf (AX.normal,[pt' 0 0,i' dep,pt' 1004 0,pt' 1001 0,getL [pt' 0 0,i' dep,a',a',pt' 1004 0,pt' 1001 0,nv,a',a',a',a',a',a',a',a',a',a',a',a',a',a',a',a',a',a',a',a',a',a',a',a',a',a',a',a',a',a',a',a',pt' 1001 3,e',pt' 0 0,i' dep,i' (dep + 1),AV.agg [z' k,z' n,s' t,e',e'],AV.slice 1102 0 1 5 (Cp.ex 1),AV.slice 1103 0 1 5 (Cp.lo 1),pt' 1001 3,a',a',a',a'] 6],52) [some (ce' [s' s,i' j] 114),some Ω,some (ce' [i' 6,i' 0,s' nil0,AV.slice 1103 0 1 5 (Cp.lo 1),NX] 52),some Ω,some (AO.any (Tree.frz P)),some (ce' [i' 0,i' 0,s' nil0,e',e'] 52),some o5,some Ω,some Ω,some (ce' [z' k,z' n,s' t,e',e'] 52),some (ce' [z' k,z' n,s' t,e',e'] 52)] 1104 (PQ' dep s i k1') := χ
theorem jK' (W : World) (s : Δ) (i dep c : Nat) (NX : AV) (P : Tree.Mem -> Prop) (o5 : AO) (nv : AV) (k n : Int) (t : Δ) (m1 d : Nat) (l : List Jv) (j : Nat) (F : HP) : B5' (trb c) [(fVal, cVO (aVal (dep + 1)) s i k n t (sL5 1006 m1) nilS (ownJ d l) dum j)] (hO dep) [] W fOb (regN fOb 13) (tms 0 52 (aO dep nv)) (oO s i nilS NX dum P o5) kP iO F = VT.leaf (AX.normal,[pt' 0 0,i' dep,pt' 1004 0,pt' 1001 0,getL [pt' 0 0,i' dep,a',a',pt' 1004 0,pt' 1001 0,nv,a',a',a',a',a',a',a',a',a',a',a',a',a',a',a',a',a',a',a',a',a',a',a',a',a',a',a',a',a',a',a',a',pt' 1001 3,e',pt' 0 0,i' dep,i' (dep + 1),AV.agg [z' k,z' n,s' t,AV.slice 1100 0 m1 5 (Cp.lo m1),e'],AV.slice 1102 0 1 5 (Cp.ex 1),AV.slice 1103 0 1 5 (Cp.lo 1),pt' 1001 3,a',a',a',a'] 6],52) [some (ce' [s' s,i' j] 114),some Ω,some (ce' [i' 6,i' 0,s' nil0,AV.slice 1103 0 1 5 (Cp.lo 1),NX] 52),some Ω,some (AO.any (Tree.frz P)),some (ce' [i' 0,i' 0,s' nil0,e',e'] 52),some o5,some (AO.own mdJ fun b x => Tree.frz fun C => LOf (JAt C d) C (some (Addr.mk b 0 none)) l),some Ω,some (ce' [z' k,z' n,s' t,AV.slice 1100 0 m1 5 (Cp.lo m1),e'] 52),some (ce' [z' k,z' n,s' t,AV.slice 1100 0 m1 5 (Cp.lo m1),e'] 52)] 1104 (PQ' dep s i k1') := χ
theorem jJ' (W : World) (s : Δ) (i dep c : Nat) (NX : AV) (P : Tree.Mem -> Prop) (o5 : AO) (nv : AV) (k n : Int) (t : Δ) (m1 m2 d : Nat) (l : List Jv) (ns : List Δ) (j : Nat) (F : HP) : B5' (trb c) [(fVal, cVO (aVal (dep + 1)) s i k n t (sL5 1006 m1) (sS1 1007 m2) (ownJ d l) (rS ns) j)] (hO dep) [] W fOb (regN fOb 13) (tms 0 52 (aO dep nv)) (oO s i nilS NX dum P o5) kP iO F = VT.leaf (AX.normal,[pt' 0 0,i' dep,pt' 1004 0,pt' 1001 0,getL [pt' 0 0,i' dep,a',a',pt' 1004 0,pt' 1001 0,nv,a',a',a',a',a',a',a',a',a',a',a',a',a',a',a',a',a',a',a',a',a',a',a',a',a',a',a',a',a',a',a',a',pt' 1001 3,e',pt' 0 0,i' dep,i' (dep + 1),AV.agg [z' k,z' n,s' t,AV.slice 1100 0 m1 5 (Cp.lo m1),AV.slice 1101 0 m2 1 (Cp.lo m2)],AV.slice 1102 0 1 5 (Cp.ex 1),AV.slice 1103 0 1 5 (Cp.lo 1),pt' 1001 3,a',a',a',a'] 6],52) [some (ce' [s' s,i' j] 114),some Ω,some (ce' [i' 6,i' 0,s' nil0,AV.slice 1103 0 1 5 (Cp.lo 1),NX] 52),some Ω,some (AO.any (Tree.frz P)),some (ce' [i' 0,i' 0,s' nil0,e',e'] 52),some o5,some (AO.own mdJ fun b x => Tree.frz fun C => LOf (JAt C d) C (some (Addr.mk b 0 none)) l),some (ce' (AV.rens (sgN (nmR (RS.mk 0 i s)) [1006,1007] 1100) (rowV encS ns)) 18),some (ce' [z' k,z' n,s' t,AV.slice 1100 0 m1 5 (Cp.lo m1),AV.slice 1101 0 m2 1 (Cp.lo m2)] 52),some (ce' [z' k,z' n,s' t,AV.slice 1100 0 m1 5 (Cp.lo m1),AV.slice 1101 0 m2 1 (Cp.lo m2)] 52)] 1104 (PQ' dep s i k1') := χ
theorem jH' (W : World) (s : Δ) (i dep c : Nat) (NX : AV) (P : Tree.Mem -> Prop) (o5 : AO) (nv : AV) (m : Nat) (R : List Rj) (F : HP) : B5' (trb c) [(fVal, cDie (aVal (dep + 1)) s i (aV 0 0 nil0 nilS nilS))] (hO dep) [] W fOb (regN fOb 13) (tms 0 52 (aO dep nv)) (oO s i (sL5 1002 m) NX (rJ R) P o5) kP iO F = VT.leaf (AX.ret,[pt' 0 0,i' dep,pt' 1004 0,pt' 1001 0,getL [pt' 0 0,i' dep,a',a',pt' 1004 0,pt' 1001 0,nv,a',a',a',a',a',a',a',a',a',a',a',a',a',a',a',a',a',a',a',a',a',a',a',a',a',a',a',a',a',a',a',a',pt' 1001 3,AV.slice 1002 0 m 5 (Cp.lo m),pt' 0 0,i' dep,i' (dep + 1),AV.agg [i' 0,i' 0,s' nil0,e',e'],AV.slice 1100 0 1 5 (Cp.ex 1),AV.slice 1101 0 (m + 1) 5 (Cp.lo (m + 1)),pt' 1001 3,a',a',a',a'] 6],52) [some (ce' [s' s,i' i] 114),some (AO.own Md.nothing noH),some (ce' [i' 6,i' 0,s' nil0,AV.slice 1101 0 (m + 1) 5 (Cp.lo (m + 1)),NX] 52),none,some (AO.any (Tree.frz P)),some (ce' [i' 0,i' 0,s' nil0,e',e'] 52),some o5,some (ce' [i' 0,i' 0,s' nil0,e',e'] 52),some (ce' (List.take (m * 5) (List.drop 0 (rowV encJ R)) ++ [i' 0,i' 0,s' nil0,e',e']) 52),none,none] 1102 (PP' dep s i m R (k49'.a k1')) := χ
theorem jE' (W : World) (s : Δ) (i dep c : Nat) (NX : AV) (P : Tree.Mem -> Prop) (o5 : AO) (nv : AV) (m : Nat) (R : List Rj) (k n : Int) (t : Δ) (j : Nat) (F : HP) : B5' (trb c) [(fVal, cVO (aVal (dep + 1)) s i k n t nilS nilS dum dum j)] (hO dep) [] W fOb (regN fOb 13) (tms 0 52 (aO dep nv)) (oO s i (sL5 1002 m) NX (rJ R) P o5) kP iO F = VT.leaf (AX.normal,[pt' 0 0,i' dep,pt' 1004 0,pt' 1001 0,getL [pt' 0 0,i' dep,a',a',pt' 1004 0,pt' 1001 0,nv,a',a',a',a',a',a',a',a',a',a',a',a',a',a',a',a',a',a',a',a',a',a',a',a',a',a',a',a',a',a',a',a',pt' 1001 3,AV.slice 1002 0 m 5 (Cp.lo m),pt' 0 0,i' dep,i' (dep + 1),AV.agg [z' k,z' n,s' t,e',e'],AV.slice 1102 0 1 5 (Cp.ex 1),AV.slice 1103 0 (m + 1) 5 (Cp.lo (m + 1)),pt' 1001 3,a',a',a',a'] 6],52) [some (ce' [s' s,i' j] 114),some Ω,some (ce' [i' 6,i' 0,s' nil0,AV.slice 1103 0 (m + 1) 5 (Cp.lo (m + 1)),NX] 52),none,some (AO.any (Tree.frz P)),some (ce' [i' 0,i' 0,s' nil0,e',e'] 52),some o5,some Ω,some Ω,some (ce' [z' k,z' n,s' t,e',e'] 52),some (ce' (List.take (m * 5) (List.drop 0 (rowV encJ R)) ++ [z' k,z' n,s' t,e',e']) 52)] 1104 (PP' dep s i m R k1') := χ
theorem jG' (W : World) (s : Δ) (i dep c : Nat) (NX : AV) (P : Tree.Mem -> Prop) (o5 : AO) (nv : AV) (m : Nat) (R : List Rj) (k n : Int) (t : Δ) (m1 d : Nat) (l : List Jv) (j : Nat) (F : HP) : B5' (trb c) [(fVal, cVO (aVal (dep + 1)) s i k n t (sL5 1006 m1) nilS (ownJ d l) dum j)] (hO dep) [] W fOb (regN fOb 13) (tms 0 52 (aO dep nv)) (oO s i (sL5 1002 m) NX (rJ R) P o5) kP iO F = VT.leaf (AX.normal,[pt' 0 0,i' dep,pt' 1004 0,pt' 1001 0,getL [pt' 0 0,i' dep,a',a',pt' 1004 0,pt' 1001 0,nv,a',a',a',a',a',a',a',a',a',a',a',a',a',a',a',a',a',a',a',a',a',a',a',a',a',a',a',a',a',a',a',a',pt' 1001 3,AV.slice 1002 0 m 5 (Cp.lo m),pt' 0 0,i' dep,i' (dep + 1),AV.agg [z' k,z' n,s' t,AV.slice 1100 0 m1 5 (Cp.lo m1),e'],AV.slice 1102 0 1 5 (Cp.ex 1),AV.slice 1103 0 (m + 1) 5 (Cp.lo (m + 1)),pt' 1001 3,a',a',a',a'] 6],52) [some (ce' [s' s,i' j] 114),some Ω,some (ce' [i' 6,i' 0,s' nil0,AV.slice 1103 0 (m + 1) 5 (Cp.lo (m + 1)),NX] 52),none,some (AO.any (Tree.frz P)),some (ce' [i' 0,i' 0,s' nil0,e',e'] 52),some o5,some (AO.own mdJ fun b x => Tree.frz fun C => LOf (JAt C d) C (some (Addr.mk b 0 none)) l),some Ω,some (ce' [z' k,z' n,s' t,AV.slice 1100 0 m1 5 (Cp.lo m1),e'] 52),some (ce' (List.take (m * 5) (List.drop 0 (rowV encJ R)) ++ [z' k,z' n,s' t,AV.slice 1100 0 m1 5 (Cp.lo m1),e']) 52)] 1104 (PP' dep s i m R k1') := χ
theorem jF' (W : World) (s : Δ) (i dep c : Nat) (NX : AV) (P : Tree.Mem -> Prop) (o5 : AO) (nv : AV) (m : Nat) (R : List Rj) (k n : Int) (t : Δ) (m1 m2 d : Nat) (l : List Jv) (ns : List Δ) (j : Nat) (F : HP) : B5' (trb c) [(fVal, cVO (aVal (dep + 1)) s i k n t (sL5 1006 m1) (sS1 1007 m2) (ownJ d l) (rS ns) j)] (hO dep) [] W fOb (regN fOb 13) (tms 0 52 (aO dep nv)) (oO s i (sL5 1002 m) NX (rJ R) P o5) kP iO F = VT.leaf (AX.normal,[pt' 0 0,i' dep,pt' 1004 0,pt' 1001 0,getL [pt' 0 0,i' dep,a',a',pt' 1004 0,pt' 1001 0,nv,a',a',a',a',a',a',a',a',a',a',a',a',a',a',a',a',a',a',a',a',a',a',a',a',a',a',a',a',a',a',a',a',pt' 1001 3,AV.slice 1002 0 m 5 (Cp.lo m),pt' 0 0,i' dep,i' (dep + 1),AV.agg [z' k,z' n,s' t,AV.slice 1100 0 m1 5 (Cp.lo m1),AV.slice 1101 0 m2 1 (Cp.lo m2)],AV.slice 1102 0 1 5 (Cp.ex 1),AV.slice 1103 0 (m + 1) 5 (Cp.lo (m + 1)),pt' 1001 3,a',a',a',a'] 6],52) [some (ce' [s' s,i' j] 114),some Ω,some (ce' [i' 6,i' 0,s' nil0,AV.slice 1103 0 (m + 1) 5 (Cp.lo (m + 1)),NX] 52),none,some (AO.any (Tree.frz P)),some (ce' [i' 0,i' 0,s' nil0,e',e'] 52),some o5,some (AO.own mdJ fun b x => Tree.frz fun C => LOf (JAt C d) C (some (Addr.mk b 0 none)) l),some (ce' (AV.rens (sgN (nmR (RS.mk 0 i s)) [1006,1007] 1100) (rowV encS ns)) 18),some (ce' [z' k,z' n,s' t,AV.slice 1100 0 m1 5 (Cp.lo m1),AV.slice 1101 0 m2 1 (Cp.lo m2)] 52),some (ce' (List.take (m * 5) (List.drop 0 (rowV encJ R)) ++ [z' k,z' n,s' t,AV.slice 1100 0 m1 5 (Cp.lo m1),AV.slice 1101 0 m2 1 (Cp.lo m2)]) 52)] 1104 (PP' dep s i m R k1') := χ
def kMO : List Nat := [0, 999, 1001, 1002, 1003, 1004, 1005]
abbrev k163' (q0 : Δ) (q1 : Nat) : Cnd := ((p' (BW' q0 q1 (RS.mk 0 q1 q0))).a ((vw' [pt' 0 0,AV.v (vi' u8' (o' 125))]).a ((ow' (ce' [s' q0,i' q1] 114)).a (f' (OW Ω Ω)))))
theorem oHE_eq (W : World) (s : Δ) (i dep c m m2 : Nat) (R : List Rj) (P : Tree.Mem -> Prop) (L : List Δ) (nv : AV) (F : HP) : B5' (trb c) [(fMo, cDie (aMo 125) s i (bv false))] B4' [] W fOb (C6' fOb 14) (tms 0 52 (aO dep nv)) (oO s i (sL5 1002 m) (sS1 1005 m2) (rJ R) P (rS L)) kMO iO F = VT.leaf (AX.ret,[pt' 0 0,i' dep,pt' 1004 0,pt' 1001 0,getL [pt' 0 0,i' dep,a',a',pt' 1004 0,pt' 1001 0,nv,a',a',a',a',a',a',a',a',a',a',a',a',a',a',a',a',a',a',a',a',a',a',a',a',a',a',a',a',a',a',a',a',a',a',a',a',a',a',a',a',a',pt' 0 0,b' false,b' true,a'] 6],52) [some (ce' [s' s,i' i] 114),some (AO.own Md.nothing noH),some (ce' [i' 6,i' 0,s' nil0,AV.slice 1002 0 m 5 (Cp.lo m),AV.slice 1005 0 m2 1 (Cp.lo m2)] 52),some (ce' (rowV encJ R) 52),some (AO.any (Tree.frz P)),some (ce' [i' 0,i' 0,s' nil0,e',e'] 52),some (ce' (rowV encS L) 18)] 1100 ((k163' s i).a (k49'.a k1')) := χ
theorem oHT_eq (W : World) (s : Δ) (i j dep c m m2 : Nat) (R : List Rj) (P : Tree.Mem -> Prop) (L : List Δ) (nv : AV) (F : HP) : B5' (trb c) [(fMo, cTo2 (aMo 125) s i (bv true) j)] (AD' [hf' fOb 14 2]) [] W fOb (C6' fOb 14) (tms 0 52 (aO dep nv)) (oO s i (sL5 1002 m) (sS1 1005 m2) (rJ R) P (rS L)) kMO iO F = VT.leaf (AX.normal,[pt' 0 0,i' dep,pt' 1004 0,pt' 1001 0,getL [pt' 0 0,i' dep,a',a',pt' 1004 0,pt' 1001 0,nv,a',a',a',a',a',a',a',a',a',a',a',a',a',a',a',a',a',a',a',a',a',a',a',a',a',a',a',a',a',a',a',a',a',a',a',a',a',a',a',a',a',pt' 0 0,b' true,g',a'] 6],52) [some (ce' [s' s,i' j] 114),some Ω,some (ce' [i' 6,i' 0,s' nil0,AV.slice 1002 0 m 5 (Cp.lo m),AV.slice 1005 0 m2 1 (Cp.lo m2)] 52),some (ce' (rowV encJ R) 52),some (AO.any (Tree.frz P)),some (ce' [i' 0,i' 0,s' nil0,e',e'] 52),some (ce' (rowV encS L) 18)] 1100 ((k163' s i).a (k78'.a k1')) := χ
theorem oHF_eq (W : World) (s : Δ) (i j dep c m m2 : Nat) (R : List Rj) (P : Tree.Mem -> Prop) (L : List Δ) (nv : AV) (F : HP) : B5' (trb c) [(fMo, cTo2 (aMo 125) s i (bv false) j)] (AD' [ht' fOb 14 2]) [] W fOb (C6' fOb 14) (tms 0 52 (aO dep nv)) (oO s i (sL5 1002 m) (sS1 1005 m2) (rJ R) P (rS L)) kMO [4] F = VT.leaf (AX.ret,[pt' 1004 0],52) [some (ce' [s' s,i' j] 114),some Ω,some (ce' [i' 6,i' 0,s' nil0,AV.slice 1002 0 m 5 (Cp.lo m),AV.slice 1005 0 m2 1 (Cp.lo m2)] 52),some (ce' (rowV encJ R) 52),some (AO.any (Tree.frz P)),some (ce' [i' 6,i' 0,s' nil0,AV.slice 1002 0 m 5 (Cp.lo m),AV.slice 1005 0 m2 1 (Cp.lo m2)] 52),some (ce' (rowV encS L) 18)] 1100 ((k163' s i).a (k86'.a ((ee' [i' 6,i' 0,s' nil0,AV.slice 1002 0 m 5 (Cp.lo m),AV.slice 1005 0 m2 1 (Cp.lo m2)]).a (k40'.a k1')))) := χ
def oOZ (s : Δ) (j : Nat) (d : Nat) (vs : List Jv) (ns : List Δ) : LH := [(0, rdO s j), (999, upO), (1004, cJ 6 (sL5 1002 vs.length) (sS1 1005 ns.length)), (1002, ownJ d vs), (1005, rS ns)]
def aOB (dep : Nat) : List (Nat × AV) := [(0, .ptr 0 0), (1, iv (o' dep)), (4, .ptr 1004 0), (5, .ptr 1001 0)]
def lObO (s : Δ) (i dep j d : Nat) (vs : List Jv) (ns : List Δ) : List AV -> AP (AX × List AV) := mkL gLs (fun _ => True) nmLs (fun _ => tms 0 52 (aOB dep)) (fun _ => oLB s i 6) (fun _ => .leaf .ret (tms 0 52 [(4, .ptr 1004 0)]) (oOZ s j d vs ns))
def lObE (s : Δ) (i dep : Nat) : List AV -> AP (AX × List AV) := mkL gLs (fun _ => True) nmLs (fun _ => tms 0 52 (aOB dep)) (fun _ => oLB s i 6) (fun _ => .leaf .ret (tms 0 52 [(4, .ptr 1004 0)]) (oLX s i))
abbrev eE' (q0 : Δ) (q1 : Nat) (z : Cnd) : Cnd := ((fe' true).a (((p' (BW' q0 q1 (RS.mk 0 q1 q0))).a ((vw' [pt' 0 0,AV.v (vi' u8' (o' 125))]).a ((ow' (ce' [s' q0,i' q1] 114)).a (f' (OW Ω Ω))))).a z))
theorem kZ' (W : World) (s : Δ) (i dep c : Nat) (F : HP) : uRun (trb c) [(fEm, cDie (aMo 125) s i (bv false))] B4' [] W fOb (aVal dep) (oU s i) kF4 F = VT.leaf (AV.agg [i' 0,i' 0,s' y9',e',e']) [some (ce' [s' s,i' i] 114),some (AO.own Md.nothing noH),some (ce' [i' 0,i' 0,s' y9',e',e'] 52),some (ce' [i' 6,i' 0,s' y9',e',e'] 52),none,none] 1102 (eE' s i (LY' k1')) := χ
theorem kW' (W : World) (s : Δ) (i j dep c : Nat) (F : HP) : uRun (trb c) [(fEm, cTo2 (aMo 125) s i (.lit true) j)] B4' [] W fOb (aVal dep) (oU s i) kF4 F = VT.leaf (AV.agg [i' 6,i' 0,s' y9',e',e']) [some (ce' [s' s,i' j] 114),some Ω,some (ce' [i' 6,i' 0,s' y9',e',e'] 52),some (ce' [i' 6,i' 0,s' y9',e',e'] 52),none,none] 1102 (eE' s i ((ee' [i' 6,i' 0,s' y9',e',e']).a (h15' ((p' ([i' 6,i' 0,s' y9',e',e'] = [i' 6,i' 0,s' y9',e',e'])).a k1')))) := χ
abbrev k165' : Cnd := (p' (OW (ce' [i' 6,i' 0,s' y9',e',e'] 52) (ce' [i' 6,i' 0,s' nil0,e',e'] 52)))
abbrev k166' (q0 q1 q2 : Nat) : Cnd := (p' (VW (pt' 0 0::i' q0::u'::u'::pt' q1 0::pt' q2 0::u'::AV.agg [i' 6,i' 0,s' y9',e',e']::pt' 0 0::g'::ru16 (ru16 (ru8 (u'::u'::[])))) (pt' 0 0::i' q0::a'::a'::pt' q1 0::pt' q2 0::ra16 (ra16 (ra8 (ra4 (a'::a'::[])))))))
theorem kY' (W : World) (s : Δ) (i j dep c : Nat) (F : HP) : uRun (trb c) [(fEm, cTo2 (aMo 125) s i (.lit false) j)] B4' [(fOb, 4, AA' fOb 4, lObE s j dep)] W fOb (aVal dep) (oU s i) kF4 F = VT.leaf (AV.agg [i' 0,i' 0,s' nil0,e',e']) [some (ce' [s' s,i' j] 114),some (AO.own Md.nothing noH),none,none,some (ce' [i' 0,i' 0,s' nil0,e',e'] 52),none] 1103 (eE' s i ((p' ((fOb,4,AA' fOb 4,lObE s j dep).snd.snd.fst = (fOb,4,AA' fOb 4,lObE s j dep).snd.snd.fst)).a (k13'.a ((k166' dep 1100 1101).a (eF' s j (k165'.a (k159'.a (k158'.a (k157'.a k1'))))))))) := χ
theorem kX' (W : World) (s : Δ) (i j j2 dep c d : Nat) (vs : List Jv) (ns : List Δ) (F : HP) : uRun (trb c) [(fEm, cTo2 (aMo 125) s i (.lit false) j)] B4' [(fOb, 4, AA' fOb 4, lObO s j dep j2 d vs ns)] W fOb (aVal dep) (oU s i) [0, 999, 1103, 1104] F = VT.leaf (AV.agg [i' 6,i' 0,s' nil0,AV.slice 1103 0 vs.length 5 (Cp.lo vs.length),AV.slice 1104 0 ns.length 1 (Cp.lo ns.length)]) [some (ce' [s' s,i' j2] 114),some Ω,some (AO.own mdJ fun b x => Tree.frz fun C => LOf (JAt C d) C (some (Addr.mk b 0 none)) vs),some (ce' (AV.rens (sgN (nmLs (1101,1100)) [1004,1002,1005] 1102) (rowV encS ns)) 18)] 1105 (eE' s i ((p' ((fOb,4,AA' fOb 4,lObO s j dep j2 d vs ns).snd.snd.fst = (fOb,4,AA' fOb 4,lObO s j dep j2 d vs ns).snd.snd.fst)).a (k13'.a ((k166' dep 1100 1101).a (eF' s j (k165'.a (k159'.a (k158'.a ((p' ([i' 6,i' 0,s' nil0,AV.slice 1103 0 vs.length 5 (Cp.lo vs.length),AV.slice 1104 0 ns.length 1 (Cp.lo ns.length)] = [i' 6,i' 0,s' nil0,AV.slice 1103 0 vs.length 5 (Cp.lo vs.length),AV.slice 1104 0 ns.length 1 (Cp.lo ns.length)])).a k1'))))))))) := χ
end
theorem TriU.die {R : PanT} {W : World} {f : FuncId} {A : List AV} {H1 H2 : LH} {v1 v2 : AV} (h : TriU Θ R W f A H v1 H1) (hl : AE' 1100 H1 = true) (h9 : getO H1 999 = some (K9' .nothing)) : TriU Θ R W f A H v2 H2 := by
 intro W0 F N w vargs hF hNB r ha; refine (h W0 F N w vargs hF hNB r ha).mono ?_; rintro e w' (⟨y, rfl, hst⟩ | hp)
 ·exact (NC' (m := .nothing) hl h9 hst).elim
 ·exact .inr hp
section
variable {W : World} {F : HP} {c : Nat} {s : Δ} {i j : Nat} {f : FuncId} {z : AV}
theorem IS' (hF : AH' W F) (hz : AV.cls (kR (oU s i) (oX s i)) [z]) (h : ∀ v H', TriU Θ (trb c) W f [.ptr 0 0] (oU s i) v H') : C8' Θ (trb c) F f (V1' s i z) :=
 CL' hF TD' fun p hp => ⟨_, rfl, by obtain ⟨h1, h2⟩ := hp; rw [h1, h2]; exact h _ _, by obtain ⟨h1, h2⟩ := hp; rw [h1, h2]; exact clX _ _ _ _ _ ⟨rfl, Ye⟩ hz⟩
theorem AR' (hF : AH' W F) (hz : AV.cls (kR (oU s i) (oU s j)) [z]) (h : TriU Θ (trb c) W f [.ptr 0 0] (oU s i) z (oU s j)) : C8' Θ (trb c) F f (cTo1 s i z j) :=
 CL' hF TD' fun p hp => ⟨_, rfl, by obtain ⟨h1, h2⟩ := hp; rw [h1, h2]; exact h, by obtain ⟨h1, h2⟩ := hp; rw [h1, h2]; exact clU _ _ _ _ _ ⟨rfl, Ye⟩ hz⟩
end
theorem B9' (K : Nat -> Bool) (v : Value) : AV.cls K [.v v] := ⟨Ye, Ye⟩
def lx (R : List Rj) : AV := match R with | [] => nilS | a :: R => sL5 1002 (a :: R).length
def ox (R : List Rj) : AO := match R with | [] => dum | a :: R => rJ (a :: R)
def ln (L : List Δ) : AV := match L with | [] => nilS | a :: L => sS1 1005 (a :: L).length
def on (L : List Δ) : AO := match L with | [] => dum | a :: L => rS (a :: L)
theorem gD' (R : List Rj) (σ : Nat -> Nat) (h : σ 1002 = 1002) : (lx R).ren σ = lx R := by
 cases R with
 | nil => rfl
 | cons a R => show AV.slice (σ 1002) _ _ _ _ = _; rw [h]; rfl
theorem gH' (L : List Δ) (σ : Nat -> Nat) (h : σ 1005 = 1005) : (ln L).ren σ = ln L := by
 cases L with
 | nil => rfl
 | cons a R => show AV.slice (σ 1005) _ _ _ _ = _; rw [h]; rfl
theorem g5' (R : List Rj) (σ : Nat -> Nat) : (ox R).ren σ = ox R := by
 cases R with
 | nil => rfl
 | cons a R => exact E0' σ _ _
theorem g6' (L : List Δ) (σ : Nat -> Nat) : (on L).ren σ = on L := by
 cases L with
 | nil => rfl
 | cons a R => exact E0' σ _ _
def oQo (s : Δ) (i : Nat) (R : List Rj) (P : Mem -> Prop) (L : List Δ) : LH := oO s i (lx R) (ln L) (ox R) P (on L)
def lI : List (Nat × Nat) := [(1001, 1001), (1002, 1002), (1003, 1003), (1004, 1004), (1005, 1005)]
theorem ML' {s : Δ} {j dep : Nat} {R : List Rj} {P : Mem -> Prop} {L : List Δ} {nv nv' : AV} (hr : ∀ σ, nv.ren σ = nv) (hn : Wk nv' nv) :
  FitT kO iO [.ptr 0 0, iv (o' dep), .ptr 1004 0, .ptr 1001 0, nv'] [some (rdO s j), some upO, some (cJ 6 (lx R) (ln L)), some (ox R), some (.any (frz P)), some oZJ, some (on L), none, none, none, none] (aO dep nv) (oQo s j R P L) lI :=
 ⟨χ, by kernel_rfl, ⟨Ya, Ya, Ya, Ya, (by show Wk nv' (nv.ren _); rw [hr]; exact hn), Ye⟩, ⟨⟨_, rfl, Yc⟩, ⟨_, rfl, Yc⟩, ⟨_, rfl, OW.of_eq (by
  show _ = ce' [_, _, _, (lx R).ren (sg lI), (ln L).ren (sg lI)] _; rw [gD' _ _ rfl, gH' _ _ rfl]
  rfl)⟩, ⟨_, rfl, OW.of_eq (g5' _ _).symm⟩, ⟨_, rfl, Yc⟩, ⟨_, rfl, Yc⟩, ⟨_, rfl, OW.of_eq (g6' _ _).symm⟩, Ye⟩⟩
def OkN (nv : AV) : Prop := ∀ σ, nv.ren σ = nv
section
variable {W : World} {s : Δ} {k dep c i : Nat} {R : List Rj} {P : Mem -> Prop} {L : List Δ} {nv : AV} {q : AX -> SP}
theorem ob_AE (h : ∀ v H', TriU Θ (trb c) W fNx [.ptr 0 0] (oU s i) v H') : PTri (trb c) W (BL' fOb 4) (stP (oQo s i R P L) (tms 0 52 (aO dep nv))) q := by
 refine AY' 52 kO iO rfl (fun F hF => A1' (IS' hF (B9' _ _) h) (A1' (AS' hF c) noCU)) (fun _ _ => noLU) fun F => Yj (oAE_eq W s i dep c (lx R) (ln L) (ox R) P (on L) nv F) ⟨⟨?_, rfl, AV' (m := .nothing) rfl⟩⟩
 exact Cb18'
theorem ob_AN {j : Nat} (h : TriU Θ (trb c) W fNx [.ptr 0 0] (oU s i) (byv x) (oU s j)) (hx : x ≠ 34) (hc : 231 = c) : PTri (trb c) W (BL' fOb 4) (stP (oQo s i R P L) (tms 0 52 (aO dep nv))) q := by
 have hb : (x != 34) = true := bne_iff_ne.2 hx
 refine AY' 52 kO iO rfl (fun F hF => A1' (AR' hF (B9' _ _) h) (A1' (AS' hF c) noCU)) (fun _ _ => noLU) fun F => Yj (oAN_eq W s i dep c (lx R) (ln L) (ox R) P (on L) nv x j F) ⟨⟨?_, rfl, AV' (m := .nothing) rfl⟩⟩
 rw [GC' x 34 34 rfl, hb]; exact Cb18'
theorem ob_AO {j : Nat} (h : TriU Θ (trb c) W fNx [.ptr 0 0] (oU s i) (byv x) (oU s j)) (hx : x = 34) (hr : OkN nv) (hq : ∀ W0 F N ys w, St W0 F N (oQo s j R P L) (tms 0 52 (aO dep nv)) ys w -> q .normal W0 F N ys w) : PTri (trb c) W (BL' fOb 4) (stP (oQo s i R P L) (tms 0 52 (aO dep nv))) q := by
 have hb : (x != 34) = false := by rw [hx]; rfl
 refine AY' 52 kO iO rfl (fun F hF => A1' (AR' hF (B9' _ _) h) (A1' (AS' hF c) noCU)) (fun _ _ => noLU) fun F => Yj (oAO_eq W s i dep c (lx R) (ln L) (ox R) P (on L) nv x j F) ⟨⟨?_, rfl, _, _, _, rfl, ML' hr (Ya), hq⟩⟩
 rw [GC' x 34 34 rfl, hb]; exact Cb18'
theorem ob_BE (h : ∀ v H', TriU Θ (trb c) W fTxt [.ptr 0 0] (oU s i) v H') : PTri (trb c) W (BL' fOb 6) (stP (oQo s i R P L) (tms 0 52 (aO dep nv))) q := by
 refine AY' 52 kO iO rfl (fun F hF => A1' (IS' hF (B9' _ _) h) noCU) (fun _ _ => noLU) fun F => Yj (oBE_eq W s i dep c (lx R) (ln L) (ox R) P (on L) nv F) ⟨⟨?_, rfl, AV' (m := .nothing) rfl⟩⟩
 exact Cb18'
theorem ob_BO {j : Nat} (h : TriU Θ (trb c) W fTxt [.ptr 0 0] (oU s i) (sv t) (oU s j)) (hq : ∀ W0 F N ys w, St W0 F N (oQo s j R P L) (tms 0 52 (aO dep (sv t))) ys w -> q .normal W0 F N ys w) : PTri (trb c) W (BL' fOb 6) (stP (oQo s i R P L) (tms 0 52 (aO dep nv))) q := by
 refine AY' 52 kO iO rfl (fun F hF => A1' (AR' hF (B9' _ _) h) noCU) (fun _ _ => noLU) fun F => Yj (oBO_eq W s i dep c (lx R) (ln L) (ox R) P (on L) nv t j F) ⟨⟨?_, rfl, _, _, _, rfl, ML' (fun _ => rfl) (Ya), hq⟩⟩
 exact Cb18'
theorem ob_DE (h : ∀ v H', TriU Θ (trb c) W fNx [.ptr 0 0] (oU s i) v H') : PTri (trb c) W (BL' fOb 9) (stP (oQo s i R P L) (tms 0 52 (aO dep nv))) q := by
 refine AY' 52 kO iO rfl (fun F hF => A1' (IS' hF (B9' _ _) h) (A1' (AS' hF c) noCU)) (fun _ _ => noLU) fun F => Yj (oDE_eq W s i dep c (lx R) (ln L) (ox R) P (on L) nv F) ⟨⟨?_, rfl, AV' (m := .nothing) rfl⟩⟩
 exact Cb18'
theorem ob_DN {j : Nat} (h : TriU Θ (trb c) W fNx [.ptr 0 0] (oU s i) (byv x) (oU s j)) (hx : x ≠ 58) (hc : 231 = c) : PTri (trb c) W (BL' fOb 9) (stP (oQo s i R P L) (tms 0 52 (aO dep nv))) q := by
 have hb : (x != 58) = true := bne_iff_ne.2 hx
 refine AY' 52 kO iO rfl (fun F hF => A1' (AR' hF (B9' _ _) h) (A1' (AS' hF c) noCU)) (fun _ _ => noLU) fun F => Yj (oDN_eq W s i dep c (lx R) (ln L) (ox R) P (on L) nv x j F) ⟨⟨?_, rfl, AV' (m := .nothing) rfl⟩⟩
 rw [GC' x 58 58 rfl, hb]; exact Cb18'
theorem ob_DO {j : Nat} (h : TriU Θ (trb c) W fNx [.ptr 0 0] (oU s i) (byv x) (oU s j)) (hx : x = 58) (hr : OkN nv) (hq : ∀ W0 F N ys w, St W0 F N (oQo s j R P L) (tms 0 52 (aO dep nv)) ys w -> q .normal W0 F N ys w) : PTri (trb c) W (BL' fOb 9) (stP (oQo s i R P L) (tms 0 52 (aO dep nv))) q := by
 have hb : (x != 58) = false := by rw [hx]; rfl
 refine AY' 52 kO iO rfl (fun F hF => A1' (AR' hF (B9' _ _) h) (A1' (AS' hF c) noCU)) (fun _ _ => noLU) fun F => Yj (oDO_eq W s i dep c (lx R) (ln L) (ox R) P (on L) nv x j F) ⟨⟨?_, rfl, _, _, _, rfl, ML' hr (Ya), hq⟩⟩
 rw [GC' x 58 58 rfl, hb]; exact Cb18'
theorem ob_EO {j : Nat} (hj : j = i + 1) (hi : i <= 1000000) (hr : OkN nv) (hq : ∀ W0 F N ys w, St W0 F N (oQo s j R P L) (tms 0 52 (aO dep nv)) ys w -> q .normal W0 F N ys w) : PTri (trb c) W (BL' fOb 11) (stP (oQo s i R P L) (tms 0 52 (aO dep nv))) q := by
 refine AY' 52 kO iO rfl (fun F hF => noCU) (fun _ _ => noLU) fun F => Yj (oEO_eq W s i dep c (lx R) (ln L) (ox R) P (on L) nv j F) ⟨⟨?_, rfl, _, _, _, rfl, ML' hr (Ya), hq⟩⟩
 simp only [Cnd.holds, Nat.blt_eq, true_and, and_true]; and_intros; all_goals first | exact wkI (by rw [hj]; simp only [Z0]; omega) ω | exact Kb2'
end
theorem gCt_ro : ∀ args, RO (gCt args) := fun args => by
 unfold gCt
 repeat' split
 all_goals exact Kb21'
theorem a0' {F : HP} {c : Nat} {L : List Δ} {n : Δ} {b : Bool} : C8' Θ (trb c) F fCt (cCtO L m n b) :=
 CL' (W := default) GM' gCt_ro fun a hp => by
  obtain ⟨rfl, h2, rfl⟩ := hp; exact ⟨_, rfl, TriU.wk (v := bv (hasM L n)) (Ct_tri L n h2).up (A3' _), rfl, rfl, ⟨rfl, Ye, Ye⟩, A2' (G9' _ _) A4', ⟨Ye, Ye⟩, A2' (G9' _ _) A4'⟩
theorem nA' {F : HP} {c : Nat} {n : Δ} : C8' Θ (trb c) F fCt (cCtZ n) :=
 CL' (W := default) GM' (fun _ => RO.ret _) fun a hp => ⟨_, rfl, TriU.wk (v := bv false) (nZ' n).up (A3' _), rfl, rfl, ⟨Ye, Ye, Ye⟩, A4', ⟨Ye, Ye⟩, A4'⟩
def lN : List (Nat × Nat) := [(1001, 1001), (1002, 1002), (1003, 1003), (1004, 1004), (1005, 1101)]
theorem WY' {s : Δ} {j dep : Nat} {R : List Rj} {P : Mem -> Prop} {M : List Δ} {n : Δ} {o5 ob : Option AO} {cs : List AV} (h : cs = rowV encS M) :
  FitT kO iO [.ptr 0 0, iv (o' dep), .ptr 1004 0, .ptr 1001 0, sv n] [some (rdO s j), some upO, some (cJ 6 (lx R) (.slice 1101 0 m 1 (.lo m))), some (ox R), some (.any (frz P)), some oZJ, o5, ob, some (.cells cs tStr), none, none] (aO dep (sv n)) (oO s j (lx R) (sS1 1005 m) (ox R) P (rS M)) lN :=
 ⟨χ, by kernel_rfl, ⟨Ya, Ya, Ya, Ya, Ya, Ye⟩, ⟨⟨_, rfl, Yc⟩, ⟨_, rfl, Yc⟩, ⟨_, rfl, OW.of_eq (by
  show _ = ce' [_, _, _, (lx R).ren (sg lN), _] _; rw [gD' _ _ rfl]
  rfl)⟩, ⟨_, rfl, OW.of_eq (g5' _ _).symm⟩, ⟨_, rfl, Yc⟩, ⟨_, rfl, Yc⟩, ⟨_, rfl, OV' h rfl⟩, Ye⟩⟩
theorem WJ' {L : List Δ} (hR : L.length = m) (hm : m <= 1000000) : (0 + m * 1).ble (rowV encS L).length = true /\ ((m + 1) * 16).ble 140737488355328 = true /\ (m + 1).ble 9223372036854775807 = true /\ (List.take (m * 1) (List.drop 0 (rowV encS L))).length.beq (m * 1) = true := by
 refine ⟨?_, ?_, ?_, ?_⟩
 ·rw [CP' EW', Nat.ble_eq]; omega
 ·rw [Nat.ble_eq]; omega
 ·rw [Nat.ble_eq]; omega
 ·rw [<- hR, CJ' EW' _ _ rfl, CP' EW']; exact Nat.beq_refl _
theorem oQ_add {s : Δ} {i : Nat} {R : List Rj} {P : Mem -> Prop} {L : List Δ} {n : Δ} : oQo s i R P (L ++ [n]) = oO s i (lx R) (sS1 1005 (L.length + 1)) (ox R) P (rS (L ++ [n])) := by
 cases L with
 | nil => rfl
 | cons a L =>
  show oO s i (lx R) (sS1 1005 (a :: (L ++ [n])).length) (ox R) P _ = _
  rw [show (a :: (L ++ [n])).length = (a :: L).length + 1 from by simp]
  rfl
section
variable {W : World} {s : Δ} {k dep c i : Nat} {R : List Rj} {P : Mem -> Prop} {L : List Δ} {n : Δ} {q : AX -> SP}
theorem ob_CD (hn : hasM L n = true) (hm : L.length <= 1000000) (hc : 5 = c) : PTri (trb c) W (BL' fOb 7) (stP (oQo s i R P L) (tms 0 52 (aO dep (sv n)))) q := by
 cases L with
 | nil => cases hn
 | cons b L =>
  refine AY' 52 kO iO rfl (fun F hF => A1' a0' (A1' (AS' hF c) noCU)) (fun _ _ => noLU) fun F => Yj (oCD_eq W s i dep c (lx R) (ox R) P n (b :: L).length (b :: L) F) ⟨⟨?_, rfl, AV' (m := .nothing) rfl⟩⟩
  exact Cb19'
theorem ob_CO (hn : hasM L n = false) (hm : L.length <= 1000000) (hq : ∀ W0 F N ys w, St W0 F N (oQo s i R P L) (tms 0 52 (aO dep (sv n))) ys w -> q .normal W0 F N ys w) : PTri (trb c) W (BL' fOb 7) (stP (oQo s i R P L) (tms 0 52 (aO dep (sv n)))) q := by
 cases L with
 | nil =>
  refine AY' 52 kO iO rfl (fun F hF => A1' nA' (A1' (AS' hF c) noCU)) (fun _ _ => noLU) fun F => Yj (oCZ_eq W s i dep c (lx R) (ox R) P n F) ⟨⟨?_, rfl, _, _, _, rfl, ML' (L := []) (fun _ => rfl) (Ya), hq⟩⟩
  exact Cb18'
 | cons b L =>
  refine AY' 52 kO iO rfl (fun F hF => A1' a0' (A1' (AS' hF c) noCU)) (fun _ _ => noLU) fun F => cast (congrArg (VAll _) (oCO_eq W s i dep c (lx R) (ox R) P n (b :: L).length (b :: L) F).symm) ?_
  rw [AO']; refine ⟨⟨?_, rfl, _, _, _, rfl, ML' (L := b :: L) (fun _ => rfl) (Ya), hq⟩⟩; exact Cb19'
theorem ob_FO (hm : L.length <= 1000000) (hq : ∀ W0 F N ys w, St W0 F N (oQo s i R P (L ++ [n])) (tms 0 52 (aO dep (sv n))) ys w -> q .normal W0 F N ys w) : PTri (trb c) W (BL' fOb 12) (stP (oQo s i R P L) (tms 0 52 (aO dep (sv n)))) q := by
 rw [oQ_add] at hq
 cases L with
 | nil =>
  refine AY' 52 kO iO rfl (fun F hF => noCU) (fun _ _ => noLU) fun F => Yj (oFZ_eq W s i dep c (lx R) (ox R) P n F) ⟨⟨?_, rfl, _, _, _, rfl, WY' (M := [n]) rfl, hq⟩⟩
  exact Cb18'
 | cons b L =>
  obtain ⟨q1, q2, q3, q4⟩ := WJ' (L := b :: L) rfl hm
  refine AY' 52 kO iO rfl (fun F hF => noCU) (fun _ _ => noLU) fun F => Yj (oFO_eq W s i dep c (lx R) (ox R) P n (b :: L).length (b :: L) F) ⟨⟨?_, rfl, _, _, _, rfl, WY' (M := b :: L ++ [n]) (by rw [CJ' EW' _ _ rfl, HQ', ST']; rfl), hq⟩⟩
  simp only [Cnd.holds, q1, q2, q3, q4, Nat.blt_eq, true_and, and_true]; and_intros; all_goals exact Kb2'
end
end Go.Proofs.YtdphpillcaajpaaDoor.Js
