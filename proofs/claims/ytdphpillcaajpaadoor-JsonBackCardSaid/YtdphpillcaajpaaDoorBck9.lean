/- Parts of the proof, merged. -/
import Derived.Test.YtdphpillcaajpaaDoorBck3
import Derived.Test.YtdphpillcaajpaaDoorBck5
import Derived.Test.YtdphpillcaajpaaDoorEngXBck
import Derived.Test.YtdphpillcaajpaaDoorBck8
noncomputable section
set_option linter.unusedVariables false
set_option linter.unusedSimpArgs false
set_option maxRecDepth 100000
set_option linter.unusedSectionVars false
namespace Go.Proofs.YtdphpillcaajpaaDoor.Js
open Go Go.RowKit Eng Kit
open Int renaming ofNat -> o'
open Go.Value renaming string -> vs'
open Go.Value renaming int -> vi'
open Go.Value renaming bool -> vb'
open AO renaming cells -> ce'
open AV renaming v -> v'
open AV renaming ptr -> pt'
open Go.IntKind renaming i64 -> I'
open Cnd renaming holds -> ch'
open Nat renaming blt_eq -> bl'
open List renaming length_append -> la'
open List renaming length_cons -> lc'
open List renaming length_nil -> ln'
open Go.Value renaming slice -> sl'
noncomputable section
abbrev fCk : Nat := 21
def ivE (n : Int) : AV := iv n
def metO (m : KMap Δ Int) (c : Nat) : AO := .map (kE vs' ivE m) c
def cCk (x : Rj) (dep : Nat) (e : Int) : List AV -> Option (AP AV) := mkC (fun _ => .ret ()) (fun _ => True) (fun _ k => k) (fun _ => [aggJ x, iv (o' dep)]) (fun _ => []) (fun _ => .leaf .ret [iv e] [])
def oCk (r : Rj) (m : KMap Δ Int) (c : Nat) : LH := [(1000, .cells (vmap r.cells) tJs), (1001, metO m c)]
def aCk (r : Rj) (dep j : Nat) : List (Nat × AV) := [(1, iv (o' dep)), (2, .ptr 1000 0), (5, iv r.k), (9, .map 1001), (113, slV r.la r.ll r.lc), (114, iv (o' r.ll)), (115, iv (o' j))]
def iCk : List Nat := [1, 2, 4, 5, 9, 113, 114, 115]
def kR (K : Nat) (r : Rj) : Rj := { r with k := o' K }
def hCkR (obj : Bool) (j dep : Nat) (x : Rj) (nm : Δ) (old : Nat) (m : KMap Δ Int) (c : Nat) (dup bad : Bool) : AX' := AD' [ht' fCk 18 0, (fCk, 19, 2, hv (aggJ x)), (fCk, 20, 1, hv (.lit obj)), (fCk, 21, 5, hv (sv nm)), (fCk, 21, 6, hv (iv (o' old))), (fCk, 21, 7, hv (iv (o' (old + 1)))), (fCk, 21, 8, ho 1001 (metO m c)),
 (fCk, 22, 5, hv (sv nm)), (fCk, 22, 6, hv (iv (o' (old + 1)))), (fCk, 22, 7, hv (.lit dup)), (fCk, 24, 2, hv (iv (o' (dep + 1)))), (fCk, 25, 1, hv (.lit bad)), (fCk, 27, 0, hv (iv (o' (j + 1))))]
theorem Y6' (W : World) (r : Rj) (dep : Nat) (m : KMap Δ Int) (c : Nat) (F : HP) : BU' [] (AD' [hf' fCk 18 0]) [] W fCk (AA' fCk 18) (tms 0 146 (aCk r dep r.ll)) (oCk r m c) [1000, 1001] iCk F = VT.leaf (AX.exit 1,[i' dep,pt' 1000 0,a',z' r.k,AV.map 1001,v' (sl' r.la r.ll r.lc),i' r.ll,i' r.ll],146) [some (ce' [z' r.k,z' r.n,s' r.t,v' (sl' r.la r.ll r.lc),v' (sl' r.na r.nl r.nc)] 52),some (AO.map (kE vs' ivE m) c)] 1100 ((k226' r).a k1') := χ
abbrev k236' (q0 : Rj) (q1 : Nat) : Cnd := ((p' True).a (f' (VW [AV.agg [z' q0.k,z' q0.n,s' q0.t,v' (sl' q0.la q0.ll q0.lc),v' (sl' q0.na q0.nl q0.nc)],i' (q1 + 1)] [AV.agg [z' q0.k,z' q0.n,s' q0.t,v' (sl' q0.la q0.ll q0.lc),v' (sl' q0.na q0.nl q0.nc)],i' (q1 + 1)])))
theorem dV' (W : World) (r x : Rj) (a : Addr) (dep j : Nat) (F : HP) : BU' [(fCk, cCk x (dep + 1) 0)] (hCkR false j dep x nil0 0 [] 0 false false) [] W fCk (AA' fCk 18) (tms 0 146 (aCk (kR 5 { r with la := some a }) dep j)) (oCk (kR 5 { r with la := some a }) [] 0) [1000, 1001] iCk F = VT.leaf (AX.normal,[i' dep,pt' 1000 0,a',i' 5,AV.map 1001,v' (sl' (some a) r.ll r.lc),i' r.ll,i' (j + 1)],146) [some (ce' [i' 5,z' r.n,s' r.t,v' (sl' (some a) r.ll r.lc),v' (sl' r.na r.nl r.nc)] 52),some (AO.map [] 0)] 1101 (UR' j r W a x (k78'.a ((k219' x).a ((k59' dep).a ((k236' x dep).a (k78'.a ((k59' j).a k1'))))))) := χ
theorem dU' (W : World) (r x : Rj) (a b : Addr) (nm : Δ) (dep j : Nat) (m m' : KMap Δ Int) (c : Nat) (F : HP) : BU' [(fCk, cCk x (dep + 1) 0)] (hCkR true j dep x nm 0 m' (c + 1) false false) [] W fCk (AA' fCk 18) (tms 0 146 (aCk (kR 6 { r with la := some a, na := some b }) dep j)) (oCk (kR 6 { r with la := some a, na := some b }) m c) [1000, 1001] iCk F = VT.leaf (AX.normal,[i' dep,pt' 1000 0,a',i' 6,AV.map 1001,v' (sl' (some a) r.ll r.lc),i' r.ll,i' (j + 1)],146) [some (ce' [i' 6,z' r.n,s' r.t,v' (sl' (some a) r.ll r.lc),v' (sl' (some b) r.nl r.nc)] 52),some (AO.map (kE vs' ivE m') (c + 1))] 1101 (UR' j r W a x (k86'.a (UU' j r W b nm (((p' (findKey Tryd.prog (envW [(21,cCk x (dep + 1) (o' 0))] (hCkR true j dep x nm 0 m' (c + 1) false false) [] W F) 9 (s' nm) (kE vs' ivE m) 0 = AP.ret (BP' (s' nm) (kE vs' ivE m) 0))).a ((p' (GR' (BP' (s' nm) (kE vs' ivE m) 0) (vi' I' (o' 0)) = v' (vi' I' (GR' (BP' (s' nm) (kE vs' ivE m) 0) (vi' I' (o' 0))).intOf))).a (f' (Wk (v' (vi' I' (GR' (BP' (s' nm) (kE vs' ivE m) 0) (vi' I' (o' 0))).intOf)) (i' 0))))).a ((f' (Wk (i' 1) (i' 1))).a (((p' (findKey Tryd.prog (envW [(21,cCk x (dep + 1) (o' 0))] (hCkR true j dep x nm 0 m' (c + 1) false false) [] W F) 9 (s' nm) (kE vs' ivE m) 0 = AP.ret (BP' (s' nm) (kE vs' ivE m) 0))).a ((p' (KQ' (s' nm) (kE vs' ivE m))).a (f' (OW (AO.map (setE (s' nm) (i' 1) (kE vs' ivE m) c) (M3' (s' nm) (kE vs' ivE m) c)) (AO.map (kE vs' ivE m') (c + 1)))))).a (UU' j r W b nm (((p' (findKey Tryd.prog (envW [(21,cCk x (dep + 1) (o' 0))] (hCkR true j dep x nm 0 m' (c + 1) false false) [] W F) 9 (s' nm) (kE vs' ivE m') 0 = AP.ret (BP' (s' nm) (kE vs' ivE m') 0))).a ((p' (GR' (BP' (s' nm) (kE vs' ivE m') 0) (vi' I' (o' 0)) = v' (vi' I' (GR' (BP' (s' nm) (kE vs' ivE m') 0) (vi' I' (o' 0))).intOf))).a (f' (Wk (v' (vi' I' (GR' (BP' (s' nm) (kE vs' ivE m') 0) (vi' I' (o' 0))).intOf)) (i' 1))))).a (k78'.a ((k219' x).a ((k59' dep).a ((k236' x dep).a (k78'.a ((k59' j).a k1')))))))))))))) := χ
def gCk (tmps : List AV) : AP (Nat × Nat) := match getL tmps 2 with
 | .ptr a _ => match getL tmps 9 with
  | .map b => .ret (a, b)
  | _ => .fail "check"
 | _ => .fail "check"
def lCkE (p : Prop) (r : Rj) (dep : Nat) : List AV -> AP (AX × List AV) := mkL gCk (fun _ => p) (fun q => nmSa q.1 q.2) (fun _ => tms 0 146 (aCk r dep 0)) (fun _ => oCk r [] 0) (fun _ => .leaf (.exit 1) (tms 0 146 []) [])
end
theorem hC' (a b : Δ) : (a == b) = decide (a = b) := by
 cases a with | mk a => cases b with | mk b =>
 show (a == b) = _
 by_cases h : a = b
 ·subst h; simp
 ·have : ByteArray.mk a ≠ ByteArray.mk b := fun e => h (ByteArray.mk.inj e)
  simp [h]
theorem JE' : KOK vs' where
 inj a b := by simp [valQ]
 same k := by simp [Instr.sameBits, hC']
theorem YI' : KTy Θ 9 vs' := by
 intro E a b
 have hu : Θ.underlying 9 = some .string := χ
 show (match Instr.sameNow ((Θ.underlying 9).getD .invalid) (.string a) (.string b) with
  | some r => pure r
  | none => AP.opt "key " (C3' Θ (Op.equal 9 (.string a) (.string b)))) = AP.ret (decide (a = b))
 rw [hu]; show (AP.ret (a == b) : AP Bool) = _; rw [hC']
theorem RL' {α : Type} {l : List α} {j : Nat} {x : α} (h : l[j]? = some x) : l.drop j = x :: l.drop (j + 1) := by
 obtain ⟨hj, he⟩ := List.getElem?_eq_some_iff.1 h; rw [List.drop_eq_getElem_cons hj, he]
theorem a1' {W : World} {x : Rj} {dep : Nat} {e : Int} (h : Tri Θ W fCk [aggJ x, iv (o' dep)] [] (iv e) []) (F : HP) (hF : AH' W F) : C1OK Θ F fCk (cCk x dep e) :=
 BF' hF (fun _ => iv e) (fun _ => RO.ret _) (fun _ => rfl) (fun _ _ => h) fun _ => ⟨rfl, rfl, ⟨⟨Ye, Ye, Ye, Ye, Ye, Ye⟩, Ye, Ye⟩, A4', ⟨Ye, Ye⟩, A4'⟩
variable {W : World} {d : Nat} {l : List Jv} {r : Rj} {dep : Nat} {f : Jv -> Int} {names : List Δ}
variable {W : World} {d : Nat} {l : List Jv} {r : Rj} {dep : Nat} {f : Jv -> Int} {names : List Δ}
theorem WO' {κ α : Type} (σ : Nat -> Nat) (kv : κ -> Value) (ev : α -> AV) (hev : ∀ x, (ev x).ren σ = ev x) : ∀ m : KMap κ α, renE σ (kE kv ev m) = kE kv ev m
 | [] => rfl
 | e :: m => by
  show (_, _, _) :: renE σ (kE kv ev m) = _; rw [WO' σ kv ev hev m, hev]; rfl
theorem gV' {κ α : Type} (K : Nat -> Bool) (kv : κ -> Value) (ev : α -> AV) (hev : ∀ x, AV.cl K (ev x)) : ∀ m : KMap κ α, clE K (kE kv ev m)
 | [] => trivial
 | e :: m => ⟨Ye, hev _, gV' K kv ev hev m⟩
theorem PD' (nm : Δ) (m : KMap Δ Int) (o : Option Int) (h : E8' nm m = o) : GR' (BP' (v' (vs' nm)) (kE vs' ivE m) 0) (vi' I' (o' 0)) = iv (o.getD 0) := by
 rw [eQ' JE', h]
 cases o <;> rfl
theorem m3' (nm : Δ) (m m' : KMap Δ Int) (c : Nat) (x : Int) (h : kset m c nm x = m') (c' : Nat) (h2 : RA' m c nm = c') : OW (AO.map (setE (v' (vs' nm)) (v' (vi' I' x)) (kE vs' ivE m) c) (M3' (v' (vs' nm)) (kE vs' ivE m) c)) (AO.map (kE vs' ivE m') c') := by
 have h3 := iM' (ev := ivE) JE' nm x m c; have h4 := fE' (ev := ivE) JE' nm m c; rw [h] at h3; rw [h2] at h4; rw [show setE (v' (vs' nm)) (v' (vi' I' x)) (kE vs' ivE m) c = _ from h3, h4]; exact Yc
theorem gCk_ro (args : List AV) : RO (gCk args) := by
 unfold gCk; split
 ·split
  ·exact RO.ret _
  ·exact RO.fail _
 ·exact RO.fail _
theorem oCk_cl (K : Nat -> Bool) (r : Rj) (m : KMap Δ Int) (c : Nat) : ∀ x ∈ oCk r m c, x.2.cl K := A2' ⟨Ye, Ye, Ye, Ye, Ye, Ye⟩ (A2' (gV' K vs' ivE (fun _ => trivial) m) A4')
theorem aCk_cl (r : Rj) (dep : Nat) (K : Nat -> Bool) (h0 : K 1000 = true) (h1 : K 1001 = true) : ∀ x ∈ aCk r dep 0, AV.cl K x.2 :=
 A2' Ye (A2' h0 (A2' Ye (A2' h1 (A2' Ye (A2' Ye (A2' Ye A4'))))))
variable {W : World} {r : Rj} {dep : Nat} {e : Int} {p : Prop}
theorem JD' (h : p -> LTri Θ W (AA' fCk 18) (tms 0 146 (aCk r dep 0)) (oCk r [] 0) (.exit 1) (tms 0 146 []) []) (F : HP) (hF : AH' W F) : L1OK Θ F (AA' fCk 18) (lCkE p r dep) :=
 GN' hF gCk_ro (fun _ hp => h hp) fun _ => by
  simp only [RT.pick]; exact C4' rfl rfl (aCk_cl r dep _ rfl rfl) (oCk_cl _ _ _ _) A4' A4'
def errE (K : Nat) (r : Rj) (dep : Nat) : Int := errK K r.n r.t r.ll r.nl dep
def orE (a e : Int) : Int := if a ≠ 0 then a else e
theorem some_e {r : Rj} (K : Nat) (h : r.k = o' K) : kR K r = r := by
 obtain ⟨rk, rn, rt, rla, rll, rlc, rta, rtl, rtc⟩ := r; simp only at h; subst h; rfl
theorem n0' {K : Nat} {r : Rj} {dep : Nat} (hK : 1 <= K) (hK4 : K <= 4) (h : errE K r dep = 0) : r.ll = 0 := by
 have hp : posQ r.ll = false := by
  have key : ∀ b : Bool, b = posQ r.ll -> (b = true -> False) -> b = false := fun b _ h => by cases b; rfl; exact (h rfl).elim
  refine key _ rfl fun hpos => ?_
  unfold errE errK at h
  have : K = 1 \/ K = 2 \/ K = 3 \/ K = 4 := ω
  rcases this with rfl | rfl | rfl | rfl
  all_goals
   simp only at h; rw [hpos] at h; simp only [tt] at h
   repeat' split at h
   all_goals first | (exact absurd h δ) | exact absurd trivial (by assumption)
 unfold posQ at hp; have := of_decide_eq_false hp; simp only [Z0] at this; omega
theorem TJ' {K : Nat} {r : Rj} {dep : Nat} (hK : K = 5 \/ K = 6) (h : errE K r dep = 0) : dep <= 16 := by
 have hd : LM' dep = false := by
  unfold errE errK at h
  rcases hK with rfl | rfl
  ·exact (tt_0 δ h).1
  ·exact (tt_0 δ h).1
 unfold LM' at hd; have := of_decide_eq_false hd; simp only [Z0] at this; omega
theorem ZC' {r : Rj} {dep : Nat} (h : errE 6 r dep = 0) : r.nl = r.ll := by
 unfold errE errK at h; have h1 := (tt_0 δ (tt_0 δ (tt_0 δ (tt_0 δ h).2).2).2).1; have := bne_eq_false_iff_eq.1 h1; omega
theorem ZB' (L : Nat) (v : Jv) (dep : Nat) : errJ (L + 1) v dep = orE (errT v dep) (errL (fun x => errJ L x (dep + 1)) (v.kind == 6) v.names 0 v.list) := rfl
variable {W : World}
theorem HB' (hW : LWQ W) (F : HP) (hF : AH' W F) : ∀ y ∈ JJ', C1OK Θ F y.1 y.2 :=
 AP' (h9' hW F hF) (AP' (MY' F hF) (AP' (MZ' F hF) (BT' (hB' F hF))))
theorem ZH' (s t : Δ) (l : Γ) (h : bts t = l) : cat s t = addT s l := I4' (by unfold addT; rw [CR', CR', GD', h])
theorem w1 (hW : LWQ W) (r : Rj) (s : Δ) (hs : s.size <= 999998000) : Tri Θ W fwr [.ptr 0 0, aggJ (kW 1 r)] [(0, bldO s)] (.tuple []) [(0, bldO (addT s [110, 117, 108, 108]))] := by
 have f1 : fitB s := by unfold fitB; omega
 refine AN' (con := JJ') (hints := hWk 1) (lc := []) [0] rfl (fun F hF => HB' hW F hF) (fun F _ => noL) fun F => ?_
 refine Yj (oW1_eq W s r F) ⟨⟨?_, (AJ' (vs' := [.tuple []]) (H' := [(0, bldO (addT s [110, 117, 108, 108]))]) [] rfl rfl (Yb) ⟨⟨_, rfl, DN' (ZH' _ _ _ rfl)⟩, Ye⟩).fits rfl⟩⟩
 simp only [ch', bl', true_and, and_true]; and_intros; all_goals first | (with_reducible exact f1) | exact (by decide : (4 : Nat) <= 1000000000) | exact (by decide : (0 : Nat) < 4) | exact Kb0'
theorem NQ' (b : Bool) : (fbT b).size <= 5 /\ 0 < (fbT b).size := by
 unfold fbT; rw [DJ']; cases b <;> decide
theorem w2 (hW : LWQ W) (r : Rj) (s : Δ) (hs : s.size <= 999998000) : Tri Θ W fwr [.ptr 0 0, aggJ (kW 2 r)] [(0, bldO s)] (.tuple []) [(0, bldO (addT s (bts (fbT (r.n == o' 1)))))] := by
 have f1 : fitB s := by unfold fitB; omega
 have f2 : fitB (fbT (r.n == o' 1)) := by unfold fitB; have := (NQ' (r.n == o' 1)).1; omega
 have f3 := (NQ' (r.n == o' 1)).2
 refine AN' (con := JJ') (hints := hWk 2) (lc := []) [0] rfl (fun F hF => HB' hW F hF) (fun F _ => noL) fun F => ?_
 refine Yj (oW2_eq W s r F) ⟨⟨?_, (AJ' (vs' := [.tuple []]) (H' := [(0, bldO (addT s (bts (fbT (r.n == o' 1)))))]) [] rfl rfl (Yb) ⟨⟨_, rfl, DN' (ZH' _ _ _ rfl)⟩, Ye⟩).fits rfl⟩⟩
 simp only [ch', bl', true_and, and_true]; and_intros; all_goals first | (with_reducible exact f1) | (with_reducible exact f2) | (with_reducible exact f3) | exact Kb0'
theorem w3 (hW : LWQ W) (r : Rj) (s : Δ) (h0 : 0 < r.t.size) (hs : s.size + r.t.size <= 999998000) : Tri Θ W fwr [.ptr 0 0, aggJ (kW 3 r)] [(0, bldO s)] (.tuple []) [(0, bldO (addT s (bts r.t)))] := by
 have f1 : fitB s := by unfold fitB; omega
 have f2 : fitB r.t := by unfold fitB; omega
 refine AN' (con := JJ') (hints := hWk 3) (lc := []) [0] rfl (fun F hF => HB' hW F hF) (fun F _ => noL) fun F => ?_
 refine Yj (oW3_eq W s r F) ⟨⟨?_, (AJ' (vs' := [.tuple []]) (H' := [(0, bldO (addT s (bts r.t)))]) [] rfl rfl (Yb) ⟨⟨_, rfl, DN' (ZH' _ _ _ rfl)⟩, Ye⟩).fits rfl⟩⟩; exact Cb27'
theorem w4 (hW : LWQ W) (r : Rj) (s : Δ) (hs : s.size + (AZ' (bts r.t)).length <= 999998000) : Tri Θ W fwr [.ptr 0 0, aggJ (kW 4 r)] [(0, bldO s)] (.tuple []) [(0, bldO (addT s (AZ' (bts r.t))))] := by
 refine AN' (con := JJ') (hints := hWk 4) (lc := []) [0] rfl (fun F hF => HB' hW F hF) (fun F _ => noL) fun F => ?_
 refine Yj (oW4_eq W s r F) ⟨⟨?_, (AJ' (vs' := [.tuple []]) (H' := [(0, bldO (addT s (AZ' (bts r.t))))]) [] rfl rfl (Yb) ⟨⟨_, rfl, Yc⟩, Ye⟩).fits rfl⟩⟩; exact Cb2'
theorem gWl_ro (tmps : List AV) : RO (gWl tmps) := by
 unfold gWl; split
 ·split
  ·refine RO.read _ _ fun o => ?_
   split
   ·split
    ·exact RO.ret _
    ·exact RO.fail _
   ·exact RO.fail _
  ·exact RO.fail _
 ·exact RO.fail _
theorem oW_cl (K : Nat -> Bool) (s : Δ) (r : Rj) : ∀ x ∈ oW s r, x.2.cl K := A2' Ye (A2' ⟨Ye, Ye, Ye, Ye, Ye, Ye⟩ A4')
theorem lW_ok {r : Rj} {s0 g : Δ} {l : Γ} (h : LTri Θ W (AA' fwr 7) (tms 0 72 (aW r g 0)) (oW s0 r) (.exit 1) (tms 0 72 [(0, .ptr 0 0), (3, .ptr 1000 0), (4, sv g)]) (oW (addT s0 l) r)) (F : HP) (hF : AH' W F) : L1OK Θ F (AA' fwr 7) (lW r s0 g l) :=
 GN' hF gWl_ro (fun q hq => by
  obtain ⟨a, b, c⟩ := q; obtain rfl := hq
  exact h) fun q => by
  simp only [RT.pick]; exact C4' rfl rfl (A2' rfl (A2' rfl (A2' Ye (A2' Ye (A2' Ye (A2' Ye A4')))))) (oW_cl _ _ _) (A2' rfl (A2' rfl (A2' Ye A4'))) (oW_cl _ _ _)
theorem w_end (s : Δ) (l : Γ) (c d : UInt8) : cat (addT (cat s (oneB c)) l) (oneB d) = addT s ([c] ++ (l ++ [d])) := I4' (by unfold addT; simp only [CR', EQ', GD', List.append_assoc])
theorem w5 (hW : LWQ W) (r : Rj) (s : Δ) (l : Γ) (hs : s.size + (l.length + 2) <= 999998000) (h : LTri Θ W (AA' fwr 7) (tms 0 72 (aW (kW 5 r) gl5 0)) (oW (cat s (oneB 91)) (kW 5 r)) (.exit 1) (tms 0 72 [(0, .ptr 0 0), (3, .ptr 1000 0), (4, sv gl5)]) (oW (addT (cat s (oneB 91)) l) (kW 5 r))) : Tri Θ W fwr [.ptr 0 0, aggJ (kW 5 r)] [(0, bldO s)] (.tuple []) [(0, bldO (addT s ([91] ++ (l ++ [93]))))] := by
 have f1 : fitB s := by unfold fitB; omega
 have f2 : fitB (addT (cat s (oneB (UInt8.ofNat 91))) l) := by
  unfold fitB addT; rw [BH', BH', DJ']; have : (oneB (UInt8.ofNat 91)).size = 1 := rfl; omega
 refine AN' (con := JJ') (hints := hWk 5) (lc := [(fwr, 7, AA' fwr 7, lW (kW 5 r) (cat s (oneB 91)) gl5 l)]) [0] rfl (fun F hF => HB' hW F hF) (fun F hF => HS' (lW_ok h F hF)) fun F => ?_
 refine Yj (oW5_eq W s r l F) ⟨⟨?_, (AJ' (vs' := [.tuple []]) (H' := [(0, bldO (addT s ([91] ++ (l ++ [93]))))]) [] rfl rfl (Yb) ⟨⟨_, rfl, DN' (w_end s l 91 93)⟩, Ye⟩).fits rfl⟩⟩; exact Cb30'
theorem w6 (hW : LWQ W) (r : Rj) (s : Δ) (l : Γ) (hs : s.size + (l.length + 2) <= 999998000) (h : LTri Θ W (AA' fwr 7) (tms 0 72 (aW (kW 6 r) gl6 0)) (oW (cat s (oneB 123)) (kW 6 r)) (.exit 1) (tms 0 72 [(0, .ptr 0 0), (3, .ptr 1000 0), (4, sv gl6)]) (oW (addT (cat s (oneB 123)) l) (kW 6 r))) : Tri Θ W fwr [.ptr 0 0, aggJ (kW 6 r)] [(0, bldO s)] (.tuple []) [(0, bldO (addT s ([123] ++ (l ++ [125]))))] := by
 have f1 : fitB s := by unfold fitB; omega
 have f2 : fitB (addT (cat s (oneB (UInt8.ofNat 123))) l) := by
  unfold fitB addT; rw [BH', BH', DJ']; have : (oneB (UInt8.ofNat 123)).size = 1 := rfl; omega
 refine AN' (con := JJ') (hints := hWk 6) (lc := [(fwr, 7, AA' fwr 7, lW (kW 6 r) (cat s (oneB 123)) gl6 l)]) [0] rfl (fun F hF => HB' hW F hF) (fun F hF => HS' (lW_ok h F hF)) fun F => ?_
 refine Yj (oW6_eq W s r l F) ⟨⟨?_, (AJ' (vs' := [.tuple []]) (H' := [(0, bldO (addT s ([123] ++ (l ++ [125]))))]) [] rfl rfl (Yb) ⟨⟨_, rfl, DN' (w_end s l 123 125)⟩, Ye⟩).fits rfl⟩⟩; exact Cb30'
theorem Z9' {f : Jv -> Int} {obj : Bool} {names : List Δ} : ∀ {l : List Jv} {j : Nat}, errL f obj names j l = 0 -> ∀ x ∈ l, f x = 0
 | [], _, _, x, hx => by cases hx
 | a :: l, j, h, x, hx => by
  rw [errL] at h; split at h
  ·cases h
  ·split at h
   ·exact absurd h (by assumption)
   ·rename_i h1
    rcases List.mem_cons.1 hx with rfl | hx
    ·exact Decidable.not_not.1 h1
    ·exact Z9' h x hx
theorem mZ' {r : Rj} {dep : Nat} (h : errE 3 r dep = 0) : (num (bts r.t)).2 = true /\ (num (bts r.t)).1 = r.t.size := by
 unfold errE errK at h; obtain ⟨h1, h2⟩ := tt_0 δ (tt_0 δ h).2; have h3 := bne_eq_false_iff_eq.1 (tt_0 δ h2).1; refine ⟨by cases hq : (num (bts r.t)).2; rw [hq] at h1; cases h1; rfl, ?_⟩; simp only [Z0] at h3; omega
theorem TG' {r : Rj} {dep : Nat} (h : errE 3 r dep = 0) : 0 < r.t.size := by
 obtain ⟨h1, h2⟩ := mZ' h
 rcases Nat.eq_zero_or_pos r.t.size with h0 | h0
 ·have : bts r.t = [] := List.eq_nil_of_length_eq_zero (by rw [B2']; exact h0); rw [this] at h1; exact absurd h1 δ
 ·exact h0
theorem QN' (hW : LWQ W) : ∀ (d : Nat) (v : Jv) (r : Rj) (dep : Nat), JAt W.cell? d v r -> errJ d v dep = 0 -> VH' W r (B1' d v)
 | 0, _, _, _, h, _ => h.elim
 | d + 1, v, r, dep, h, he => by
  obtain ⟨⟨i1, i2, i3, i4, i5⟩, al, af⟩ := h; rw [ZB'] at he
  have he1 : errT v dep = 0 := by
   unfold orE at he; split at he
   ·exact absurd he (by assumption)
   ·exact Decidable.not_not.1 (by assumption)
  have he2 : errL (fun x => errJ d x (dep + 1)) (v.kind == 6) v.names 0 v.list = 0 := by
   unfold orE at he; rw [he1] at he; exact he
  have hf : ∀ u x, u ∈ v.list -> JAt W.cell? d u x -> VH' W x (B1' d u) := fun u x hu hj => QN' hW d u x (dep + 1) hj (Z9' he2 u hu)
  unfold errT at he1
  by_cases hlo : v.kind < 1
  ·rw [if_pos hlo] at he1; cases he1
  rw [if_neg hlo] at he1
  by_cases hhi : 6 < v.kind
  ·rw [if_pos hhi] at he1; cases he1
  rw [if_neg hhi] at he1
  obtain ⟨K, hK⟩ : ∃ K : Nat, v.kind = o' K := ⟨v.kind.toNat, by simp only [Z0]; omega⟩
  have hKn : v.kind.toNat = K := by rw [hK]; rfl
  have hrk : r.k = o' K := i1.trans hK
  have hee : errK v.kind.toNat v.num v.text v.list.length v.names.length dep = errE K r dep := by rw [hKn, <- i2, <- i3, <- i4, <- i5]; rfl
  rw [hee] at he1
  have hkr : kW K r = r := by unfold kW; rw [<- hrk]
  have hKc : K = 1 \/ K = 2 \/ K = 3 \/ K = 4 \/ K = 5 \/ K = 6 := by
   have h1 : ¬ (K : Int) < 1 := by rw [hK] at hlo; exact hlo
   have h2 : ¬ 6 < (K : Int) := by rw [hK] at hhi; exact hhi
   omega
  intro s hs
  rcases hKc with rfl | rfl | rfl | rfl | rfl | rfl
  ·have ht : B1' (d + 1) v = [110, 117, 108, 108] := by rw [B1', if_pos (show v.kind = 1 from hK)]
   rw [ht] at hs ⊢; have := w1 hW r s ω; rw [hkr] at this; exact this
  ·have ht : B1' (d + 1) v = bts (fbT (r.n == o' 1)) := by rw [B1', hK, if_neg δ, if_pos δ, i2]
   rw [ht] at hs ⊢; have := w2 hW r s ω; rw [hkr] at this; exact this
  ·have ht : B1' (d + 1) v = bts r.t := by rw [B1', hK, if_neg δ, if_neg δ, if_pos δ, i3]
   rw [ht, B2'] at hs; rw [ht]; have := w3 hW r s (TG' he1) hs; rw [hkr] at this; exact this
  ·have ht : B1' (d + 1) v = AZ' (bts r.t) := by rw [B1', hK, if_neg δ, if_neg δ, if_neg δ, if_pos δ, i3]
   rw [ht] at hs ⊢; have := w4 hW r s hs; rw [hkr] at this; exact this
  ·have ht : B1' (d + 1) v = [91] ++ (B3' (B1' d) false v.names 0 v.list ++ [93]) := by rw [B1', hK, if_neg δ, if_neg δ, if_neg δ, if_neg δ, if_pos δ]
   rw [ht] at hs ⊢; simp only [la', lc', ln'] at hs
   have o1 : (cat s (oneB 91)).size = s.size + 1 := by rw [BH']; rfl
   have := w5 hW r s (B3' (B1' d) false v.names 0 v.list) ω (by
    rw [hkr]
    exact fN' hW (B1' d) hf al af i4 i5 false (by rw [hrk]; rfl) (by intro h; cases h) _ gl5 _ rfl (by rw [o1]; omega))
   rw [hkr] at this; exact this
  ·have ht : B1' (d + 1) v = [123] ++ (B3' (B1' d) true v.names 0 v.list ++ [125]) := by rw [B1', hK, if_neg δ, if_neg δ, if_neg δ, if_neg δ, if_neg δ]
   rw [ht] at hs ⊢; simp only [la', lc', ln'] at hs
   have o1 : (cat s (oneB 123)).size = s.size + 1 := by rw [BH']; rfl
   have hnl := ZC' he1
   have := w6 hW r s (B3' (B1' d) true v.names 0 v.list) ω (by
    rw [hkr]
    exact fN' hW (B1' d) hf al af i4 i5 true (by rw [hrk]; rfl) (fun _ => ω) _ gl6 _ rfl (by rw [o1]; omega))
   rw [hkr] at this; exact this
abbrev fWr : Nat := 9
theorem jM' (s : Δ) (P : Γ) : cRun (cSt s [.ptr 0 0]) [(0, bU P), (1002, rB P)] [0] = VT.leaf (s' s) [some (ce' [pt' 0 0,AV.slice 1002 0 P.length 1 (Cp.lo P.length)] 98)] 1100 ((p' ((List.take P.length (rowV encB P) = vmap (List.map (fun b => vi' IntKind.u8 ↑b.toNat) s.data.toList) /\ P.length <= (rowV encB P).length) /\ P.length = s.size /\ 0 < P.length /\ P.length <= 9223372036854775807)).a k1') := χ
def gP0 (args : List AV) : AP Nat := match args with
 | [.ptr a _] => .ret a
 | _ => .fail "ptr"
def gP1 (args : List AV) : AP Nat := match args with
 | [.ptr a _, _] => .ret a
 | _ => .fail "ptr"
def cStr (s : Δ) : List AV -> Option (AP AV) := mkC gP0 (fun _ => 0 < s.size /\ s.size <= 1000000000) (fun q _ => q) (fun _ => [.ptr 0 0]) (fun _ => [(0, bldO s)]) (fun _ => .leaf .ret [sv s] [])
def cwr0 (x : Rj) (l : Γ) : List AV -> Option (AP AV) := mkC gP1 (fun _ => l.length <= 999998000) (fun q _ => q) (fun _ => [.ptr 0 0, aggJ x]) (fun _ => [(0, bN)]) (fun _ => .leaf .ret [.tuple []] [(0, bldO (tB l))])
theorem j3' (W : World) (r : Rj) (l : Γ) (F : HP) : wRun [(fCk, cCk r 1 0), (fwr, cwr0 r l), (fSt, cStr (tB l))] (AD' [hf' fWr 2 1]) [] W fWr [aggJ r] [] [] F = VT.leaf (AV.tuple [s' (tB l),i' 0]) [] 1102 ((k219' r).a (((Cnd.p True).a (f' (VW [AV.agg [z' r.k,z' r.n,s' r.t,v' (sl' r.la r.ll r.lc),v' (sl' r.na r.nl r.nc)],i' 1] [AV.agg [z' r.k,z' r.n,s' r.t,v' (sl' r.la r.ll r.lc),v' (sl' r.na r.nl r.nc)],i' 1]))).a (k78'.a ((k219' r).a (((p' (l.length <= 999998000)).a ((vw' [pt' 1101 0,AV.agg [z' r.k,z' r.n,s' r.t,v' (sl' r.la r.ll r.lc),v' (sl' r.na r.nl r.nc)]]).a (f' (OW (ce' [v' (Value.pointer none),e'] 98) (ce' [v' (Value.pointer none),e'] 98))))).a (((p' (0 < (tB l).size /\ (tB l).size <= 1000000000)).a ((vw' [pt' 1101 0]).a (f' (OW (AO.own (Md.text (tB l)) (exHP (bldR (tB l)) bldL)) (AO.own (Md.text (tB l)) (exHP (bldR (tB l)) bldL)))))).a k1')))))) := χ
variable {W : World}
theorem iC' (s : Δ) : List.take (bts s).length (rowV encB (bts s)) = vmap (List.map (fun b => vi' IntKind.u8 (b.toNat : Int)) s.data.toList) /\ (bts s).length <= (rowV encB (bts s)).length := by
 have h : (rowV encB (bts s)).length = (bts s).length := KY' _
 exact ⟨by rw [List.take_of_length_le ω]; exact E1' _, by omega⟩
theorem St_tri (s : Δ) (h0 : 0 < s.size) (hs : s.size <= 1000000000) : Tri Θ W fSt [.ptr 0 0] [(0, bldO s)] (sv s) [] := by
 refine NJ' (fun h => ?_) fun h => ?_
 ·have := congrArg List.length h; rw [B2'] at this; simp only [ln'] at this; omega
 ·refine aZ' [0] rfl (fun F hF => cSt_ok s) rfl ?_; refine Yj (jM' s (bts s)) ⟨⟨?_, (AJ' (vs' := [sv s]) (H' := []) [] rfl rfl (Yb) trivial).fits rfl⟩⟩; have h1 := iC' s; have h2 : (bts s).length = s.size := rfl
  exact ⟨⟨h1, h2, by omega, by omega⟩, Ye⟩
theorem n8' (s : Δ) (F : HP) (hF : AH' W F) : C1OK Θ F fSt (cStr s) :=
 BF' hF (fun _ => sv s) (fun args => by unfold gP0; split; exact RO.ret _; exact RO.fail _) (fun _ => rfl) (fun q hq => St_tri s hq.1 hq.2) fun q => ⟨rfl, rfl, ⟨rfl, Ye⟩, A2' Ye A4', ⟨Ye, Ye⟩, A4'⟩
theorem nI' {vs : List AV} (hv : AV.cls (fun i => Nat.blt i 1000 || false) vs) : Goes vs [(0, bN)] vs [(0, bldO nil0)] :=
 Goes.shut (R := bldR nil0) (L := bldL) (m := .text nil0) (H0 := []) none rfl (NW' _) ⟨_, _, rfl, rfl⟩ hv A4'
theorem fF' (l : Γ) : addT nil0 l = tB l := I4' (by unfold addT; rw [CR', GD']; rfl)
theorem n5' {x : Rj} {l : Γ} (h : VH' W x l) (F : HP) (hF : AH' W F) : C1OK Θ F fwr (cwr0 x l) :=
 BF' hF (fun _ => .tuple []) (fun args => by unfold gP1; split; exact RO.ret _; exact RO.fail _) (fun _ => rfl) (fun q hq => by
  have := h nil0 (by show 0 + _ <= _; omega); rw [fF'] at this
  exact Tri.pre (nI' ⟨rfl, ⟨Ye, Ye, Ye, Ye, Ye, Ye⟩, Ye⟩) this) fun q => ⟨rfl, rfl, ⟨rfl, ⟨Ye, Ye, Ye, Ye, Ye, Ye⟩, Ye⟩, A2' ⟨Ye, Ye, Ye⟩ A4', ⟨Ye, Ye⟩, A2' Ye A4'⟩
theorem W3' : ∀ {d : Nat} {v : Jv} {r : Rj} {dep : Nat}, JAt W.cell? d v r -> errJ d v dep = 0 -> 0 < (B1' d v).length
 | 0, _, _, _, h, _ => h.elim
 | d + 1, v, r, dep, h, he => by
  obtain ⟨⟨i1, i2, i3, i4, i5⟩, al, af⟩ := h; rw [B1']; split
  ·decide
  split
  ·rw [B2']; exact (NQ' _).2
  split
  ·rename_i h3; rw [ZB'] at he
   have he1 : errT v dep = 0 := by
    unfold orE at he; split at he
    ·exact absurd he (by assumption)
    ·exact Decidable.not_not.1 (by assumption)
   unfold errT at he1; rw [h3, if_neg δ, if_neg δ] at he1; rw [B2', <- i3]; refine TG' (r := r) (dep := dep) ?_; rw [<- i2, <- i3, <- i4, <- i5] at he1; exact he1
  split
  ·unfold AZ'; simp only [la', lc', ln']; omega
  split
  ·simp only [la', lc', ln']; omega
  ·simp only [la', lc', ln']; omega
noncomputable section
def hCkO (K : Nat) : AX' := AD' [(fCk, 2, 1, hv (.lit (Nat.beq K 5))), (fCk, 2, 4, hv (.lit (Nat.beq K 6))), hf' fCk 4 1, hf' fCk 4 4, hf' fCk 6 3, (fCk, 8, 1, hv (.lit (Nat.beq K 2))), hf' fCk 8 5, hf' fCk 8 9, (fCk, 9, 1, hv (.lit (!Nat.beq K 2))), hf' fCk 9 5, (fCk, 10, 1, hv (.lit (Nat.beq K 3))), hf' fCk 10 4, hf' fCk 10 10, (fCk, 11, 1, hv (.lit (!Nat.beq K 3))), (fCk, 11, 4, hv (.lit (!Nat.beq K 4))), hf' fCk 11 9,
 (fCk, 12, 1, hv (.lit (!(Nat.beq K 5 || Nat.beq K 6)))), hf' fCk 12 6, (fCk, 13, 1, hv (.lit (Nat.beq K 6))), hf' fCk 13 9, (fCk, 14, 1, hv (.lit (!Nat.beq K 6))), hf' fCk 14 6]
abbrev k237' : Cnd := (ow' (AO.map [] 0))
abbrev YW' (q0 : Rj) (z : Cnd) : Cnd := ((f' (Wk (b' false) g')).a ((f' (Wk (b' true) j')).a ((fe' true).a ((wb' (decide (↑q0.nl > o' 0)) g').a ((fe' true).a z)))))
abbrev k239' (q0 : Rj) : Cnd := (wb' (decide (↑q0.ll > o' 0)) g')
abbrev k240' (q0 : Rj) : Cnd := (f' (Wk (v' (vb' !q0.t.toList == [])) g'))
abbrev YV' (q0 : Rj) (z : Cnd) : Cnd := ((f' (Wk (b' false) g')).a ((f' (Wk (b' true) j')).a ((ee' (z' q0.n)).a ((wb' (q0.n != o' 0) g').a z))))
abbrev YU' (q0 : Rj) (z : Cnd) : Cnd := ((ee' (s' q0.t)).a (((p' (Few q0.t.size)).a (f' (VW [s' q0.t] [s' q0.t]))).a ((f' (Wk (b' false) g')).a ((f' (Wk (b' false) g')).a z))))
theorem dT' (W : World) (p : Prop) (r : Rj) (dep : Nat) (F : HP) : wRun [(fNum, cNum)] (hCkO 1) [(fCk, 18, AA' fCk 18, lCkE p (kR 1 r) dep)] W fCk [aggJ (kR 1 r), iv (o' dep)] [] [] F = VT.leaf (i' 0) [] 1102 (k227'.a (h85' (YU' r (YV' r (h84' (k86'.a ((k150' r).a ((k240' r).a (k86'.a (k40'.a ((k239' r).a (YW' r ((p' ((fCk,18,AA' fCk 18,lCkE p (kR 1 r) dep).snd.snd.fst = (fCk,18,AA' fCk 18,lCkE p (kR 1 r) dep).snd.snd.fst)).a ((Cnd.p p).a ((p' (VW (AV.agg [i' 1,z' r.n,s' r.t,v' (sl' r.la r.ll r.lc),v' (sl' r.na r.nl r.nc)]::i' dep::pt' 1100 0::u'::i' 0::i' 1::g'::z' (o' (num (bts r.t)).fst)::v' (vb' (num (bts r.t)).snd)::AV.map 1101::u'::u'::u'::pt' 1100 0::i' 1::i' 1::g'::g'::i' 1::g'::g'::AV.tuple [z' (o' (num (bts r.t)).fst),v' (vb' (num (bts r.t)).snd)]::pt' 1100 2::s' r.t::AV.tuple [z' (o' (num (bts r.t)).fst),v' (vb' (num (bts r.t)).snd)]::z' (o' (num (bts r.t)).fst)::v' (vb' (num (bts r.t)).snd)::g'::i' 1::g'::g'::i' 1::g'::g'::g'::g'::g'::u'::u'::g'::g'::i' 1::g'::g'::ru8 (g'::i' 1::j'::j'::pt' 1100 1::z' r.n::g'::g'::i' 1::g'::g'::ru8 (u'::g'::i' 1::j'::j'::i' 1::j'::j'::j'::pt' 1100 2::s' r.t::g'::g'::g'::j'::j'::pt' 1100 3::v' (sl' r.la r.ll r.lc)::z' ↑r.ll::g'::g'::i' 1::g'::g'::ru4 (u'::u'::u'::g'::i' 1::j'::j'::pt' 1100 4::v' (sl' r.na r.nl r.nc)::z' ↑r.nl::g'::g'::AV.map 1101::pt' 1100 3::v' (sl' r.la r.ll r.lc)::z' ↑r.ll::i' 0::ru16 (ru8 (ru4 (u'::u'::[]))))))) (a'::i' dep::pt' 1100 0::a'::a'::i' 1::a'::a'::a'::AV.map 1101::ra16 (ra16 (ra16 (ra16 (ra16 (ra16 (ra4 (a'::a'::a'::v' (sl' r.la r.ll r.lc)::i' r.ll::i' 0::ra16 (ra8 (ra4 (a'::a'::[]))))))))))))).a ((ow' (ce' [i' 1,z' r.n,s' r.t,v' (sl' r.la r.ll r.lc),v' (sl' r.na r.nl r.nc)] 52)).a (k237'.a k1'))))))))))))))))) := χ
theorem dS' (W : World) (p : Prop) (r : Rj) (dep : Nat) (F : HP) : wRun [(fNum, cNum)] (hCkO 2) [(fCk, 18, AA' fCk 18, lCkE p (kR 2 r) dep)] W fCk [aggJ (kR 2 r), iv (o' dep)] [] [] F = VT.leaf (i' 0) [] 1102 (k229'.a (h85' ((k150' r).a (((p' (Few r.t.size)).a (f' (VW [s' r.t] [s' r.t]))).a (k78'.a (h228' r ((wb' (decide (r.n < o' 0)) g').a ((k151' r).a ((wb' (decide (r.n > o' 1)) g').a (k78'.a (h84' (k86'.a ((k150' r).a ((k240' r).a (k86'.a (k40'.a ((k239' r).a (YW' r ((p' ((fCk,18,AA' fCk 18,lCkE p (kR 2 r) dep).snd.snd.fst = (fCk,18,AA' fCk 18,lCkE p (kR 2 r) dep).snd.snd.fst)).a ((Cnd.p p).a ((p' (VW [AV.agg [i' 2,z' r.n,s' r.t,v' (sl' r.la r.ll r.lc),v' (sl' r.na r.nl r.nc)],i' dep,pt' 1100 0,u',i' 0,i' 2,g',z' (o' (num (bts r.t)).fst),v' (vb' (num (bts r.t)).snd),AV.map 1101,u',u',u',pt' 1100 0,i' 2,i' 2,g',g',i' 2,g',g',AV.tuple [z' (o' (num (bts r.t)).fst),v' (vb' (num (bts r.t)).snd)],pt' 1100 2,s' r.t,AV.tuple [z' (o' (num (bts r.t)).fst),v' (vb' (num (bts r.t)).snd)],z' (o' (num (bts r.t)).fst),v' (vb' (num (bts r.t)).snd),g',i' 2,g',g',i' 2,g',g',g',g',g',u',u',g',g',i' 2,j',j',pt' 1100 1,z' r.n,g',g',pt' 1100 1,z' r.n,g',g',g',i' 2,g',g',u',u',u',g',i' 2,g',g',u',u',u',u',u',u',u',u',u',g',i' 2,j',j',i' 2,j',j',j',pt' 1100 2,s' r.t,g',g',g',j',j',pt' 1100 3,v' (sl' r.la r.ll r.lc),z' ↑r.ll,g',g',i' 2,g',g',u',u',u',u',u',u',u',g',i' 2,j',j',pt' 1100 4,v' (sl' r.na r.nl r.nc),z' ↑r.nl,g',g',AV.map 1101,pt' 1100 3,v' (sl' r.la r.ll r.lc),z' ↑r.ll,i' 0,u',u',u',u',u',u',u',u',u',u',u',u',u',u',u',u',u',u',u',u',u',u',u',u',u',u',u',u',u',u'] (a'::i' dep::pt' 1100 0::a'::a'::i' 2::a'::a'::a'::AV.map 1101::ra16 (ra16 (ra16 (ra16 (ra16 (ra16 (ra4 (a'::a'::a'::v' (sl' r.la r.ll r.lc)::i' r.ll::i' 0::ra16 (ra8 (ra4 (a'::a'::[]))))))))))))).a ((ow' (ce' [i' 2,z' r.n,s' r.t,v' (sl' r.la r.ll r.lc),v' (sl' r.na r.nl r.nc)] 52)).a (k237'.a k1'))))))))))))))))))))))) := χ
abbrev mI' (z : Cnd) : Cnd := ((f' (Wk (b' false) g')).a ((f' (Wk (b' true) j')).a ((fe' true).a z)))
theorem dR' (W : World) (p : Prop) (r : Rj) (dep : Nat) (F : HP) : wRun [(fNum, cNum)] (hCkO 3) [(fCk, 18, AA' fCk 18, lCkE p (kR 3 r) dep)] W fCk [aggJ (kR 3 r), iv (o' dep)] [] [] F = VT.leaf (i' 0) [] 1102 (k230'.a (h85' (YU' r (YV' r (k86'.a ((f' (Wk (v' (vb' !(num (bts r.t)).snd)) g')).a ((k150' r).a ((wb' (o' (num (bts r.t)).fst != ↑r.t.size) g').a (mI' ((k239' r).a (YW' r ((p' ((fCk,18,AA' fCk 18,lCkE p (kR 3 r) dep).snd.snd.fst = (fCk,18,AA' fCk 18,lCkE p (kR 3 r) dep).snd.snd.fst)).a ((Cnd.p p).a ((p' (VW [AV.agg [i' 3,z' r.n,s' r.t,v' (sl' r.la r.ll r.lc),v' (sl' r.na r.nl r.nc)],i' dep,pt' 1100 0,u',i' 0,i' 3,g',z' (o' (num (bts r.t)).fst),v' (vb' (num (bts r.t)).snd),AV.map 1101,u',u',u',pt' 1100 0,i' 3,i' 3,g',g',i' 3,g',g',AV.tuple [z' (o' (num (bts r.t)).fst),v' (vb' (num (bts r.t)).snd)],pt' 1100 2,s' r.t,AV.tuple [z' (o' (num (bts r.t)).fst),v' (vb' (num (bts r.t)).snd)],z' (o' (num (bts r.t)).fst),v' (vb' (num (bts r.t)).snd),g',i' 3,g',g',i' 3,g',g',g',g',g',u',u',g',g',i' 3,g',g',u',u',u',u',u',u',u',u',g',i' 3,j',j',pt' 1100 1,z' r.n,g',g',i' 3,j',j',v' (vb' (num (bts r.t)).snd),g',g',z' (o' (num (bts r.t)).fst),pt' 1100 2,s' r.t,z' ↑r.t.size,g',g',g',i' 3,g',g',u',u',g',g',u',u',u',g',g',j',j',pt' 1100 3,v' (sl' r.la r.ll r.lc),z' ↑r.ll,g',g',i' 3,g',g',u',u',u',u',u',u',u',g',i' 3,j',j',pt' 1100 4,v' (sl' r.na r.nl r.nc),z' ↑r.nl,g',g',AV.map 1101,pt' 1100 3,v' (sl' r.la r.ll r.lc),z' ↑r.ll,i' 0,u',u',u',u',u',u',u',u',u',u',u',u',u',u',u',u',u',u',u',u',u',u',u',u',u',u',u',u',u',u'] (a'::i' dep::pt' 1100 0::a'::a'::i' 3::a'::a'::a'::AV.map 1101::ra16 (ra16 (ra16 (ra16 (ra16 (ra16 (ra4 (a'::a'::a'::v' (sl' r.la r.ll r.lc)::i' r.ll::i' 0::ra16 (ra8 (ra4 (a'::a'::[]))))))))))))).a ((ow' (ce' [i' 3,z' r.n,s' r.t,v' (sl' r.la r.ll r.lc),v' (sl' r.na r.nl r.nc)] 52)).a (k237'.a k1')))))))))))))))) := χ
theorem dQ' (W : World) (p : Prop) (r : Rj) (dep : Nat) (F : HP) : wRun [(fNum, cNum)] (hCkO 4) [(fCk, 18, AA' fCk 18, lCkE p (kR 4 r) dep)] W fCk [aggJ (kR 4 r), iv (o' dep)] [] [] F = VT.leaf (i' 0) [] 1102 (k231'.a (h85' (YU' r (YV' r (h84' (mI' ((k239' r).a (YW' r ((p' ((fCk,18,AA' fCk 18,lCkE p (kR 4 r) dep).snd.snd.fst = (fCk,18,AA' fCk 18,lCkE p (kR 4 r) dep).snd.snd.fst)).a ((Cnd.p p).a ((p' (VW (AV.agg [i' 4,z' r.n,s' r.t,v' (sl' r.la r.ll r.lc),v' (sl' r.na r.nl r.nc)]::i' dep::pt' 1100 0::u'::i' 0::i' 4::g'::z' (o' (num (bts r.t)).fst)::v' (vb' (num (bts r.t)).snd)::AV.map 1101::u'::u'::u'::pt' 1100 0::i' 4::i' 4::g'::g'::i' 4::g'::g'::AV.tuple [z' (o' (num (bts r.t)).fst),v' (vb' (num (bts r.t)).snd)]::pt' 1100 2::s' r.t::AV.tuple [z' (o' (num (bts r.t)).fst),v' (vb' (num (bts r.t)).snd)]::z' (o' (num (bts r.t)).fst)::v' (vb' (num (bts r.t)).snd)::g'::i' 4::g'::g'::i' 4::g'::g'::g'::g'::g'::u'::u'::g'::g'::i' 4::g'::g'::ru8 (g'::i' 4::j'::j'::pt' 1100 1::z' r.n::g'::g'::i' 4::g'::g'::ru8 (u'::g'::i' 4::j'::j'::i' 4::g'::g'::g'::u'::u'::u'::g'::g'::j'::j'::pt' 1100 3::v' (sl' r.la r.ll r.lc)::z' ↑r.ll::g'::g'::i' 4::g'::g'::ru4 (u'::u'::u'::g'::i' 4::j'::j'::pt' 1100 4::v' (sl' r.na r.nl r.nc)::z' ↑r.nl::g'::g'::AV.map 1101::pt' 1100 3::v' (sl' r.la r.ll r.lc)::z' ↑r.ll::i' 0::ru16 (ru8 (ru4 (u'::u'::[]))))))) (a'::i' dep::pt' 1100 0::a'::a'::i' 4::a'::a'::a'::AV.map 1101::ra16 (ra16 (ra16 (ra16 (ra16 (ra16 (ra4 (a'::a'::a'::v' (sl' r.la r.ll r.lc)::i' r.ll::i' 0::ra16 (ra8 (ra4 (a'::a'::[]))))))))))))).a ((ow' (ce' [i' 4,z' r.n,s' r.t,v' (sl' r.la r.ll r.lc),v' (sl' r.na r.nl r.nc)] 52)).a (k237'.a k1'))))))))))))) := χ
theorem dP' (W : World) (p : Prop) (r : Rj) (dep : Nat) (F : HP) : wRun [(fNum, cNum)] (hCkO 5) [(fCk, 18, AA' fCk 18, lCkE p (kR 5 r) dep)] W fCk [aggJ (kR 5 r), iv (o' dep)] [] [] F = VT.leaf (i' 0) [] 1102 (k233'.a (k86'.a (YU' r ((k169' dep).a (YV' r (h84' (k86'.a ((k150' r).a ((k240' r).a (k78'.a (YW' r ((p' ((fCk,18,AA' fCk 18,lCkE p (kR 5 r) dep).snd.snd.fst = (fCk,18,AA' fCk 18,lCkE p (kR 5 r) dep).snd.snd.fst)).a ((Cnd.p p).a ((p' (VW (AV.agg [i' 5,z' r.n,s' r.t,v' (sl' r.la r.ll r.lc),v' (sl' r.na r.nl r.nc)]::i' dep::pt' 1100 0::u'::i' 0::i' 5::j'::z' (o' (num (bts r.t)).fst)::v' (vb' (num (bts r.t)).snd)::AV.map 1101::u'::u'::u'::pt' 1100 0::i' 5::i' 5::j'::j'::u'::u'::j'::AV.tuple [z' (o' (num (bts r.t)).fst),v' (vb' (num (bts r.t)).snd)]::pt' 1100 2::s' r.t::AV.tuple [z' (o' (num (bts r.t)).fst),v' (vb' (num (bts r.t)).snd)]::z' (o' (num (bts r.t)).fst)::v' (vb' (num (bts r.t)).snd)::g'::i' 5::g'::g'::i' 5::g'::g'::g'::j'::j'::i' dep::g'::g'::g'::i' 5::g'::g'::ru8 (g'::i' 5::j'::j'::pt' 1100 1::z' r.n::g'::g'::i' 5::g'::g'::ru8 (u'::g'::i' 5::j'::j'::i' 5::j'::j'::j'::pt' 1100 2::s' r.t::g'::g'::j'::g'::g'::ru4 (g'::i' 5::g'::g'::ru4 (u'::u'::u'::g'::i' 5::j'::j'::pt' 1100 4::v' (sl' r.na r.nl r.nc)::z' ↑r.nl::g'::g'::AV.map 1101::pt' 1100 3::v' (sl' r.la r.ll r.lc)::z' ↑r.ll::i' 0::ru16 (ru8 (ru4 (u'::u'::[])))))))) (a'::i' dep::pt' 1100 0::a'::a'::i' 5::a'::a'::a'::AV.map 1101::ra16 (ra16 (ra16 (ra16 (ra16 (ra16 (ra4 (a'::a'::a'::v' (sl' r.la r.ll r.lc)::i' r.ll::i' 0::ra16 (ra8 (ra4 (a'::a'::[]))))))))))))).a ((k232' r).a (k237'.a k1')))))))))))))))) := χ
theorem dO' (W : World) (p : Prop) (r : Rj) (dep : Nat) (F : HP) : wRun [(fNum, cNum)] (hCkO 6) [(fCk, 18, AA' fCk 18, lCkE p (kR 6 r) dep)] W fCk [aggJ (kR 6 r), iv (o' dep)] [] [] F = VT.leaf (i' 0) [] 1102 (k235'.a (h84' (YU' r ((k169' dep).a (YV' r (h84' (k86'.a ((k150' r).a ((k240' r).a (mI' (k40'.a ((wb' ((↑r.nl : Int) != ↑r.ll) g').a (k78'.a (k40'.a ((p' ((fCk,18,AA' fCk 18,lCkE p (kR 6 r) dep).snd.snd.fst = (fCk,18,AA' fCk 18,lCkE p (kR 6 r) dep).snd.snd.fst)).a ((Cnd.p p).a ((p' (VW (AV.agg [i' 6,z' r.n,s' r.t,v' (sl' r.la r.ll r.lc),v' (sl' r.na r.nl r.nc)]::i' dep::pt' 1100 0::u'::i' 0::i' 6::j'::z' (o' (num (bts r.t)).fst)::v' (vb' (num (bts r.t)).snd)::AV.map 1101::u'::u'::u'::pt' 1100 0::i' 6::i' 6::g'::g'::i' 6::j'::j'::AV.tuple [z' (o' (num (bts r.t)).fst),v' (vb' (num (bts r.t)).snd)]::pt' 1100 2::s' r.t::AV.tuple [z' (o' (num (bts r.t)).fst),v' (vb' (num (bts r.t)).snd)]::z' (o' (num (bts r.t)).fst)::v' (vb' (num (bts r.t)).snd)::g'::i' 6::g'::g'::i' 6::g'::g'::g'::j'::j'::i' dep::g'::g'::g'::i' 6::g'::g'::ru8 (g'::i' 6::j'::j'::pt' 1100 1::z' r.n::g'::g'::i' 6::g'::g'::ru8 (u'::g'::i' 6::j'::j'::i' 6::j'::j'::j'::pt' 1100 2::s' r.t::g'::g'::j'::g'::g'::ru4 (g'::i' 6::j'::j'::pt' 1100 4::v' (sl' r.na r.nl r.nc)::z' ↑r.nl::pt' 1100 3::v' (sl' r.la r.ll r.lc)::z' ↑r.ll::g'::g'::i' 6::g'::g'::ru4 (g'::AV.map 1101::pt' 1100 3::v' (sl' r.la r.ll r.lc)::z' ↑r.ll::i' 0::ru16 (ru8 (ru4 (u'::u'::[])))))))) (a'::i' dep::pt' 1100 0::a'::a'::i' 6::a'::a'::a'::AV.map 1101::ra16 (ra16 (ra16 (ra16 (ra16 (ra16 (ra4 (a'::a'::a'::v' (sl' r.la r.ll r.lc)::i' r.ll::i' 0::ra16 (ra8 (ra4 (a'::a'::[]))))))))))))).a ((k234' r).a (k237'.a k1'))))))))))))))))))) := χ
end
variable {W : World} {d : Nat} {l : List Jv} {r : Rj} {dep : Nat} {f : Jv -> Int} {names : List Δ}
theorem if_0 {a b : Int} (h : (if a ≠ 0 then a else b) = 0) : a = 0 /\ b = 0 := by
 split at h
 ·exact absurd h (by assumption)
 ·exact ⟨Decidable.not_not.1 (by assumption), h⟩
theorem gW' (hdep : dep < 1000000) (hf : ∀ u x, u ∈ l -> JAt W.cell? d u x -> Tri Θ W fCk [aggJ x, iv (o' (dep + 1))] [] (iv (f u)) []) (al : LOf (JAt W.cell? d) W.cell? r.la l) (hll : r.ll = l.length) (hk : r.k = o' 5 \/ r.ll = 0) (he : errL f false names 0 l = 0) : LTri Θ W (AA' fCk 18) (tms 0 146 (aCk r dep 0)) (oCk r [] 0) (.exit 1) (tms 0 146 []) [] := by
 have hlen := LO' al.1 δ; refine CC' (W := W) (g := fCk) (b := AA' fCk 18) (σ := {j : Nat // j <= r.ll /\ errL f false names j (l.drop j) = 0}) 146 (fun j => aCk r dep j.1) (fun j => oCk r [] 0) (.exit 1) [] [] (fun j => r.ll - j.1) [1000, 1001] iCk (fun h => nomatch h) (fun _ => rfl) rfl ?_ ⟨0, Nat.zero_le _, he⟩; rintro ⟨j, hj, hE⟩; simp only
 by_cases h1 : j < r.ll
 ·obtain ⟨u, hu⟩ := ES' (l := l) (i := j) ω; obtain ⟨a, x, ea, q1, q2⟩ := al.2 j u hu; have aA := all5 q1; obtain ⟨a1, a2, a3, a4, a5⟩ := c5 q1; have hw := CH' j ω; have hwd := CH' dep ω
  have e1 : decide (o' j < o' r.ll) = true := by rw [IG']; exact decide_eq_true h1
  have hkk : r.k = o' 5 := hk.resolve_right ω; have ht := hf u x (List.mem_of_getElem? hu) q2; rw [RL' hu] at hE; unfold errL at hE; rw [if_neg (by rw [Bool.false_and]; decide)] at hE; obtain ⟨rk, rn, rt, rla, rll, rlc, rta, rtl, rtc⟩ := r; simp only at ea hkk; subst ea hkk; obtain ⟨h0, hE⟩ := if_0 hE; rw [h0] at ht
  refine ⟨[(fCk, cCk x (dep + 1) 0)], hCkR false j dep x nil0 0 [] 0 false false, [], fun F hF => BT' (a1' ht F hF), fun _ _ => noL, fun F => ?_⟩
  refine Yj (dV' W ⟨o' 5, rn, rt, none, rll, rlc, rta, rtl, rtc⟩ x a dep j F) ⟨⟨?_, rfl, .inl ⟨rfl, ⟨j + 1, h1, hE⟩, C9' h1, [(1000, 1000), (1001, 1001)], by kernel_rfl, by kernel_rfl, ⟨Ya, Ya, Ya, Ya, Ya, Ya, Ya, Ye⟩, ⟨_, rfl, Yc⟩, ⟨_, rfl, Yc⟩, Ye⟩⟩⟩
  simp only [ch', e1, h1, aA, a1, a2, a3, a4, a5, Option.getD_some, Option.isSome_some, bl', true_and, and_true]; and_intros; all_goals exact Kb27'
 ·have hje : j = r.ll := ω
  subst hje; rw [hll, List.drop_length] at hE
  refine ⟨[], AD' [hf' fCk 18 0], [], fun _ _ => noC, fun _ _ => noL, fun F => ?_⟩
  refine Yj (Y6' W r dep [] 0 F) ⟨⟨?_, rfl, .inr ⟨rfl, [], by kernel_rfl, by kernel_rfl, Ye, Ye⟩⟩⟩
  have e1 : decide (o' r.ll < o' r.ll) = false := by rw [IG']; exact decide_eq_false (Nat.lt_irrefl _)
  exact Cb1'
theorem ck6_ok (hdep : dep < 1000000) (hf : ∀ u x, u ∈ l -> JAt W.cell? d u x -> Tri Θ W fCk [aggJ x, iv (o' (dep + 1))] [] (iv (f u)) []) (al : LOf (JAt W.cell? d) W.cell? r.la l) (an : NOf W.cell? r.na names) (hll : r.ll = l.length) (hnl : r.nl = names.length) (hln : names.length = l.length) (hk : r.k = o' 6) (he : errL f true names 0 l = 0) : LTri Θ W (AA' fCk 18) (tms 0 146 (aCk r dep 0)) (oCk r [] 0) (.exit 1) (tms 0 146 []) [] := by
 have hlen := LO' al.1 δ; refine CC' (W := W) (g := fCk) (b := AA' fCk 18) (σ := {j : Nat // j <= r.ll /\ errL f true names j (l.drop j) = 0}) 146 (fun j => aCk r dep j.1) (fun j => oCk r (mOf 0 (names.take j.1)) j.1) (.exit 1) [] [] (fun j => r.ll - j.1) [1000, 1001] iCk (fun h => nomatch h) (fun _ => rfl) rfl ?_ ⟨0, Nat.zero_le _, he⟩; rintro ⟨j, hj, hE⟩; simp only
 by_cases h1 : j < r.ll
 ·obtain ⟨u, hu⟩ := ES' (l := l) (i := j) ω; obtain ⟨nm, hn⟩ := ES' (l := names) (i := j) ω; obtain ⟨a, x, ea, q1, q2⟩ := al.2 j u hu; obtain ⟨b, eb, p1⟩ := an.2 j nm hn
  rw [show j = j * 1 by omega] at p1
  have aA := all5 q1; obtain ⟨a1, a2, a3, a4, a5⟩ := c5 q1; have hw := CH' j ω; have hwd := CH' dep ω
  have e1 : decide (o' j < o' r.ll) = true := by rw [IG']; exact decide_eq_true h1
  have h2 : j < r.nl := ω
  have ht := hf u x (List.mem_of_getElem? hu) q2; rw [RL' hu] at hE; unfold errL at hE
  rw [Bool.true_and, show names.getD j nil0 = nm by rw [List.getD_eq_getElem?_getD, hn]; rfl] at hE
  have hl1 := PH' nm (names.take j) 0
  have hf1 : ∀ E : Env, findKey Θ E 9 (.v (.string nm)) (kE vs' ivE (mOf 0 (names.take j))) 0 = AP.ret (BP' (.v (.string nm)) (kE vs' ivE (mOf 0 (names.take j))) 0) := fun E => JH' JE' YI' nm _ 0
  have hs1 : KQ' (.v (.string nm)) (kE vs' ivE (mOf 0 (names.take j))) := WA' JE' nm _
  have htk : (names.take (j + 1)) = names.take j ++ [nm] := by rw [List.take_add_one, hn]; rfl
  obtain ⟨rk, rn, rt, rla, rll, rlc, rta, rtl, rtc⟩ := r; simp only at ea eb hk; subst ea eb hk
  cases hd : hasN (names.take j) nm with
  | true => rw [hd, if_pos rfl] at hE; exact absurd hE δ
  | false =>
   rw [hd] at hE hl1; rw [if_neg δ] at hE hl1; have hv1 := PD' nm (mOf 0 (names.take j)) _ hl1; obtain ⟨k1, k2⟩ := e6' hl1 j (o' 1)
   have hm2 : mOf 0 (names.take j) ++ [(nm, o' 1, j)] = mOf 0 (names.take (j + 1)) := by
    rw [htk, MO', Nat.zero_add, List.length_take, Nat.min_eq_left ω]; rfl
   have ho := m3' nm _ (mOf 0 (names.take (j + 1))) j (o' 1) (k1.trans hm2) (j + 1) k2
   have hv2 : GR' (BP' (v' (vs' nm)) (kE vs' ivE (mOf 0 (names.take (j + 1)))) 0) (vi' I' (o' 0)) = iv 1 := by
    refine PD' nm _ (some 1) ?_; rw [<- hm2]; exact YK' hl1 j 1
   have hf2 : ∀ E : Env, findKey Θ E 9 (.v (.string nm)) (kE vs' ivE (mOf 0 (names.take (j + 1)))) 0 = AP.ret (BP' (.v (.string nm)) (kE vs' ivE (mOf 0 (names.take (j + 1)))) 0) := fun E => JH' JE' YI' nm _ 0
   obtain ⟨h0, hE⟩ := if_0 hE; rw [h0] at ht
   refine ⟨[(fCk, cCk x (dep + 1) 0)], hCkR true j dep x nm 0 (mOf 0 (names.take (j + 1))) (j + 1) false false, [], fun F hF => BT' (a1' ht F hF), fun _ _ => noL, fun F => ?_⟩
   refine Yj (dU' W ⟨o' 6, rn, rt, none, rll, rlc, none, rtl, rtc⟩ x a b nm dep j (mOf 0 (names.take j)) (mOf 0 (names.take (j + 1))) j F) ⟨⟨?_, rfl, .inl ⟨rfl, ⟨j + 1, h1, hE⟩, C9' h1, [(1000, 1000), (1001, 1001)], by kernel_rfl, by kernel_rfl, ⟨Ya, Ya, Ya, Ya, Ya, Ya, Ya, Ye⟩, ⟨_, rfl, Yc⟩, ⟨_, rfl, by show OW _ (AO.map (renE _ (kE vs' ivE _)) _); rw [WO' _ vs' ivE (fun _ => rfl)]; exact Yc⟩, Ye⟩⟩⟩
   simp only [ch', e1, h1, h2, p1, aA, a1, a2, a3, a4, a5, hv1, hv2, Option.getD_some, Option.isSome_some, bl', true_and, and_true]; and_intros; all_goals first | exact hf1 _ | exact hf2 _ | exact hs1 | exact ho | exact Kb27'
 ·have hje : j = r.ll := ω
  subst hje; rw [hll, List.drop_length] at hE
  refine ⟨[], AD' [hf' fCk 18 0], [], fun _ _ => noC, fun _ _ => noL, fun F => ?_⟩
  refine Yj (Y6' W r dep (mOf 0 (names.take r.ll)) r.ll F) ⟨⟨?_, rfl, .inr ⟨rfl, [], by kernel_rfl, by kernel_rfl, Ye, Ye⟩⟩⟩
  have e1 : decide (o' r.ll < o' r.ll) = false := by rw [IG']; exact decide_eq_false (Nat.lt_irrefl _)
  exact Cb1'
theorem ckO1 (hs : Few r.t.size) (h0 : errE 1 r dep = 0) (h : LTri Θ W (AA' fCk 18) (tms 0 146 (aCk (kR 1 r) dep 0)) (oCk (kR 1 r) [] 0) (.exit 1) (tms 0 146 []) []) : Tri Θ W fCk [aggJ (kR 1 r), iv (o' dep)] [] (iv 0) [] := by
 obtain ⟨q0, h0⟩ := tt_0 δ h0; obtain ⟨q1, h0⟩ := tt_0 δ h0; obtain ⟨q2, h0⟩ := tt_0 δ h0; obtain ⟨q3, h0⟩ := tt_0 δ h0
 refine AN' (con := [(fNum, cNum)]) (hints := hCkO 1) (lc := [(fCk, 18, AA' fCk 18, lCkE True (kR 1 r) dep)]) [] rfl (fun F hF => BT' (JK' F hF)) (fun F hF => HS' (JD' (fun _ => h) F hF)) fun F => ?_
 refine Yj (dT' W True r dep F) ⟨⟨?_, (AJ' (vs' := [iv 0]) (H' := []) [] rfl rfl (Yb) trivial).fits rfl⟩⟩; exact Cb31'
theorem ckO2 (hs : Few r.t.size) (h0 : errE 2 r dep = 0) (h : LTri Θ W (AA' fCk 18) (tms 0 146 (aCk (kR 2 r) dep 0)) (oCk (kR 2 r) [] 0) (.exit 1) (tms 0 146 []) []) : Tri Θ W fCk [aggJ (kR 2 r), iv (o' dep)] [] (iv 0) [] := by
 obtain ⟨q0, h0⟩ := tt_0 δ h0; obtain ⟨q1, h0⟩ := tt_0 δ h0; obtain ⟨q2, h0⟩ := tt_0 δ h0; obtain ⟨q3, h0⟩ := tt_0 δ h0; obtain ⟨q4, h0⟩ := tt_0 δ h0
 refine AN' (con := [(fNum, cNum)]) (hints := hCkO 2) (lc := [(fCk, 18, AA' fCk 18, lCkE True (kR 2 r) dep)]) [] rfl (fun F hF => BT' (JK' F hF)) (fun F hF => HS' (JD' (fun _ => h) F hF)) fun F => ?_
 refine Yj (dS' W True r dep F) ⟨⟨?_, (AJ' (vs' := [iv 0]) (H' := []) [] rfl rfl (Yb) trivial).fits rfl⟩⟩; exact Cb32'
theorem ckO3 (hs : Few r.t.size) (h0 : errE 3 r dep = 0) (h : LTri Θ W (AA' fCk 18) (tms 0 146 (aCk (kR 3 r) dep 0)) (oCk (kR 3 r) [] 0) (.exit 1) (tms 0 146 []) []) : Tri Θ W fCk [aggJ (kR 3 r), iv (o' dep)] [] (iv 0) [] := by
 obtain ⟨q0, h0⟩ := tt_0 δ h0; obtain ⟨q1, h0⟩ := tt_0 δ h0; obtain ⟨q2, h0⟩ := tt_0 δ h0; obtain ⟨q3, h0⟩ := tt_0 δ h0; obtain ⟨q4, h0⟩ := tt_0 δ h0
 refine AN' (con := [(fNum, cNum)]) (hints := hCkO 3) (lc := [(fCk, 18, AA' fCk 18, lCkE True (kR 3 r) dep)]) [] rfl (fun F hF => BT' (JK' F hF)) (fun F hF => HS' (JD' (fun _ => h) F hF)) fun F => ?_
 refine Yj (dR' W True r dep F) ⟨⟨?_, (AJ' (vs' := [iv 0]) (H' := []) [] rfl rfl (Yb) trivial).fits rfl⟩⟩; exact Cb32'
theorem ckO4 (hs : Few r.t.size) (h0 : errE 4 r dep = 0) (h : LTri Θ W (AA' fCk 18) (tms 0 146 (aCk (kR 4 r) dep 0)) (oCk (kR 4 r) [] 0) (.exit 1) (tms 0 146 []) []) : Tri Θ W fCk [aggJ (kR 4 r), iv (o' dep)] [] (iv 0) [] := by
 obtain ⟨q0, h0⟩ := tt_0 δ h0; obtain ⟨q1, h0⟩ := tt_0 δ h0; obtain ⟨q2, h0⟩ := tt_0 δ h0
 refine AN' (con := [(fNum, cNum)]) (hints := hCkO 4) (lc := [(fCk, 18, AA' fCk 18, lCkE True (kR 4 r) dep)]) [] rfl (fun F hF => BT' (JK' F hF)) (fun F hF => HS' (JD' (fun _ => h) F hF)) fun F => ?_
 refine Yj (dQ' W True r dep F) ⟨⟨?_, (AJ' (vs' := [iv 0]) (H' := []) [] rfl rfl (Yb) trivial).fits rfl⟩⟩
 simp only [ch', bl', true_and, and_true]; and_intros; all_goals first | exact hs | exact A0' rfl | exact A0' q0 | exact A0' q1 | exact A0' q2 | exact Kb0'
theorem ckO5 (hs : Few r.t.size) (h0 : errE 5 r dep = 0) (h : LTri Θ W (AA' fCk 18) (tms 0 146 (aCk (kR 5 r) dep 0)) (oCk (kR 5 r) [] 0) (.exit 1) (tms 0 146 []) []) : Tri Θ W fCk [aggJ (kR 5 r), iv (o' dep)] [] (iv 0) [] := by
 obtain ⟨q0, h0⟩ := tt_0 δ h0; obtain ⟨q1, h0⟩ := tt_0 δ h0; obtain ⟨q2, h0⟩ := tt_0 δ h0; obtain ⟨q3, h0⟩ := tt_0 δ h0
 refine AN' (con := [(fNum, cNum)]) (hints := hCkO 5) (lc := [(fCk, 18, AA' fCk 18, lCkE True (kR 5 r) dep)]) [] rfl (fun F hF => BT' (JK' F hF)) (fun F hF => HS' (JD' (fun _ => h) F hF)) fun F => ?_
 refine Yj (dP' W True r dep F) ⟨⟨?_, (AJ' (vs' := [iv 0]) (H' := []) [] rfl rfl (Yb) trivial).fits rfl⟩⟩; exact Cb31'
theorem ckO6 (hs : Few r.t.size) (h0 : errE 6 r dep = 0) (h : LTri Θ W (AA' fCk 18) (tms 0 146 (aCk (kR 6 r) dep 0)) (oCk (kR 6 r) [] 0) (.exit 1) (tms 0 146 []) []) : Tri Θ W fCk [aggJ (kR 6 r), iv (o' dep)] [] (iv 0) [] := by
 obtain ⟨q0, h0⟩ := tt_0 δ h0; obtain ⟨q1, h0⟩ := tt_0 δ h0; obtain ⟨q2, h0⟩ := tt_0 δ h0; obtain ⟨q3, h0⟩ := tt_0 δ h0
 refine AN' (con := [(fNum, cNum)]) (hints := hCkO 6) (lc := [(fCk, 18, AA' fCk 18, lCkE True (kR 6 r) dep)]) [] rfl (fun F hF => BT' (JK' F hF)) (fun F hF => HS' (JD' (fun _ => h) F hF)) fun F => ?_
 refine Yj (dO' W True r dep F) ⟨⟨?_, (AJ' (vs' := [iv 0]) (H' := []) [] rfl rfl (Yb) trivial).fits rfl⟩⟩; exact Cb31'
theorem U5' (W : World) : ∀ (d : Nat) (v : Jv) (r : Rj) (dep : Nat), JAt W.cell? d v r -> wJ d v <= 4000000 -> dep <= 17 -> errJ d v dep = 0 -> Tri Θ W fCk [aggJ r, iv (o' dep)] [] (iv 0) []
 | 0, _, _, _, h, _, _, _ => h.elim
 | d + 1, v, r, dep, h, hw, hdep, hE => by
  obtain ⟨⟨i1, i2, i3, i4, i5⟩, al, af⟩ := h
  have hs : Few r.t.size := by
   have := hX' d v; rw [<- i3] at this; unfold Few; omega
  rw [errJ] at hE; obtain ⟨h1, h2⟩ := if_0 hE
  have hlE : ∀ (g : Jv -> Int) (o : Bool) (ns : List Δ) (l : List Jv) (j : Nat), errL g o ns j l = 0 -> ∀ u ∈ l, g u = 0 := by
   intro g o ns l
   induction l with
   | nil => intro j _ u hu; cases hu
   | cons x xs ih =>
    intro j h u hu; rw [errL] at h; split at h
    ·exact absurd h δ
    ·obtain ⟨q1, q2⟩ := if_0 h
     rcases List.mem_cons.1 hu with rfl | hu
     ·exact q1
     ·exact ih _ q2 u hu
  have hf : dep <= 16 -> ∀ u x, u ∈ v.list -> JAt W.cell? d u x -> Tri Θ W fCk [aggJ x, iv (o' (dep + 1))] [] (iv (errJ d u (dep + 1))) [] := fun hd u x hu hj => by
   have := wJ_mem (L := d) hu; have hz := hlE _ _ _ _ _ h2 u hu; rw [hz]; exact U5' W d u x (dep + 1) hj ω ω hz
  unfold errT at h1
  by_cases hlo : v.kind < 1
  ·rw [if_pos hlo] at h1; cases h1
  rw [if_neg hlo] at h1
  by_cases hhi : 6 < v.kind
  ·rw [if_pos hhi] at h1; cases h1
  rw [if_neg hhi] at h1
  obtain ⟨K, hK⟩ : ∃ K : Nat, v.kind = o' K := ⟨v.kind.toNat, by simp only [Z0]; omega⟩
  have hKn : v.kind.toNat = K := by rw [hK]; rfl
  have hrk : r.k = o' K := i1.trans hK; have hkr := some_e K hrk
  have hee : errE K r dep = 0 := by rw [hKn, <- i2, <- i3, <- i4, <- i5] at h1; exact h1
  have hKc : K = 1 \/ K = 2 \/ K = 3 \/ K = 4 \/ K = 5 \/ K = 6 := by
   have h1 : ¬ (K : Int) < 1 := by rw [hK] at hlo; exact hlo
   have h2 : ¬ 6 < (K : Int) := by rw [hK] at hhi; exact hhi
   omega
  have hobj : K ≠ 6 -> (v.kind == 6) = false := fun h => beq_eq_false_iff_ne.2 (by rw [hK]; intro e; exact h (Int.ofNat.inj e))
  have hsmall : K <= 4 -> LTri Θ W (AA' fCk 18) (tms 0 146 (aCk (kR K r) dep 0)) (oCk (kR K r) [] 0) (.exit 1) (tms 0 146 []) [] := fun h4 => by
   have hll := n0' ω h4 hee; have hnil : v.list = [] := List.eq_nil_of_length_eq_zero ω; rw [hkr]; exact gW' (d := d) (l := v.list) (names := v.names) (f := fun x => errJ d x (dep + 1)) ω (fun u x hu => by rw [hnil] at hu; cases hu) al i4 (.inr hll) (by rw [<- hobj ω]; exact h2)
  rcases hKc with rfl | rfl | rfl | rfl | rfl | rfl
  ·have := ckO1 hs hee (hsmall δ); rw [hkr] at this; exact this
  ·have := ckO2 hs hee (hsmall δ); rw [hkr] at this; exact this
  ·have := ckO3 hs hee (hsmall δ); rw [hkr] at this; exact this
  ·have := ckO4 hs hee (hsmall δ); rw [hkr] at this; exact this
  ·have hl := gW' (d := d) (l := v.list) (names := v.names) (f := fun x => errJ d x (dep + 1)) ω (hf (TJ' (.inl rfl) hee)) al i4 (.inl hrk) (by rw [<- hobj δ]; exact h2); rw [<- hkr] at hl; have := ckO5 hs hee hl; rw [hkr] at this; exact this
  ·have hob : (v.kind == 6) = true := by rw [hK]; rfl
   have hnl := ZC' hee; rw [hob] at h2; have hl := ck6_ok (d := d) (l := v.list) (names := v.names) (f := fun x => errJ d x (dep + 1)) ω (hf (TJ' (.inr rfl) hee)) al af i4 i5 ω hrk h2; rw [<- hkr] at hl; have := ckO6 hs hee hl; rw [hkr] at this; exact this
variable {W : World}
theorem nT' (hW : LWQ W) {d : Nat} {v : Jv} {r : Rj} (h : JAt W.cell? d v r) (hw : wJ d v <= 4000000) (he : errJ d v 1 = 0) (hl : (B1' d v).length <= 999998000) : Tri Θ W fWr [aggJ r] [] (.tuple [sv (tB (B1' d v)), iv 0]) [] := by
 have hc := U5' W d v r 1 h hw δ he
 have h0 : 0 < (tB (B1' d v)).size := by rw [DJ']; exact W3' h he
 have h1 : (tB (B1' d v)).size <= 1000000000 := by rw [DJ']; omega
 refine AN' (con := [(fCk, cCk r 1 0), (fwr, cwr0 r (B1' d v)), (fSt, cStr (tB (B1' d v)))]) (hints := AD' [hf' fWr 2 1]) (lc := []) [] rfl (fun F hF => AP' (a1' hc F hF) (AP' (n5' (QN' hW d v r 1 h he) F hF) (BT' (n8' _ F hF)))) (fun F _ => noL) fun F => ?_
 refine Yj (j3' W r (B1' d v) F) ⟨⟨?_, (AJ' (vs' := [.tuple [sv (tB (B1' d v)), iv 0]]) (H' := []) [] rfl rfl (Yb) trivial).fits rfl⟩⟩
 simp only [ch', bl', true_and, and_true]; and_intros; all_goals first | (with_reducible exact h0) | (with_reducible exact h1) | exact Kb0'
end Go.Proofs.YtdphpillcaajpaaDoor.Js
