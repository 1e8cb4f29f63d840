/- The engine's code does what the model's does. No program. -/
import Derived.Test.YtnnojnlejlokhaaGreatDoorEngReg
set_option linter.unusedVariables false
set_option linter.unusedSimpArgs false
namespace Go.Proofs.YtnnojnlejlokhaaGreatDoor.Eng
open Go Go.RowKit
variable {a : Act} {tmps : List AV} {x : AV} {y : Value}
section
variable {N : A9'}
theorem VRs.set {l : List AV} {r : List Value} (h : VRs N l r) (k : Nat) (hxy : VR N x y) : VRs N (l.set k x) (r.set k y) := by
 induction l generalizing r k with
 | nil => simp only [VRs] at h; subst h; simp [VRs]
 | cons a l ih =>
  simp only [VRs] at h; obtain ⟨b, r0, h1, h2, rfl⟩ := h
  cases k with
  | zero => exact AD'.2 ⟨hxy, h2⟩
  | succ k => exact AD'.2 ⟨h1, ih h2 k⟩
theorem HL' : VR N AV.undef Go.undef := VR_v.2 rfl
theorem VRs.getD {l : List AV} {r : List Value} (h : VRs N l r) (k : Nat) : VR N (l.getD k AV.undef) (r.getD k Go.undef) := by
 cases hk : l[k]? with
 | none =>
  have : l.length <= k := List.getElem?_eq_none_iff.1 hk; have hr : r[k]? = none := List.getElem?_eq_none (by rw [<- h.len]; exact this); simp only [List.getD, hk, hr, Option.getD_none]; exact HL'
 | some x =>
  obtain ⟨y, hy, hv⟩ := h.get hk; simp only [List.getD, hk, hy, Option.getD_some]; exact hv
theorem UX' (h : VRs N tmps a.tmps.toList) (x : Operand) : VR N (IP' tmps x) (a.eval x) := by
 cases x with
 | tmp t =>
  have := h.getD t; simpa [IP', Q6', Act.eval, List.getD] using this
 | const v => exact VR_v.2 rfl
 | global g => exact VR_v.2 rfl
 | func f => exact VR_v.2 rfl
theorem RA' (h : VRs N tmps a.tmps.toList) (dst : Option Tmp) (hxy : VR N x y) : VRs N (putA tmps dst x) (a.put dst y).tmps.toList := by
 cases dst with
 | none => exact h
 | some d =>
  simp only [putA, Act.put, Array.toList_setIfInBounds]; exact h.set d hxy
theorem put_defers (a : Act) (dst : Option Tmp) (y : Value) : (a.put dst y).defers = a.defers := by cases dst <;> rfl
theorem hK' (h : VR N x y) (hx : x.known = true) (b : Bool) : (match x with | .v (.bool b) => some b | .lit b => some b | _ => none) = some b ↔ y = .bool b := by
 cases x with
 | lit z => rw [EF'] at h; subst h; simp
 | v z =>
  rw [VR_v] at h; subst h
  cases y <;> simp
 | any => cases hx
 | _ =>
  simp only [VR] at h
  first
   | (obtain ⟨_, _, rfl⟩ := h; simp; done)
   | (obtain ⟨_, _, _, rfl⟩ := h; simp; done)
   | (obtain ⟨_, _, _, _, rfl, _⟩ := h; simp; done)
   | (obtain ⟨_, _, _, _, rfl⟩ := h; simp; done)
theorem SC' (h : VRs N tmps a.tmps.toList) (ops : Array Oper) (j : Nat) (hk : ((ops[j]?).bind (·.dst)).bind (tmps[·]?) ≠ some .any) : C9' ops tmps j = yielded ops a.tmps j := by
 unfold C9' yielded
 cases ht : (ops[j]?).bind (·.dst) with
 | none => rfl
 | some t =>
  rw [ht] at hk; simp only [Option.bind_some] at hk ⊢
  cases hx : tmps[t]? with
  | none =>
   have hr : a.tmps[t]? = none := by
    have : a.tmps.toList[t]? = none := List.getElem?_eq_none (by rw [<- h.len]; exact List.getElem?_eq_none_iff.1 hx); simpa using this
   rw [hr]
  | some x =>
   obtain ⟨y, hy, hv⟩ := h.get hx
   have hy' : a.tmps[t]? = some y := by simpa using hy
   rw [hy']
   have hkn : x.known = true := by
    cases x with
    | any => rw [hx] at hk; exact absurd rfl hk
    | _ => rfl
   have hb := fun b => hK' hv hkn b
   cases x with
   | v z =>
    rw [VR_v] at hv; subst hv
    cases y <;> rfl
   | lit z => rw [EF'] at hv; subst hv; rfl
   | _ =>
    cases y with
    | bool b => have := (hb b).2 rfl; cases this
    | _ => rfl
theorem TG' (h : VRs N tmps a.tmps.toList) (ops : Array Oper) (o : Oper) (hb : L7' ops tmps o = false) : Region.wanted o (C9' ops tmps) = Region.wanted o (yielded ops a.tmps) := by
 unfold Region.wanted; unfold L7' at hb
 cases hg : o.guard with
 | none => rfl
 | some gw =>
  obtain ⟨g, want⟩ := gw; rw [hg] at hb; simp only at hb ⊢; rw [SC' h ops g (fun he => by rw [he] at hb; cases hb)]
end
def DV' (W0 : World) (F : HP) (N : A9') (v : AV) (h' : T) (n n' : Nat) (e : Ending) (w' : World) : Prop :=
 ∃ y N', e = .returned y /\ Rep W0 N' F h' w' /\ VR N' v y /\ Ext N N' n n'
def IC' (U : List PanicEntry -> World -> Prop) (W0 : World) (F : HP) (N : A9') (v : AV) (h' : T) (n n' : Nat) (e : Ending) (w' : World) : Prop :=
 DV' W0 F N v h' n n' e w' \/ ∃ ch, e = .panicked ch /\ U ch w'
def UpOK (E : Env) (W0 : World) (a : Act) (Q : Exit -> Act -> World -> Prop) : Prop := ∀ ch a' w', a'.defers = a.defers -> E.pan W0 ch w' -> Q (.panic ch) a' w'
theorem UpOK.of {E : Env} {W0 : World} {b : Act} {Q : Exit -> Act -> World -> Prop} (h : UpOK E W0 a Q) (hd : b.defers = a.defers) : UpOK E W0 b Q := fun ch a' w' h1 h2 => h ch a' w' (h1.trans hd) h2
def HJ' (P : Program) (E : Env) (rc : Rc) : Prop :=
 ∀ (st : Bool) (W0 : World) (N : A9') (h : T) (w : World) (f : FuncId) (args : List AV) (vargs : Array Value) (v : AV) (h' : T) (n n' : Nat) (lg lg' : Log) (c : Cnd),
  (match E.con f (args.map AV.plain) with | some p => p | none => K3' E rc f (args.map AV.plain)).run st h n lg = .ok v h' n' lg' c -> c -> Rep W0 N E.F h w -> VRs N args vargs.toList -> BW' N n n' -> Calls P f vargs w (IC' (E.pan W0) W0 E.F N v h' n n')
section
variable {P : Program} {E : Env} {rc : Rc} {hn : Nat -> Option Hint} {st : Bool} {ops : Array Oper} {R : Nat -> Rcd} {W0 w : World} {N : A9'} {F : HP}
theorem LL' (hE : EnvOk P E) {k : AP AV} : ∀ {l : List (Nat × AO)} {v : AV} {h h' : T} {n n' : Nat} {lg lg' : Log} {c : Cnd}, (bB' E k l).run st h n lg = .ok v h' n' lg' c -> c.holds ->
  ∃ h1 lg1 c1, k.run st h1 n lg1 = .ok v h' n' lg' c1 /\ c1.holds /\ ∀ N w, Rep W0 N F h w -> Rep W0 N F h1 w
 | [], v, h, h', n, n', lg, lg', c, he, hc => ⟨h, lg, c, he, hc, fun N w r => r⟩
 | x :: l, v, h, h', n, n', lg, lg', c, he, hc => by
  obtain ⟨o, ho, he1⟩ := BM' he; obtain ⟨c1, he2, rfl⟩ := AG' he1; rw [Cnd.and_iff] at hc; have how : E.ow o x.2 := hc.1; obtain ⟨o2, ho2, he3⟩ := B2' he2; obtain ⟨h1, lg1, c2, e1, e2, e3⟩ := LL' hE he3 hc.2
  refine ⟨h1, lg1, c2, e1, e2, fun N w r => e3 N w ?_⟩
  refine ⟨r.os, r.tape, r.output, ?_⟩; obtain ⟨D0, D, q1, q2, q3⟩ := r.sat
  have hfd : ∀ i o', (T.set T.depth h x.1 (.leaf x.2)).find i = some o' -> ∃ o1, h.find i = some o1 /\ OW o1 o' := by
   intro i o' hi; rw [T.find_set (T.lt_of_find ho)] at hi
   by_cases e : i = x.1
   ·rw [if_pos e] at hi; have hi' : some x.2 = some o' := hi; cases hi'
    exact ⟨o, by rw [e]; exact ho, hE.ow _ _ how⟩
   ·rw [if_neg e] at hi; exact ⟨o', hi, OW.refl _⟩
  refine ⟨D0, D, q1, fun i o' hi => ?_, fun i j o1 o2 hi hj => ?_⟩
  ·obtain ⟨o1, e1, e2⟩ := hfd i o' hi; exact ⟨e2 _ _ _ _ (q2 i o1 e1).1, (q2 i o1 e1).2⟩
  ·obtain ⟨p1, e1, _⟩ := hfd i o1 hi; obtain ⟨p2, e2, _⟩ := hfd j o2 hj; exact q3 i j p1 p2 e1 e2
theorem SS' (hE : EnvOk P E) {t : Hint} {v u : AV} {h h' : T} {n n' : Nat} {lg lg' : Log} {c : Cnd} (he : (hintA E t v).run st h n lg = .ok u h' n' lg' c) (hc : c.holds) :
  n' = n /\ ∀ N w, Rep W0 N F h w -> ∀ y, VR N v y -> Rep W0 N F h' w /\ VR N u y := by
 obtain ⟨h1, lg1, c1, e1, e2, e3⟩ := LL' (F := F) (W0 := W0) hE he hc; split at e1
 ·rename_i j hj; obtain ⟨o, ho, he1⟩ := BM' e1; split at he1
  ·rename_i i b; split at he1
   ·obtain ⟨c2, he2, rfl⟩ := AG' he1; obtain ⟨rfl, rfl, rfl⟩ := AB' he2; have hw : E.wk _ (.v (.map (some b))) := ((Cnd.and_iff _ _).1 e2).1
    refine ⟨rfl, fun N w r y hy => ⟨e3 N w r, ?_⟩⟩
    obtain ⟨D, _, rm, hl⟩ := (e3 N w r).obj ho; have hy2 := VR_v.1 (hE.wk _ _ hw N y hy); simp only [VR]
    exact ⟨_, hl, by rw [hy2]⟩
   ·obtain ⟨c2, he2, rfl⟩ := AG' he1; obtain ⟨rfl, rfl, rfl⟩ := AB' he2; have hw : E.wk v (.v (.pointer (some ⟨b, 0, none⟩))) := ((Cnd.and_iff _ _).1 e2).1
    refine ⟨rfl, fun N w r y hy => ⟨e3 N w r, ?_⟩⟩
    obtain ⟨D, _, rm, hl⟩ := (e3 N w r).obj ho; have hy2 := VR_v.1 (hE.wk _ _ hw N y hy); simp only [VR]
    exact ⟨_, hl, by rw [hy2]⟩
  ·exact (A4' he1).elim
 ·split at e1
  ·rename_i u' hu; obtain ⟨c2, he2, rfl⟩ := AG' e1; obtain ⟨rfl, rfl, rfl⟩ := AB' he2; have hw : E.wk v _ := ((Cnd.and_iff _ _).1 e2).1
   exact ⟨rfl, fun N w r y hy => ⟨e3 N w r, hE.wk _ _ hw N y hy⟩⟩
  ·obtain ⟨rfl, rfl, rfl⟩ := AB' e1
   exact ⟨rfl, fun N w r y hy => ⟨e3 N w r, hy⟩⟩
theorem S3' (hE : EnvOk P E) (hC : HJ' P E rc) {i : Nat} {s s' : S} (hs : AStep P E rc hn st ops R i s s') (r : Rep W0 N E.F s.2 w) (ht : VRs N s.1 a.tmps.toList) (hf : (R i).want = true -> BW' N (R i).lo (R i).hi) (hc : (R i).want = true -> (R i).c)
  {K : Act -> World -> Prop} {Q : Exit -> Act -> World -> Prop} (hU : UpOK E W0 a Q)
  (hK : ∀ N' a' w', Rep W0 N' E.F s'.2 w' -> VRs N' s'.1 a'.tmps.toList -> a'.defers = a.defers -> (∀ k, ¬ ((R i).want = true /\ (R i).lo <= k /\ k < (R i).hi) -> N' k = N k) -> K a' w') : wpOp P ops Q i K a w := by
 obtain ⟨o, ho, hbl, hw, hs⟩ := hs
 have hw' : Region.wanted o (yielded ops a.tmps) = (R i).want := by rw [<- hw]; exact (TG' ht ops o hbl).symm
 unfold wpOp; simp only [ho]
 rcases hs with ⟨hwt, h1, hwk, hh', he, hfind⟩ | ⟨hwf, h1, hfind⟩
 ·rw [if_pos (by rw [hw', hwt])]; refine .inl ?_; have hfr := hf hwt; have hcw := hc hwt
  -- the operation, then what is said of it
  have hsplit : ∃ alt v0 g0 n0 lg0 c0, (M5' alt P E rc o s.1).run st s.2 (R i).lo [] = .ok v0 g0 n0 lg0 c0 /\ c0.holds /\ n0 = (R i).hi /\
    ∀ N' w', Rep W0 N' E.F g0 w' -> ∀ y, VR N' v0 y -> Rep W0 N' E.F hh' w' /\ VR N' (R i).v y := by
   unfold DQ' at he
   cases hh : hn i with
   | none =>
    rw [hh] at he
    exact ⟨.no, _, _, _, _, _, he, hcw, rfl, fun N' w' r' y hy => ⟨r', hy⟩⟩
   | some t =>
    rw [hh] at he; obtain ⟨v0, g0, n0, lg0, c1, c2, e1, e2, k1⟩ := run_bind _ _ he; obtain ⟨hn0, hpost⟩ := SS' hE e2 (k1 hcw).2; exact ⟨t.alt, v0, g0, n0, lg0, c1, e1, (k1 hcw).1, hn0.symm, hpost⟩
  obtain ⟨alt, v0, g0, n0, lg0, c0, he0, hc0, rfl, hpost⟩ := hsplit; unfold M5' at he0; obtain ⟨an, g1, n1, lg1, c1, c2, e1, e2, e3⟩ := run_bind _ _ he0; have hcc := e3 hc0; have hle1 := E4' _ e1; have hle2 := E4' _ e2; obtain ⟨nx, w1, N1, hrun, r1, x1, hnx⟩ := T6' hE r (fun x => UX' ht x) (hfr.left hle2) e1 hcc.1; have hN1 := x1.le (hfr.left hle2); unfold Oper.wp; rw [hrun]
  cases nx with
  | value y =>
   obtain ⟨x, rfl, hv⟩ := hnx; obtain ⟨hx, hg, hn⟩ := A7' e2; obtain ⟨r2, hv2⟩ := hpost N1 w1 (by rw [hg]; exact r1) y (by rw [hx]; exact hv); refine hK N1 _ w1 (r2.heap hfind) ?_ (put_defers _ _ _) (fun k hk => x1 k (fun hh => hk ⟨hwt, hh.1, by omega⟩)); rw [h1]; exact RA' (ht.mono hN1) _ (hwk _ _ hv2)
  | skip =>
   have hnx' : an = .value AV.undef := hnx; subst hnx'; obtain ⟨hx, hg, hn⟩ := A7' e2; obtain ⟨r2, hv2⟩ := hpost N1 w1 (by rw [hg]; exact r1) Go.undef (by rw [hx]; exact HL'); refine hK N1 _ w1 (r2.heap hfind) ?_ (put_defers _ _ _) (fun k hk => x1 k (fun hh => hk ⟨hwt, hh.1, by omega⟩)); rw [h1]; exact RA' (ht.mono hN1) _ (hwk _ _ hv2)
  | enter f as =>
   obtain ⟨xs, rfl, hv⟩ := hnx; have hcall := hC st W0 N1 g1 w1 f xs as v0 g0 n1 (R i).hi lg1 lg0 c2 e2 hcc.2 r1 hv (hfr.right x1 hle1)
   refine Calls.mono hcall fun e w2 hpo => ?_
   rcases hpo with ⟨y, N2, hy, r2, hv2, x2⟩ | ⟨ch, hy, hu⟩
   case inr => subst hy; exact hU ch a w2 rfl hu
   subst hy; have hx := x1.trans x2 hle1 hle2; obtain ⟨r3, hv3⟩ := hpost N2 w2 r2 y hv2; refine hK N2 _ w2 (r3.heap hfind) ?_ (put_defers _ _ _) (fun k hk => hx k (fun hh => hk ⟨hwt, hh⟩)); rw [h1]; exact RA' (ht.mono (hx.le hfr)) _ (hwk _ _ hv3)
  | _ => exact hnx.elim
 ·rw [if_neg (by rw [hw', hwf]; simp)]; refine hK N _ w (r.heap hfind) ?_ (put_defers _ _ _) (fun _ _ => rfl); rw [h1]; exact RA' ht _ HL'
def hU' (R : Nat -> Rcd) (m : Nat) : Prop := ∀ i j, i < m -> j < m -> i ≠ j -> (R i).want = true -> (R j).want = true -> ∀ k, ¬ (((R i).lo <= k /\ k < (R i).hi) /\ ((R j).lo <= k /\ k < (R j).hi))
def hT' (R : Nat -> Rcd) (m k : Nat) : Prop := ∃ i, i < m /\ (R i).want = true /\ (R i).lo <= k /\ k < (R i).hi
def Ends (W0 : World) (F : HP) (N0 : A9') (R : Nat -> Rcd) (m : Nat) (z : S) (a : Act) (K : Act -> World -> Prop) : Prop :=
 ∀ N' a' w', Rep W0 N' F z.2 w' -> VRs N' z.1 a'.tmps.toList -> a'.defers = a.defers -> (∀ k, ¬ hT' R m k -> N' k = N0 k) -> K a' w'
theorem KR' (hE : EnvOk P E) (hC : HJ' P E rc) {N0 : A9'} {z : S} {Q : Exit -> Act -> World -> Prop} (hap : hU' R ops.size) : ∀ (l : List Nat) {s : S} {a : Act} {w : World} {N : A9'}, (∀ i ∈ l, i < ops.size) -> l.Nodup -> GZ' P E rc hn st ops R l s z -> Rep W0 N E.F s.2 w -> VRs N s.1 a.tmps.toList ->
  (∀ i ∈ l, (R i).want = true -> BW' N (R i).lo (R i).hi) -> (∀ i ∈ l, (R i).want = true -> (R i).c) -> (∀ k, ¬ hT' R ops.size k -> N k = N0 k) -> UpOK E W0 a Q -> Ends W0 E.F N0 R ops.size z a (Q .normal) -> wpOps P ops Q l a w
 | [], s, a, w, N, _, _, hch, r, ht, _, _, hN, _, hend => by
  cases hch; exact hend N a w r ht rfl hN
 | i :: l, s, a, w, N, hlt, hnd, ⟨s', h1, h2⟩, r, ht, hf, hc, hN, hU, hend => by
  rw [wpOps_cons]; have hi : i < ops.size := hlt i (by simp); rw [List.nodup_cons] at hnd
  refine S3' hE hC h1 r ht (hf i (by simp)) (hc i (by simp)) hU fun N' a' w' r' ht' hd' hx => ?_
  refine KR' hE hC hap l (fun j hj => hlt j (by simp [hj])) hnd.2 h2 r' ht' (fun j hj hwj k h3 h4 => ?_) (fun j hj => hc j (by simp [hj])) (fun k hk => ?_) (hU.of hd') (fun N2 a2 w2 r2 t2 d2 x2 => hend N2 a2 w2 r2 t2 (d2.trans hd') x2)
  ·rw [hx k (fun hh => ?_)]
   ·exact hf j (by simp [hj]) hwj k h3 h4
   ·exact hap i j hi (hlt j (by simp [hj])) (fun e => hnd.1 (e ▸ hj)) hh.1 hwj k ⟨hh.2, h3, h4⟩
  ·rw [hx k (fun hh => hk ⟨i, hi, hh⟩)]; exact hN k hk
end
end Go.Proofs.YtnnojnlejlokhaaGreatDoor.Eng
