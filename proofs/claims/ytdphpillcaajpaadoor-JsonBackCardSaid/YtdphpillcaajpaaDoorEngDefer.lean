/- A function that defers one closure, which does nothing where the function returns. No program. -/
import Derived.Test.YtdphpillcaajpaaDoorEngClosed
import Derived.Recover
set_option linter.unusedVariables false
set_option linter.unusedSimpArgs false
namespace Go.Proofs.YtdphpillcaajpaaDoor.Eng
open Go Go.RowKit
variable {h h' : T} {n n' m fP g fuel : Nat} {lg lg' : Log} {c : Cnd}
noncomputable section
def R2' : AX -> AP Unit
 | .normal => .ret ()
 | _ => .fail "defer an exit"
def endsA : AX -> AP Unit
 | .normal | .ret => .ret ()
 | .exit _ => .fail "defer an exit"
def TN' (E : Env) (rc : Rc) (g : FuncId) (m : Nat) (f : FuncId) (args : List AV) : AP AV := do
 let fn <- AP.opt "function" (E.fn f)
 match fn.body with
 | some (.seq A (.seq B (.seq (.region _ ops false) D))) =>
  match ops.toList with
  | [⟨some d1, .makeFunc (.func g') first caps, _, _, _, none⟩, ⟨d2, .defer ⟨.value (.tmp d), dargs, _⟩, _, _, _, none⟩] => do
   AQ' (Nat.beq g g') "defer of what"
   AQ' (Nat.beq d d1) "defer of what"
   AQ' (Nat.beq caps.toList.length m) "defer of how much"
   AQ' first.toList.isEmpty "defer first"
   AQ' dargs.toList.isEmpty "defer arguments"
   let (x1, t1) <- rc f A (args ++ List.replicate (fn.ntmps - args.length) AV.undef)
   R2' x1
   let (x2, t2) <- rc f B t1
   R2' x2
   AQ' (Nat.blt d1 t2.length) "defer place"
   let (x4, t4) <- rc f D (putA (t2.set d1 (.func (.func g') [] (caps.toList.map (HE' t2)))) d2 AV.undef)
   endsA x4
   let rs <- CK' E t4 fn.results.toList
   match rs with
   | [x] => pure x
   | _ => pure (.tuple rs)
  | _ => .fail "defer operations"
 | _ => .fail "defer shape"
section
variable {P : Program} {E : Env} {rc : Rc} {W0 w : World} {N : A5'} {st : Bool}
theorem MR' {α : Type} {r : α} {x : AX} {f : Unit -> AP α} (he : (R2' x >>= f).run st h n lg = .ok r h' n' lg' c) : x = .normal /\ (f ()).run st h n lg = .ok r h' n' lg' c := by
 cases x with
 | normal => exact ⟨rfl, he⟩
 | _ => cases he
theorem eC' {α : Type} {r : α} {x : AX} {f : Unit -> AP α} (he : (endsA x >>= f).run st h n lg = .ok r h' n' lg' c) : (x = .normal \/ x = .ret) /\ (f ()).run st h n lg = .ok r h' n' lg' c := by
 cases x with
 | normal => exact ⟨.inl rfl, he⟩
 | ret => exact ⟨.inr rfl, he⟩
 | exit _ => cases he
def Idle (P : Program) (g : FuncId) (m : Nat) : Prop := ∀ (vs : Array Value) (w : World), vs.size = m -> CallsD P g vs .returning w fun e u' w' => u' = .returning /\ (∃ v, e = .returned v) /\ w' = w
theorem SI' (hE : EnvOk P E) (r : Rep W0 N E.F h w) {fn : Func} {t : List AV} {a : Act} (ht : VRs N t a.tmps.toList) {v : AV} (hc : c)
  (he : (CK' E t fn.results.toList >>= fun rs => match rs with | [x] => (pure x : AP AV) | _ => pure (.tuple rs)).run st h n lg = .ok v h' n' lg' c) :
  h' = h /\ n' = n /\ ∃ y, (results fn a.tmps).run P w = .ok y w /\ VR N v y := by
 obtain ⟨vs, g2, n2, lg2, c3, c4, e4, e5, k1⟩ := run_bind _ _ he; obtain ⟨rfl, rfl, ys, hv, hr⟩ := DB' hE r ht _ e4 (k1 hc).1
 have hres : ∀ y, (if hz : ys.toArray.size = 1 then ys.toArray[0] else .tuple ys.toArray) = y -> (results fn a.tmps).run P w = .ok y w := by
  intro y hy; unfold results; rw [Array.mapM_eq_mapM_toList]; simp only [Sem.run_bind, Sem.run_map]
  erw [hr]
  simp only [Result.andThen_ok, Sem.run_pure]; rw [<- hy]
 have hl := hv.len; clear e4
 match vs, ys, hv, hl, e5, hres with
 | [x], [y], hv, _, e5, hres =>
  obtain ⟨rfl, rfl, rfl⟩ := A6' e5; exact ⟨rfl, rfl, y, hres y (by simp), (AC'.1 hv).1⟩
 | [], [], hv, _, e5, hres =>
  obtain ⟨rfl, rfl, rfl⟩ := A6' e5
  exact ⟨rfl, rfl, .tuple #[], hres _ (by simp), by simp only [VR]; exact ⟨[], AU', rfl⟩⟩
 | x1 :: x2 :: xs, y1 :: y2 :: ys', hv, _, e5, hres =>
  obtain ⟨rfl, rfl, rfl⟩ := A6' e5
  exact ⟨rfl, rfl, .tuple (y1 :: y2 :: ys').toArray, hres _ (by simp), by simp only [VR]; exact ⟨_, hv, rfl⟩⟩
theorem RM' (hE : EnvOk P E) (hR : RcOK0 P E rc) {g f : FuncId} (hbody : ∀ (args : Array Value) (w : World), (callFunc g args).run P w = .ok (.enter g args) w) (hg : Idle P g m) {args : List AV} {vargs : Array Value} {v : AV}
  (he : (TN' E rc g m f args).run st h n lg = .ok v h' n' lg' c) (hc : c) (r : Rep W0 N E.F h w) (ha : VRs N args vargs.toList) (hf : BE' N n n') :
  Calls P f vargs w (DF' W0 E.F N v h' n n') := by
 unfold TN' at he; obtain ⟨fn, hfn, he1⟩ := BO' he; clear he; split at he1
 ·rename_i A B rid ops D hb; split at he1
  ·rename_i d1 g' first caps ty1 po1 af1 d2 d dargs dts ty2 po2 af2 hops
   obtain ⟨q1, he2⟩ := AB' he1; obtain ⟨q2, he3⟩ := AB' he2; obtain ⟨qm, he3'⟩ := AB' he3; obtain ⟨q3, he4⟩ := AB' he3'; obtain ⟨q4, he5⟩ := AB' he4; clear he1 he2 he3 he3' he4; obtain ⟨⟨x1, t1⟩, g1, n1, lg1, c1, c1', e1, he6, k1⟩ := run_bind (rc f A _) _ he5; obtain ⟨rfl, he7⟩ := MR' he6; obtain ⟨⟨x2, t2⟩, g2, n2, lg2, c2, c2', e2, he8, k2⟩ := run_bind (rc f B _) _ he7; obtain ⟨rfl, he9⟩ := MR' he8; obtain ⟨q5, he10⟩ := AB' he9; obtain ⟨⟨x4, t4⟩, g4, n4, lg4, c4, c4', e4, he11, k4⟩ := run_bind (rc f D _) _ he10; obtain ⟨hx4, he12⟩ := eC' he11; clear he5 he6 he7 he8 he9 he10 he11; obtain rfl : g = g' := Nat.eq_of_beq_eq_true q1; obtain rfl : d = d1 := Nat.eq_of_beq_eq_true q2
   have q5 : d < t2.length := by simpa [Nat.blt_eq] using q5
   have hle1 := D3' _ e1; have hle2 := D3' _ e2; have hle4 := D3' _ e4; have hle5 := D3' _ he12
   have hops' : ops = [⟨some d, .makeFunc (.func g) first caps, ty1, po1, af1, none⟩, ⟨d2, .defer ⟨.value (.tmp d), dargs, dts⟩, ty2, po2, af2, none⟩].toArray := by apply Array.ext'; simpa using hops
   have hfirst : first = #[] := by apply Array.ext'; simpa using q3
   have hdargs : dargs = #[] := by apply Array.ext'; simpa using q4
   subst hfirst hdargs
   have hlen : args.length = vargs.size := by rw [ha.len]; simp
   have ht0 : VRs N (args ++ List.replicate (fn.ntmps - args.length) AV.undef) (vargs ++ Array.replicate (fn.ntmps - vargs.size) Go.undef).toList := by
    rw [Array.toList_append, Array.toList_replicate, hlen]; refine ha.append ?_
    generalize fn.ntmps - vargs.size = k
    induction k with
    | zero => exact AU'
    | succ k ih => exact AC'.2 ⟨EJ', ih⟩
   refine calls_of_wp_defers (hE.fn _ _ hfn) hb ?_; refine wp_seq ?_
   refine hR st W0 N h w f A _ t1 .normal _ g1 n n1 lg lg1 c1 _ e1 (k1 hc).1 r ht0 (hf.left ω) fun N1 a1 w1 r1 t1' d1' x1' => ?_
   show Code.wp P _ _ a1 w1; have hf1 := hf.right x1' hle1; refine wp_seq ?_
   refine hR st W0 N1 g1 w1 f B _ t2 .normal _ g2 n1 n2 lg1 lg2 c2 _ e2 (k2 (k1 hc).2).1 r1 t1' (hf1.left ω) fun N2 a2 w2 r2 t2' d2' x2' => ?_
   show Code.wp P _ _ a2 w2; have hf2 := hf1.right x2' hle2; refine wp_seq ?_; rw [hops']; refine wp_region_lit ?_; have hcaps : VRs N2 (caps.toList.map (HE' t2)) (caps.toList.map a2.eval) := VRs.map (fun x => GS' t2' x) _
   have hcm : caps.map a2.eval = (caps.toList.map a2.eval).toArray := by apply Array.ext'; simp
   have hd2 : d < a2.tmps.size := by
    have h0 : t2.length = a2.tmps.toList.length := t2'.len; have h1 : a2.tmps.toList.length = a2.tmps.size := rfl; exact Nat.lt_of_lt_of_eq q5 (h0.trans h1)
   refine DH' (by rfl) fun K hK => ?_
   have hrun1 : (execOp a2.eval ⟨some d, .makeFunc (.func g) #[] caps, ty1, po1, af1, none⟩).run P w2 = .ok (.value (.func (.func g) #[] (caps.map a2.eval))) w2 := by
    simp [execOp, Instr.makeFunc, Sem.run_bind]
   unfold Oper.wp; rw [hrun1]; refine hK _ _ ?_; clear hK K
   refine DH' (by rfl) fun K hK => ?_
   have hev : (a2.put (some d) (.func (.func g) #[] (caps.map a2.eval))).eval (.tmp d) = .func (.func g) #[] (caps.map a2.eval) := by
    simp [Act.eval, Act.put, hd2]
   have hrun2 : (execOp (a2.put (some d) (.func (.func g) #[] (caps.map a2.eval))).eval ⟨d2, .defer ⟨.value (.tmp d), #[], dts⟩, ty2, po2, af2, none⟩).run P w2 = .ok (.defer { target := .fn (.func g) (caps.map a2.eval), args := #[] }) w2 := by
    simp only [execOp, resolve, hev, Deferred.ofValue, Sem.run_bind, Sem.run_pure, Result.andThen_ok]; simp
   unfold Oper.wp; rw [hrun2, Oper.upon_defer]; refine hK _ _ ?_; clear hK K; show Code.wp P D _ _ w2
   have ht3 : VRs N2 (putA (t2.set d (.func (.func g) [] (caps.toList.map (HE' t2)))) d2 AV.undef) ({ (a2.put (some d) (.func (.func g) #[] (caps.map a2.eval))) with defers := { target := .fn (.func g) (caps.map a2.eval), args := #[] } :: (a2.put (some d) (.func (.func g) #[] (caps.map a2.eval))).defers }.put d2 Go.undef).tmps.toList := by
    refine OX' ?_ _ EJ'; simp only [Act.put, Array.toList_setIfInBounds]; refine t2'.set d ?_; simp only [VR]
    exact ⟨[], _, AU', hcaps, by rw [hcm]⟩
   refine hR st W0 N2 g2 w2 f D _ t4 x4 _ g4 n2 n4 lg2 lg4 c4 _ e4 (k4 (k2 (k1 hc).2).2).1 r2 ht3 (hf2.left ω) fun N4 a4 w4 r4 t4' d4' x4' => ?_
   obtain ⟨hh, hn, y, hres, hvy⟩ := SI' hE r4 t4' (k4 (k2 (k1 hc).2).2).2 he12
   have hdef : a4.defers = [{ target := .fn (.func g) (caps.map a2.eval), args := #[] }] := by
    rw [d4', put_defers]; simp only [Act.put, d2', d1']
   have hleaves : Leaves P fn a4.tmps (DF' W0 E.F N v h' n n') a4.defers .returning w4 := by
    rw [hdef]; refine leaves_cons (f := g) (args := caps.map a2.eval) (by intro hh; cases hh) ?_ ?_
    ·simp only [invoke, Array.empty_append]; exact hbody _ _
    ·refine (hg (caps.map a2.eval) w4 (by rw [Array.size_map]; exact Nat.eq_of_beq_eq_true qm)).mono ?_; rintro e u' w' ⟨rfl, ⟨z, rfl⟩, rfl⟩; refine ⟨y, hres, y, N4, rfl, ?_, hvy, ?_⟩
     ·rw [hh]; exact r4
     ·rw [hn]; exact ((x1'.trans x2' hle1 hle2).trans x4' ω hle4)
   rcases hx4 with rfl | rfl
   ·exact hleaves
   ·exact hleaves
  ·cases he1
 ·cases he1
end
def envD (P : Program) (K : Cfg) (fP g m fuel : Nat) (w : World) : Env :=
 { envK P K w with con := fun f args => match Nat.beq f fP with
  | true => some (TN' (envK P K w) (BN' P (envK P K w) fuel) g m f args)
  | false => conK K f args }
theorem n2' {P : Program} {K : Cfg} (hK : CfgOk P K) {w : World} (hL : H1' K w) : EnvOk P (envD P K fP g m fuel w) :=
 ⟨(D7' hK hL).wk, (D7' hK hL).ow, (D7' hK hL).gd, (D7' hK hL).fc, (D7' hK hL).info, (D7' hK hL).fn, (D7' hK hL).old, (D7' hK hL).laid, (D7' hK hL).clone, (D7' hK hL).same⟩
theorem eW' {P : Program} {K : Cfg} (hK : CfgOk P K) (hm : P.follows .mixedOrders = true) (hbody : ∀ (args : Array Value) (w : World), (callFunc g args).run P w = .ok (.enter g args) w) (hg : Idle P g m) {w : World} (hL : H1' K w) : IW' P (envD P K fP g m fuel w) := by
 intro st W0 N h w1 f args vargs v h' n n' lg lg' c p hp he hc r ha hf
 have hp' : (match Nat.beq f fP with
  | true => some (TN' (envK P K w) (BN' P (envK P K w) fuel) g m f args)
  | false => conK K f args) = some p := hp
 cases hb : Nat.beq f fP with
 | true =>
  rw [hb] at hp'; cases hp'; exact RM' (E := envK P K w) (D7' hK hL) (DA' (D7' hK hL) hm (TK' hK w) (ZE' P K w) fuel).1 hbody hg he hc r ha hf
 | false =>
  rw [hb] at hp'; exact TK' hK w st W0 N h w1 f args vargs v h' n n' lg lg' c p hp' he hc r ha hf
theorem ZF' (P : Program) (K : Cfg) (fP g m fuel : Nat) (w : World) : E4' P (envD P K fP g m fuel w) := by
 intro st W0 N h w1 g b tmps tmps' ax a h' n n' lg lg' c Q p hp
 cases hf : BG' b <;> rw [hf] at hp <;> cases hp
theorem Q2' {P : Program} {K : Cfg} (hK : CfgOk P K) (hm : P.follows .mixedOrders = true) {fuel' : Nat} (hbody : ∀ (args : Array Value) (w : World), (callFunc g args).run P w = .ok (.enter g args) w) (hg : Idle P g m) {f : FuncId} {args : List Value} {x : Value} (he : ∀ w, ZS' ((EM' P (envD P K fP g m fuel' w) fuel f (vmap args)).run true .nil 0 []) = some x) {w : World} (hL : H1' K w) :
  Calls P f args.toArray w fun e w' => e = .returned x /\ Below w.heap.size w w' := by
 have he := he w
 cases hr : (EM' P (envD P K fP g m fuel' w) fuel f (vmap args)).run true .nil 0 [] with
 | bad why => rw [hr] at he; cases he
 | ok v h' n' lg c =>
  rw [hr] at he
  cases c with
  | t =>
   refine (IC' (n2' hK hL) hm (eW' hK hm hbody hg hL) (ZF' P K fP g m fuel' w) hr trivial (WM' w) (VRs.vmap args) (fun _ _ _ => rfl)).mono ?_; rintro e w' ⟨y, N', rfl, r', hv, _⟩; have : y = x := I3' he hv; subst this; exact ⟨rfl, r'.old_below⟩
  | _ => cases he
end
end Go.Proofs.YtdphpillcaajpaaDoor.Eng
