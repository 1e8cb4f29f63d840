/- Parts of the proof, merged. -/
import Derived.Test.YtnnojnlejlokhaaGreatDoorCor2
import Derived.Test.YtnnojnlejlokhaaGreatDoorEngShut
import Derived.Test.YtnnojnlejlokhaaGreatDoorEngClosed
noncomputable section
set_option linter.unusedVariables false
set_option linter.unusedSimpArgs false
set_option maxRecDepth 100000
set_option linter.unusedSectionVars false
namespace Go.Proofs.YtnnojnlejlokhaaGreatDoor.Wk
open Go Go.RowKit Eng Kit Tree
def natOf : AV -> AP Nat := fun x => match x with
 | .v v => match v with
  | .int _ m => match m with
   | .ofNat n => .ret n
   | _ => .fail "number"
  | _ => .fail "number"
 | _ => .fail "number"
structure OvP (W : World) (f : Nat -> Option Addr -> Nat -> Nat) (q : Nat × Option Addr × Nat × Nat) : Prop where
 lt : q.1 < 4294967296
 at' : ∃ r : Bs, r.length = q.2.2.1 /\ BAt W.cell? q.2.1 r /\ f q.1 q.2.1 q.2.2.1 = ovr q.1 r
theorem b7' (a : Addr) (m n : Nat) : (a.add m).add n = a.add (m + n) := by
 unfold Addr.add
 by_cases hm : m = 0
 ·subst hm; simp
 ·by_cases hn : n = 0
  ·subst hn; simp
  ·simp [hm, hn, Nat.add_assoc]
theorem BAt.take {C : Mem} {oa : Option Addr} {l : Bs} (h : BAt C oa l) (k : Nat) : BAt C oa (l.take k) := ⟨Nat.le_trans (by rw [List.length_take]; omega) h.1, fun i b hb => by
 rw [List.getElem?_take] at hb; split at hb
 ·exact h.2 i b hb
 ·cases hb⟩
theorem BAt.drop {C : Mem} {a : Addr} {l : Bs} (h : BAt C (some a) l) (k : Nat) : BAt C (some (a.add k)) (l.drop k) := ⟨Nat.le_trans (by rw [List.length_drop]; omega) h.1, fun i b hb => by
 rw [List.getElem?_drop] at hb; obtain ⟨a', e, q⟩ := h.2 _ b hb; obtain rfl := Option.some.inj e; refine ⟨_, rfl, ?_⟩; rw [b7', Nat.mul_one]
 rwa [Nat.mul_one] at q⟩
end Go.Proofs.YtnnojnlejlokhaaGreatDoor.Wk
namespace Go.Proofs.YtnnojnlejlokhaaGreatDoor.Eng
open Go Go.RowKit
theorem LTri.open {P : Program} {W : World} {b : Code} {A : List AV} {σ : Type} {R : σ -> Prop} {L : σ -> LH} {m : Md} {H0 H' : LH} {ax : AX} {A' : List AV} (hL : ∀ s, ownL H0 (L s) = true) (hcl : ∀ s, ∀ x ∈ L s, x.2.cl (kH (L s))) (hr : ∀ s, ∃ o, getO (L s) 0 = some o)
  (h : ∀ s, R s -> LTri P W b A (L s ++ H0) ax A' H') : LTri P W b A ((0, .own m (exHP R L)) :: H0) ax A' H' := by
 intro W0 F N w a Q hF hNB r ha hK; obtain ⟨s, hs, N', q1, q2, q3, q4⟩ := St.open hL hcl hr hNB r ha
 refine h s hs W0 F N' w a Q hF q2 q3 q4 fun a' w' ⟨N2, p1, p2, p3, p4⟩ hd => hK a' w' ⟨N2, fun i hi => (p1 i hi).trans (q1 i hi), p2, p3, p4⟩ hd
open Tree
def dumZ : AO := .any (frz fun _ => True)
theorem HY' {vs : List AV} {H H' : LH} {k : Nat} {P : Mem -> Prop} (hP : ∀ C, P C) (hl : A9' 1100 H = true) (hl' : A9' 1100 H' = true) (hk : getO H' k = some (.any (frz P))) (hk1 : 1000 <= k) (hk0 : getO H k = none) (hr : ∀ n, n ≠ k -> getO H' n = getO H n) : Goes vs H vs H' := by
 intro W0 F N ys w ⟨N1, g1, g2, r, hvs⟩; have hf : ∀ n, (AN' H).find n = getO H n := AH' (G4' hl); have hf' : ∀ n, (AN' H').find n = getO H' n := AH' (G4' hl'); obtain ⟨D0, D, h1, h2, h3⟩ := r.sat
 refine ⟨N1, g1, fun n hn hg => ?_, ⟨r.os, r.tape, r.output, D0, fun n x => if n = k then False else D n x, h1, fun n o hno => ?_, fun n m o o' hn hm hnm x hx hx' => ?_⟩, hvs⟩
 ·by_cases e : n = k
  ·rw [e, hk] at hg; cases hg
  ·rw [hr n e] at hg; exact g2 n hn hg
 ·rw [hf'] at hno
  by_cases e : n = k
  ·subst e; rw [hk] at hno; cases hno; simp only [if_true]
   exact ⟨⟨hP _, fun b hb => hb.elim⟩, fun b hb => hb.elim⟩
  ·simp only [if_neg e]; exact h2 n o (by rw [hf, <- hr n e]; exact hno)
 ·rw [hf'] at hn hm
  by_cases e : n = k
  ·simp only [if_pos e] at hx
  ·by_cases eR : m = k
   ·simp only [if_pos eR] at hx'
   ·simp only [if_neg e] at hx; simp only [if_neg eR] at hx'; exact h3 n m o o' (by rw [hf, <- hr n e]; exact hn) (by rw [hf, <- hr m eR]; exact hm) hnm x hx hx'
theorem SK' {vs vs' : List AV} {H H' : LH} (hn : A9' 1100 H = true) (hn' : A9' 1100 H' = true) (hv : VW vs vs') (hh : ∀ i o, getO H' i = some o -> getO H i = some o) (hc : AV.cls (fun i => Nat.blt i 1000 || (getO H' i).isSome) vs') (ho : ∀ x ∈ H', x.2.cl (fun i => Nat.blt i 1000 || (getO H' i).isSome)) : Goes vs H vs' H' := by
 intro W0 F N ys w ⟨N', g1, g2, r, hvs⟩; have hf : ∀ i, (AN' H).find i = getO H i := AH' (G4' hn); have hf' : ∀ i, (AN' H').find i = getO H' i := AH' (G4' hn'); obtain ⟨D0, D, h1, h2, h3⟩ := r.sat
 have r' : Rep W0 N' F (AN' H') w := ⟨r.os, r.tape, r.output, D0, D, h1, fun i o hi => h2 i o (by rw [hf'] at hi; rw [hf]; exact hh i o hi), fun i j o o' hi hj => h3 i j o o' (by rw [hf'] at hi; rw [hf]; exact hh i o hi) (by rw [hf'] at hj; rw [hf]; exact hh j o' hj)⟩
 exact J2' hn' g1 r' (hv _ _ hvs) hc ho
theorem KU' (V : List Value) : (vmap V).length = V.length := by simp [vmap]
theorem TS' (V U : List Value) : vmap (V ++ U) = vmap V ++ vmap U := by simp [vmap]
end Go.Proofs.YtnnojnlejlokhaaGreatDoor.Eng
namespace Go.Proofs.YtnnojnlejlokhaaGreatDoor.Wk
open Go Go.RowKit Eng Kit Tree
abbrev tRb : TypeId := 2 * 74
structure Rs where
 d : Bs
 a : Option Addr
 c : Nat
def Rs.val (r : Rs) : Value := .slice r.a r.d.length r.c
structure At1 (C : Mem) (x : Rs) : Prop where
 at' : BAt C x.a x.d
 cap : x.d.length <= x.c
def PB (r : List Rs) (C : Mem) : Prop := ∀ x ∈ r, At1 C x
theorem PB.snoc {r : List Rs} {x : Rs} {C : Mem} (h : PB r C) (hx : At1 C x) : PB (r ++ [x]) C := fun y hy => by
 rcases List.mem_append.1 hy with hy | hy
 ·exact h y hy
 ·rw [List.mem_singleton.1 hy]; exact hx
theorem At1.mono {C C' : Mem} (h : ∀ a v, C a = some v -> C' a = some v) {x : Rs} (hx : At1 C x) : At1 C' x := ⟨hx.at'.mono h, hx.cap⟩
theorem PB.mono {C C' : Mem} (h : ∀ a v, C a = some v -> C' a = some v) {r : List Rs} (hr : PB r C) : PB r C' := fun x hx => (hr x hx).mono h
theorem rB_mem {N : A7'} {k : Nat} {D : Nat -> Prop} {w : World} {l : Bs} {y : Value} (hb : l.length <= big) (hp : 0 < l.length) (ho : OR N k (rB l) D w) (h : VR N (sB k l.length) y) : ∃ a c, y = .slice (some a) l.length c /\ BAt (H8' D w) (some a) l /\ l.length <= c := by
 have h0c := h; obtain ⟨lo, x, c, h1, rfl, h3⟩ := M8' h
 have hcap : l.length <= c := by
  simp only [sB, VR] at h0c; obtain ⟨l', x', c', _, e2, _, _, _, e6⟩ := h0c; simp only [Value.slice.injEq] at e2; rw [e2.2.2]; exact e6
 rw [show rB l = .cells (vmap (l.map fun b => .int .u8 b.toNat)) (2 * 5) by rw [rB, D7']] at ho
 obtain ⟨lo', h1', h0, h2⟩ := NF' ho; rw [h1] at h1'; cases h1'
 refine ⟨_, _, rfl, ⟨hb, fun i b hi => ⟨_, rfl, ?_⟩⟩, hcap⟩
 rw [h3 hp, h0, Nat.mul_one]; have hq := h2 i (.int .u8 b.toNat) (by rw [List.getElem?_map, hi]; rfl)
 have e : ((Addr.mk lo.blk 0 none).add i) = Addr.mk lo.blk i none := by
  unfold Addr.add; split
  ·rename_i hi; subst hi; rfl
  ·show Addr.mk lo.blk (0 + i) none = _; rw [Nat.zero_add]
 rw [e]; exact hq
theorem ME' {σ : Nat -> Nat} : ∀ (a b : List AV), AV.rens σ (a ++ b) = AV.rens σ a ++ AV.rens σ b
 | [], b => rfl
 | x :: a, b => by simp only [List.cons_append, AV.rens, ME' a b]
def endR (r : List Rs) : Nat := (cat (r.map (·.d))).length
theorem NB' (r : List Rs) (x : Rs) : endR (r ++ [x]) = endR r + (8 + x.d.length) := by rw [endR, List.map_append, List.map_cons, List.map_nil, HI', List.length_append, C2']; rfl
structure WS (l : Bs) (r : List Rs) : Prop where
 le : endR r <= l.length
 wh : DL' l = r.map (·.d) ++ DL' (l.drop (endR r))
theorem WS.zero (l : Bs) : WS l [] := ⟨Nat.zero_le _, by rfl⟩
theorem WS.next {l : Bs} {r : List Rs} (h : WS l r) {d : Bs} (hu : unwB (l.drop (endR r)) = some d) (x : Rs) (hx : x.d = d) : WS l (r ++ [x]) := by
 have hl := PD' hu; rw [List.length_drop] at hl; have h1 := h.le; refine ⟨by rw [NB', hx]; omega, ?_⟩; rw [h.wh, IZ' hu, List.map_append, List.map_cons, List.map_nil, hx, NB', hx, List.drop_drop, List.append_assoc]; rfl
theorem WS.done {l : Bs} {r : List Rs} (h : WS l r) (hu : unwB (l.drop (endR r)) = none) : r.map (·.d) = DL' l := by
 rw [h.wh, GD' hu, List.append_nil]
abbrev BA' : Nat := 7
def nibV : List Value := [.int .u32 0, .int .u32 274646895, .int .u32 549293790, .int .u32 820201905, .int .u32 1098587580, .int .u32 1361435347, .int .u32 1640403810, .int .u32 1905808397, .int .u32 2197175160, .int .u32 2460548119, .int .u32 2722870694, .int .u32 2987750089, .int .u32 3280807620, .int .u32 3553878443, .int .u32 3811616794, .int .u32 4084100981]
def cfg : Cfg := { strs := [(38, 64, 9), (38, 69, 9)], ints := [], same := [], clone := [fMc], laid := [(0, nibV)] }
theorem cfg_ok : CfgOk Θ cfg where
 strs := fun x hx => by
  simp only [cfg, List.mem_cons, List.not_mem_nil, or_false] at hx
  rcases hx with rfl | rfl
  ·exact ⟨χ, GG'⟩
  ·exact ⟨χ, J4'⟩
 ints := fun x hx => by cases hx
 same := fun x hx => by cases hx
 clone := fun x hx => by
  obtain rfl := List.mem_singleton.1 hx; exact PY'
theorem nib_eq (j : Nat) (v : Value) (h : nibV[j]? = some v) : j < 16 /\ v = .int .u32 (Int.ofNat (nb j)) := by
 rcases j with _|_|_|_|_|_|_|_|_|_|_|_|_|_|_|_|j
 all_goals first | (cases h; exact ⟨δ, rfl⟩) | (simp [nibV] at h)
theorem VL' {w : World} (hN : LN w) : Q9' cfg w := by
 intro x hx j v hj; obtain rfl := List.mem_singleton.1 hx; obtain ⟨h1, rfl⟩ := nib_eq j v hj; have := hN.tab j h1; rw [Nat.mul_one] at this
 have e : (Addr.mk 0 0 none).add j = Addr.mk 0 j none := by
  unfold Addr.add; split
  ·rename_i h; subst h; rfl
  ·show Addr.mk _ (0 + j) none = _; rw [Nat.zero_add]
 rwa [e] at this
def outO : Out AV -> Option (Option Value × Cnd)
 | .ok v _ _ _ c => some (v.val?, c)
 | .bad _ => none
theorem ND' {P : Program} {K : Cfg} (hK : CfgOk P K) (hm : P.follows .mixedOrders = true) {fuel : Nat} {f : FuncId} {args : List Value} {x : Value} {c : Cnd} (hc : c.holds) (he : ∀ w, outO ((CO' P (envK P K w) fuel f (vmap args)).run true .nil 0 []) = some (some x, c)) {w : World} (hL : Q9' K w) :
  Calls P f args.toArray w fun e w' => e = .returned x /\ Below w.heap.size w w' := by
 have he2 := he w
 cases hr : (CO' P (envK P K w) fuel f (vmap args)).run true .nil 0 [] with
 | bad why => rw [hr] at he2; cases he2
 | ok v h' n' lg c2 =>
  rw [hr] at he2; simp only [outO, Option.some.injEq, Prod.mk.injEq] at he2; obtain ⟨he3, he4⟩ := he2; rw [<- he4] at hc; refine (CU' (ST' hK hL) hm (PU' hK w) (NA' P K w) hr hc (L0' w) (VRs.vmap args) (fun _ _ _ => rfl)).mono ?_; rintro e w' ⟨y, N', rfl, r', hv, _⟩; have : y = x := D3' he3 hv; subst this; exact ⟨rfl, r'.old_below⟩
def a6' : Cnd := (((((((((Cnd.p (0 = 0)).a Cnd.t).a Cnd.t).a Cnd.t).a Cnd.t).a Cnd.t).a Cnd.t).a Cnd.t).a Cnd.t).a Cnd.t
theorem OH' : a6'.holds := by simp [a6', Cnd.holds]
set_option maxRecDepth 1000000 in
theorem QD' (w : World) : outO ((CO' Θ (envK Θ cfg w) 100000 BA' (vmap [])).run true .nil 0 []) = some (some (.bool true), a6') := χ
theorem M7' {w : World} (hN : LN w) : Calls Θ BA' (List.toArray []) w fun e w' => e = .returned (.bool true) /\ Below w.heap.size w w' :=
 ND' (args := []) cfg_ok χ (fuel := 100000) OH' QD' (w := w) (VL' hN)
theorem O4' {W : World} (hN : LN W) {f : FuncId} {args : List Value} {x : Value} (h : ∀ w, LN w -> Calls Θ f args.toArray w fun e w' => e = .returned x /\ Below w.heap.size w w') : Tri Θ W f (vmap args) [] (.v x) [] :=
 M4' fun W0 F N w vargs hF hNB r ha => by
  have : vargs = args.toArray := by
   have := VRs.of_vmap ha; rw [<- this]
  subst this; have r0 := r; obtain ⟨_, _, _, D0, _, hD0, _, _⟩ := r0; exact h w (hN.mono (HH' (hF D0 w hD0)))
def BF' : List AV -> Option (AP AV) := mkC (fun _ => .ret ()) (fun _ => True) (fun _ i => i) (fun _ => []) (fun _ => []) (fun _ => .leaf .ret [.v (.bool true)] [])
theorem QV' {W : World} (hN : LN W) (F : HP) (hF : AK' W F) : C1OK Θ F BA' BF' :=
 B4' hF (fun _ => .v (.bool true)) (fun _ => RO.ret _) (fun _ => rfl) (fun _ _ => O4' hN (args := []) fun w h => M7' h) fun _ => ⟨rfl, rfl, Ye, A1', ⟨Ye, Ye⟩, A1'⟩
abbrev nmL : Δ := ⟨⟨[99, 97, 116, 97, 108, 111, 103]⟩⟩
abbrev nm1 : Δ := ⟨⟨[99, 97, 116, 97, 108, 111, 103, 46, 49]⟩⟩
abbrev nmD : Δ := ⟨⟨[99, 97, 116, 97, 108, 111, 103, 46]⟩⟩
abbrev nmO : Δ := ⟨⟨[49]⟩⟩
abbrev nmP : Δ := ⟨⟨[46]⟩⟩
abbrev fGn : Nat := 31
abbrev fCt : Nat := 50
abbrev fIt : Nat := 75
def cfgE : Cfg := { strs := [], ints := [], same := [], clone := [], laid := [] }
theorem LF' : CfgOk Θ cfgE := ⟨fun x hx => (by cases hx), fun x hx => (by cases hx), fun x hx => (by cases hx), fun x hx => (by cases hx)⟩
theorem OM' (W : World) : Tri Θ W fGn [sv nm1] [] (bv true) [] :=
 ER' (args := [.string nm1]) fun w => D9' (args := [.string nm1]) LF' χ (fuel := 1000) (fun w => χ) (w := w) (fun x hx => by cases hx)
theorem aI' (W : World) : Tri Θ W fGn [sv nmL] [] (bv true) [] :=
 ER' (args := [.string nmL]) fun w => D9' (args := [.string nmL]) LF' χ (fuel := 1000) (fun w => χ) (w := w) (fun x hx => by cases hx)
theorem ct_tri (W : World) : Tri Θ W fCt [sv nmL, sv nmP] [] (bv false) [] :=
 ER' (args := [.string nmL, .string nmP]) fun w => D9' (args := [.string nmL, .string nmP]) LF' χ (fuel := 1000) (fun w => χ) (w := w) (fun x hx => by cases hx)
theorem SG' (W : World) : Tri Θ W fIt [iv 1] [] (sv nmO) [] :=
 ER' (args := [.int .i64 1]) fun w => D9' (args := [.int .i64 1]) LF' χ (fuel := 1000) (fun w => χ) (w := w) (fun x hx => by cases hx)
def cK (A : List AV) (v : AV) : List AV -> Option (AP AV) := mkC (fun _ => .ret ()) (fun _ => True) (fun _ k => k) (fun _ => A) (fun _ => []) (fun _ => .leaf .ret [v] [])
theorem QW' {f : FuncId} {A : List AV} {v : AV} (h : Tri Θ default f A [] v []) (hA : ∀ K, AV.cls K A) (hv : ∀ K, AV.cl K v) (F : HP) : C1OK Θ F f (cK A v) :=
 B4' (W := default) BC' (fun _ => v) (fun _ => RO.ret _) (fun _ => rfl) (fun _ _ => h) fun _ => ⟨rfl, rfl, hA _, A1', ⟨hv _, Ye⟩, A1'⟩
noncomputable section
abbrev fAp : Nat := 28
abbrev fPt : Nat := 43
abbrev fFl : Nat := 56
abbrev fDa : Nat := 67
abbrev tDk : TypeId := 2 * 80
abbrev tFi : TypeId := 2 * 87
abbrev tPw : TypeId := 2 * 90
abbrev tLg : TypeId := 2 * 108
def pV (m : Nat) : AV := .slice 1005 0 m 3 (.lo m)
def dkC (PV : AV) (us : Int) : AO := .cells [.map 1001, PV, iv 1099511627776, iv us] tDk
def fiC (p q : Nat) : AO := .cells [sB 1003 p, sB 1004 q] tFi
def mpO (st ck : Nat) : AO := .map [(sv nm1, .ptr 1002 0, st)] ck
def lgC (sz : Int) : AO := .cells [.ptr 0 0, sv nmL, iv 1, iv sz] tLg
def uD (PV : AV) (us : Int) (st ck p q : Nat) (da sa : Bs) (O : AO) (PR : Mem -> Prop) : LH := [(0, dkC PV us), (1001, mpO st ck), (1002, fiC p q), (1003, rB da), (1004, rB sa), (1005, O), (1006, .any (frz PR))]
def kD : List Nat := [0, 1001, 1002, 1003, 1004, 1005, 1006, 2, 4, 1100, 1101, 1102, 1103, 1104, 1105, 1106, 1107, 1108]
def mSt : Nat := 0
def mCk : Nat := 1
def cWo (m n : Nat) (r w : Bs) : List AV -> Option (AP AV) := mkC (fun args => match args with | .slice i _ _ _ _ :: _ => .ret i | _ => .fail "wrap") (fun _ => True) nmW (fun _ => [sB 0 m]) (fun _ => [(0, rB r)]) (fun _ => .leaf .ret [.tuple [sB 1000 n, iv 0]] [(0, rB r), (1000, rB w)])
def hAp (us' sz' : Int) : B9' := AE' [(fFl, 1, 4, hv (sv nmD)), (fFl, 1, 7, hv (sv nm1)), hf' fPt 2 1, hf' fDa 1 2, hf' fDa 3 8, hf' fDa 3 21, hf' fDa 6 1, (fDa, 11, 6, hv (iv us')), ht' fAp 2 1, (fAp, 3, 5, hv (iv sz'))]
def VH' (m n : Nat) (r w : Bs) : HN' := [(fWp, cWo m n r w), (fIt, cK [iv 1] (sv nmO)), (fGn, cK [sv nm1] (bv true)), (fCl, cClB n w)]
abbrev k36' (q0 : Int) (q1 : Nat) (q2 : Int) : Cnd := (f' (Wk (z' (IntKind.i64.wrap (q0 + ↑q1))) (z' q2)))
abbrev k37' (q0 : Int) : Cnd := (ee' (z' q0))
abbrev k38' : Cnd := (ee' (i' 1))
theorem UZ' (W : World) (us us' sz sz' : Int) (st ck p q n m : Nat) (da sa r w : Bs) (O : AO) (PR : Mem -> Prop) (F : HP) : wRun (VH' m n r w) (hAp us' sz') [] W fAp [.ptr 2 0, sB 4 m] (uD nilS us st ck p q da sa O PR ++ [(2, lgC sz), (4, rB r)]) kD F = VT.leaf (i' 0) [some (AO.cells [AV.map 1001,AV.slice 1103 0 1 3 (Cp.lo 1),i' 1099511627776,z' us'] 160),some (AO.map [(s' nm1,AV.ptr 1002 0,st)] ck),some (AO.cells [AV.slice 1104 0 (p + n) 1 (Cp.lo (p + n)),AV.slice 1004 0 q 1 (Cp.lo q)] 174),none,some (AO.cells (rowV encB sa) 10),some O,some (AO.any (frz PR)),some (AO.cells [AV.ptr 0 0,s' nmL,i' 1,z' sz'] 216),some (AO.cells (AV.rens (sgN (nmW 4) [1000] 1100) (rowV encB r)) 10),some (AO.cells (AV.rens (sgN (fun k => match k with | 0 => sgN (nmW 4) (newL [(0,rB r),(1000,rB w)]) 1100 1000 | k => k) [1000] 1101) (rowV encB w)) 10),some (AO.cells (AV.rens (sgN (fun k => match k with | 0 => sgN (nmW 4) (newL [(0,rB r),(1000,rB w)]) 1100 1000 | k => k) [1000] 1101) (rowV encB w)) 10),some (AO.cells [s' nm1,z' ↑p,AV.slice 1101 0 n 1 (Cp.lo n)] 180),some (AO.cells [s' nm1,z' ↑p,AV.slice 1101 0 n 1 (Cp.lo n)] 180),some (AO.cells (List.take (p * 1) (List.drop 0 (rowV encB da)) ++ List.take (n * 1) (List.drop 0 (AV.rens (sgN (fun k => match k with | 0 => sgN (nmW 4) (newL [(0,rB r),(1000,rB w)]) 1100 1000 | k => k) [1000] 1101) (rowV encB w)))) 10),none,none,none,none] 1105 (k38'.a ((((Cnd.p True).a ((vw' [AV.slice 4 0 m 1 (Cp.lo m)]).a (f' (OW (AO.cells (rowV encB r) 10) (AO.cells (AV.rens (nmW 4) (rowV encB r)) 10))))).a ((f' (Wk (b' false) g')).a ((fe' true).a (((ee' (s' nmL)).a ((f' (Wk (s' (nmL ++ ByteArray.mk (Array.mk [46]))) (s' nmD))).a (((Cnd.p True).a (f' (VW [i' 1] [i' 1]))).a ((f' (Wk (s' (nmD ++ nmO)) (s' nm1))).a t')))).a ((((Cnd.p True).a (f' (VW [s' nm1] [s' nm1]))).a ((f' (Wk (b' false) g')).a ((ee' (i' 1099511627776)).a ((ee' (z' us)).a ((wb' (decide (Int.ofNat 1099511627776 < us)) g').a ((ee' (i' 1099511627776)).a ((ee' (z' us)).a ((wb' (decide (↑n > IntKind.i64.wrap (Int.ofNat 1099511627776 - us))) g').a ((fe' true).a ((f' (findKey Tryz.prog (envW [(66,cWo m n r w),(75,cK [i' 1] (s' nmO)),(31,cK [s' nm1] (b' true)),(32,cClB n w)] (hAp us' sz') [] W F) 9 (s' nm1) [(s' nm1,AV.ptr 1002 0,st)] 0 = AP.ret (some (0,AV.ptr 1002 0)))).a ((f' (Wk (b' false) g')).a ((fe' true).a ((fe' true).a (((Cnd.p True).a ((vw' [AV.slice 1100 0 n 1 (Cp.lo n)]).a (f' (OW (AO.cells (AV.rens (sgN (nmW 4) [1000] 1100) (rowV encB w)) 10) (AO.cells (AV.rens (fun k => match k with | 0 => sgN (nmW 4) (newL [(0,rB r),(1000,rB w)]) 1100 1000 | k => k) (rowV encB w)) 10))))).a ((tt'.a (tt'.a (tt'.a (tt'.a (ee' true))))).a ((fe' true).a ((fe' true).a (((p' (n.ble n = true)).a ((p' ((List.take (n * 1) (List.drop 0 (AV.rens (sgN (fun k => match k with | 0 => sgN (nmW 4) (newL [(0,rB r),(1000,rB w)]) 1100 1000 | k => k) [1000] 1101) (rowV encB w)))).length.beq (n * 1) = true)).a ((p' ((List.take (n * 1) (List.drop 0 (AV.rens (sgN (fun k => match k with | 0 => sgN (nmW 4) (newL [(0,rB r),(1000,rB w)]) 1100 1000 | k => k) [1000] 1101) (rowV encB w)))).all AV.one = true)).a ((p' (Nat.blt 0 n = true)).a ((p' ((0 + p * 1).ble (rowV encB da).length = true)).a ((p' (((p + n) * 1).ble 140737488355328 = true)).a ((p' ((p + n).ble 9223372036854775807 = true)).a (f' ((List.take (p * 1) (List.drop 0 (rowV encB da))).length.beq (p * 1) = true))))))))).a ((fe' true).a ((ee' (z' us)).a ((f' (Wk (z' (IntKind.i64.wrap (us + ↑n))) (z' us'))).a ((fe' true).a t')))))))))))))))))))))).a t'))))).a (k21'.a ((k37' sz).a ((k36' sz n sz').a (k7'.a k1')))))) := χ
theorem V0' (W : World) (us us' sz sz' : Int) (st ck p q n m z : Nat) (da sa r w : Bs) (V : List Value) (PR : Mem -> Prop) (F : HP) : wRun (VH' m n r w) (hAp us' sz') [] W fAp [.ptr 2 0, sB 4 m] (uD (pV z) us st ck p q da sa (.cells (vmap V) tPw) PR ++ [(2, lgC sz), (4, rB r)]) kD F = VT.leaf (i' 0) [some (AO.cells [AV.map 1001,AV.slice 1103 0 (z + 1) 3 (Cp.lo (z + 1)),i' 1099511627776,z' us'] 160),some (AO.map [(s' nm1,AV.ptr 1002 0,st)] ck),some (AO.cells [AV.slice 1104 0 (p + n) 1 (Cp.lo (p + n)),AV.slice 1004 0 q 1 (Cp.lo q)] 174),none,some (AO.cells (rowV encB sa) 10),none,some (AO.any (frz PR)),some (AO.cells [AV.ptr 0 0,s' nmL,i' 1,z' sz'] 216),some (AO.cells (AV.rens (sgN (nmW 4) [1000] 1100) (rowV encB r)) 10),some (AO.cells (AV.rens (sgN (fun k => match k with | 0 => sgN (nmW 4) (newL [(0,rB r),(1000,rB w)]) 1100 1000 | k => k) [1000] 1101) (rowV encB w)) 10),some (AO.cells (AV.rens (sgN (fun k => match k with | 0 => sgN (nmW 4) (newL [(0,rB r),(1000,rB w)]) 1100 1000 | k => k) [1000] 1101) (rowV encB w)) 10),some (AO.cells [s' nm1,z' ↑p,AV.slice 1101 0 n 1 (Cp.lo n)] 180),some (AO.cells (List.take (z * 3) (List.drop 0 (vmap V)) ++ [s' nm1,z' ↑p,AV.slice 1101 0 n 1 (Cp.lo n)]) 180),some (AO.cells (List.take (p * 1) (List.drop 0 (rowV encB da)) ++ List.take (n * 1) (List.drop 0 (AV.rens (sgN (fun k => match k with | 0 => sgN (nmW 4) (newL [(0,rB r),(1000,rB w)]) 1100 1000 | k => k) [1000] 1101) (rowV encB w)))) 10),none,none,none,none] 1105 (k38'.a ((((Cnd.p True).a ((vw' [AV.slice 4 0 m 1 (Cp.lo m)]).a (f' (OW (AO.cells (rowV encB r) 10) (AO.cells (AV.rens (nmW 4) (rowV encB r)) 10))))).a ((f' (Wk (b' false) g')).a ((fe' true).a (((ee' (s' nmL)).a ((f' (Wk (s' (nmL ++ ByteArray.mk (Array.mk [46]))) (s' nmD))).a (((Cnd.p True).a (f' (VW [i' 1] [i' 1]))).a ((f' (Wk (s' (nmD ++ nmO)) (s' nm1))).a t')))).a ((((Cnd.p True).a (f' (VW [s' nm1] [s' nm1]))).a ((f' (Wk (b' false) g')).a ((ee' (i' 1099511627776)).a ((ee' (z' us)).a ((wb' (decide (Int.ofNat 1099511627776 < us)) g').a ((ee' (i' 1099511627776)).a ((ee' (z' us)).a ((wb' (decide (↑n > IntKind.i64.wrap (Int.ofNat 1099511627776 - us))) g').a ((fe' true).a ((f' (findKey Tryz.prog (envW [(66,cWo m n r w),(75,cK [i' 1] (s' nmO)),(31,cK [s' nm1] (b' true)),(32,cClB n w)] (hAp us' sz') [] W F) 9 (s' nm1) [(s' nm1,AV.ptr 1002 0,st)] 0 = AP.ret (some (0,AV.ptr 1002 0)))).a ((f' (Wk (b' false) g')).a ((fe' true).a ((fe' true).a (((Cnd.p True).a ((vw' [AV.slice 1100 0 n 1 (Cp.lo n)]).a (f' (OW (AO.cells (AV.rens (sgN (nmW 4) [1000] 1100) (rowV encB w)) 10) (AO.cells (AV.rens (fun k => match k with | 0 => sgN (nmW 4) (newL [(0,rB r),(1000,rB w)]) 1100 1000 | k => k) (rowV encB w)) 10))))).a ((tt'.a (tt'.a (tt'.a (tt'.a ((p' ((0 + z * 3).ble (vmap V).length = true)).a ((p' (((z + 1) * 48).ble 140737488355328 = true)).a ((p' ((z + 1).ble 9223372036854775807 = true)).a (f' ((List.take (z * 3) (List.drop 0 (vmap V))).length.beq (z * 3) = true))))))))).a ((fe' true).a ((fe' true).a (((p' (n.ble n = true)).a ((p' ((List.take (n * 1) (List.drop 0 (AV.rens (sgN (fun k => match k with | 0 => sgN (nmW 4) (newL [(0,rB r),(1000,rB w)]) 1100 1000 | k => k) [1000] 1101) (rowV encB w)))).length.beq (n * 1) = true)).a ((p' ((List.take (n * 1) (List.drop 0 (AV.rens (sgN (fun k => match k with | 0 => sgN (nmW 4) (newL [(0,rB r),(1000,rB w)]) 1100 1000 | k => k) [1000] 1101) (rowV encB w)))).all AV.one = true)).a ((p' (Nat.blt 0 n = true)).a ((p' ((0 + p * 1).ble (rowV encB da).length = true)).a ((p' (((p + n) * 1).ble 140737488355328 = true)).a ((p' ((p + n).ble 9223372036854775807 = true)).a (f' ((List.take (p * 1) (List.drop 0 (rowV encB da))).length.beq (p * 1) = true))))))))).a ((fe' true).a ((ee' (z' us)).a ((f' (Wk (z' (IntKind.i64.wrap (us + ↑n))) (z' us'))).a ((fe' true).a t')))))))))))))))))))))).a t'))))).a (k21'.a ((k37' sz).a ((k36' sz n sz').a (k7'.a k1')))))) := χ
end
def lenR (xs : List Rs) : Nat := (xs.map (·.d.length)).sum
def pwV : Nat -> List Rs -> List Value
 | _, [] => []
 | o, x :: xs => .string nm1 :: .int .i64 (Int.ofNat o) :: x.val :: pwV (o + x.d.length) xs
theorem RT' : ∀ (xs : List Rs) (o : Nat), (pwV o xs).length = xs.length * 3
 | [], o => rfl
 | x :: xs, o => by simp only [pwV, List.length_cons, RT' xs]; omega
theorem JE' (x : Rs) (xs : List Rs) : lenR (x :: xs) = x.d.length + lenR xs := by simp [lenR]
theorem PL' : ∀ (xs : List Rs) (o : Nat) (x : Rs), pwV o (xs ++ [x]) = pwV o xs ++ [.string nm1, .int .i64 (Int.ofNat (o + lenR xs)), x.val]
 | [], o, x => by simp [pwV, lenR]
 | y :: xs, o, x => by simp only [List.cons_append, pwV, PL' xs, JE', Nat.add_assoc]
theorem LG' (a b : List Bs) : cat (a ++ b) = cat a ++ cat b := by simp [cat]
theorem PS' : ∀ (xs : List Rs) (rs : List Bs), xs.map (·.d) = rs.map B2' -> lenR xs = (cat rs).length
 | [], [], _ => rfl
 | x :: xs, r :: rs, h => by
  simp only [List.map_cons, List.cons.injEq] at h; rw [JE', PS' xs rs h.2, IV', List.length_append, h.1]
 | [], r :: rs, h => by cases h
 | x :: xs, [], h => by cases h
def xP : List Rs -> AV
 | [] => nilS
 | x :: r => pV (r.length + 1)
def oP (o : Nat) : List Rs -> AO
 | [] => dumZ
 | x :: r => .cells (vmap (pwV o (x :: r))) tPw
def dkL (S rs : List Bs) (xs : List Rs) : LH := uD (xP xs) (Int.ofNat (cat (S ++ rs)).length) mSt mCk (cat (S ++ rs)).length (cat S).length (cat (S ++ rs)) (cat S) (oP (cat S).length xs) (PB xs)
def dO (S rs : List Bs) : AO := .own .nothing (exHP (fun xs : List Rs => xs.map (·.d) = rs.map B2') (dkL S rs))
theorem SY' (H0 : LH) (hd : (([0, 1001, 1002, 1003, 1004, 1005, 1006] : List Nat).all fun i => (getO H0 i).isNone) = true) (hl : A9' 1100 H0 = true) (S rs : List Bs) (xs : List Rs) : Eng.ownL H0 (dkL S rs xs) = true := by
 simp only [List.all_cons, List.all_nil, Bool.and_true, Bool.and_eq_true] at hd; simp only [Eng.ownL, dkL, uD, List.all_cons, List.all_nil, hd, hl, Bool.and_true]; rfl
theorem X6' (S rs : List Bs) (xs : List Rs) : ∀ x ∈ dkL S rs xs, x.2.cl (kH (dkL S rs xs)) := by
 cases xs with
 | nil => exact A0' ⟨rfl, Ye, Ye, Ye, Ye⟩ (A0' ⟨Ye, rfl, Ye⟩ (A0' ⟨rfl, rfl, Ye⟩ (A0' (C5' _ _) (A0' (C5' _ _) (A0' Ye (A0' Ye A1'))))))
 | cons x xs => exact A0' ⟨rfl, rfl, Ye, Ye, Ye⟩ (A0' ⟨Ye, rfl, Ye⟩ (A0' ⟨rfl, rfl, Ye⟩ (A0' (C5' _ _) (A0' (C5' _ _) (A0' (EW' _ _) (A0' Ye A1'))))))
theorem PV' (S rs : List Bs) (xs : List Rs) : ∃ cs e, getO (dkL S rs xs) 0 = some (.cells cs e) /\ e % 2 = 0 := ⟨_, _, rfl, by kernel_rfl⟩
theorem WG' {W : World} {f : FuncId} {A : List AV} {S rs : List Bs} {H0 H' : LH} {v : AV} (hd : (([0, 1001, 1002, 1003, 1004, 1005, 1006] : List Nat).all fun i => (getO H0 i).isNone) = true) (hl : A9' 1100 H0 = true)
  (h : ∀ xs : List Rs, xs.map (·.d) = rs.map B2' -> Tri Θ W f A (dkL S rs xs ++ H0) v H') : Tri Θ W f A ((0, dO S rs) :: H0) v H' :=
 Tri.open (R := fun xs : List Rs => xs.map (·.d) = rs.map B2') (L := dkL S rs) (H0 := H0) (fun xs => SY' H0 hd hl S rs xs) (fun xs => X6' S rs xs) (fun xs => by obtain ⟨cs, e, h, _⟩ := PV' S rs xs; exact ⟨_, h⟩) h
theorem W6' {S rs : List Bs} {H0 : LH} {vs : List AV} (xs : List Rs) (hx : xs.map (·.d) = rs.map B2') (hd : (([0, 1001, 1002, 1003, 1004, 1005, 1006] : List Nat).all fun i => (getO H0 i).isNone) = true) (hl : A9' 1100 H0 = true)
  (hv : AV.cls (fun i => Nat.blt i 1000 || (getO H0 i).isSome) vs) (ho : ∀ x ∈ H0, x.2.cl (fun i => Nat.blt i 1000 || (getO H0 i).isSome)) : Goes vs (dkL S rs xs ++ H0) vs ((0, dO S rs) :: H0) :=
 Goes.shut (R := fun xs : List Rs => xs.map (·.d) = rs.map B2') (L := dkL S rs) xs hx (SY' H0 hd hl S rs xs) (PV' S rs xs) hv ho
theorem RC' (w : Bs) (σ : Nat -> Nat) : (List.take (w.length * 1) (List.drop 0 (AV.rens σ (rowV encB w)))).all AV.one = true := by
 rw [AD', List.drop_zero, List.take_of_length_le (by rw [CR', Nat.mul_one]; exact Yd)]; simp [rowV, vmap, AV.one, encB]
 exact fun x _ => rfl
structure ApK (us us' sz sz' : Int) (da w : Bs) (n p : Nat) : Prop where
 hn : n = w.length
 hp : p = da.length
 f1 : decide (Int.ofNat 1099511627776 < us) = false
 f2 : decide ((n : Int) > IntKind.i64.wrap (Int.ofNat 1099511627776 - us)) = false
 us : IntKind.i64.wrap (us + (n : Int)) = us'
 sz : IntKind.i64.wrap (sz + (n : Int)) = sz'
 n1 : 0 < n
 n2 : (0 + p * 1).ble (rowV encB da).length = true
 n3 : ((p + n) * 1).ble 140737488355328 = true
 n4 : (p + n).ble 9223372036854775807 = true
 d1 : (List.take (p * 1) (List.drop 0 (rowV encB da))).length.beq (p * 1) = true
theorem XJ' (xs : List Rs) (x : Rs) : xP (xs ++ [x]) = pV (xs.length + 1) := by
 cases xs with
 | nil => rfl
 | cons y xs => show pV ((xs ++ [x]).length + 1) = _; rw [List.length_append]; rfl
theorem YU' (o : Nat) (xs : List Rs) (x : Rs) : oP o (xs ++ [x]) = .cells (vmap (pwV o (xs ++ [x]))) tPw := by
 cases xs with
 | nil => rfl
 | cons y xs => rfl
theorem aH' {S rs : List Bs} {r : Bs} {H0 : LH} {vs : List AV} (xs : List Rs) (hx : xs.map (·.d) = rs.map B2') (hr : r.length <= most) (hd : (([0, 1001, 1002, 1003, 1004, 1005, 1006, 1007] : List Nat).all fun i => (getO H0 i).isNone) = true) (hl : A9' 1100 H0 = true)
  (hv : ∀ K, AV.cls K vs) (ho : ∀ K : Nat -> Bool, K 0 = true -> ∀ x ∈ H0, x.2.cl K) :
  Goes vs (uD (pV (xs.length + 1)) (Int.ofNat (cat (S ++ (rs ++ [r]))).length) mSt mCk (cat (S ++ (rs ++ [r]))).length (cat S).length (cat (S ++ (rs ++ [r]))) (cat S) (.cells (vmap (pwV (cat S).length xs) ++ [sv nm1, iv (Int.ofNat ((cat S).length + lenR xs)), sB 1007 (B2' r).length]) tPw) (PB xs) ++ ((1007, rB (B2' r)) :: H0)) vs ((0, dO S (rs ++ [r])) :: H0) := by
 intro W0 F N ys w hst; have hd' := hd; simp only [List.all_cons, List.all_nil, Bool.and_true, Bool.and_eq_true, Option.isNone_iff_eq_none] at hd'; obtain ⟨n0, n1, n2, n3, n4, n5, n6, n7⟩ := hd'; have hlen : (B2' r).length = 8 + r.length := C2' r; have hr' : r.length <= 1048576 := hr
 have hb : (B2' r).length <= big := by rw [hlen]; show _ <= 140737488351232; omega
 have hp : 0 < (B2' r).length := ω
 obtain ⟨c, hc⟩ := st_abs (by
   simp only [A9', uD, List.cons_append, List.nil_append, List.all_cons] at hl ⊢
   rw [hl]; rfl) hst 1005 1006 [1007] δ δ δ (a := vmap (pwV (cat S).length xs)) (b := [sv nm1, iv (Int.ofNat ((cat S).length + lenR xs)), sB 1007 (B2' r).length]) (e := tPw) rfl rfl (fun N1 D w h => h.lt)
  (fun c C => PB xs C /\ ∃ x : Rs, x.d = B2' r /\ c = [.string nm1, .int .i64 (Int.ofNat ((cat S).length + lenR xs)), x.val] /\ At1 C x) (fun N1 D hD yb hy => by
   have hP : PB xs (H8' (D 1006) w) := (hD 1006 _ rfl).1; obtain ⟨y1, r1, a1, q1, rfl⟩ := hy; obtain ⟨y2, r2, a2, q2, rfl⟩ := q1; obtain ⟨y, r0, a3, q3, rfl⟩ := q2; have q3 : r0 = [] := q3; subst q3; have a1 : y1 = .string nm1 := VR_v.1 a1; have a2 : y2 = .int .i64 (Int.ofNat ((cat S).length + lenR xs)) := VR_v.1 a2; subst a1 a2; obtain ⟨a, cp, rfl, hB, hC⟩ := rB_mem hb hp (hD 1007 _ rfl) a3
   exact ⟨[.string nm1, .int .i64 (Int.ofNat ((cat S).length + lenR xs)), .slice (some a) (B2' r).length cp], rfl, VRs.vmap _, hP.mono (KJ' fun b hb => .inl hb), ⟨B2' r, some a, cp⟩, rfl, rfl, ⟨hB.mono (KJ' fun b hb => .inr ⟨1007, List.mem_cons_self, ⟨_, rfl⟩, hb⟩), hC⟩⟩)
 obtain ⟨⟨C0, _, x, hxd, rfl, _⟩, hc⟩ := hc
 have hfin := hc (dkL S (rs ++ [r]) (xs ++ [x]) ++ H0) (PB (xs ++ [x])) (by
   simp only [A9', dkL, uD, List.cons_append, List.nil_append, List.all_cons] at hl ⊢
   rw [hl]; rfl) (by
   show some (oP (cat S).length (xs ++ [x])) = _
   rw [YU', PL', TS']) rfl (fun C ⟨h1, x', h2, h3, h4⟩ => by
   have e : x' = x := by
    obtain ⟨d1, a1, c1⟩ := x; obtain ⟨d2, a2, c2⟩ := x'; simp only at hxd h2; subst hxd h2; simp only [Rs.val, List.cons.injEq, Value.slice.injEq, and_true, true_and] at h3; obtain ⟨rfl, rfl⟩ := h3; rfl
   rw [e] at h4
   exact h1.snoc h4) (fun n o h1 h2 h3 => by
   simp only [dkL, uD, List.cons_append, List.nil_append, getO, if_neg h1, if_neg h2, XJ'] at h3 ⊢
   by_cases e7 : n = 1007
   ·subst e7
    simp only [show ¬ (1007 = 0) by decide, show ¬ (1007 = 1001) by decide, show ¬ (1007 = 1002) by decide, show ¬ (1007 = 1003) by decide, show ¬ (1007 = 1004) by decide, if_false] at h3
    rw [n7] at h3; cases h3
   ·exact ⟨by simp [e7], by simp only [if_neg e7]; exact h3⟩) (hv _) (by
   have hK0 : (fun n => Nat.blt n 1000 || (getO (dkL S (rs ++ [r]) (xs ++ [x]) ++ H0) n).isSome) 0 = true := rfl
   intro y hy
   rcases List.mem_append.1 hy with hy | hy
   ·have hk : ∀ i, kH (dkL S (rs ++ [r]) (xs ++ [x])) i = true -> (fun n => Nat.blt n 1000 || (getO (dkL S (rs ++ [r]) (xs ++ [x]) ++ H0) n).isSome) i = true := fun i hi => by
     simp only [kH] at hi; obtain ⟨o, ho⟩ := Option.isSome_iff_exists.1 hi; simp only [C7', ho, Option.isSome_some, Bool.or_true]
    exact AO.cl_mono hk (X6' S (rs ++ [r]) (xs ++ [x]) y hy)
   ·exact ho _ hK0 y hy)
 exact W6' (xs ++ [x]) (by rw [List.map_append, List.map_append, hx]; simp only [List.map_cons, List.map_nil, hxd]) (by
   simp only [List.all_cons, List.all_nil, Bool.and_true, Bool.and_eq_true, n0, n1, n2, n3, n4, n5, n6]; simp) hl (hv _) (ho _ rfl) W0 F N ys w hfin
theorem cWo_ok {W : World} (hN : LN W) (r : Bs) (hr : r.length <= most) (hp : 0 < r.length) (F : HP) (hF : AK' W F) : C1OK Θ F fWp (cWo r.length (B2' r).length r (B2' r)) := by
 have hb : r.length <= big := by have : r.length <= 1048576 := hr; show _ <= 140737488351232; omega
 exact B4' hF (fun _ => .tuple [sB 1000 (B2' r).length, iv 0]) (fun args => by split <;> first | exact RO.ret _ | exact RO.fail _) (fun _ => rfl) (fun _ _ => W8' W hN (pre := []) (H' := [(1000, rB (B2' r))]) hb hp rfl (fun i o h => by
  simp only [getO] at h ⊢
  by_cases e : i = 1000
  ·subst e; exact ⟨δ, by simp⟩
  ·rw [if_neg e] at h; cases h) fun W' hN' oa c h _ => PC' W' hN' oa c r h hr) fun _ => ⟨rfl, rfl, ⟨rfl, Ye⟩, A0' (C5' _ _) A1', ⟨⟨rfl, Ye, Ye⟩, Ye⟩, A0' (C5' _ _) (A0' (C5' _ _) A1')⟩
theorem ApK_mk {da w : Bs} (h0 : 0 < w.length) (hz : da.length + w.length <= 1099511627776) : ApK (Int.ofNat da.length) (Int.ofNat (da.length + w.length)) (Int.ofNat da.length) (Int.ofNat (da.length + w.length)) da w w.length da.length := by
 have hrl : (rowV encB da).length = da.length := CR' da; refine ⟨rfl, rfl, decide_eq_false (by simp only [Z0]; omega), decide_eq_false ?_, ?_, ?_, ?_, AW' (by rw [hrl]; omega), AW' ω, AW' ω, ?_⟩
 ·rw [IntWalk.i64_in _ (by simp only [Z0]; omega)]; simp only [Z0]; omega
 ·rw [IntWalk.i64_in _ (by simp only [Z0]; omega)]; simp only [Z0]; omega
 ·rw [IntWalk.i64_in _ (by simp only [Z0]; omega)]; simp only [Z0]; omega
 ·exact h0
 ·rw [List.drop_zero, List.take_of_length_le (by rw [hrl, Nat.mul_one]; exact Yd), hrl, Nat.mul_one]; exact Nat.beq_refl _
theorem W1' {W : World} {us us' sz sz' : Int} {da w : Bs} {n p : Nat} (K : ApK us us' sz sz' da w n p) (q : Nat) (sa : Bs) (m : Nat) (r : Bs) (z : Nat) (V : List Value) (hV : V.length = z * 3) (hz : z < 1099511627776) (PR : Mem -> Prop) (hW : ∀ F, AK' W F -> C1OK Θ F fWp (cWo m n r w)) (hcl : ∀ F, C1OK Θ F fCl (cClB n w)) :
  Tri Θ W fAp [.ptr 2 0, sB 4 m] (uD (pV z) us mSt mCk p q da sa (.cells (vmap V) tPw) PR ++ [(2, lgC sz), (4, rB r)]) (iv 0) (uD (pV (z + 1)) us' mSt mCk (p + n) q (da ++ w) sa (.cells (vmap V ++ [sv nm1, iv (Int.ofNat p), sB 1007 n]) tPw) PR ++ ((1007, rB w) :: [(2, lgC sz'), (4, rB r)])) := by
 have hrow : ∀ σ : Nat -> Nat, List.take (p * 1) (List.drop 0 (rowV encB da)) ++ List.take (n * 1) (List.drop 0 (AV.rens σ (rowV encB w))) = rowV encB (da ++ w) := fun σ => by
  rw [K.hn, K.hp, AD', List.drop_zero, List.drop_zero, List.take_of_length_le (by rw [CR', Nat.mul_one]; exact Yd), List.take_of_length_le (by rw [CR', Nat.mul_one]; exact Yd), AB']
 have w3 : ∀ σ : Nat -> Nat, (List.take (n * 1) (List.drop 0 (AV.rens σ (rowV encB w)))).length.beq (n * 1) = true := fun σ => by
  rw [K.hn, AD', List.drop_zero, List.take_of_length_le (by rw [CR', Nat.mul_one]; exact Yd), CR', Nat.mul_one]; exact Nat.beq_refl _
 have w4 : ∀ σ : Nat -> Nat, (List.take (n * 1) (List.drop 0 (AV.rens σ (rowV encB w)))).all AV.one = true := fun σ => by rw [K.hn]; exact RC' w σ
 have ktk : List.take (z * 3) (List.drop 0 (vmap V)) = vmap V := by rw [List.drop_zero, List.take_of_length_le (by rw [KU', hV]; exact Yd)]
 have z1 : (0 + z * 3).ble (vmap V).length = true := AW' (by rw [KU', hV]; omega); have z2 : ((z + 1) * 48).ble 140737488355328 = true := AW' ω; have z3 : (z + 1).ble 9223372036854775807 = true := AW' ω
 have z4 : (List.take (z * 3) (List.drop 0 (vmap V))).length.beq (z * 3) = true := by rw [ktk, KU', hV]; exact Nat.beq_refl _
 refine AM' (con := VH' m n r w) (hints := hAp us' sz') (lc := []) kD χ (fun F hF => AO' (hW F hF) (AO' (QW' (SG' _) (fun K => ⟨Ye, Ye⟩) (fun K => trivial) F) (AO' (QW' (OM' _) (fun K => ⟨Ye, Ye⟩) (fun K => trivial) F) (DG' (hcl F))))) (fun F _ => noL) fun F => ?_
 refine Yj (V0' W us us' sz sz' mSt mCk p q n m z da sa r w V PR F) ⟨⟨?_, (AJ' (vs' := [iv 0]) (H' := [(0, dkC (pV (z + 1)) us'), (1001, mpO mSt mCk), (1002, fiC (p + n) q), (1003, rB (da ++ w)), (1004, rB sa), (1005, (.cells (vmap V ++ [sv nm1, iv (Int.ofNat p), sB 1007 n]) tPw)), (1006, .any (frz PR)), (1007, rB w), (2, lgC sz'), (4, rB r)]) [(1001, 1001), (1002, 1002), (1003, 1104), (1004, 1004), (1005, 1103), (1006, 1006), (1007, 1101)] χ χ (Yb) ⟨⟨_, rfl, Yc⟩, ⟨_, rfl, Yc⟩, ⟨_, rfl, Yc⟩, ⟨_, rfl, BO' (hrow _) rfl⟩, ⟨_, rfl, BO' rfl rfl⟩, ⟨_, rfl, by rw [ktk]; exact OW.of_eq (by simp only [AO.ren, ME', EI']; rfl)⟩, ⟨_, rfl, Yc⟩, ⟨_, rfl, BO' (AD' _ _) rfl⟩, ⟨_, rfl, Yc⟩, ⟨_, rfl, BO' (AD' _ _) rfl⟩, Ye⟩).fits χ⟩⟩
 exact Cc7'
theorem W0' {W : World} {us us' sz sz' : Int} {da w : Bs} {n p : Nat} (K : ApK us us' sz sz' da w n p) (q : Nat) (sa : Bs) (m : Nat) (r : Bs) (O : AO) (PR : Mem -> Prop) (hW : ∀ F, AK' W F -> C1OK Θ F fWp (cWo m n r w)) (hcl : ∀ F, C1OK Θ F fCl (cClB n w)) :
  Tri Θ W fAp [.ptr 2 0, sB 4 m] (uD nilS us mSt mCk p q da sa O PR ++ [(2, lgC sz), (4, rB r)]) (iv 0) (uD (pV (0 + 1)) us' mSt mCk (p + n) q (da ++ w) sa (.cells [sv nm1, iv (Int.ofNat p), sB 1007 n] tPw) PR ++ ((1007, rB w) :: [(2, lgC sz'), (4, rB r)])) := by
 have hrow : ∀ σ : Nat -> Nat, List.take (p * 1) (List.drop 0 (rowV encB da)) ++ List.take (n * 1) (List.drop 0 (AV.rens σ (rowV encB w))) = rowV encB (da ++ w) := fun σ => by
  rw [K.hn, K.hp, AD', List.drop_zero, List.drop_zero, List.take_of_length_le (by rw [CR', Nat.mul_one]; exact Yd), List.take_of_length_le (by rw [CR', Nat.mul_one]; exact Yd), AB']
 have w3 : ∀ σ : Nat -> Nat, (List.take (n * 1) (List.drop 0 (AV.rens σ (rowV encB w)))).length.beq (n * 1) = true := fun σ => by
  rw [K.hn, AD', List.drop_zero, List.take_of_length_le (by rw [CR', Nat.mul_one]; exact Yd), CR', Nat.mul_one]; exact Nat.beq_refl _
 have w4 : ∀ σ : Nat -> Nat, (List.take (n * 1) (List.drop 0 (AV.rens σ (rowV encB w)))).all AV.one = true := fun σ => by rw [K.hn]; exact RC' w σ
 refine AM' (con := VH' m n r w) (hints := hAp us' sz') (lc := []) kD χ (fun F hF => AO' (hW F hF) (AO' (QW' (SG' _) (fun K => ⟨Ye, Ye⟩) (fun K => trivial) F) (AO' (QW' (OM' _) (fun K => ⟨Ye, Ye⟩) (fun K => trivial) F) (DG' (hcl F))))) (fun F _ => noL) fun F => ?_
 refine Yj (UZ' W us us' sz sz' mSt mCk p q n m da sa r w O PR F) ⟨⟨?_, (AJ' (vs' := [iv 0]) (H' := [(0, dkC (pV (0 + 1)) us'), (1001, mpO mSt mCk), (1002, fiC (p + n) q), (1003, rB (da ++ w)), (1004, rB sa), (1005, (.cells [sv nm1, iv (Int.ofNat p), sB 1007 n] tPw)), (1006, .any (frz PR)), (1007, rB w), (2, lgC sz'), (4, rB r)]) [(1001, 1001), (1002, 1002), (1003, 1104), (1004, 1004), (1005, 1103), (1006, 1006), (1007, 1101)] χ χ (Yb) ⟨⟨_, rfl, Yc⟩, ⟨_, rfl, Yc⟩, ⟨_, rfl, Yc⟩, ⟨_, rfl, BO' (hrow _) rfl⟩, ⟨_, rfl, BO' rfl rfl⟩, ⟨_, rfl, Yc⟩, ⟨_, rfl, Yc⟩, ⟨_, rfl, BO' (AD' _ _) rfl⟩, ⟨_, rfl, Yc⟩, ⟨_, rfl, BO' (AD' _ _) rfl⟩, Ye⟩).fits χ⟩⟩; exact Cc7'
theorem ap_tri (W : World) (S rs : List Bs) (r : Bs) (hr : r.length <= most) (hS : 0 < (cat S).length) (hz : (cat (S ++ (rs ++ [r]))).length <= 1099511627776) (hk : rs.length < 1099511627776) (hW : ∀ F, AK' W F -> C1OK Θ F fWp (cWo r.length (B2' r).length r (B2' r))) : Tri Θ W fAp [.ptr 2 0, sB 4 r.length] ((0, dO S rs) :: [(2, lgC (Int.ofNat (cat (S ++ rs)).length)), (4, rB r)]) (iv 0) ((0, dO S (rs ++ [r])) :: [(2, lgC (Int.ofNat (cat (S ++ (rs ++ [r]))).length)), (4, rB r)]) := by
 have hlen : (B2' r).length = 8 + r.length := C2' r
 have hcat : cat (S ++ (rs ++ [r])) = cat (S ++ rs) ++ B2' r := by rw [<- List.append_assoc, HI']
 have hsum : (cat (S ++ (rs ++ [r]))).length = (cat (S ++ rs)).length + (B2' r).length := by rw [hcat, List.length_append]
 have K := ApK_mk (da := cat (S ++ rs)) (w := B2' r) ω ω; rw [<- hsum] at K
 have hcl := fun (F : HP) => LI' (l := B2' r) (by rw [hlen]; show _ <= 140737488351232; have : r.length <= 1048576 := hr; omega) ω F
 refine WG' (by rfl) χ fun xs hx => ?_
 have hxl : xs.length = rs.length := by have := congrArg List.length hx; simpa using this
 have hat : (cat (S ++ rs)).length = (cat S).length + lenR xs := by rw [LG', List.length_append, PS' xs rs hx]
 have hg := aH' (S := S) (vs := [iv 0]) (H0 := [(2, lgC (Int.ofNat (cat (S ++ (rs ++ [r]))).length)), (4, rB r)]) xs hx hr (by rfl) χ (fun K => ⟨Ye, Ye⟩) (fun K h0 => A0' ⟨h0, Ye, Ye, Ye, Ye⟩ (A0' (C5' _ _) A1')); rw [hcat, <- hat, <- hcat] at hg
 cases xs with
 | nil =>
  have := W0' K (cat S).length (cat S) r.length r dumZ (PB []) hW hcl; rw [<- hcat, <- hsum] at this; exact Tri.post this hg
 | cons x xs =>
  have := W1' K (cat S).length (cat S) r.length r (xs.length + 1) (pwV (cat S).length (x :: xs)) (RT' _ _) (by simp only [List.length_cons] at hxl; omega) (PB (x :: xs)) hW hcl; rw [<- hcat, <- hsum] at this; exact Tri.post this hg
open Co
open Int renaming ofNat -> o'
open Go.Value renaming int -> vi'
open AO renaming cells -> ce'
open AV renaming v -> v'
open AV renaming ptr -> pt'
open Go.IntKind renaming u8 -> u8'
open Cnd renaming holds -> ch'
open List renaming length_append -> la'
variable {i : Nat}
theorem oCC_eq (W : World) (a : Addr) (n c : Nat) (F : HP) : wRun [] (AE' [hf' fCC 1 1]) [] W fCC [slV (some a) n c] [] [1100, 1101, 1102, 1103] F = VT.leaf (AV.slice 1101 0 (0 + n) 3 (Cp.lo (0 + n))) [some (ce' (rep [s' y0',s' y0',b' false] 0) 58),some (ce' ([] ++ vmap (AL' W a (n * 3))) 58),none,none] 1102 (k5'.a (((p' (n.ble n = true)).a ((p' (((List.range (n * 3)).all fun j => (W.cell? (a.add j)).isSome) = true)).a ((p' ((vmap (AL' W a (n * 3))).all AV.one = true)).a ((p' (Nat.blt 0 n = true)).a (tt'.a ((p' (((0 + n) * 40).ble 140737488355328 = true)).a ((p' ((0 + n).ble 9223372036854775807 = true)).a (tt'.a (f' (Nat.blt 0 (0 + n) = true)))))))))).a k1')) := χ
theorem oMC_eq (m : KM) (c : Nat) (F : HP) : wRunC [] (AE' [hf' fMC 1 1]) [] default fMC [.map 0] [(0, mO m c)] [0, 1100, 1101, 1102] F = VT.leaf (AV.map 1100) [some (AO.map (kM m) c),some (AO.map (kM m) c),none,none] 1101 (k5'.a k1') := χ
def lgD (d : Nat) (sz : Int) : AO := .cells [.ptr d 0, sv nmL, iv 1, iv sz] tLg
def catG (D : AO) (sz : Int) (b : Int) (m : KM) (c : Nat) : LH := [(0, ctO (.ptr 1001 0) 1003 b), (1001, lgD 1002 sz), (1002, D), (1003, mO m c)]
def kMd : List Nat := [0, 1001, 1002, 1003, 1050]
def kLp : List Nat := [0, 1001, 1002, 1003, 1050, 1051, 1052]
def oMd (D : AO) (sz b0 : Int) (m0 : KM) (c0 : Nat) (l : List Chg) : LH := catG D sz b0 m0 c0 ++ [(1050, rC l)]
def aMd (n i : Nat) : List (Nat × AV) := [(0, .ptr 0 0), (6, sC 1050 n), (25, iv (o' n)), (26, iv (o' i))]
def ixMd : List Nat := [0, 6, 25, 26]
theorem Z7' (D : AO) (sz b0 : Int) (m0 : KM) (c0 : Nat) (n i : Nat) (l l2 : List Chg) (F : HP) : BK' [] (AE' [ht' fCm 6 0, ht' fCm 8 4, (fCm, 9, 4, ho 1050 (rC l2)), (fCm, 10, 0, hv (iv (o' (i + 1))))]) [] default fCm (A3' fCm 6) (tms 0 102 (aMd n i)) (oMd D sz b0 m0 c0 l) kMd ixMd F = VT.leaf (AX.normal,[pt' 0 0,AV.slice 1050 0 n 3 (Cp.lo n),i' n,i' (i + 1)],102) [some (ce' [pt' 1001 0,AV.map 1003,z' b0] 142),some (ce' [pt' 1002 0,s' nmL,i' 1,z' sz] 216),some D,some (AO.map (kM m0) c0),some (ce' (rowV chV l2) 58)] 1100 (h3' i n (((p' ((0 + i * 3 + 2).blt (rowV chV l).length = true)).a ((p' (((rowV chV l).getD (0 + i * 3 + 2) (u')).bool? = some ((rowV chV l).getD (0 + i * 3 + 2) (u')).boolOf)).a (f' (Wk (v' (Value.bool ((rowV chV l).getD (0 + i * 3 + 2) (u')).boolOf)) j')))).a ((f' (i.blt n = true)).a (((p' ((0 + i * 3 + 1 + 1).ble (rowV chV l).length = true)).a (f' (OW (ce' (splice (rowV chV l) (0 + i * 3 + 1) [s' y0']) 58) (ce' (rowV chV l2) 58)))).a ((k2' i).a k1'))))) := χ
theorem Z8' (D : AO) (sz b0 : Int) (m0 : KM) (c0 : Nat) (n i : Nat) (l : List Chg) (F : HP) : BK' [] (AE' [ht' fCm 6 0, hf' fCm 8 4, (fCm, 10, 0, hv (iv (o' (i + 1))))]) [] default fCm (A3' fCm 6) (tms 0 102 (aMd n i)) (oMd D sz b0 m0 c0 l) kMd ixMd F = VT.leaf (AX.normal,[pt' 0 0,AV.slice 1050 0 n 3 (Cp.lo n),i' n,i' (i + 1)],102) [some (ce' [pt' 1001 0,AV.map 1003,z' b0] 142),some (ce' [pt' 1002 0,s' nmL,i' 1,z' sz] 216),some D,some (AO.map (kM m0) c0),some (ce' (rowV chV l) 58)] 1100 (h3' i n (((p' ((0 + i * 3 + 2).blt (rowV chV l).length = true)).a ((p' (((rowV chV l).getD (0 + i * 3 + 2) (u')).bool? = some ((rowV chV l).getD (0 + i * 3 + 2) (u')).boolOf)).a (f' (Wk (v' (Value.bool ((rowV chV l).getD (0 + i * 3 + 2) (u')).boolOf)) g')))).a ((k2' i).a k1'))) := χ
theorem Z9' (D : AO) (sz b0 : Int) (m0 : KM) (c0 : Nat) (n i : Nat) (l : List Chg) (F : HP) : BK' [] (AE' [hf' fCm 6 0]) [] default fCm (A3' fCm 6) (tms 0 102 (aMd n i)) (oMd D sz b0 m0 c0 l) kMd ixMd F = VT.leaf (AX.exit 0,[pt' 0 0,AV.slice 1050 0 n 3 (Cp.lo n),i' n,i' i],102) [some (ce' [pt' 1001 0,AV.map 1003,z' b0] 142),some (ce' [pt' 1002 0,s' nmL,i' 1,z' sz] 216),some D,some (AO.map (kM m0) c0),some (ce' (rowV chV l) 58)] 1100 ((k25' i n).a k1') := χ
def gAy : List AV -> AP (Nat × Nat) := fun args => match args with
 | [.ptr i 0, _] => .read i fun o => match o with
  | .cells (_ :: .map j :: _) _ => .ret (i, j)
  | _ => .fail "catalog"
 | _ => .fail "catalog"
def nmAy (p : Nat × Nat) (k : Nat) : Nat := match k with
 | 0 => p.1
 | 1 => p.2
 | k => k
def cAy (k v : Δ) (d : Bool) (b : Int) (m : KM) (c : Nat) (b9 : Int) (m' : KM) (c' : Nat) : List AV -> Option (AP AV) := mkC gAy (fun _ => True) nmAy (fun _ => [.ptr 0 0, .agg [sv k, sv v, bv d]]) (fun _ => [(0, ctO nilP 1 b), (1, mO m c)]) (fun _ => .leaf .ret [.tuple []] [(0, ctO nilP 1 b9), (1, mO m' c')])
def aLp (n i : Nat) : List (Nat × AV) := [(0, .ptr 0 0), (6, sC 1050 n), (8, .ptr 1051 0), (50, sC 1050 n), (51, iv (o' n)), (52, iv (o' i))]
def ixLp : List Nat := [0, 6, 8, 50, 51, 52]
def oLp (D : AO) (sz b0 : Int) (m0 : KM) (c0 : Nat) (l : List Chg) (b : Int) (m : KM) (c : Nat) : LH := catG D sz b0 m0 c0 ++ [(1050, rC l), (1051, ctO nilP 1052 b), (1052, mO m c)]
theorem oLp_eq (D : AO) (sz b0 : Int) (m0 : KM) (c0 : Nat) (n i : Nat) (l : List Chg) (k v : Δ) (d : Bool) (b : Int) (m : KM) (c : Nat) (b9 : Int) (m' : KM) (c' : Nat) (F : HP) : BK' [(fAy, cAy k v d b m c b9 m' c')] (AE' [ht' fCm 13 0, (fCm, 14, 1, hv (.agg [sv k, sv v, bv d])), (fCm, 16, 0, hv (iv (o' (i + 1))))]) [] default fCm (A3' fCm 13) (tms 0 102 (aLp n i)) (oLp D sz b0 m0 c0 l b m c) kLp ixLp F = VT.leaf (AX.normal,[pt' 0 0,AV.slice 1050 0 n 3 (Cp.lo n),pt' 1051 0,AV.slice 1050 0 n 3 (Cp.lo n),i' n,i' (i + 1)],102) [some (ce' [pt' 1001 0,AV.map 1003,z' b0] 142),some (ce' [pt' 1002 0,s' nmL,i' 1,z' sz] 216),some D,some (AO.map (kM m0) c0),some (ce' (rowV chV l) 58),some (ce' [v' (Value.pointer none),AV.map 1052,z' b9] 142),some (AO.map (renE (sgN (nmAy (1051,1052)) [] 0) (kM m')) c')] 1101 (h31' i n l k v d (k7'.a ((ee' [s' k,s' v,b' d]).a (((Cnd.p True).a ((vw' [pt' 1051 0,AV.agg [s' k,s' v,b' d]]).a ((ow' (ce' [v' (Value.pointer none),AV.map 1052,z' b] 142)).a (f' (OW (AO.map (kM m) c) (AO.map (renE (nmAy (1051,1052)) (kM m)) c)))))).a ((k2' i).a k1'))))) := χ
theorem ZC' (D : AO) (sz b0 : Int) (m0 : KM) (c0 : Nat) (n i : Nat) (l : List Chg) (b : Int) (m : KM) (c : Nat) (F : HP) : BK' [] (AE' [hf' fCm 13 0]) [] default fCm (A3' fCm 13) (tms 0 102 (aLp n i)) (oLp D sz b0 m0 c0 l b m c) kLp ixLp F = VT.leaf (AX.exit 2,[pt' 0 0,AV.slice 1050 0 n 3 (Cp.lo n),pt' 1051 0,AV.slice 1050 0 n 3 (Cp.lo n),i' n,i' i],102) [some (ce' [pt' 1001 0,AV.map 1003,z' b0] 142),some (ce' [pt' 1002 0,s' nmL,i' 1,z' sz] 216),some D,some (AO.map (kM m0) c0),some (ce' (rowV chV l) 58),some (ce' [v' (Value.pointer none),AV.map 1052,z' b] 142),some (AO.map (kM m) c)] 1100 ((k25' i n).a k1') := χ
theorem PK' (l : List Chg) : (rowV chV l).length = l.length * 3 := BE' (k := 3) chV_len l
theorem L5' (K : Nat -> Bool) (l : List Chg) : (rC l).cl K := PX' _ _
theorem rC_ren (σ : Nat -> Nat) (l : List Chg) : (rC l).ren σ = rC l := by simp only [rC, AO.ren, AD']
theorem AX' {x : List AV} {l : List Chg} {e : TypeId} {σ : Nat -> Nat} (h : x = rowV chV l) (he : e = tCh) : OW (.cells x e) ((rC l).ren σ) := by rw [rC_ren]; subst h he; exact Yc
theorem EH' : ∀ l : List Chg, rowV chV l = l.flatMap fun x => [sv x.k, sv x.v, bv x.d] := fun l => by
 unfold rowV
 induction l with
 | nil => rfl
 | cons x l ih => rw [List.flatMap_cons, List.flatMap_cons, <- ih]; rfl
theorem J9' : ∀ (l : List Chg) (i j : Nat) (x : Chg), l[i]? = some x -> j < 3 -> ∀ d, (rowV chV l).getD (i * 3 + j) d = (vmap (chV x)).getD j d
 | [], i, j, x, h, _, d => by simp at h
 | y :: l, 0, j, x, h, hj, d => by
  cases h; rw [EH', List.flatMap_cons, Nat.zero_mul, Nat.zero_add]
  match j, hj with
  | 0, _ => rfl
  | 1, _ => rfl
  | 2, _ => rfl
 | y :: l, i + 1, j, x, h, hj, d => by
  have ih := J9' l i j x h hj d; rw [EH'] at ih ⊢
  rw [List.flatMap_cons, show (i + 1) * 3 + j = (i * 3 + j) + 3 from ω]
  exact ih
theorem S2' : ∀ {W : World} {a : Addr} {l : List Chg}, (∀ (i : Nat) (x : Chg), l[i]? = some x -> ∀ (j : Nat) (v : Value), (chV x)[j]? = some v -> W.cell? (a.add (i * 3 + j)) = some v) ->
  ((List.range (l.length * 3)).all fun j => (W.cell? (a.add j)).isSome) = true /\ vmap (AL' W a (l.length * 3)) = rowV chV l := by
 intro W a l h
 have hc : ∀ n, n < l.length * 3 -> ∃ v, W.cell? (a.add n) = some v /\ (rowV chV l).getD n AV.undef = .v v := fun n hn => by
  obtain ⟨x, hx⟩ := B1' (l := l) (i := n / 3) ω; have hj : n % 3 < 3 := Nat.mod_lt _ δ
  have e : n / 3 * 3 + n % 3 = n := ω
  have hv : ∃ v, (chV x)[n % 3]? = some v := ⟨_, List.getElem?_eq_getElem (by rw [chV_len]; exact hj)⟩; obtain ⟨v, hv⟩ := hv
  refine ⟨v, by have := h _ x hx _ v hv; rwa [e] at this, ?_⟩
  have := J9' l (n / 3) (n % 3) x hx hj AV.undef; rw [e] at this; rw [this, vmap, List.getD_eq_getElem?_getD, List.getElem?_map, hv]; rfl
 refine ⟨List.all_eq_true.2 fun n hn => ?_, ?_⟩
 ·obtain ⟨v, hv, _⟩ := hc n (List.mem_range.1 hn); rw [hv]; rfl
 ·refine List.ext_getElem (by simp [vmap, AL', PK']) fun n h1 h2 => ?_
  have hn : n < l.length * 3 := by rw [PK'] at h2; exact h2
  obtain ⟨v, hv, hg⟩ := hc n hn; rw [List.getD_eq_getElem?_getD, List.getElem?_eq_getElem h2, Option.getD_some] at hg; rw [hg]; simp [vmap, AL', hv]
theorem WH' (l : List Chg) : (rowV chV l).all AV.one = true := by
 rw [EH']
 induction l with
 | nil => rfl
 | cons x l ih => rw [List.flatMap_cons, List.all_append, ih]; rfl
theorem cc_tri (W : World) (oa : Option Addr) (c : Nat) (l : List Chg) (h : CAt W oa l) (hp : 0 < l.length) : Tri Θ W fCC [slV oa l.length c] [] (sC 1000 l.length) [(1000, rC l)] := by
 obtain ⟨x, hx⟩ := B1' (l := l) hp; obtain ⟨a, rfl, _⟩ := h.at' 0 x hx; have hlen := h.len
 obtain ⟨b2, b3⟩ := S2' (W := W) (a := a) (l := l) fun i y hy j v hv => by
  obtain ⟨a9, e, q⟩ := h.at' i y hy; cases e; exact q j v hv
 have b1 : l.length.ble l.length = true := AW' (Yd)
 have b4 : (vmap (AL' W a (l.length * 3))).all AV.one = true := by rw [b3]; exact WH' l
 have b5 : ((0 + l.length) * 40).ble 140737488355328 = true := AW' ω; have b6 : (0 + l.length).ble 9223372036854775807 = true := AW' ω
 have b8 : 0 < 0 + l.length := ω
 refine AM' (con := []) (hints := AE' [hf' fCC 1 1]) (lc := []) [1100, 1101, 1102, 1103] rfl (fun _ _ => noC) (fun F _ => noL) fun F => ?_
 refine Yj (oCC_eq W a l.length c F) ⟨⟨?_, (AJ' (vs' := [sC 1000 l.length]) (H' := [(1000, rC l)]) [(1000, 1101)] rfl rfl (by rw [Nat.zero_add]; exact Yb) ⟨⟨_, rfl, by rw [List.nil_append]; exact AX' b3 rfl⟩, Ye⟩).fits rfl⟩⟩; simp only [ch', Nat.blt_eq, true_and, and_true]; exact ⟨B0' _, b1, b2, b4, hp, b5, b6, b8⟩
theorem mc_tri (m : KM) (c : Nat) : Tri Θ default fMC [.map 0] [(0, mO m c)] (.map 1000) [(0, mO m c), (1000, mO m c)] := by
 refine TW' (con := []) (hints := AE' [hf' fMC 1 1]) (lc := []) [0, 1100, 1101, 1102] rfl (fun _ _ => noC) (fun F _ => noL) fun F => ?_
 refine Yj (oMC_eq m c F) ⟨⟨?_, (AJ' (vs' := [.map 1000]) (H' := [(0, mO m c), (1000, mO m c)]) [(1000, 1100)] χ χ (Yb) ⟨⟨_, rfl, D2' rfl rfl⟩, ⟨_, rfl, D2' rfl rfl⟩, Ye⟩).fits rfl⟩⟩; simp only [ch', true_and, and_true]; exact B0' _
def mdS (l : List Chg) (i : Nat) : List Chg := (l.take i).map BP' ++ l.drop i
theorem a2' (l : List Chg) : mdS l l.length = l.map BP' := by rw [mdS, List.take_length, List.drop_length, List.append_nil]
theorem a0' (l : List Chg) (i : Nat) : (mdS l i).length = l.length := by
 rw [mdS, la', List.length_map, <- la', List.take_append_drop]
theorem WM' {l : List Chg} {x : Chg} (h : l[i]? = some x) : mdS l i = (l.take i).map BP' ++ x :: l.drop (i + 1) /\ mdS l (i + 1) = (l.take i).map BP' ++ BP' x :: l.drop (i + 1) := by
 obtain ⟨hlt, he⟩ := List.getElem?_eq_some_iff.1 h; refine ⟨?_, ?_⟩
 ·rw [mdS, List.drop_eq_getElem_cons hlt, he]
 ·rw [mdS, BR' h, List.map_append, List.append_assoc]; rfl
theorem a1' {l : List Chg} {x : Chg} (h : l[i]? = some x) : (mdS l i)[i]? = some x := by
 rw [(WM' h).1]; obtain ⟨hlt, _⟩ := List.getElem?_eq_some_iff.1 h
 have e : ((l.take i).map BP').length = i := by rw [List.length_map, List.length_take]; omega
 rw [List.getElem?_append_right ω, e, Nat.sub_self]; rfl
theorem XS' (A B : List Chg) (x : Chg) (v : Δ) : splice (rowV chV (A ++ x :: B)) (0 + A.length * 3 + 1) [sv v] = rowV chV (A ++ ⟨x.k, v, x.d⟩ :: B) := by
 rw [Nat.zero_add]; have hA : (rowV chV A).length = A.length * 3 := PK' A
 have e : ∀ y : Chg, rowV chV (A ++ y :: B) = rowV chV A ++ ([sv y.k] ++ ([sv y.v] ++ ([bv y.d] ++ rowV chV B))) := fun y => by
  rw [AB', EH' (y :: B), List.flatMap_cons, <- EH']; rfl
 rw [e, e, splice, <- hA]
 have h1 : List.take ((rowV chV A).length + 1) (rowV chV A ++ ([sv x.k] ++ ([sv x.v] ++ ([bv x.d] ++ rowV chV B)))) = rowV chV A ++ [sv x.k] := by
  rw [List.take_length_add_append]; rfl
 have h2 : List.drop ((rowV chV A).length + 1 + 1) (rowV chV A ++ ([sv x.k] ++ ([sv x.v] ++ ([bv x.d] ++ rowV chV B)))) = [bv x.d] ++ rowV chV B := by
  rw [Nat.add_assoc, List.drop_length_add_append]; rfl
 rw [show [sv v].length = 1 from rfl, h1, h2]; simp only [List.append_assoc]
theorem ZZ' (D : AO) (hD : ∀ σ : Nat -> Nat, OW D (D.ren σ)) (sz b0 : Int) (m0 : KM) (c0 : Nat) (l : List Chg) (hl : l.length <= 1048576) :
  LTri Θ default (A3' fCm 6) (tms 0 102 (aMd l.length 0)) (oMd D sz b0 m0 c0 l) (.exit 0) (tms 0 102 [(0, .ptr 0 0), (6, sC 1050 l.length)]) (oMd D sz b0 m0 c0 (l.map BP')) := by
 have key := BG' (W := default) (g := fCm) (b := A3' fCm 6) (σ := {i : Nat // i <= l.length}) 102 (fun i => aMd l.length i.1) (fun i => oMd D sz b0 m0 c0 (mdS l i.1)) (.exit 0) [(0, .ptr 0 0), (6, sC 1050 l.length)] (oMd D sz b0 m0 c0 (l.map BP')) (fun i => l.length - i.1) kMd ixMd (by intro h; cases h) (fun i => rfl) rfl; refine key ?_ ⟨0, Nat.zero_le _⟩; rintro ⟨i, hi⟩; simp only
 by_cases h1 : i < l.length
 ·obtain ⟨x, hx⟩ := B1' h1; obtain ⟨s1, s2⟩ := WM' hx; have hg := J9' (mdS l i) i 2 x (a1' hx) δ AV.undef
  have hg : (rowV chV (mdS l i)).getD (0 + i * 3 + 2) AV.undef = bv x.d := by rw [Nat.zero_add]; exact hg
  have hlen : (rowV chV (mdS l i)).length = l.length * 3 := by rw [PK', a0']
  have g1 : 0 + i * 3 + 2 < (rowV chV (mdS l i)).length := by rw [hlen]; omega
  have g2 : (0 + i * 3 + 1 + 1).ble (rowV chV (mdS l i)).length = true := by rw [hlen]; exact AW' ω
  have e1 : Wk (.v (.bool (decide (o' i < o' l.length)))) (.lit true) := A4' (ltTN h1); have e3 : Wk (.v (.int .i64 (IntKind.i64.wrap (o' i + o' 1)))) (.v (.int .i64 (o' (i + 1)))) := C8' (BB' i ω)
  have hA : ((l.take i).map BP').length = i := by rw [List.length_map, List.length_take]; omega
  obtain ⟨k, v, d⟩ := x
  cases d with
  | true =>
   have g3 : OW (ce' (splice (rowV chV (mdS l i)) (0 + i * 3 + 1) [v' (Value.string (ByteArray.mk (Array.mk [])))]) tCh) (ce' (rowV chV (mdS l (i + 1))) tCh) := by
    have := XS' ((l.take i).map BP') (l.drop (i + 1)) ⟨k, v, true⟩ ⟨#[]⟩; rw [hA] at this; rw [s1, s2]; have e : BP' ⟨k, v, true⟩ = ⟨k, ⟨#[]⟩, true⟩ := rfl; rw [e, <- this]; exact Yc
   generalize mdS l i = cur at *
   generalize hnx : mdS l (i + 1) = nxt at *
   refine ⟨[], AE' [ht' fCm 6 0, ht' fCm 8 4, (fCm, 9, 4, ho 1050 (rC nxt)), (fCm, 10, 0, hv (iv (o' (i + 1))))], [], fun _ _ => noC, fun _ _ => noL, fun F => ?_⟩
   refine Yj (Z7' D sz b0 m0 c0 l.length i cur nxt F) ⟨⟨?_, rfl, .inl ⟨rfl, ⟨i + 1, h1⟩, B7' h1, [(1001, 1001), (1002, 1002), (1003, 1003), (1050, 1050)], by kernel_rfl, by kernel_rfl, ⟨Ya, Ya, Ya, Ya, Ye⟩, ⟨_, rfl, Yc⟩, ⟨_, rfl, Yc⟩, ⟨_, rfl, hD _⟩, ⟨_, rfl, D2' rfl rfl⟩, ⟨_, rfl, ?_⟩, Ye⟩⟩⟩
   ·exact Cc8'
   ·exact AX' (by rw [<- hnx]) rfl
  | false =>
   have e : mdS l (i + 1) = mdS l i := by rw [s1, s2]; rfl
   refine ⟨[], AE' [ht' fCm 6 0, hf' fCm 8 4, (fCm, 10, 0, hv (iv (o' (i + 1))))], [], fun _ _ => noC, fun _ _ => noL, fun F => ?_⟩
   refine Yj (Z8' D sz b0 m0 c0 l.length i (mdS l i) F) ⟨⟨?_, rfl, .inl ⟨rfl, ⟨i + 1, h1⟩, B7' h1, [(1001, 1001), (1002, 1002), (1003, 1003), (1050, 1050)], by kernel_rfl, by kernel_rfl, ⟨Ya, Ya, Ya, Ya, Ye⟩, ⟨_, rfl, Yc⟩, ⟨_, rfl, Yc⟩, ⟨_, rfl, hD _⟩, ⟨_, rfl, D2' rfl rfl⟩, ⟨_, rfl, AX' (by rw [e]) rfl⟩, Ye⟩⟩⟩
   exact Cc8'
 ·have hie : i = l.length := ω
  subst hie
  refine ⟨[], AE' [hf' fCm 6 0], [], fun _ _ => noC, fun _ _ => noL, fun F => ?_⟩
  refine Yj (Z9' D sz b0 m0 c0 l.length l.length (mdS l l.length) F) ⟨⟨?_, rfl, .inr ⟨rfl, [(1001, 1001), (1002, 1002), (1003, 1003), (1050, 1050)], by kernel_rfl, by kernel_rfl, ⟨Ya, Ya, Ye⟩, ⟨_, rfl, Yc⟩, ⟨_, rfl, Yc⟩, ⟨_, rfl, hD _⟩, ⟨_, rfl, D2' rfl rfl⟩, ⟨_, rfl, AX' (by rw [a2']) rfl⟩, Ye⟩⟩⟩
  simp only [ch', and_true]; exact A4' (ltFN (Yd))
theorem gAy_ro : ∀ args, RO (gAy args) := fun args => by
 unfold gAy; split
 ·refine RO.read _ _ fun o => ?_
  split <;> first | exact RO.ret _ | exact RO.fail _
 ·exact RO.fail _
theorem cAy_ok {s : St} (h : s.OK) (x : Chg) (hb : s.b + szC x <= CA') (F : HP) : C1OK Θ F fAy (cAy x.k x.v x.d (o' s.b) s.m s.c (o' (ap1 s x).b) (ap1 s x).m (ap1 s x).c) :=
 B4' (W := default) BC' (fun _ => .tuple []) gAy_ro (fun _ => rfl) (fun _ _ => ay_tri h x hb) fun _ => ⟨rfl, rfl, ⟨rfl, ⟨Ye, Ye, Ye, Ye⟩, Ye⟩, A0' ⟨Ye, rfl, Ye, Ye⟩ (A0' (GK' _ _ _) A1'), ⟨Ye, Ye⟩, A0' ⟨Ye, rfl, Ye, Ye⟩ (A0' (GK' _ _ _) A1')⟩
def lpS (s : St) (l : List Chg) (i : Nat) : St := apL s (l.take i)
theorem a5' (D : AO) (hD : ∀ σ : Nat -> Nat, OW D (D.ren σ)) (sz b0 : Int) (m0 : KM) (c0 : Nat) (s : St) (h : s.OK) (l : List Chg) (hl : l.length <= 1048576) (hb : s.b + szL l <= CA') :
  LTri Θ default (A3' fCm 13) (tms 0 102 (aLp l.length 0)) (oLp D sz b0 m0 c0 l (o' s.b) s.m s.c) (.exit 2) (tms 0 102 [(0, .ptr 0 0), (6, sC 1050 l.length), (8, .ptr 1051 0)]) (oLp D sz b0 m0 c0 l (o' (apL s l).b) (apL s l).m (apL s l).c) := by
 have key := BG' (W := default) (g := fCm) (b := A3' fCm 13) (σ := {i : Nat // i <= l.length}) 102 (fun i => aLp l.length i.1) (fun i => oLp D sz b0 m0 c0 l (o' (lpS s l i.1).b) (lpS s l i.1).m (lpS s l i.1).c) (.exit 2) [(0, .ptr 0 0), (6, sC 1050 l.length), (8, .ptr 1051 0)] (oLp D sz b0 m0 c0 l (o' (apL s l).b) (apL s l).m (apL s l).c) (fun i => l.length - i.1) kLp ixLp (by intro h; cases h) (fun i => rfl) rfl; refine key ?_ ⟨0, Nat.zero_le _⟩; rintro ⟨i, hi⟩; simp only
 by_cases h1 : i < l.length
 ·obtain ⟨x, hx⟩ := B1' h1
  have hsn : lpS s l (i + 1) = ap1 (lpS s l i) x := by rw [lpS, lpS, BR' hx, apL, List.foldl_append]; rfl
  have hok : (lpS s l i).OK := Q4' h _
  have hle : (lpS s l i).b + szC x <= CA' := by
   have q1 := (T8' h (l.take i)).1; have q2 := IQ' l (i + 1); rw [BR' hx, GF', CS'] at q2; rw [lpS]; omega
  have hld : List.take 3 (List.drop (0 + i * 3) (rowV chV l)) = vmap (chV x) := by
   have := KZ' chV_len [] l x i h1; rw [List.length_nil, Nat.zero_mul, List.nil_append] at this; rw [this]; simp [List.getD, hx]
  have e1 : Wk (.v (.bool (decide (o' i < o' l.length)))) (.lit true) := A4' (ltTN h1); have e3 : Wk (.v (.int .i64 (IntKind.i64.wrap (o' i + o' 1)))) (.v (.int .i64 (o' (i + 1)))) := C8' (BB' i ω)
  have q := fun F => cAy_ok hok x hle F
  rw [<- hsn] at q; obtain ⟨k, v, d⟩ := x
  have e5 : ∀ t : St, OW (AO.map (kM t.m) t.c) (AO.map (renE (nmAy (1051, 1052)) (kM t.m)) t.c) := fun t => by rw [IC']; exact Yc
  have e4 := e5 (lpS s l i)
  generalize hn1 : lpS s l i = t at *
  generalize hn2 : lpS s l (i + 1) = u at *
  refine ⟨[(fAy, cAy k v d (o' t.b) t.m t.c (o' u.b) u.m u.c)], AE' [ht' fCm 13 0, (fCm, 14, 1, hv (.agg [sv k, sv v, bv d])), (fCm, 16, 0, hv (iv (o' (i + 1))))], [], fun F _ => DG' (q F), fun _ _ => noL, fun F => ?_⟩
  refine Yj (oLp_eq D sz b0 m0 c0 l.length i l k v d (o' t.b) t.m t.c (o' u.b) u.m u.c F) ⟨⟨?_, rfl, .inl ⟨rfl, ⟨i + 1, h1⟩, B7' h1, [(1001, 1001), (1002, 1002), (1003, 1003), (1050, 1050), (1051, 1051), (1052, 1052)], by kernel_rfl, by kernel_rfl, ⟨Ya, Ya, Ya, Ya, Ya, Ya, Ye⟩, ⟨_, rfl, Yc⟩, ⟨_, rfl, Yc⟩, ⟨_, rfl, hD _⟩, ⟨_, rfl, D2' rfl rfl⟩, ⟨_, rfl, AX' rfl rfl⟩, ⟨_, rfl, by simp only [hn2]; exact Yc⟩, ⟨_, rfl, by simp only [hn2]; exact D2' (IC' _ _) rfl⟩, Ye⟩⟩⟩
  simp only [ch', Nat.blt_eq, hld, true_and, and_true]; and_intros; all_goals first | (with_reducible assumption) | (with_reducible exact Ye) | (with_reducible exact rfl) | (with_reducible exact Ya) | (with_reducible exact Yb) | (with_reducible exact Yc) | exact rfl | exact Ya | exact Yb
 ·have hie : i = l.length := ω
  subst hie
  have hE : lpS s l l.length = apL s l := by rw [lpS, List.take_length]
  rw [hE]
  refine ⟨[], AE' [hf' fCm 13 0], [], fun _ _ => noC, fun _ _ => noL, fun F => ?_⟩
  refine Yj (ZC' D sz b0 m0 c0 l.length l.length l (o' (apL s l).b) (apL s l).m (apL s l).c F) ⟨⟨?_, rfl, .inr ⟨rfl, [(1001, 1001), (1002, 1002), (1003, 1003), (1050, 1050), (1051, 1051), (1052, 1052)], by kernel_rfl, by kernel_rfl, ⟨Ya, Ya, Ya, Ye⟩, ⟨_, rfl, Yc⟩, ⟨_, rfl, Yc⟩, ⟨_, rfl, hD _⟩, ⟨_, rfl, D2' rfl rfl⟩, ⟨_, rfl, AX' rfl rfl⟩, ⟨_, rfl, Yc⟩, ⟨_, rfl, D2' rfl rfl⟩, Ye⟩⟩⟩
  simp only [ch', and_true]; exact A4' (ltFN (Yd))
noncomputable section
abbrev fBi : Nat := 45
abbrev fLS : Nat := 46
def wHb (p : Nat) (x : Int) (l : Bs) : LH := [(0, .cells [sB 1001 p, iv x] tWr), (1001, rB l)]
abbrev k39' : Cnd := (ee' (i' 0))
theorem US' (F : HP) : wRun [] (AE' [ht' fBi 0 4]) [] default fBi [.ptr 0 0, .lit false] [(0, wZ)] kNu F = VT.leaf (AV.tuple []) [some (ce' [AV.slice 1101 0 1 1 (Cp.lo 1),i' 1] 262),none,some (ce' [v' (vi' u8' (o' 0))] 10),some (ce' [v' (vi' u8' (o' 0))] 10),none,none] 1102 (k39'.a (h10' (k8'.a (h14' (k39'.a (k7'.a k1')))))) := χ
abbrev k40' : Cnd := (f' (Wk (v' (vi' u8' (o' 1))) (v' (vi' u8' (o' 1)))))
theorem UR' (F : HP) : wRun [] (AE' [ht' fBi 0 4, (fBi, 4, 9, hv (iv 0)), (fBi, 4, 11, hv (byv 0)), (fBi, 4, 16, hv (byv 1)), (fBi, 4, 17, hv (byv 1))]) [] default fBi [.ptr 0 0, .lit true] [(0, wZ)] kNu F = VT.leaf (AV.tuple []) [some (ce' [AV.slice 1101 0 1 1 (Cp.lo 1),i' 1] 262),none,some (ce' [v' (vi' u8' (o' 0))] 10),some (ce' [v' (vi' u8' (o' 1))] 10),none,none] 1102 (k39'.a (h10' (k8'.a (h14' (h14' (k13'.a (k7'.a ((tt'.a ((p' (v' (vi' u8' (o' 0)) = v' (vi' u8' (o' 0)))).a (f' (Wk (v' (vi' u8' (o' 0))) (v' (vi' u8' (o' 0))))))).a (k39'.a (k40'.a (k40'.a (h14' (k39'.a (k7'.a k1')))))))))))))) := χ
abbrev k41' (q0 : Nat) (q1 q2 : Bs) : Cnd := (tt'.a (tt'.a (tt'.a (tt'.a ((p' ((0 + q0 * 1).ble (rowV encB q1).length = true)).a ((p' (((q0 + 1) * 1).ble 140737488355328 = true)).a ((p' ((q0 + 1).ble 9223372036854775807 = true)).a ((p' ((List.take (q0 * 1) (List.drop 0 (rowV encB q1))).length.beq (q0 * 1) = true)).a (f' (OW (ce' (List.take (q0 * 1) (List.drop 0 (rowV encB q1)) ++ [v' (vi' u8' (o' 0))]) 10) (ce' (rowV encB q2) 10)))))))))))
theorem UU' (p : Nat) (l l0 : Bs) (F : HP) : wRun [] (AE' [ht' fBi 0 4, (fBi, 1, 6, ho 1101 (rB l0))]) [] default fBi [.ptr 0 0, .lit false] (wH p l) kNu F = VT.leaf (AV.tuple []) [some (ce' [AV.slice 1101 0 (p + 1) 1 (Cp.lo (p + 1)),i' 1] 262),none,some (ce' [v' (vi' u8' (o' 0))] 10),some (ce' (rowV encB l0) 10),none,none] 1102 (k39'.a (h10' ((k41' p l l0).a (h14' (k39'.a (k7'.a k1')))))) := χ
theorem UT' (p : Nat) (l l0 l1 : Bs) (F : HP) : wRun [] (AE' [ht' fBi 0 4, (fBi, 1, 6, ho 1101 (rB l0)), (fBi, 4, 9, hv (iv (o' p))), (fBi, 4, 11, hv (byv 0)), (fBi, 4, 16, hv (byv 1)), (fBi, 4, 17, hv (byv 1)), (fBi, 4, 19, ho 1101 (rB l1))]) [] default fBi [.ptr 0 0, .lit true] (wH p l) kNu F = VT.leaf (AV.tuple []) [some (ce' [AV.slice 1101 0 (p + 1) 1 (Cp.lo (p + 1)),i' 1] 262),none,some (ce' [v' (vi' u8' (o' 0))] 10),some (ce' (rowV encB l1) 10),none,none] 1102 (k39'.a (h10' ((k41' p l l0).a (h14' (h14' ((f' (Wk (z' (IntKind.i64.wrap (↑(p + 1) - o' 1))) (i' p))).a ((f' (p.blt (p + 1) = true)).a (((p' ((0 + p * 1).blt (rowV encB l0).length = true)).a ((p' ((rowV encB l0).getD (0 + p * 1) (u') = v' (vi' u8' ((rowV encB l0).getD (0 + p * 1) (u')).intOf))).a (f' (Wk (v' (vi' u8' ((rowV encB l0).getD (0 + p * 1) (u')).intOf)) (v' (vi' u8' (o' 0))))))).a (k39'.a (k40'.a (k40'.a ((f' (p.blt (p + 1) = true)).a (((p' ((0 + p * 1 + 1).ble (rowV encB l0).length = true)).a (f' (OW (ce' (splice (rowV encB l0) (0 + p * 1) [v' (vi' u8' (o' 1))]) 10) (ce' (rowV encB l1) 10)))).a (k39'.a (k7'.a k1'))))))))))))))) := χ
abbrev k42' (q0 : Nat) (q1 : Bs) (q2 : Δ) (q3 : Nat) (q4 : Bs) (q5 : Nat) : Cnd := ((fe' true).a ((f' (Wk (i' 3) (i' 3))).a ((p' ((fNu,2,A3' fNu 2,lNu (wH q0 q1) q2.size (wH q3 q4)).snd.snd.fst = (fNu,2,A3' fNu 2,lNu (wH q0 q1) q2.size (wH q3 q4)).snd.snd.fst)).a ((p' True).a ((p' (VW (pt' 0 0::i' 4::z' ↑q2.size::u'::u'::u'::i' 3::pt' 0 0::pt' 0 0::pt' 0 1::i' 4::i' 3::ru16 (u'::u'::[])) (pt' 0 0::a'::i' q2.size::a'::a'::a'::i' 3::ra16 (ra4 (a'::a'::a'::[]))))).a ((ow' (ce' [AV.slice q5 0 q0 1 (Cp.lo q0),i' 0] 262)).a (f' (OW (ce' (rowV encB q1) 10) (ce' (AV.rens (fun q4 => q4) (rowV encB q1)) 10)))))))))
theorem ZA' (p q : Nat) (x : Int) (l k : Bs) (s : Δ) (F : HP) : wRun [] (AE' [(fNu, 1, 1, hv (iv 3))]) [(fNu, 2, A3' fNu 2, lNu (wH p l) s.size (wH q k))] default fLS [.ptr 0 0, sv s] (wHb p x l) kNu F = VT.leaf (AV.tuple []) [some (ce' [AV.slice 1101 0 (q + s.size) 1 (Cp.lo (q + s.size)),i' 0] 262),none,none,some (ce' (List.take (q * 1) (List.drop 0 (AV.rens (sgN (fun k => k) [1001] 1100) (rowV encB k))) ++ vmap (List.map (fun b => vi' u8' ↑b.toNat) (List.take s.size s.data.toList))) 10),none,none] 1102 ((k42' p l s q k 1001).a (k7'.a (((p' (s.size.ble s.size = true)).a ((p' ((vmap (List.map (fun b => vi' u8' ↑b.toNat) (List.take s.size s.data.toList))).all AV.one = true)).a ((p' (Nat.blt 0 s.size = true)).a ((p' ((0 + q * 1).ble (AV.rens (sgN (fun k => k) [1001] 1100) (rowV encB k)).length = true)).a ((p' (((q + s.size) * 1).ble 140737488355328 = true)).a ((p' ((q + s.size).ble 9223372036854775807 = true)).a (f' ((List.take (q * 1) (List.drop 0 (AV.rens (sgN (fun k => k) [1001] 1100) (rowV encB k)))).length.beq (q * 1) = true)))))))).a (k7'.a k1')))) := χ
theorem ZB' (p q : Nat) (x : Int) (l k : Bs) (s : Δ) (F : HP) : wRun [] (AE' [(fNu, 1, 1, hv (iv 3)), (fLS, 1, 6, h0)]) [(fNu, 2, A3' fNu 2, lNu (wH p l) s.size (wH q k))] default fLS [.ptr 0 0, sv s] (wHb p x l) kNu F = VT.leaf (AV.tuple []) [some (ce' [AV.slice 1100 0 q 1 (Cp.lo q),i' 0] 262),none,some (ce' (AV.rens (sgN (fun k => k) [1001] 1100) (rowV encB k)) 10),none,none,none] 1101 ((k42' p l s q k 1001).a (k7'.a ((f' (s.size = 0)).a (k7'.a k1')))) := χ
end
def bts (s : Δ) : Bs := s.data.toList
theorem JR' (s : Δ) : (bts s).length = s.size := rfl
def bitB (d : Bool) : UInt8 := match d with | true => 1 | false => 0
def w1L (l : Bs) : LH := wHb l.length 1 l
def w1HP (l : Bs) : Nat -> Nat -> HP := exHP (fun _ : Unit => True) (fun _ => w1L l)
def w1 (l : Bs) : AO := .own (.turns [1]) (w1HP l)
theorem RD' (l : Bs) : ∃ cs e, getO (w1L l) 0 = some (.cells cs e) /\ e % 2 = 0 := ⟨_, _, rfl, by kernel_rfl⟩
theorem w1_cl (l : Bs) : ∀ x ∈ w1L l, x.2.cl (kH (w1L l)) := A0' ⟨rfl, Ye, Ye⟩ (A0' (C5' _ _) A1')
theorem open_1 {W : World} {l : Bs} {f : FuncId} {Ar : List AV} {v : AV} {H' : LH} (h : Tri Θ W f Ar (w1L l) v H') : Tri Θ W f Ar [(0, w1 l)] v H' :=
 Tri.open (R := fun _ : Unit => True) (L := fun _ => w1L l) (H0 := []) (fun _ => rfl) (fun _ => w1_cl l) (fun _ => by obtain ⟨cs, e, h, _⟩ := RD' l; exact ⟨_, h⟩) fun _ _ => by rw [List.append_nil]; exact h
theorem shut_1 {l : Bs} {vs : List AV} (hv : AV.cls (fun i => Nat.blt i 1000) vs) : Goes vs (w1L l) vs [(0, w1 l)] := by
 have := Goes.shut (R := fun _ : Unit => True) (L := fun _ => w1L l) (m := .turns [1]) (H0 := []) (vs := vs) () trivial rfl (RD' l) (by
  have e : (fun i => Nat.blt i 1000 || (getO ([] : LH) i).isSome) = fun i => Nat.blt i 1000 := by funext i; simp only [getO, Option.isSome_none, Bool.or_false]
  rw [e]; exact hv) (fun x hx => by cases hx)
 rwa [List.append_nil] at this
theorem bi_in (l : Bs) (b : UInt8) : (rowV encB (l ++ [b])).getD (0 + l.length * 1) AV.undef = byv b := by
 rw [Nat.zero_add, Nat.mul_one, D7']; simp [vmap, List.getD, byv]
theorem bi_set (l : Bs) (b c : UInt8) : splice (rowV encB (l ++ [b])) (0 + l.length * 1) [byv c] = rowV encB (l ++ [c]) := by
 rw [Nat.zero_add, Nat.mul_one, splice, D7', D7']; simp [vmap, byv]
theorem b5' (l : Bs) (d : Bool) (hb : l.length + 1 <= 140737488351232) : Tri Θ default fBi [.ptr 0 0, .lit d] [(0, wM .nothing l)] (.tuple []) [(0, w1 (l ++ [bitB d]))] := by
 refine MN' ?_; refine Tri.post (v := .tuple []) (H' := w1L (l ++ [bitB d])) ?_ (shut_1 ⟨Ye, Ye⟩)
 cases l with
 | nil =>
  cases d with
  | false =>
   refine AM' (con := []) (hints := AE' [ht' fBi 0 4]) (lc := []) kNu rfl (fun _ _ => noC) (fun F _ => noL) fun F => ?_
   refine Yj (US' F) ⟨⟨?_, (AJ' (vs' := [.tuple []]) (H' := w1L [0]) [(1001, 1101)] χ χ (Yb) ⟨⟨_, rfl, Yc⟩, ⟨_, rfl, BO' rfl rfl⟩, Ye⟩).fits rfl⟩⟩; exact Cc9'
  | true =>
   refine AM' (con := []) (hints := AE' [ht' fBi 0 4, (fBi, 4, 9, hv (iv 0)), (fBi, 4, 11, hv (byv 0)), (fBi, 4, 16, hv (byv 1)), (fBi, 4, 17, hv (byv 1))]) (lc := []) kNu rfl (fun _ _ => noC) (fun F _ => noL) fun F => ?_
   refine Yj (UR' F) ⟨⟨?_, (AJ' (vs' := [.tuple []]) (H' := w1L [1]) [(1001, 1101)] χ χ (Yb) ⟨⟨_, rfl, Yc⟩, ⟨_, rfl, BO' rfl rfl⟩, Ye⟩).fits rfl⟩⟩; exact Cc9'
 | cons x l =>
  have hne : x :: l ≠ [] := by simp
  rw [DT' hne]
  generalize hk : x :: l = k at *
  have a1 : (0 + k.length * 1).ble (rowV encB k).length = true := O9' rfl; have a2 : ((k.length + 1) * 1).ble 140737488355328 = true := AW' ω; have a3 : (k.length + 1).ble 9223372036854775807 = true := AW' ω; have a4 : (List.take (k.length * 1) (List.drop 0 (rowV encB k))).length.beq (k.length * 1) = true := GI' rfl
  have a5 : OW (ce' (List.take (k.length * 1) (List.drop 0 (rowV encB k)) ++ [v' (vi' u8' (o' 0))]) tByt) (ce' (rowV encB (k ++ [0])) tByt) := by
   rw [GJ' rfl [0] |>.symm]; exact Yc
  have a6 : 0 + k.length * 1 < (rowV encB (k ++ [0])).length := by rw [CR', la']; simp
  have a7 := bi_in k 0
  have a8 : Wk (v' (vi' IntKind.i64 (IntKind.i64.wrap (((k.length + 1 : Nat) : Int) - o' 1)))) (v' (vi' IntKind.i64 (o' k.length))) := by
   rw [show ((k.length + 1 : Nat) : Int) - o' 1 = (k.length : Int) from by simp only [Z0]; omega, IntWalk.i64_in _ ω]; exact Ya
  have a9 : (0 + k.length * 1 + 1).ble (rowV encB (k ++ [0])).length = true := by rw [CR', la']; exact AW' (by simp)
  have b1 : OW (ce' (splice (rowV encB (k ++ [0])) (0 + k.length * 1) [v' (vi' u8' (o' 1))]) tByt) (ce' (rowV encB (k ++ [1])) tByt) := by
   have := bi_set k 0 1; rw [<- this]; exact Yc
  have b2 : k.length < k.length + 1 := Nat.lt_succ_self _
  have hl1 : ∀ b : UInt8, (k ++ [b]).length = k.length + 1 := fun b => la'
  cases d with
  | false =>
   refine AM' (con := []) (hints := AE' [ht' fBi 0 4, (fBi, 1, 6, ho 1101 (rB (k ++ [0])))]) (lc := []) kNu rfl (fun _ _ => noC) (fun F _ => noL) fun F => ?_
   refine Yj (UU' k.length k (k ++ [0]) F) ⟨⟨?_, (AJ' (vs' := [.tuple []]) (H' := w1L (k ++ [0])) [(1001, 1101)] χ χ (Yb) ⟨⟨_, rfl, by rw [hl1]; exact Yc⟩, ⟨_, rfl, BO' rfl rfl⟩, Ye⟩).fits rfl⟩⟩; exact Cc9'
  | true =>
   refine AM' (con := []) (hints := AE' [ht' fBi 0 4, (fBi, 1, 6, ho 1101 (rB (k ++ [0]))), (fBi, 4, 9, hv (iv (o' k.length))), (fBi, 4, 11, hv (byv 0)), (fBi, 4, 16, hv (byv 1)), (fBi, 4, 17, hv (byv 1)), (fBi, 4, 19, ho 1101 (rB (k ++ [1])))]) (lc := []) kNu rfl (fun _ _ => noC) (fun F _ => noL) fun F => ?_
   refine Yj (UT' k.length k (k ++ [0]) (k ++ [1]) F) ⟨⟨?_, (AJ' (vs' := [.tuple []]) (H' := w1L (k ++ [1])) [(1001, 1101)] χ χ (Yb) ⟨⟨_, rfl, by rw [hl1]; exact Yc⟩, ⟨_, rfl, BO' rfl rfl⟩, Ye⟩).fits rfl⟩⟩
   simp only [ch', Nat.blt_eq, true_and, and_true]; and_intros; all_goals first | (with_reducible exact Ye) | (with_reducible exact rfl) | (with_reducible exact Ya) | (with_reducible exact Yb) | (with_reducible exact Yc) | (with_reducible exact B0' _) | (with_reducible assumption) | (rw [a7]; exact rfl) | (rw [a7]; exact Ya) | exact Kc1'
theorem txt_eq (s : Δ) : vmap (List.map (fun b => vi' u8' ((b.toNat : Nat) : Int)) (List.take s.size s.data.toList)) = rowV encB (bts s) := by
 rw [D7', bts, List.take_of_length_le (Nat.le_of_eq (show s.data.toList.length = s.size from rfl))]
theorem WO' (x : Int) (l : Bs) (s : Δ) (hne : l ≠ []) (hb : l.length + 4 + s.size <= 140737488351232) : Tri Θ default fLS [.ptr 0 0, sv s] (wHb l.length x l) (.tuple []) (wL ((l ++ be4 s.size) ++ bts s)) := by
 have hl := fun F => WT' (n := s.size) (k := l) ω F
 rw [DT' hne, DT' (T5' l s.size)] at hl
 have hk4 : (l ++ be4 s.size).length = l.length + 4 := by rw [la']; rfl
 have hne2 : (l ++ be4 s.size) ++ bts s ≠ [] := by simp [be4]
 rw [DT' hne2]
 generalize hk : l ++ be4 s.size = k at *
 have hkl : (k ++ bts s).length = k.length + s.size := by rw [la', JR']
 have o1 : AV.rens (sgN (fun k => k) [1001] 1100) (rowV encB k) = rowV encB k := AD' _ _
 by_cases hz : s.size = 0
 ·have e0 : bts s = [] := List.eq_nil_of_length_eq_zero (by rw [JR']; exact hz); rw [e0, List.append_nil]
  refine AM' (con := []) (hints := AE' [(fNu, 1, 1, hv (iv 3)), (fLS, 1, 6, h0)]) (lc := [(fNu, 2, A3' fNu 2, lNu (wH l.length l) s.size (wH k.length k))]) kNu rfl (fun _ _ => noC) (fun F _ => CJ' (hl F)) fun F => ?_
  refine Yj (ZB' l.length k.length x l k s F) ⟨⟨?_, (AJ' (vs' := [.tuple []]) (H' := wH k.length k) [(1001, 1100)] χ χ (Yb) ⟨⟨_, rfl, Yc⟩, ⟨_, rfl, BO' o1 rfl⟩, Ye⟩).fits rfl⟩⟩; exact Cc10'
 ·have e1 := txt_eq s; have c1 : s.size.ble s.size = true := AW' (Yd)
  have c2 : (vmap (List.map (fun b => vi' u8' ((b.toNat : Nat) : Int)) (List.take s.size s.data.toList))).all AV.one = true := by rw [e1]; exact S1' _
  have c3 : 0 < s.size := Nat.pos_of_ne_zero hz
  have c4 : (0 + k.length * 1).ble (AV.rens (sgN (fun k => k) [1001] 1100) (rowV encB k)).length = true := by rw [o1]; exact O9' rfl
  have c5 : ((k.length + s.size) * 1).ble 140737488355328 = true := AW' ω; have c6 : (k.length + s.size).ble 9223372036854775807 = true := AW' ω
  have c7 : (List.take (k.length * 1) (List.drop 0 (AV.rens (sgN (fun k => k) [1001] 1100) (rowV encB k)))).length.beq (k.length * 1) = true := by rw [o1]; exact GI' rfl
  refine AM' (con := []) (hints := AE' [(fNu, 1, 1, hv (iv 3))]) (lc := [(fNu, 2, A3' fNu 2, lNu (wH l.length l) s.size (wH k.length k))]) kNu rfl (fun _ _ => noC) (fun F _ => CJ' (hl F)) fun F => ?_
  refine Yj (ZA' l.length k.length x l k s F) ⟨⟨?_, (AJ' (vs' := [.tuple []]) (H' := wH (k ++ bts s).length (k ++ bts s)) [(1001, 1101)] χ χ (Yb) ⟨⟨_, rfl, by rw [hkl]; exact Yc⟩, ⟨_, rfl, BO' (by rw [o1, e1, GJ' rfl]) rfl⟩, Ye⟩).fits rfl⟩⟩; exact Cc10'
theorem a3' (l : Bs) (s : Δ) (hne : l ≠ []) (hb : l.length + 4 + s.size <= 140737488351232) : Tri Θ default fLS [.ptr 0 0, sv s] [(0, w1 l)] (.tuple []) [(0, wM .nothing ((l ++ be4 s.size) ++ bts s))] :=
 open_1 (Tri.post (v := .tuple []) (WO' 1 l s hne hb) (M9' ⟨Ye, Ye⟩))
theorem a4' (l : Bs) (s : Δ) (hne : l ≠ []) (hb : l.length + 4 + s.size <= 140737488351232) : Tri Θ default fLS [.ptr 0 0, sv s] [(0, wM .nothing l)] (.tuple []) [(0, wM .nothing ((l ++ be4 s.size) ++ bts s))] :=
 MN' (Tri.post (v := .tuple []) (by rw [DT' hne]; exact WO' 0 l s hne hb) (M9' ⟨Ye, Ye⟩))
def wE (l : Bs) : AO := wM .nothing l
def nmE (i k : Nat) : Nat := match k with
 | 0 => i
 | k => k
def gP1 : List AV -> AP Nat := fun args => match args with
 | [.ptr i 0, _] => .ret i
 | [.ptr i 0] => .ret i
 | [.slice i _ _ _ _] => .ret i
 | _ => .fail "what"
def gLS : List AV -> AP (Nat × Bool) := fun args => match args with
 | [.ptr i 0, _] => .read i fun o => match o with
  | .own (.turns _) _ => .ret (i, true)
  | _ => .ret (i, false)
 | _ => .fail "what"
def lsS (k v : Δ) (b : Bool) : AV := match b with | true => sv k | false => sv v
def lsO (a1 a2 : Bs) (b : Bool) : AO := match b with | true => w1 a1 | false => wE a2
def lsR (a2 a3 : Bs) (b : Bool) : AO := match b with | true => wE a2 | false => wE a3
def cBi (d : Bool) (a0 a1 : Bs) : List AV -> Option (AP AV) := mkC gP1 (fun _ => True) nmE (fun _ => [.ptr 0 0, .lit d]) (fun _ => [(0, wE a0)]) (fun _ => .leaf .ret [.tuple []] [(0, w1 a1)])
def cLS (k v : Δ) (a1 a2 a3 : Bs) : List AV -> Option (AP AV) := mkC gLS (fun _ => True) (fun p => nmE p.1) (fun p => [.ptr 0 0, lsS k v p.2]) (fun p => [(0, lsO a1 a2 p.2)]) (fun p => .leaf .ret [.tuple []] [(0, lsR a2 a3 p.2)])
def aEc (n i : Nat) : List (Nat × AV) := [(3, .ptr 1051 0), (7, sC 1050 n), (8, iv (o' n)), (9, iv (o' i))]
def ixEc : List Nat := [3, 7, 8, 9]
def oEc (l : List Chg) (a : Bs) : LH := [(1050, rC l), (1051, wE a)]
theorem ZK' (n i : Nat) (l : List Chg) (k v : Δ) (d : Bool) (a0 a1 a2 a3 : Bs) (F : HP) : BK' [(fBi, cBi d a0 a1), (fLS, cLS k v a1 a2 a3)] (AE' [ht' fEc 3 0, (fEc, 4, 1, hv (.agg [sv k, sv v, bv d])), (fEc, 8, 0, hv (iv (o' (i + 1))))]) [] default fEc (A3' fEc 3) (tms 0 28 (aEc n i)) (oEc l a0) [1050, 1051] ixEc F = VT.leaf (AX.normal,[pt' 1051 0,AV.slice 1050 0 n 3 (Cp.lo n),i' n,i' (i + 1)],28) [some (ce' (rowV chV l) 58),some (AO.own Md.nothing (wHP a3))] 1101 (h31' i n l k v d (k7'.a ((ee' (some d)).a (((Cnd.p True).a ((p' (VW [pt' 1051 0,b' d] [pt' 1051 0,AV.lit d])).a (f' (OW (AO.own Md.nothing (wHP a0)) (AO.own Md.nothing (wHP a0)))))).a ((k24' k).a (((Cnd.p True).a ((vw' [pt' 1051 0,s' k]).a (f' (OW (AO.own (Md.turns [o' 1]) (w1HP a1)) (AO.own (Md.turns [o' 1]) (w1HP a1)))))).a ((k24' v).a (((Cnd.p True).a ((vw' [pt' 1051 0,s' v]).a (f' (OW (AO.own Md.nothing (wHP a2)) (AO.own Md.nothing (wHP a2)))))).a ((k2' i).a k1'))))))))) := χ
theorem ZL' (n i : Nat) (l : List Chg) (a : Bs) (F : HP) : BK' [] (AE' [hf' fEc 3 0]) [] default fEc (A3' fEc 3) (tms 0 28 (aEc n i)) (oEc l a) [1050, 1051] ixEc F = VT.leaf (AX.exit 0,[pt' 1051 0,AV.slice 1050 0 n 3 (Cp.lo n),i' n,i' i],28) [some (ce' (rowV chV l) 58),some (AO.own Md.nothing (wHP a))] 1100 ((k25' i n).a k1') := χ
def cNwE : List AV -> Option (AP AV) := mkC (fun _ => .ret ()) (fun _ => True) (fun _ k => k) (fun _ => []) (fun _ => []) (fun _ => .leaf .ret [.ptr 1000 0] [(1000, wE [])])
def cByE (p : Nat) (e : Bs) : List AV -> Option (AP AV) := mkC gP1 (fun _ => True) nmE (fun _ => [.ptr 0 0]) (fun _ => [(0, wE e)]) (fun _ => .leaf .ret [sB 1000 p] [(0, wE e), (1000, rB e)])
def gEc : List AV -> AP (Nat × Nat) := fun tms => match tms.getD 3 AV.undef, tms.getD 7 AV.undef with
 | .ptr w 0, .slice i _ _ _ _ => .ret (i, w)
 | _, _ => .fail "what"
def nmEc (p : Nat × Nat) (k : Nat) : Nat := match Nat.beq k 1050 with
 | true => p.1
 | false => match Nat.beq k 1051 with
  | true => p.2
  | false => k
def lEc (n : Nat) (l : List Chg) (e : Bs) : List AV -> AP (AX × List AV) := mkL gEc (fun _ => True) nmEc (fun _ => tms 0 28 (aEc n 0)) (fun _ => oEc l []) (fun _ => .leaf (.exit 0) (tms 0 28 [(3, .ptr 1051 0)]) (oEc l e))
theorem oEc_eq (n p : Nat) (l : List Chg) (e : Bs) (F : HP) : wRun [(fNw, cNwE), (fBy, cByE p e)] BM' [(fEc, 3, A3' fEc 3, lEc n l e)] default fEc [sC 0 n] [(0, rC l)] [0, 1100, 1101, 1102, 1103, 1104] F = VT.leaf (AV.slice 1103 0 p 1 (Cp.lo p)) [none,none,some (ce' (AV.rens (sgN (nmEc (0,1100)) [1050,1051] 1101) (rowV chV l)) 58),some (AO.own Md.nothing (wHP e)),some (ce' (AV.rens (sgN (nmE 1102) [1000] 1103) (rowV encB e)) 10),none] 1104 (((Cnd.p True).a (f' (VW [] []))).a ((p' ((fEc,3,A3' fEc 3,lEc n l e).snd.snd.fst = (fEc,3,A3' fEc 3,lEc n l e).snd.snd.fst)).a (k4'.a ((p' (VW (AV.slice 0 0 n 3 (Cp.lo n)::u'::e'::pt' 1100 0::u'::u'::pt' 1100 0::AV.slice 0 0 n 3 (Cp.lo n)::z' ↑n::i' 0::ru16 (u'::u'::[])) (a'::a'::a'::pt' 1100 0::a'::a'::a'::AV.slice 0 0 n 3 (Cp.lo n)::i' n::i' 0::ra16 (a'::a'::[])))).a ((p' (OW (ce' (rowV chV l) 58) (ce' (AV.rens (nmEc (0,1100)) (rowV chV l)) 58))).a ((ow' (AO.own Md.nothing (wHP []))).a (((Cnd.p True).a ((vw' [pt' 1102 0]).a (f' (OW (AO.own Md.nothing (wHP e)) (AO.own Md.nothing (wHP e)))))).a k1'))))))) := χ
def en1 (a : Bs) (x : Chg) : Bs := a ++ [bitB x.d]
def en2 (a : Bs) (x : Chg) : Bs := (en1 a x ++ be4 x.k.size) ++ bts x.k
def en3 (a : Bs) (x : Chg) : Bs := (en2 a x ++ be4 x.v.size) ++ bts x.v
def encL (l : List Chg) : Bs := l.foldl en3 []
theorem SW' (a : Bs) (x : Chg) : (en1 a x).length = a.length + 1 := by rw [en1, la']; rfl
theorem aM' (a : Bs) (x : Chg) : (en2 a x).length = a.length + 5 + x.k.size := by rw [en2, la', la', SW', D1', JR']
theorem aL' (a : Bs) (x : Chg) : (en3 a x).length = a.length + (9 + szC x) := by rw [en3, la', la', aM', D1', JR', szC]; omega
theorem en1_ne (a : Bs) (x : Chg) : en1 a x ≠ [] := by simp [en1]
theorem LE' : ∀ (l : List Chg) (a : Bs), (l.foldl en3 a).length = a.length + (9 * l.length + szL l)
 | [], a => rfl
 | x :: l, a => by
  rw [List.foldl_cons, LE' l, aL', CS', List.length_cons]; omega
theorem HG' (l : List Chg) : (encL l).length = 9 * l.length + szL l := by rw [encL, LE']; simp
theorem SU' (l : List Chg) (x : Chg) : encL (l ++ [x]) = en3 (encL l) x := by rw [encL, List.foldl_append]; rfl
theorem SN' : ∀ args, RO (gP1 args) := fun args => by
 unfold gP1
 split <;> first | exact RO.ret _ | exact RO.fail _
theorem gLS_ro : ∀ args, RO (gLS args) := fun args => by
 unfold gLS; split
 ·refine RO.read _ _ fun o => ?_
  split <;> exact RO.ret _
 ·exact RO.fail _
theorem cBi_ok (d : Bool) (a : Bs) (hb : a.length + 1 <= 140737488351232) (F : HP) : C1OK Θ F fBi (cBi d a (a ++ [bitB d])) :=
 B4' (W := default) BC' (fun _ => .tuple []) SN' (fun _ => rfl) (fun _ _ => b5' a d hb) fun _ => ⟨rfl, rfl, ⟨rfl, Ye, Ye⟩, A0' Ye A1', ⟨Ye, Ye⟩, A0' Ye A1'⟩
theorem cLS_ok (k v : Δ) (a1 : Bs) (h1 : a1 ≠ []) (hb : a1.length + 4 + k.size + 4 + v.size <= 140737488351232) (F : HP) : C1OK Θ F fLS (cLS k v a1 ((a1 ++ be4 k.size) ++ bts k) ((((a1 ++ be4 k.size) ++ bts k) ++ be4 v.size) ++ bts v)) :=
 B4' (W := default) BC' (fun _ => .tuple []) gLS_ro (fun p => rfl) (fun p _ => by
  obtain ⟨i, b⟩ := p
  cases b with
  | true => exact a3' a1 k h1 ω
  | false => exact a4' _ v (by simp [be4]) (by rw [la', la', D1', JR']; omega)) fun p => by
  obtain ⟨i, b⟩ := p
  cases b with
  | true => exact ⟨rfl, rfl, ⟨rfl, Ye, Ye⟩, A0' Ye A1', ⟨Ye, Ye⟩, A0' Ye A1'⟩
  | false => exact ⟨rfl, rfl, ⟨rfl, Ye, Ye⟩, A0' Ye A1', ⟨Ye, Ye⟩, A0' Ye A1'⟩
theorem ld_row (l : List Chg) {x : Chg} (hx : l[i]? = some x) : List.take 3 (List.drop (0 + i * 3) (rowV chV l)) = vmap (chV x) := by
 have h1 : i < l.length := (List.getElem?_eq_some_iff.1 hx).1; have := KZ' chV_len [] l x i h1; rw [List.length_nil, Nat.zero_mul, List.nil_append] at this; rw [this]; simp [List.getD, hx]
theorem aN' (l : List Chg) (hl : l.length <= 1048576) (hb : szL l <= CA') :
  LTri Θ default (A3' fEc 3) (tms 0 28 (aEc l.length 0)) (oEc l []) (.exit 0) (tms 0 28 [(3, .ptr 1051 0)]) (oEc l (encL l)) := by
 have key := BG' (W := default) (g := fEc) (b := A3' fEc 3) (σ := {i : Nat // i <= l.length}) 28 (fun i => aEc l.length i.1) (fun i => oEc l (encL (l.take i.1))) (.exit 0) [(3, .ptr 1051 0)] (oEc l (encL l)) (fun i => l.length - i.1) [1050, 1051] ixEc (by intro h; cases h) (fun i => rfl) rfl; refine key ?_ ⟨0, Nat.zero_le _⟩; rintro ⟨i, hi⟩; simp only
 by_cases h1 : i < l.length
 ·obtain ⟨x, hx⟩ := B1' h1
  have hsn : encL (l.take (i + 1)) = en3 (encL (l.take i)) x := by rw [BR' hx, SU']
  have hln : (encL (l.take i)).length = 9 * (l.take i).length + szL (l.take i) := HG' _; have hlt : (l.take i).length <= l.length := List.length_take_le' _ _; have hsz := IQ' l (i + 1); rw [BR' hx, GF', CS', szC] at hsz; have hm : CA' = 1000000000000 := rfl; have hld := ld_row l hx; have e1 : Wk (.v (.bool (decide (o' i < o' l.length)))) (.lit true) := A4' (ltTN h1); have e3 : Wk (.v (.int .i64 (IntKind.i64.wrap (o' i + o' 1)))) (.v (.int .i64 (o' (i + 1)))) := C8' (BB' i ω)
  have q1 := fun F => cBi_ok x.d (encL (l.take i)) ω F
  have q2 := fun F => cLS_ok x.k x.v (en1 (encL (l.take i)) x) (en1_ne _ _) (by rw [SW']; omega) F
  obtain ⟨k, v, d⟩ := x
  generalize hn0 : encL (l.take i) = a0 at *
  generalize hn3 : encL (l.take (i + 1)) = a3 at *
  have e4 : en3 a0 ⟨k, v, d⟩ = (((en1 a0 ⟨k, v, d⟩ ++ be4 k.size) ++ bts k) ++ be4 v.size) ++ bts v := rfl; rw [<- e4, <- hsn] at q2; have e5 : a0 ++ [bitB d] = en1 a0 ⟨k, v, d⟩ := rfl; simp only at q1 q2; rw [e5] at q1
  generalize en1 a0 ⟨k, v, d⟩ = a1 at *
  generalize (a1 ++ be4 k.size) ++ bts k = a2 at *
  have e6 : Wk (.v (.bool d)) (.lit d) := B0' d
  refine ⟨[(fBi, cBi d a0 a1), (fLS, cLS k v a1 a2 a3)], AE' [ht' fEc 3 0, (fEc, 4, 1, hv (.agg [sv k, sv v, bv d])), (fEc, 8, 0, hv (iv (o' (i + 1))))], [], fun F _ => AO' (q1 F) (DG' (q2 F)), fun _ _ => noL, fun F => ?_⟩
  refine Yj (ZK' l.length i l k v d a0 a1 a2 a3 F) ⟨⟨?_, rfl, .inl ⟨rfl, ⟨i + 1, h1⟩, B7' h1, [(1050, 1050), (1051, 1051)], by kernel_rfl, by kernel_rfl, ⟨Ya, Ya, Ya, Ya, Ye⟩, ⟨_, rfl, AX' rfl rfl⟩, ⟨_, rfl, by simp only [hn3]; exact Yc⟩, Ye⟩⟩⟩
  simp only [ch', Nat.blt_eq, hld, true_and, and_true]; and_intros; all_goals first | (with_reducible assumption) | (with_reducible exact Ye) | (with_reducible exact rfl) | (with_reducible exact Ya) | (with_reducible exact Yb) | (with_reducible exact Yc) | exact rfl | exact Ya | exact Yb | exact VW.cons Ya (VW.cons e6 VW.nil)
 ·have hie : i = l.length := ω
  subst hie; rw [List.take_length]
  refine ⟨[], AE' [hf' fEc 3 0], [], fun _ _ => noC, fun _ _ => noL, fun F => ?_⟩
  refine Yj (ZL' l.length l.length l (encL l) F) ⟨⟨?_, rfl, .inr ⟨rfl, [(1050, 1050), (1051, 1051)], by kernel_rfl, by kernel_rfl, ⟨Ya, Ye⟩, ⟨_, rfl, AX' rfl rfl⟩, ⟨_, rfl, Yc⟩, Ye⟩⟩⟩
  simp only [ch', and_true]; exact A4' (ltFN (Yd))
theorem aY' (F : HP) : C1OK Θ F fNw cNwE :=
 B4' (W := default) BC' (fun _ => .ptr 1000 0) (fun _ => RO.ret _) (fun _ => rfl) (fun _ _ => WK' .nothing) fun _ => ⟨rfl, rfl, Ye, A1', ⟨rfl, Ye⟩, A0' Ye A1'⟩
theorem b0' (e : Bs) (hb : e.length <= big) (hne : e ≠ []) (F : HP) : C1OK Θ F fBy (cByE e.length e) :=
 B4' (W := default) BC' (fun _ => sB 1000 e.length) SN' (fun _ => rfl) (fun _ _ => T3' .nothing e hb hne) fun _ => ⟨rfl, rfl, ⟨rfl, Ye⟩, A0' Ye A1', ⟨rfl, Ye⟩, A0' Ye (A0' (C5' _ _) A1')⟩
theorem gEc_ro : ∀ tms, RO (gEc tms) := fun tms => by
 unfold gEc
 split <;> first | exact RO.ret _ | exact RO.fail _
theorem lEc_ok (l : List Chg) (hl : l.length <= 1048576) (hb : szL l <= CA') (F : HP) : L1OK Θ F (A3' fEc 3) (lEc l.length l (encL l)) :=
 CE' (W := default) BC' (fun _ => gEc_ro _) (fun _ _ => aN' l hl hb) fun _ => by
  simp only [RT.pick]; exact BQ' rfl rfl (A0' rfl (A0' rfl (A0' Ye (A0' Ye A1')))) (A0' (L5' _ _) (A0' Ye A1')) (A0' rfl A1') (A0' (L5' _ _) (A0' Ye A1'))
theorem SV' {l : List Chg} (h : l ≠ []) : encL l ≠ [] := fun e => by
 have := HG' l; rw [e, List.length_nil] at this
 cases l with
 | nil => exact h rfl
 | cons x l => rw [List.length_cons] at this; omega
theorem ec_tri (l : List Chg) (hl : l.length <= 1048576) (hb : szL l <= CA') (hne : l ≠ []) : Tri Θ default fEc [sC 0 l.length] [(0, rC l)] (sB 1000 (encL l).length) [(1000, rB (encL l))] := by
 have hm : CA' = 1000000000000 := rfl
 have q2 := fun F => b0' (encL l) (by rw [HG']; show _ <= 140737488351232; omega) (SV' hne) F
 have q3 := fun F => lEc_ok l hl hb F
 have o1 : AV.rens (nmEc (0, 1100)) (rowV chV l) = rowV chV l := AD' _ _
 have o2 : OW (ce' (rowV chV l) tCh) (ce' (AV.rens (nmEc (0, 1100)) (rowV chV l)) tCh) := by rw [o1]; exact Yc
 generalize encL l = e at *
 refine AM' (con := [(fNw, cNwE), (fBy, cByE e.length e)]) (hints := BM') (lc := [(fEc, 3, A3' fEc 3, lEc l.length l e)]) [0, 1100, 1101, 1102, 1103, 1104] rfl (fun F _ => AO' (aY' F) (DG' (q2 F))) (fun F _ => CJ' (q3 F)) fun F => ?_
 refine Yj (oEc_eq l.length e.length l e F) ⟨⟨?_, (AJ' (vs' := [sB 1000 e.length]) (H' := [(1000, rB e)]) [(1000, 1103)] χ χ (Yb) ⟨⟨_, rfl, BO' (AD' _ _) rfl⟩, Ye⟩).fits rfl⟩⟩
 simp only [ch', Nat.blt_eq, true_and, and_true]; and_intros; all_goals first | (with_reducible assumption) | (with_reducible exact Ye) | (with_reducible exact rfl) | (with_reducible exact Ya) | (with_reducible exact Yb) | (with_reducible exact Yc) | exact rfl | exact Yb | exact Kc11'
end Go.Proofs.YtnnojnlejlokhaaGreatDoor.Wk
