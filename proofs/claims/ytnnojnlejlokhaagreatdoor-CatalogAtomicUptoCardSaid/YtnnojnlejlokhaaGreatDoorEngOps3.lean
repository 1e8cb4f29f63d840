/- Every operation of the engine does what the model's does. No program. -/
import Derived.Test.YtnnojnlejlokhaaGreatDoorEngIter
import Derived.Test.YtnnojnlejlokhaaGreatDoorEngGood
import Derived.Laws.Runes
set_option linter.unusedVariables false
set_option linter.unusedSimpArgs false
namespace Go.Proofs.YtnnojnlejlokhaaGreatDoor.Eng
open Go Go.RowKit
open Go.Value renaming int -> vi'
variable {an : AN} {a x : AV} {v y : Value} {t : TypeId} {w' : World}
def OpOK (P : Program) (W0 : World) (F : HP) (N : A9') (h' : T) (n n' : Nat) (w : World) (s : Sem Next) (an : AN) : Prop :=
 ∃ nx w' N', s.run P w = .ok nx w' /\ Rep W0 N' F h' w' /\ Ext N N' n n' /\ TA' N' an nx
section
variable {P : Program} {E : Env} {W0 w : World} {N : A9'} {F : HP} {st : Bool} {h h' : T} {n n' : Nat} {lg lg' : Log} {c : Cnd}
theorem AV' {p : AP AV} (he : (aval p).run st h n lg = .ok an h' n' lg' c) : ∃ a lg1 c1, p.run st h n lg = .ok a h' n' lg1 c1 /\ an = .value a /\ (c -> c1) := by
 obtain ⟨a, h1, n1, lg1, c1, c2, e1, e2, e3⟩ := run_bind _ _ he; obtain ⟨rfl, rfl, rfl⟩ := AB' e2
 exact ⟨a, lg1, c1, e1, rfl, fun hc => (e3 hc).1⟩
theorem G6' {p : AP Unit} (he : (SY' p).run st h n lg = .ok an h' n' lg' c) : ∃ u lg1 c1, p.run st h n lg = .ok u h' n' lg1 c1 /\ an = .value AV.undef /\ (c -> c1) := by
 obtain ⟨a, h1, n1, lg1, c1, c2, e1, e2, e3⟩ := run_bind _ _ he; obtain ⟨rfl, rfl, rfl⟩ := AB' e2
 exact ⟨a, lg1, c1, e1, rfl, fun hc => (e3 hc).1⟩
theorem okV {s : Sem Value} {N' : A9'} (hs : s.run P w = .ok y w') (r : Rep W0 N' F h' w') (hx : Ext N N' n n') (hv : VR N' a y) (ha : an = .value a) :
  OpOK P W0 F N h' n n' w (do pure (.value (<- s))) an :=
 ⟨.value y, w', N', by simp only [Sem.run_bind, hs, Result.andThen_ok, Sem.run_pure], r, hx, ⟨a, ha, hv⟩⟩
theorem okU {s : Sem Unit} {N' : A9'} (hs : s.run P w = .ok () w') (r : Rep W0 N' F h' w') (hx : Ext N N' n n') (ha : an = .value AV.undef) :
  OpOK P W0 F N h' n n' w (do s; pure .skip) an :=
 ⟨.skip, w', N', by simp only [Sem.run_bind, hs, Result.andThen_ok, Sem.run_pure], r, hx, ha⟩
variable {ρ : Operand -> AV} {σ : Operand -> Value}
theorem VRs.map (hρ : ∀ x, VR N (ρ x) (σ x)) (l : List Operand) : VRs N (l.map ρ) (l.map σ) := by
 induction l with
 | nil => exact AX'
 | cons x l ih => exact AD'.2 ⟨hρ x, ih⟩
theorem NW' (ps : Array (Nat × Operand)) : (ps.toList.map fun (i, x) => (i, ρ x)).map (·.1) = (ps.map fun (i, x) => (i, σ x)).toList.map (·.1) := by
 simp [List.map_map]
theorem NV' (hρ : ∀ x, VR N (ρ x) (σ x)) (ps : Array (Nat × Operand)) : VRs N ((ps.toList.map fun (i, x) => (i, ρ x)).map (·.2)) ((ps.map fun (i, x) => (i, σ x)).toList.map (·.2)) := by
 simp only [List.map_map, Array.toList_map]; have := VRs.map hρ (ps.toList.map (·.2)); simpa [List.map_map, Function.comp_def] using this
theorem VRo.map (hρ : ∀ x, VR N (ρ x) (σ x)) (o : Option Operand) : VRo N (o.map ρ) (o.map σ) := by
 cases o with
 | none => trivial
 | some x => exact hρ x
theorem QI' (r : Rep W0 N F h w) {it : AV} {ty : TypeId} (hx : VR N it v) (he : (anext it).run st h n lg = .ok a h' n' lg' c) :
  ∃ w' y, (Instr.next v true ty).run P w = .ok y w' /\ Rep W0 N F h' w' /\ n' = n /\ VR N a y := by
 cases it with
 | ptr i off =>
  cases off with
  | zero =>
   simp only [VR] at hx; obtain ⟨l, hl, rfl⟩ := hx; obtain ⟨o, ho, he1⟩ := BM' (k := VJ' i) he; clear he
   cases o with
   | striter s pos =>
    obtain ⟨D, hO⟩ := r.obj ho; obtain ⟨l', h1, h0, h2, h3⟩ := hO; obtain rfl : l' = l := Option.some.inj (h1.symm.trans hl); rw [h0]; simp only [VJ'] at he1
    cases hb : Nat.blt pos s.size with
    | true =>
     rw [hb] at he1
     have hlt : pos < s.size := by simpa [Nat.blt_eq] using hb
     obtain ⟨o0, ho0, he2⟩ := B2' he1; obtain ⟨rfl, rfl, rfl⟩ := AB' he2
     refine ⟨{ w with heap := w.heap.setIfInBounds l'.blk (.stringIter s (pos + (Utf8.decode s pos).2)) }, .tuple #[.bool true, .int .i64 pos, .int .i32 (Utf8.decode s pos).1], ?_, ?_, rfl, ?_⟩
     ·simp only [Instr.next, getObj, setObj, Sem.run_bind, Sem.run, h3, Result.andThen, hlt, if_true]; simp [goInt]
     ·refine r.turn ho rfl rfl rfl fun D2 hD2 => ?_
      obtain ⟨l2, k1, k0, k2, k3⟩ := hD2; obtain rfl : l2 = l' := Option.some.inj (k1.symm.trans hl); have hlt2 : l2.blk < w.heap.size := (Array.getElem?_eq_some_iff.1 k3).1
      exact ⟨fun b hb hd => Array.getElem?_setIfInBounds_ne (fun e => hd ((k2 b).2 e.symm)), fun x => x = l2.blk, ⟨l2, hl, h0, fun _ => Iff.rfl, by simp [hlt2]⟩, fun b hb => .inl ((k2 b).2 hb)⟩
     ·simp only [VR]; exact ⟨_, AD'.2 ⟨VR_v.2 rfl, AD'.2 ⟨VR_v.2 rfl, AD'.2 ⟨VR_v.2 rfl, AX'⟩⟩⟩, rfl⟩
    | false =>
     rw [hb] at he1
     have hlt : ¬ pos < s.size := by
      intro hh
      rw [show Nat.blt pos s.size = true from by simpa [Nat.blt_eq] using hh] at hb
      cases hb
     obtain ⟨rfl, rfl, rfl⟩ := AB' he1; refine ⟨w, .tuple #[.bool false], ?_, r, rfl, ?_⟩
     ·simp only [Instr.next, getObj, Sem.run_bind, Sem.run, h3, Result.andThen, hlt, if_false]; rfl
     ·simp only [VR]; exact ⟨_, AD'.2 ⟨VR_v.2 rfl, AX'⟩, rfl⟩
   | _ => exact (A4' he1).elim
  | succ k => exact (A4' he).elim
 | _ => exact (A4' he).elim
theorem LC' {j : Nat} (hx : VR N x v) (he : (S7' j x).run st h n lg = .ok a h' n' lg' c) :
  ∃ y, (Instr.extract v j).run P w = .ok y w /\ VR N a y /\ h' = h /\ n' = n := by
 cases x with
 | tuple vs =>
  obtain ⟨hj, rfl, rfl⟩ := MI' he; simp only [VR] at hx; obtain ⟨vs', hv, rfl⟩ := hx; obtain ⟨y, hy, hvy⟩ := hv.get hj
  have hy' : vs'.toArray[j]? = some y := by simpa using hy
  exact ⟨y, by simp [Instr.extract, hy'], hvy, rfl, rfl⟩
 | v x =>
  rw [VR_v] at hx; subst hx
  cases v with
  | tuple vs =>
   obtain ⟨z, hz, he1⟩ := BK' (f := fun x => AP.ret (AV.v x)) he; obtain ⟨rfl, rfl, rfl⟩ := AB' he1
   exact ⟨z, by simp [Instr.extract, hz], VR_v.2 rfl, rfl, rfl⟩
  | _ => exact (A4' he).elim
 | _ => exact (A4' he).elim
theorem P6' (hE : EnvOk P E) {j : Nat} (hx : VR N x v) (he : (VM' E t x j).run st h n lg = .ok a h' n' lg' c) (hc : c.holds) :
  ∃ y, (Instr.field t v j).run P w = .ok y w /\ VR N a y /\ h' = h /\ n' = n := by
 unfold VM' at he; obtain ⟨d, hd, he1⟩ := AN' he; clear he; have hdr := B7' hE hd
 cases d with
 | struct fs =>
  obtain ⟨f, hf, he2⟩ := BK' he1; clear he1
  cases x with
  | agg cs =>
   simp only [VR] at hx; obtain ⟨vs, hv, rfl⟩ := hx; obtain ⟨y, h1, h2, h3, h4⟩ := SI' (P := P) (w := w) hE hv he2 hc
   exact ⟨y, by simp only [Instr.field, Sem.run_bind, hdr, Result.andThen_ok, hf, asAgg, Sem.run_pure, h1], h2, h3, h4⟩
  | _ => exact (A4' he2).elim
 | _ => exact (A4' he1).elim
theorem J2' (hE : EnvOk P E) (r : Rep W0 N E.F h w) {o : Oper} (hρ : ∀ x, VR N (ρ x) (σ x)) (hfr : BW' N n n') (he : (aOp1 P E ρ o).run st h n lg = .ok an h' n' lg' c) (hc : c) :
  OpOK P W0 E.F N h' n n' w (execOp σ o) an := by
 obtain ⟨dst, op, type, pos, after, guard⟩ := o; unfold aOp1 at he; unfold execOp
 cases op with
 | move x =>
  obtain ⟨rfl, rfl, rfl⟩ := AB' he; exact ⟨_, w, N, rfl, r, Ext.refl _ _ _, ⟨_, rfl, hρ x⟩⟩
 | assign x =>
  obtain ⟨rfl, rfl, rfl⟩ := AB' he; exact ⟨_, w, N, rfl, r, Ext.refl _ _ _, ⟨_, rfl, hρ x⟩⟩
 | pick k a b =>
  have hk := hρ k; simp only at he
  have hlit : ∀ (o : Operand) (x : AV) (y : Value), VR N x y -> VR N (O5' o x) y := by
   intro o x y hx; unfold O5'; split
   ·split
    ·exact EF'.2 (VR_v.1 hx)
    ·exact hx
   ·exact hx
  have fin : ∀ (z : Bool) (f : Operand -> AV -> AV), (∀ o x y, VR N x y -> VR N (f o x) y) -> σ k = .bool z -> (match z with | true => (AP.ret (AN.value (f a (ρ a))) : AP AN) | false => AP.ret (AN.value (f b (ρ b)))).run st h n lg = .ok an h' n' lg' c ->
    OpOK P W0 E.F N h' n n' w (execOp σ { dst := dst, op := Op.pick k a b, type := type, pos := pos, after := after, guard := guard }) an := by
   intro z f hf hz he
   cases z with
   | true =>
    obtain ⟨rfl, rfl, rfl⟩ := AB' he
    exact ⟨.value (σ a), w, N, by simp [execOp, hz, asBool], r, Ext.refl _ _ _, ⟨_, rfl, hf _ _ _ (hρ a)⟩⟩
   | false =>
    obtain ⟨rfl, rfl, rfl⟩ := AB' he
    exact ⟨.value (σ b), w, N, by simp [execOp, hz, asBool], r, Ext.refl _ _ _, ⟨_, rfl, hf _ _ _ (hρ b)⟩⟩
  split at he
  ·rename_i z hb; rw [hb, EF'] at hk; refine fin z O5' hlit hk ?_
   cases z <;> exact he
  ·rename_i z hb; rw [hb, VR_v] at hk
   cases hst : E.strict with
   | true =>
    rw [hst] at he; refine fin z (fun _ x => x) (fun _ _ _ h => h) hk ?_
    cases z <;> exact he
   | false =>
    rw [hst] at he; refine fin z O5' hlit hk ?_
    cases z <;> exact he
  ·exact (A4' he).elim
 | alloc e =>
  obtain ⟨w', N', y, a, h1, h2, h3, h4, h5⟩ := PC' hE r hfr he; exact okV h1 h2 h3 h5 h4
 | box e x =>
  obtain ⟨hkn, he⟩ := A8' he; obtain ⟨w', N', y, a, h1, h2, h3, h4, h5⟩ := T3' (P := P) r (hρ x) hfr hkn he; exact okV h1 h2 h3 h5 h4
 | build t ps =>
  obtain ⟨a, lg1, c1, e1, e2, e3⟩ := AV' he; obtain ⟨y, h1, h2, rfl, rfl⟩ := PA' (P := P) (w := w) hE (NW' ps) (NV' hρ ps) e1; exact okV h1 r (Ext.refl _ _ _) h2 e2
 | buildSlice t k ps =>
  obtain ⟨a, lg1, c1, e1, e2, e3⟩ := AV' he; obtain ⟨w', N', y, h1, h2, h3, h4⟩ := J1' (P := P) hE r hfr (NW' ps) (NV' hρ ps) e1; exact okV h1 h2 h3 h4 e2
 | load t a =>
  obtain ⟨a, lg1, c1, e1, e2, e3⟩ := AV' he; obtain ⟨y, h1, h2, rfl, rfl⟩ := HF' hE r (hρ _) e1 (e3 hc); exact okV h1 r (Ext.refl _ _ _) h2 e2
 | store t a x =>
  obtain ⟨u, lg1, c1, e1, e2, e3⟩ := G6' he; obtain ⟨w', h1, h2, rfl⟩ := P1' hE r (hρ _) (hρ _) e1 (e3 hc); exact okU h1 h2 (Ext.refl _ _ _) e2
 | nilCheck x =>
  have hx := hρ x; simp only at he; split at he
  ·rename_i i off hb; rw [hb] at hx; obtain ⟨rfl, rfl, rfl⟩ := AB' he; have hx2 := hx; simp only [VR] at hx2; obtain ⟨l, hl, hv⟩ := hx2
   exact ⟨.value (σ x), w, N, by simp [hv], r, Ext.refl _ _ _, ⟨_, rfl, hx⟩⟩
  ·rename_i t y hb; rw [hb] at hx; obtain ⟨rfl, rfl, rfl⟩ := AB' he; have hx2 := hx; simp only [VR] at hx2; obtain ⟨l, hl, hv⟩ := hx2
   exact ⟨.value (σ x), w, N, by simp [hv], r, Ext.refl _ _ _, ⟨_, rfl, hx⟩⟩
  ·rename_i f a b hb; rw [hb] at hx; obtain ⟨rfl, rfl, rfl⟩ := AB' he; have hx2 := hx; simp only [VR] at hx2; obtain ⟨_, _, _, _, hv⟩ := hx2
   exact ⟨.value (σ x), w, N, by simp [hv], r, Ext.refl _ _ _, ⟨_, rfl, hx⟩⟩
  ·exact (A4' he).elim
 | binOp op t x y yt =>
  have key : ∀ {b : Bool} {h' : T} {n' : Nat} {lg1 : Log} {c1 : Cnd} (op2 : BinOp), op2 = .eql \/ op2 = .neq -> (LX' E t (ρ x) (ρ y)).run st h n lg = .ok b h' n' lg1 c1 ->
    h' = h /\ n' = n /\ (do pure (Next.value (<- (do eqGuard op2 t x y (σ x) (σ y); binOp op2 t (σ x) (σ y)))) : Sem Next).run P w = .ok (.value (.bool (if op2 = .eql then b else !b))) w := by
   intro b h' n' lg1 c1 op2 hop e1; obtain ⟨hq, rfl, rfl, o1, o2, o3⟩ := J9' (P := P) (w := w) hE r (hρ x) (hρ y) e1; refine ⟨rfl, rfl, ?_⟩
   have hguard : (eqGuard op2 t x y (σ x) (σ y)).run P w = .ok () w := by
    rcases hop with rfl | rfl <;> (unfold eqGuard; generalize σ x = vx at *; generalize σ y = vy at *; cases vx <;> simp only [KC', Bool.false_eq_true] at o1 <;> cases vy <;> simp only [KC', Bool.false_eq_true] at o2 <;> first | rfl | exact absurd ⟨rfl, rfl⟩ o3)
   have hbin : (binOp op2 t (σ x) (σ y)).run P w = .ok (.bool (if op2 = .eql then b else !b)) w := by
    rcases hop with rfl | rfl <;> (generalize σ x = vx at *; generalize σ y = vy at *; cases vx <;> simp only [KC', Bool.false_eq_true] at o1 <;> cases vy <;> simp only [KC', Bool.false_eq_true] at o2 <;> simp [binOp, Sem.run_bind, hq])
   simp only [Sem.run_bind, hguard, hbin, Result.andThen_ok, Sem.run_pure]
  cases op with
  | eql =>
   obtain ⟨b, h1, n1, lg1, c1, c2, e1, e2, _⟩ := run_bind _ _ he; obtain ⟨rfl, rfl, rfl⟩ := AB' e2; obtain ⟨rfl, rfl, hr⟩ := key .eql (.inl rfl) e1; exact ⟨_, w, N, hr, r, Ext.refl _ _ _, ⟨_, rfl, VR_v.2 rfl⟩⟩
  | neq =>
   obtain ⟨b, h1, n1, lg1, c1, c2, e1, e2, _⟩ := run_bind _ _ he; obtain ⟨rfl, rfl, rfl⟩ := AB' e2; obtain ⟨rfl, rfl, hr⟩ := key .neq (.inr rfl) e1; exact ⟨_, w, N, hr, r, Ext.refl _ _ _, ⟨_, rfl, VR_v.2 rfl⟩⟩
  | _ => exact (A4' he).elim
 | makeInterface t x =>
  obtain ⟨d, hd, he1⟩ := AN' he; have hdr := B7' hE hd
  have : (Instr.makeInterface t (σ x)).run P w = .ok (.iface t (σ x)) w /\ an = .value (.iface t (ρ x)) /\ h' = h /\ n' = n := by
   cases d <;> first
    | exact (A4' he1).elim
    | (obtain ⟨rfl, rfl, rfl⟩ := AB' he1; exact ⟨by simp only [Instr.makeInterface, Sem.run_bind, hdr, Result.andThen_ok, Sem.run_pure], rfl, rfl, rfl⟩)
  obtain ⟨h1, h2, rfl, rfl⟩ := this; exact okV h1 r (Ext.refl _ _ _) (by simp only [VR]; exact ⟨_, hρ x, rfl⟩) h2
 | makeFunc fn first cap =>
  obtain ⟨rfl, rfl, rfl⟩ := AB' he; refine okV (y := .func fn (first.map σ) (cap.map σ)) rfl r (Ext.refl _ _ _) ?_ rfl; simp only [VR]
  have e : ∀ l : Array Operand, l.map σ = (l.toList.map σ).toArray := fun l => by apply Array.ext'; simp
  exact ⟨_, _, VRs.map hρ _, VRs.map hρ _, by rw [e, e]⟩
 | makeMap t o =>
  cases o with
  | none =>
   obtain ⟨hn, he1⟩ := BX' he; obtain ⟨rfl, rfl, rfl⟩ := AB' he1; have hle := A9'.put_le (l := ⟨w.heap.size, 0, 0⟩) (hfr n (Nat.le_refl _) ω); refine okV (y := .map (some w.heap.size)) (w' := w.alloc (.map #[] 0)) (N' := N.put n ⟨w.heap.size, 0, 0⟩) ?_ ?_ Ext.put ?_ rfl
   ·simp [Instr.makeMap]
   ·refine r.new hn hle ((Below.refl _ _).alloc (Nat.le_refl _) _) ⟨fun x => x = w.heap.size, ⟨_, #[], A9'.put_same, fun _ => Iff.rfl, heap_alloc_new w _, rfl, rfl⟩, fun b hb => by subst hb; exact Nat.le_refl _⟩
   ·simp only [VR]; exact ⟨_, A9'.put_same, rfl⟩
  | some x => exact (A4' he).elim
 | makeSlice t l k =>
  obtain ⟨a, lg1, c1, e1, e2, e3⟩ := AV' he; obtain ⟨w', N', y, h1, h2, h3, h4⟩ := JG' (P := P) hE r hfr (hρ l) (hρ k) e1 (e3 hc); exact okV h1 h2 h3 h4 e2
 | slice t x lo hi mx =>
  obtain ⟨a, lg1, c1, e1, e2, e3⟩ := AV' he; obtain ⟨y, h1, h2, rfl, rfl⟩ := P2' (P := P) hE r (hρ x) (VRo.map hρ lo) (VRo.map hρ hi) (VRo.map hρ mx) e1 (e3 hc); exact okV h1 r (Ext.refl _ _ _) h2 e2
 | fieldAddr s x j =>
  obtain ⟨a, lg1, c1, e1, e2, e3⟩ := AV' he; obtain ⟨y, h1, h2, rfl, rfl⟩ := JI' (P := P) (w := w) hE (hρ x) e1; exact okV h1 r (Ext.refl _ _ _) h2 e2
 | field t x j =>
  obtain ⟨a, lg1, c1, e1, e2, e3⟩ := AV' he; obtain ⟨y, h1, h2, rfl, rfl⟩ := P6' (P := P) (w := w) hE (hρ x) e1 (e3 hc); exact okV h1 r (Ext.refl _ _ _) h2 e2
 | indexAddr t x ix =>
  obtain ⟨a, lg1, c1, e1, e2, e3⟩ := AV' he; obtain ⟨y, h1, h2, rfl, rfl⟩ := JH' (P := P) (w := w) hE (hρ x) (hρ ix) e1 (e3 hc); exact okV h1 r (Ext.refl _ _ _) h2 e2
 | lookup t x k ok =>
  obtain ⟨a, lg1, c1, e1, e2, e3⟩ := AV' he; obtain ⟨y, h1, h2, rfl, rfl⟩ := MV' (P := P) hE r (hρ x) (hρ k) e1 (e3 hc); exact okV h1 r (Ext.refl _ _ _) h2 e2
 | mapUpdate t m k x =>
  obtain ⟨u, lg1, c1, e1, e2, e3⟩ := G6' he; obtain ⟨w', h1, h2, rfl⟩ := EW' (P := P) hE r (hρ m) (hρ k) (hρ x) e1 (e3 hc); exact okU h1 h2 (Ext.refl _ _ _) e2
 | insert t m k x =>
  obtain ⟨u, lg1, c1, e1, e2, e3⟩ := G6' he; obtain ⟨w', h1, h2, rfl⟩ := EW' (P := P) hE r (hρ m) (hρ k) (hρ x) e1 (e3 hc); exact okU h1 h2 (Ext.refl _ _ _) e2
 | mapEntry t m k =>
  obtain ⟨a, lg1, c1, e1, e2, e3⟩ := AV' he; obtain ⟨w', y, h1, h2, rfl, h4⟩ := KY' (P := P) hE r (hρ m) (hρ k) e1 (e3 hc); exact okV h1 h2 (Ext.refl _ _ _) h4 e2
 | entryStore t m s x =>
  obtain ⟨u, lg1, c1, e1, e2, e3⟩ := G6' he; obtain ⟨w', h1, h2, rfl⟩ := J0' (P := P) (t := t) r (hρ m) (hρ s) (hρ x) e1 (e3 hc); exact okU h1 h2 (Ext.refl _ _ _) e2
 | range t x =>
  obtain ⟨d, hd, he1⟩ := AN' he; have hdr := B7' hE hd; have hx := hρ x; split at he1
  ·rename_i s hs; rw [hs, VR_v] at hx; obtain ⟨hn, he2⟩ := BX' he1; obtain ⟨rfl, rfl, rfl⟩ := AB' he2; have hle := A9'.put_le (l := ⟨w.heap.size, 0, 0⟩) (hfr n (Nat.le_refl _) ω); refine okV (y := .pointer (some ⟨w.heap.size, 0, none⟩)) (w' := w.alloc (.stringIter s 0)) (N' := N.put n ⟨w.heap.size, 0, 0⟩) ?_ ?_ Ext.put ?_ rfl
   ·simp [Instr.range, Sem.run_bind, hdr, hx]
   ·refine r.new hn hle ((Below.refl _ _).alloc (Nat.le_refl _) _) ⟨fun x => x = w.heap.size, ⟨_, A9'.put_same, rfl, fun _ => Iff.rfl, heap_alloc_new w _⟩, fun b hb => by subst hb; exact Nat.le_refl _⟩
   ·simp only [VR]; exact ⟨_, A9'.put_same, rfl⟩
  ·rename_i k e hm; rw [hm, VR_v] at hx; obtain ⟨hn, he2⟩ := BX' he1; obtain ⟨rfl, rfl, rfl⟩ := AB' he2; have hle := A9'.put_le (l := ⟨w.heap.size, 0, 0⟩) (hfr n (Nat.le_refl _) ω); refine okV (y := .pointer (some ⟨w.heap.size, 0, none⟩)) (w' := w.alloc (.mapIter none 0 #[] 0)) (N' := N.put n ⟨w.heap.size, 0, 0⟩) ?_ ?_ Ext.put ?_ rfl
   ·simp [Instr.range, Sem.run_bind, hdr, hx]
   ·refine r.new hn hle ((Below.refl _ _).alloc (Nat.le_refl _) _) ⟨fun x => x = w.heap.size, ⟨_, none, A9'.put_same, rfl, fun _ => Iff.rfl, heap_alloc_new w _, rfl⟩, fun b hb => by subst hb; exact Nat.le_refl _⟩
   ·simp only [VR]; exact ⟨_, A9'.put_same, rfl⟩
  ·rename_i k e m hm; rw [hm] at hx; simp only [VR] at hx; obtain ⟨lm, hlm, hxm⟩ := hx; obtain ⟨es, clock, hf, he2⟩ := CJ' he1; obtain ⟨es', hb, hes⟩ := CF' r hf hlm; obtain ⟨hn, he3⟩ := BX' he2; obtain ⟨rfl, rfl, rfl⟩ := AB' he3; have hle := A9'.put_le (l := ⟨w.heap.size, 0, 0⟩) (hfr n (Nat.le_refl _) ω); refine okV (y := .pointer (some ⟨w.heap.size, 0, none⟩)) (w' := w.alloc (.mapIter (some lm.blk) clock #[] clock)) (N' := N.put n ⟨w.heap.size, 0, 0⟩) ?_ ?_ Ext.put ?_ rfl
   ·simp [Instr.range, Sem.run_bind, hdr, hxm, BB' hb]
   ·refine r.new hn hle ((Below.refl _ _).alloc (Nat.le_refl _) _) ⟨fun x => x = w.heap.size, ⟨_, some lm.blk, A9'.put_same, rfl, fun _ => Iff.rfl, heap_alloc_new w _, ⟨lm, hle _ _ hlm, rfl⟩⟩, fun b hb => by subst hb; exact Nat.le_refl _⟩
   ·simp only [VR]; exact ⟨_, A9'.put_same, rfl⟩
  ·exact (A4' he1).elim
 | entry it =>
  obtain ⟨a, lg1, c1, e1, e2, e3⟩ := AV' he; obtain ⟨y, h1, rfl, rfl, h4⟩ := P7' (P := P) r (hρ it) e1; exact okV h1 r (Ext.refl _ _ _) h4 e2
 | next it isS =>
  cases isS with
  | true =>
   obtain ⟨a, lg1, c1, e1, e2, e3⟩ := AV' he; obtain ⟨w', y, h1, h2, rfl, h4⟩ := QI' (P := P) (ty := type) r (hρ it) e1; exact okV h1 h2 (Ext.refl _ _ _) h4 e2
  | false =>
   obtain ⟨a, lg1, c1, e1, e2, e3⟩ := AV' he; obtain ⟨w', y, h1, h2, rfl, h4⟩ := P4' (P := P) (ty := type) r (hρ it) e1; exact okV h1 h2 (Ext.refl _ _ _) h4 e2
 | typeAssert x xt t ok =>
  obtain ⟨a, lg1, c1, e1, e2, e3⟩ := AV' he; obtain ⟨y, h1, h2, rfl, rfl⟩ := IU' (P := P) (w := w) (xT := xt) hE (hρ x) e1; exact okV h1 r (Ext.refl _ _ _) h2 e2
 | extract t j =>
  obtain ⟨a, lg1, c1, e1, e2, e3⟩ := AV' he; obtain ⟨y, h1, h2, rfl, rfl⟩ := LC' (P := P) (w := w) (hρ t) e1; exact okV h1 r (Ext.refl _ _ _) h2 e2
 | convert s d x =>
  obtain ⟨a, lg1, c1, e1, e2, e3⟩ := AV' he; obtain ⟨w', N', y, h1, h2, h3, h4⟩ := LD' (P := P) hE r hfr (hρ x) e1 (e3 hc); exact okV h1 h2 h3 h4 e2
 | call cl =>
  obtain ⟨callee, args, argTypes⟩ := cl; unfold QR' at he
  have hargs : args.map σ = (args.toList.map σ).toArray := by apply Array.ext'; simp
  have hva := VRs.map hρ args.toList
  have two : ∀ {a b : AV}, args.toList.map ρ = [a, b] -> ∃ va vb, args.map σ = #[va, vb] /\ VR N a va /\ VR N b vb := by
   intro a b hab; rw [hab] at hva; obtain ⟨va, r1, h1, h2, h3⟩ := (by simpa only [VRs] using hva : ∃ y r, VR N a y /\ (∃ y' r', VR N b y' /\ r' = [] /\ r = y' :: r') /\ args.toList.map σ = y :: r); obtain ⟨vb, r2, h4, rfl, rfl⟩ := h2
   exact ⟨va, vb, by rw [hargs, h3], h1, h4⟩
  have one : ∀ {a : AV}, args.toList.map ρ = [a] -> ∃ va, args.map σ = #[va] /\ VR N a va := by
   intro a hab; rw [hab] at hva; obtain ⟨va, r1, h1, rfl, h3⟩ := (by simpa only [VRs] using hva : ∃ y r, VR N a y /\ r = [] /\ args.toList.map σ = y :: r)
   exact ⟨va, by rw [hargs, h3], h1⟩
  have types : ∀ {l : List TypeId}, argTypes.toList = l -> argTypes = l.toArray := fun h => by apply Array.ext'; simpa using h
  cases callee with
  | builtin b =>
   simp only at he; split at he
   ·rename_i s x ts tx hcb hab hty; cases hcb; obtain ⟨a, lg1, c1, e1, e2, e3⟩ := AV' he; obtain ⟨va, vb, hm, h1, h2⟩ := two hab; obtain ⟨w', N', y, h3, h4, h5, h6⟩ := N9' (P := P) (ty := type) hE (fun a v hv => old_cell hE r hv) r hfr h1 h2 e1 (e3 hc); have := okV h3 h4 h5 h6 e2; simpa [resolve, invoke, builtin, hm, types hty] using this
   ·rename_i s x ts tx hcb hab hty; cases hcb; obtain ⟨a, lg1, c1, e1, e2, e3⟩ := AV' he; obtain ⟨va, vb, hm, h1, h2⟩ := two hab; obtain ⟨w', y, h3, h4, hn, h6⟩ := QO' (P := P) (tx := tx) (ty := type) hE (fun a v hv => old_cell hE r hv) r h1 h2 e1 (e3 hc); have := okV (n := n) (n' := n') h3 h4 (Ext.refl _ _ _) h6 e2; simpa [resolve, invoke, builtin, hm, types hty] using this
   ·rename_i s x ts tx hcb hab hty; cases hcb; obtain ⟨a, lg1, c1, e1, e2, e3⟩ := AV' he; obtain ⟨va, vb, hm, h1, h2⟩ := two hab; obtain ⟨w', y, h3, h4, hn, h6⟩ := N6' (P := P) (tx := tx) (ty := type) hE r h1 h2 e1 (e3 hc); have := okV (n := n) (n' := n') h3 h4 (Ext.refl _ _ _) h6 e2; simpa [resolve, invoke, builtin, hm, types hty] using this
   ·rename_i x ts hcb hab hty; cases hcb; obtain ⟨a, lg1, c1, e1, e2, e3⟩ := AV' he; obtain ⟨va, hm, h1⟩ := one hab; obtain ⟨w', y, h3, h4, hn, h6⟩ := P9' (P := P) (ty := type) hE r h1 e1 (e3 hc); have := okV (n := n) (n' := n') h3 h4 (Ext.refl _ _ _) h6 e2; simpa [resolve, invoke, builtin, hm, types hty] using this
   ·rename_i x ts0 hcb hab; cases hcb; obtain ⟨a, lg1, c1, e1, e2, e3⟩ := AV' he; obtain ⟨va, hm, h1⟩ := one hab; obtain ⟨hall, rfl, rfl⟩ := JF' (P := P) (ts := argTypes) (ty := type) h1 e1; obtain ⟨y, h3, h4⟩ := hall w; have := okV (n := n') (n' := n') h3 r (Ext.refl _ _ _) h4 e2; simpa [resolve, invoke, builtin, hm] using this
   ·rename_i p k pt it hcb hab hty; cases hcb; obtain ⟨a, lg1, c1, e1, e2, e3⟩ := AV' he; obtain ⟨va, vb, hm, h1, h2⟩ := two hab; obtain ⟨w', y, h3, h4, hn, h6⟩ := HC' (P := P) (it := it) (ty := type) hE r h1 h2 e1 (e3 hc); have := okV (n := n) (n' := n') h3 h4 (Ext.refl _ _ _) h6 e2; simpa [resolve, invoke, builtin, hm, types hty] using this
   ·rename_i x ts hcb hab hty; cases hcb; obtain ⟨a, lg1, c1, e1, e2, e3⟩ := AV' he; obtain ⟨va, hm, h1⟩ := one hab; obtain ⟨y, h3, h4, hh, hn⟩ := P5' (P := P) (w := w) (ty := type) hE r h1 e1; have := okV (n := n) (n' := n') h3 (hh ▸ r) (Ext.refl _ _ _) h4 e2; simpa [resolve, invoke, builtin, hm, types hty] using this
   ·rename_i x y hcb hab; cases hcb; obtain ⟨a, lg1, c1, e1, e2, e3⟩ := AV' he; obtain ⟨va, vb, hm, h1, h2⟩ := two hab; obtain ⟨hall, rfl, rfl⟩ := T2' (P := P) (ts := argTypes) (ty := type) h1 h2 e1; obtain ⟨z, h3, h4⟩ := hall w; have := okV (n := n') (n' := n') h3 r (Ext.refl _ _ _) h4 e2; simpa [resolve, invoke, builtin, hm] using this
   ·rename_i x y hcb hab; cases hcb; obtain ⟨a, lg1, c1, e1, e2, e3⟩ := AV' he; obtain ⟨va, vb, hm, h1, h2⟩ := two hab; obtain ⟨hall, rfl, rfl⟩ := T1' (P := P) (ts := argTypes) (ty := type) h1 h2 e1; obtain ⟨z, h3, h4⟩ := hall w; have := okV (n := n') (n' := n') h3 r (Ext.refl _ _ _) h4 e2; simpa [resolve, invoke, builtin, hm] using this
   ·exact (A4' he).elim
   ·rename_i hcb; cases hcb
   ·rename_i hcb; cases hcb
  | invoke rc name =>
   have he2 : (N0' E (ρ rc) name (args.toList.map ρ)).run st h n lg = .ok an h' n' lg' c := he; obtain ⟨nx, h1, h2, rfl, rfl⟩ := MZ' (P := P) hE r (hρ rc) hva he2 hc; refine ⟨nx, w, N, ?_, r, Ext.refl _ _ _, h2⟩; rw [<- hargs] at h1
   have h0 : (#[σ rc] ++ args.map σ)[0]? = some (σ rc) := by simp [Array.getElem?_append]
   have hx : (#[σ rc] ++ args.map σ).extract 1 (#[σ rc] ++ args.map σ).size = args.map σ := by apply Array.ext'; simp; exact List.take_of_length_le (by simp)
   simp only [resolve, invoke, Sem.run_bind, Sem.run_pure, Result.andThen_ok, h0, hx]; exact h1
  | value f =>
   have he2 : (match ρ f with
    | .v (.func (.func f) first captured) => (match E.clone f, vmap first.toList ++ args.toList.map ρ ++ vmap captured.toList with
     | true, [x] => S8' x
     | _, l => LY' P E f l)
    | .func (.func f) first captured => LY' P E f (first ++ args.toList.map ρ ++ captured)
    | _ => .fail "call of what").run st h n lg = .ok an h' n' lg' c := he
   have hf := hρ f; clear he; split at he2
   ·rename_i g first cap hb
    rw [hb, VR_v] at hf; have hall := ((VRs.vmap (N := N) first.toList).append hva).append (VRs.vmap cap.toList)
    have e : (first.toList ++ args.toList.map σ ++ cap.toList).toArray = first ++ args.map σ ++ cap := by apply Array.ext'; simp
    generalize hL : vmap first.toList ++ args.toList.map ρ ++ vmap cap.toList = L at he2 hall
    split at he2
    ·rename_i x hcl; obtain ⟨va, r1, h1, hr1, h3⟩ := (by simpa only [VRs] using hall : ∃ y r, VR N x y /\ r = [] /\ first.toList ++ args.toList.map σ ++ cap.toList = y :: r); subst hr1; obtain ⟨w', N', nx, k1, k2, k3, k4⟩ := P8' (P := P) hE r hcl hfr h1 he2; refine ⟨nx, w', N', ?_, k2, k3, k4⟩
     have e2 : first ++ args.map σ ++ cap = #[va] := by rw [<- e, h3]
     rw [<- e2] at k1; simpa [resolve, invoke, hf, Deferred.ofValue] using k1
    ·obtain ⟨nx, h1, h2, rfl, rfl⟩ := JA' (P := P) (w := w) hE hall he2; refine ⟨nx, w, N, ?_, r, Ext.refl _ _ _, h2⟩; rw [e] at h1; simpa [resolve, invoke, hf, Deferred.ofValue] using h1
   ·rename_i g first cap hb
    rw [hb] at hf; simp only [VR] at hf; obtain ⟨f', c', k1, k2, k3⟩ := hf; obtain ⟨nx, h1, h2, rfl, rfl⟩ := JA' (P := P) (w := w) hE ((k1.append hva).append k2) he2; refine ⟨nx, w, N, ?_, r, Ext.refl _ _ _, h2⟩
    have e : (f' ++ args.toList.map σ ++ c').toArray = f'.toArray ++ args.map σ ++ c'.toArray := by apply Array.ext'; simp
    rw [e] at h1; simpa [resolve, invoke, k3, Deferred.ofValue] using h1
   ·exact (A4' he2).elim
 | _ => exact (A4' he).elim
theorem R0' (hρ : ∀ x, VR N (ρ x) (σ x)) {l : List Operand} (hl : opsVal? ρ l = true) : ∀ x ∈ l, E0' ρ x = σ x := by
 intro x hx; have := List.all_eq_true.1 hl x hx
 cases hv : (ρ x).val? with
 | none => rw [hv] at this; cases this
 | some v => simp only [E0', hv, Option.getD_some]; exact (DM' hv (hρ x)).symm
theorem PD' (hE : EnvOk P E) (r : Rep W0 N E.F h w) {o : Oper} (hρ : ∀ x, VR N (ρ x) (σ x)) (hfr : BW' N n n') (he : (aOp P E ρ o).run st h n lg = .ok an h' n' lg' c) (hc : c) :
  OpOK P W0 E.F N h' n n' w (execOp σ o) an := by
 unfold aOp at he; split at he
 ·exact J2' hE r hρ hfr he hc
 ·rename_i hk; split at he
  ·exact J2' hE r hρ hfr he hc
  ·rename_i hv; split at he
   ·rename_i t a b pos heq
    -- == of two aggregates
    obtain ⟨hg, he2⟩ := A8' he; obtain ⟨c1, he3, rfl⟩ := AG' he2; obtain ⟨rfl, rfl, rfl⟩ := AB' he3; have hq : YE' P t a b (HK' a.toList b.toList) := ((Cnd.and_iff _ _).1 hc).1
    have hgt : P.eqGuardType P.depth t = false := by simpa using hg
    have hcong : execOp (E0' ρ) o = execOp σ o := execOp_congr o (fun cs b ho => by rw [ho] at hk; cases hk) (fun x hx => R0' hρ hv x (by simpa using hx)); rw [<- hcong]; unfold UY' at heq; split at heq
    ·cases heq
    ·split at heq
     ·rename_i op2 t' x y yt hop; split at heq
      all_goals first
       | (cases heq; done)
       | (split at heq
          ·rename_i a' b' hx hy
           have hguard : ∀ op3, (eqGuard op3 t' x y (.agg a') (.agg b')).run P w = .ok () w -> True := fun _ _ => trivial
           have hgd : ∀ op3, t' = t -> (eqGuard op3 t' x y (.agg a') (.agg b')).run P w = .ok () w := by
            intro op3 ht; subst ht
            cases op3 <;> simp [eqGuard, Sem.run_bind, hgt]
           split at heq
           ·cases heq; obtain ⟨dst, op, ty, pos', af, gd⟩ := o; simp only at hop; subst hop; refine ⟨.value (.bool (HK' a.toList b.toList)), w, N, ?_, r, Ext.refl _ _ _, ⟨_, rfl, VR_v.2 rfl⟩⟩
            show (do pure (Next.value (<- (do eqGuard .eql t x y (E0' ρ x) (E0' ρ y); binOp .eql t (E0' ρ x) (E0' ρ y)))) : Sem Next).run P w = _
            rw [hx, hy]; simp only [Sem.run_bind, hgd .eql rfl, Result.andThen_ok, binOp, hq w, Sem.run_pure]
           ·cases heq; obtain ⟨dst, op, ty, pos', af, gd⟩ := o; simp only at hop; subst hop; refine ⟨.value (.bool (!(HK' a.toList b.toList))), w, N, ?_, r, Ext.refl _ _ _, ⟨_, rfl, VR_v.2 rfl⟩⟩
            show (do pure (Next.value (<- (do eqGuard .neq t x y (E0' ρ x) (E0' ρ y); binOp .neq t (E0' ρ x) (E0' ρ y)))) : Sem Next).run P w = _
            rw [hx, hy]; simp only [Sem.run_bind, hgd .neq rfl, Result.andThen_ok, binOp, hq w, Sem.run_pure]
           ·cases heq
          ·cases heq)
     ·cases heq
   split at he
   ·rename_i x hp; obtain ⟨rfl, rfl, rfl⟩ := AB' he; have hcong : execOp (E0' ρ) o = execOp σ o := execOp_congr o (fun cs b ho => by rw [ho] at hk; cases hk) (fun x hx => R0' hρ hv x (by simpa using hx)); rw [hcong] at hp; exact ⟨_, w, N, DH' _ hp w, r, Ext.refl _ _ _, ⟨_, rfl, VR_v.2 rfl⟩⟩
   ·exact J2' hE r hρ hfr he hc
theorem MT' (hE : EnvOk P E) {lo hi : Option AV} {vlo vhi : Option Value} (hx : VR N x v) (hlo : VRo N lo vlo) (hhi : VRo N hi vhi)
  (he : (QG' E t x lo hi).run st h n lg = .ok a h' n' lg' c) (hc : c.holds) :
  ∃ y, (Instr.sliceAt t v vlo vhi none).run P w = .ok y w /\ VR N a y /\ h' = h /\ n' = n := by
 unfold QG' at he; obtain ⟨d, hd, he⟩ := AN' he; have hdr := B7' hE hd
 cases d with
 | slice e =>
  split at he
  ·rename_i e' a0 len cap heq1 heq2; obtain ⟨hh, a1, he⟩ := BU' he; obtain ⟨ll, a2, he⟩ := BU' he; obtain ⟨ti, hti, he⟩ := B3' he; obtain ⟨c1, he1, rfl⟩ := AG' he; obtain ⟨g1, hc1⟩ := (Cnd.and_iff _ _).1 hc; obtain ⟨c2, he2, rfl⟩ := AG' he1; obtain ⟨g2, hc2⟩ := (Cnd.and_iff _ _).1 hc1; obtain ⟨rfl, rfl, rfl⟩ := AB' he2; rw [VR_v] at hx; subst hx; cases heq1; have hb := E5' (P := P) (N := N) (b := true) hlo hhi (mx := none) (vmx := none) trivial a1 a2 (.inl ⟨rfl, rfl⟩) (.inl rfl) g1 g2 (Nat.le_refl _) w; refine ⟨_, ?_, VR_v.2 rfl, rfl, rfl⟩; simp only [Instr.sliceAt, Instr.slice, Sem.run_bind, hdr, Result.andThen_ok, Sem.run_pure, hb, C0' hE hti]
   congr 1
   cases ll with
   | zero =>
    simp only [Nat.zero_mul, Nat.sub_zero]
    have : (if cap = 0 then a0 else a0.map (·.add 0)) = a0 := by
     split
     ·rfl
     ·cases a0 <;> rfl
    rw [this]
   | succ l => rfl
  ·rename_i e' s heq1 heq2; cases heq1
  ·exact (A4' he).elim
 | string =>
  split at he
  ·rename_i e' a0 len cap heq1 heq2; cases heq1
  ·rename_i s heq1 heq2; obtain ⟨hh, a1, he⟩ := BU' he; obtain ⟨ll, a2, he⟩ := BU' he; obtain ⟨c1, he1, rfl⟩ := AG' he; obtain ⟨g1, hc1⟩ := (Cnd.and_iff _ _).1 hc; obtain ⟨c2, he2, rfl⟩ := AG' he1; obtain ⟨g2, hc2⟩ := (Cnd.and_iff _ _).1 hc1; obtain ⟨rfl, rfl, rfl⟩ := AB' he2; rw [VR_v] at hx; subst hx; have hb := E5' (P := P) (N := N) (b := false) hlo hhi (mx := none) (vmx := none) trivial a1 a2 (.inl ⟨rfl, rfl⟩) (.inl rfl) g1 g2 (Nat.le_refl _) w; refine ⟨_, ?_, VR_v.2 rfl, rfl, rfl⟩; simp [Instr.sliceAt, Instr.slice, Sem.run_bind, hdr, Result.andThen_ok, Sem.run_pure, hb]
  ·exact (A4' he).elim
 | _ => exact (A4' he).elim
theorem MU' (hE : EnvOk P E) {hi mx : AV} {vh vm : Value} {lo : Option AV} {vlo : Option Value} (hx : VR N x v) (hlo : VRo N lo vlo) (hhi : VR N hi vh) (hmx : VR N mx vm)
  (he : (QH' E t x lo hi mx).run st h n lg = .ok a h' n' lg' c) (hc : c.holds) :
  ∃ y, (Instr.sliceAt t v vlo (some vh) (some vm)).run P w = .ok y w /\ VR N a y /\ h' = h /\ n' = n := by
 unfold QH' at he; obtain ⟨d, hd, he⟩ := AN' he; have hdr := B7' hE hd
 cases d with
 | slice e =>
  split at he
  ·rename_i e' a0 len cap heq1 heq2; obtain ⟨hh, a1, he⟩ := BU' he; obtain ⟨ll, a2, he⟩ := BU' he; obtain ⟨k, m, rfl, he⟩ := CZ' he; obtain ⟨ti, hti, he⟩ := B3' he; obtain ⟨c1, he1, rfl⟩ := AG' he; obtain ⟨g1, hc1⟩ := (Cnd.and_iff _ _).1 hc; obtain ⟨c2, he2, rfl⟩ := AG' he1; obtain ⟨g2, hc2⟩ := (Cnd.and_iff _ _).1 hc1; obtain ⟨c3, he3, rfl⟩ := AG' he2; obtain ⟨g3, hc3⟩ := (Cnd.and_iff _ _).1 hc2; obtain ⟨rfl, rfl, rfl⟩ := AB' he3; rw [VR_v] at hx; subst hx; cases heq1; have hb := E5' (P := P) (N := N) (b := true) (hi := some hi) (vhi := some vh) (mx := some (.v (.int k (Int.ofNat m)))) (vmx := some vm) hlo hhi hmx a1 a2 (.inr ⟨k, rfl⟩) (.inr (by intro h; cases h)) g1 g2 g3 w; refine ⟨_, ?_, VR_v.2 rfl, rfl, rfl⟩; simp only [Instr.sliceAt, Instr.slice, Sem.run_bind, hdr, Result.andThen_ok, Sem.run_pure, hb, C0' hE hti]
   congr 1
   cases ll with
   | zero =>
    simp only [Nat.zero_mul, Nat.sub_zero]
    have : (if m = 0 then a0 else a0.map (·.add 0)) = a0 := by
     split
     ·rfl
     ·cases a0 <;> rfl
    rw [this]
   | succ l => rfl
  ·exact (A4' he).elim
 | _ => exact (A4' he).elim
theorem N2' (hE : EnvOk P E) {ix : AV} {vi : Value} (hx : VR N x v) (hi : VR N ix vi) (he : (QK' E t x ix).run st h n lg = .ok a h' n' lg' c) (hc : c.holds) :
  ∃ y, (Instr.index t v vi).run P w = .ok y w /\ VR N a y /\ h' = h /\ n' = n := by
 unfold QK' at he; obtain ⟨d, hd, he⟩ := AN' he
 cases d with
 | string =>
  split at he
  ·rename_i s heq1 heq2; obtain ⟨k, m, rfl, he⟩ := CZ' he; obtain ⟨c1, he1, rfl⟩ := AG' he; obtain ⟨g1, hc1⟩ := (Cnd.and_iff _ _).1 hc; obtain ⟨rfl, rfl, rfl⟩ := AB' he1; rw [VR_v] at hx hi; subst hx hi; have g1 : m < s.size := g1; refine ⟨_, ?_, VR_v.2 rfl, rfl, rfl⟩
   rw [run_index_string w t s k (Int.ofNat m) (hE.under hd), dif_pos ⟨Int.natCast_nonneg _, by simpa using g1⟩]
   congr 2
   have h2 : s.data.toList.getD m 0 = s[m]'g1 := by
    have : s.data.toList[m]? = some (s[m]'g1) := by
     rw [Array.getElem?_toList]; exact Array.getElem?_eq_getElem (show m < s.data.size from g1)
    rw [List.getD, this]; rfl
   rw [h2]; rfl
  ·exact (A4' he).elim
 | _ => exact (A4' he).elim
theorem N8' (hE : EnvOk P E) {y : AV} {u : Value} {ox oy : Operand} (hx : VR N x v) (hy : VR N y u) (he : (QP' E t x y).run st h n lg = .ok a h' n' lg' c) (hc : c.holds) :
  ∃ z, (do eqGuard .add t ox oy v u; binOp .add t v u).run P w = .ok z w /\ VR N a z /\ h' = h /\ n' = n := by
 unfold QP' at he; obtain ⟨d, hd, he⟩ := AN' he; split at he
 ·rename_i p q heq; obtain ⟨c1, he1, rfl⟩ := AG' he; obtain ⟨g1, hc1⟩ := (Cnd.and_iff _ _).1 hc; obtain ⟨rfl, rfl, rfl⟩ := AB' he1; rw [VR_v] at hx hy; subst hx hy; refine ⟨_, ?_, VR_v.2 rfl, rfl, rfl⟩
  have hn : ¬ (((p.size + q.size : Nat) : Int) > IntKind.i64.max) := by
   have h1 : p.size + q.size <= 9223372036854775807 := g1
   have h2 : IntKind.i64.max = 9223372036854775807 := δ
   rw [h2]; omega
  simp only [eqGuard, binOp, Op.stringOp, if_neg hn]; rfl
 ·exact (A4' he).elim
theorem T8' (hE : EnvOk P E) (r : Rep W0 N E.F h w) {o : Oper} (hρ : ∀ x, VR N (ρ x) (σ x)) (he : (aAlt E ρ o.op).run st h n lg = .ok an h' n' lg' c) (hc : c) :
  OpOK P W0 E.F N h' n n' w (execOp σ o) an := by
 obtain ⟨dst, op, type, pos, after, guard⟩ := o; unfold aAlt at he; unfold execOp
 cases op with
 | call cl =>
  obtain ⟨callee, args, argTypes⟩ := cl; simp only at he; split at he
  ·rename_i s x ts tx hab hty
   have hargs : args = #[s, x] := by apply Array.ext'; simpa using hab
   have hm : args.map σ = #[σ s, σ x] := by rw [hargs]; simp
   have types : argTypes = #[ts, tx] := by apply Array.ext'; simpa using hty
   obtain ⟨a, lg1, c1, e1, e2, e3⟩ := AV' he; obtain ⟨w', N', y, h3, h4, h5, h6⟩ := DZ' (P := P) (ty := type) hE r (hρ s) (hρ x) e1 (e3 hc); have := okV h3 h4 h5 h6 e2; simpa [resolve, invoke, builtin, hm, types] using this
  ·exact (A4' he).elim
 | slice t x lo hi mx =>
  cases mx with
  | none =>
   obtain ⟨a, lg1, c1, e1, e2, e3⟩ := AV' he; obtain ⟨y, h1, h2, rfl, rfl⟩ := MT' (P := P) (w := w) hE (hρ x) (VRo.map hρ lo) (VRo.map hρ hi) e1 (e3 hc); exact okV h1 r (Ext.refl _ _ _) h2 e2
  | some m =>
   cases hi with
   | none => exact (A4' he).elim
   | some hi =>
    obtain ⟨a, lg1, c1, e1, e2, e3⟩ := AV' he; obtain ⟨y, h1, h2, rfl, rfl⟩ := MU' (P := P) (w := w) hE (hρ x) (VRo.map hρ lo) (hρ hi) (hρ m) e1 (e3 hc); exact okV h1 r (Ext.refl _ _ _) h2 e2
 | index t x ix =>
  obtain ⟨a, lg1, c1, e1, e2, e3⟩ := AV' he; obtain ⟨y, h1, h2, rfl, rfl⟩ := N2' (P := P) (w := w) hE (hρ x) (hρ ix) e1 (e3 hc); exact okV h1 r (Ext.refl _ _ _) h2 e2
 | binOp op2 t x y ty =>
  cases op2 with
  | add =>
   obtain ⟨a, lg1, c1, e1, e2, e3⟩ := AV' he; obtain ⟨z, h1, h2, rfl, rfl⟩ := N8' (P := P) (w := w) (ox := x) (oy := y) hE (hρ x) (hρ y) e1 (e3 hc); exact okV h1 r (Ext.refl _ _ _) h2 e2
  | _ => exact (A4' he).elim
 | lookup t x k ok =>
  cases ok with
  | true => exact (A4' he).elim
  | false =>
   obtain ⟨a, lg1, c1, e1, e2, e3⟩ := AV' he; obtain ⟨y, h1, h2, rfl, rfl⟩ := LA' (P := P) hE r (hρ x) (hρ k) e1 (e3 hc); exact okV h1 r (Ext.refl _ _ _) h2 e2
 | mapUpdate t m k x =>
  obtain ⟨u, lg1, c1, e1, e2, e3⟩ := G6' he; obtain ⟨w', h1, h2, rfl⟩ := IW' (P := P) hE r (hρ m) (hρ k) (hρ x) e1 (e3 hc); exact okU h1 h2 (Ext.refl _ _ _) e2
 | _ => exact (A4' he).elim
theorem QU' (hE : EnvOk P E) (r : Rep W0 N E.F h w) {o : Oper} (hρ : ∀ x, VR N (ρ x) (σ x)) (he : (PE' E ρ o.op y).run st h n lg = .ok an h' n' lg' c) (hc : c) :
  OpOK P W0 E.F N h' n n' w (execOp σ o) an := by
 obtain ⟨dst, op, type, pos, after, guard⟩ := o; unfold PE' at he; unfold execOp
 cases op with
 | load t a =>
  simp only at he; split at he
  ·rename_i ad hra; obtain ⟨o2, ho2, he1⟩ := BM' he; obtain ⟨c1, he2, rfl⟩ := AG' he1; obtain ⟨rfl, rfl, rfl⟩ := AB' he2; have hf : L2' P o2 (.load t ad y) := hE.fc _ _ ((Cnd.and_iff _ _).1 hc).1; obtain ⟨D0, D, h1, h2, h3⟩ := r.sat; have hrun := hf N (D 2) w (h2 2 o2 ho2).1
   have hsa : σ a = .pointer (some ad) := by
    have := hρ a; rw [hra] at this; exact VR_v.1 this
   refine okV (a := .v y) ?_ r (Ext.refl _ _ _) (VR_v.2 rfl) rfl; rw [hsa]; exact hrun
  ·exact (A4' he).elim
 | lookup t x k ok =>
  cases ok with
  | true => exact (A4' he).elim
  | false =>
   simp only at he; split at he
   ·rename_i m kv hrx hkv; obtain ⟨o2, ho2, he1⟩ := BM' he; obtain ⟨c1, he2, rfl⟩ := AG' he1; obtain ⟨rfl, rfl, rfl⟩ := AB' he2; have hf : L2' P o2 (.look t m kv y) := hE.fc _ _ ((Cnd.and_iff _ _).1 hc).1; obtain ⟨D0, D, h1, h2, h3⟩ := r.sat; have hrun := hf N (D 2) w (h2 2 o2 ho2).1
    have hsx : σ x = .map (some m) := by
     have := hρ x; rw [hrx] at this; exact VR_v.1 this
    have hsk : σ k = kv := DM' hkv (hρ k); refine okV (a := .v y) ?_ r (Ext.refl _ _ _) (VR_v.2 rfl) rfl; rw [hsx, hsk]; exact hrun
   ·exact (A4' he).elim
 | call cl =>
  obtain ⟨callee, args, argTypes⟩ := cl; simp only at he; split at he
  ·rename_i x t hab hty; split at he
   ·rename_i m hrx
    have hargs : args = #[x] := by apply Array.ext'; simpa using hab
    have types : argTypes = #[t] := by apply Array.ext'; simpa using hty
    obtain ⟨o2, ho2, he1⟩ := BM' he; obtain ⟨c1, he2, rfl⟩ := AG' he1; obtain ⟨rfl, rfl, rfl⟩ := AB' he2; have hf : L2' P o2 (.len t m y) := hE.fc _ _ ((Cnd.and_iff _ _).1 hc).1; obtain ⟨D0, D, h1, h2, h3⟩ := r.sat; have hrun := hf N (D 2) w (h2 2 o2 ho2).1 type
    have hsx : σ x = .map (some m) := by
     have := hρ x; rw [hrx] at this; exact VR_v.1 this
    have hm : args.map σ = #[.map (some m)] := by rw [hargs]; simp [hsx]
    have := okV (P := P) (W0 := W0) (F := E.F) (a := .v y) hrun r (Ext.refl N n' n') (VR_v.2 rfl) rfl; simpa [resolve, invoke, builtin, hm, types] using this
   ·exact (A4' he).elim
  ·exact (A4' he).elim
 | _ => exact (A4' he).elim
theorem LI' (r : Rep W0 N F h w) {o o' : AO} (ho : h.find 2 = some o) (ht : ∀ D, OR N 2 o D w -> VV' o o' N D w w') : Rep W0 N F (T.set T.depth h 2 (.leaf o')) w' := by
 obtain ⟨D0, D, h1, h2, h3⟩ := r.sat; obtain ⟨q1, q2, q3, _⟩ := ht (D 2) (h2 2 o ho).1
 refine r.turn ho q1 q2 q3 fun D' hD' => ?_
 obtain ⟨_, _, _, q4, q5⟩ := ht D' hD'; exact ⟨q4, q5⟩
theorem VQ' (hE : EnvOk P E) (r : Rep W0 N E.F h w) {o : Oper} {o' : AO} (hρ : ∀ x, VR N (ρ x) (σ x)) (he : (aWr E ρ o.op o').run st h n lg = .ok an h' n' lg' c) (hc : c) :
  OpOK P W0 E.F N h' n n' w (execOp σ o) an := by
 obtain ⟨dst, op, type, pos, after, guard⟩ := o; unfold aWr at he; unfold execOp
 cases op with
 | mapUpdate t m k x =>
  simp only at he; split at he
  ·rename_i b kv xv hrm hkv hxv; obtain ⟨o2, ho2, he1⟩ := BM' he; obtain ⟨c1, he2, rfl⟩ := AG' he1; obtain ⟨o3, ho3, he3⟩ := B2' he2; obtain ⟨rfl, rfl, rfl⟩ := AB' he3; have hf : L2' P o2 (.upd t b kv xv o') := hE.fc _ _ ((Cnd.and_iff _ _).1 hc).1
   have hsm : σ m = .map (some b) := by
    have := hρ m; rw [hrm] at this; exact VR_v.1 this
   have hsk : σ k = kv := DM' hkv (hρ k); have hsx : σ x = xv := DM' hxv (hρ x); obtain ⟨D0, D, h1, h2, h3⟩ := r.sat; obtain ⟨w', hrun, _⟩ := hf N (D 2) w (h2 2 o2 ho2).1; refine okU (w' := w') (N' := N) ?_ (LI' r ho2 fun D' hD' => ?_) (Ext.refl _ _ _) rfl
   ·rw [hsm, hsk, hsx]; exact hrun
   ·obtain ⟨w2, hrun2, ht⟩ := hf N D' w hD'
    have : w2 = w' := by
     rw [hrun] at hrun2
     injection hrun2 with _ e
     exact e.symm
    rw [<- this]; exact ht
  ·exact (A4' he).elim
 | call cl =>
  obtain ⟨callee, args, argTypes⟩ := cl; simp only at he; split at he
  ·rename_i m k t tk hab hty; split at he
   ·rename_i b kv hrm hkv
    have hargs : args = #[m, k] := by apply Array.ext'; simpa using hab
    have types : argTypes = #[t, tk] := by apply Array.ext'; simpa using hty
    obtain ⟨o2, ho2, he1⟩ := BM' he; obtain ⟨c1, he2, rfl⟩ := AG' he1; obtain ⟨o3, ho3, he3⟩ := B2' he2; obtain ⟨rfl, rfl, rfl⟩ := AB' he3; have hf : L2' P o2 (.del t b kv o') := hE.fc _ _ ((Cnd.and_iff _ _).1 hc).1
    have hsm : σ m = .map (some b) := by
     have := hρ m; rw [hrm] at this; exact VR_v.1 this
    have hsk : σ k = kv := DM' hkv (hρ k); obtain ⟨D0, D, h1, h2, h3⟩ := r.sat; obtain ⟨w', hrun, _⟩ := hf N (D 2) w tk type (h2 2 o2 ho2).1
    have hrep := LI' r ho2 (o' := o') (w' := w') fun D' hD' => by
     obtain ⟨w2, hrun2, ht⟩ := hf N D' w tk type hD'
     have : w2 = w' := by
      rw [hrun] at hrun2
      injection hrun2 with _ e
      exact e.symm
     rw [<- this]; exact ht
    have hm : args.map σ = #[.map (some b), kv] := by rw [hargs]; simp [hsm, hsk]
    have := okV (P := P) (W0 := W0) (F := E.F) (a := .v (.tuple #[])) hrun hrep (Ext.refl N n' n') (VR_v.2 rfl) rfl; simpa [resolve, invoke, builtin, hm, types] using this
   ·exact (A4' he).elim
  ·exact (A4' he).elim
 | _ => exact (A4' he).elim
theorem WJ' (l : Γ) (r : Δ) : (l.map fun b => (b.toNat : Int)).foldl (fun r n => r.push (UInt8.ofNat n.toNat)) r = ⟨r.data ++ l.toArray⟩ := by
 induction l generalizing r with
 | nil => simp
 | cons b l ih =>
  rw [List.map_cons, List.foldl_cons, ih]
  have : UInt8.ofNat ((b.toNat : Int)).toNat = b := by simp
  rw [this]; simp [ByteArray.push]
theorem NS' (s : Δ) : (s.data.toList.map fun b => (b.toNat : Int)).foldl (fun r n => r.push (UInt8.ofNat n.toNat)) ByteArray.empty = s := by
 rw [WJ']; cases s; simp [ByteArray.empty, ByteArray.emptyWithCapacity]; rfl
theorem QT' (hE : EnvOk P E) (r : Rep W0 N E.F h w) {src dst : TypeId} {s : Δ} (hx : VR N x v) (he : (hQ' E src dst x s).run st h n lg = .ok a h' n' lg' c) (hc : c.holds) :
  ∃ y, (convert src dst v).run P w = .ok y w /\ VR N a y /\ h' = h /\ n' = n := by
 unfold hQ' at he; obtain ⟨ds, hds, he1⟩ := AN' he; obtain ⟨dd, hdd, he2⟩ := AN' he1; clear he he1
 have hmap : (s.data.toList.map fun b => vi' .u8 (b.toNat : Int)) = (s.data.toList.map fun b => (b.toNat : Int)).map (vi' .u8) := by rw [List.map_map]; rfl
 split at he2
 ·rename_i e i off len sz cap; obtain ⟨de, hde, he3⟩ := AN' he2; clear he2; split at he3
  ·obtain ⟨g1, he4⟩ := A8' he3; obtain ⟨all, e', hf, he5⟩ := BL' he4; clear he3 he4; obtain ⟨c1, he6, rfl⟩ := AG' he5; obtain ⟨⟨hl, hcs⟩, hc1⟩ := (Cnd.and_iff _ _).1 hc; obtain ⟨rfl, rfl, rfl⟩ := AB' he6; have g1 : sz = 1 := Nat.eq_of_beq_eq_true g1; simp only [VR] at hx; obtain ⟨l, xo, cp, hlN, rfl, hxo, hroom, hcap, hlc⟩ := hx; obtain ⟨D, hO⟩ := r.obj hf; obtain ⟨l', arr, fz, row, _⟩ := hO.row; obtain rfl : l' = l := Option.some.inj (row.name.symm.trans hlN)
   have hl2 : (List.take len (List.drop off all)).length = len := by rw [List.length_take, List.length_drop]; omega
   obtain ⟨vs, hv, hvl, hcc⟩ := row.span hl2; rw [hcs] at hv
   have hb : vs = (s.data.toList.map fun b => (b.toNat : Int)).map (vi' .u8) := by rw [<- hmap]; exact hv.of_vmap
   have hload : (loadCells ⟨l'.blk, xo, none⟩ len).run P w = .ok ((s.data.toList.map fun b => (b.toNat : Int)).map (vi' .u8)).toArray w := by
    rw [<- hb, <- hvl]
    refine run_loadCells_list (P := P) w _ vs fun j u hu => ?_
    have hj : j < vs.length := (List.getElem?_eq_some_iff.1 hu).1
    have hxo : xo = l'.off + off := by rcases hxo with h0 | h0; exact h0; omega
    rw [D4', hxo]; exact hcc j u hu
   refine ⟨_, ?_, VR_v.2 rfl, rfl, rfl⟩; rw [run_convert_bytes_string w src dst e _ _ _ (hE.under hds) (hE.under hde) (hE.under hdd), run_bytesToString w _ _ _ _ hload, NS']
  ·exact (A4' he3).elim
 ·rename_i e ad len cap; obtain ⟨de, hde, he3⟩ := AN' he2; clear he2; split at he3
  ·obtain ⟨c1, he6, rfl⟩ := AG' he3; obtain ⟨⟨hl, hcs⟩, hc1⟩ := (Cnd.and_iff _ _).1 hc; obtain ⟨rfl, rfl, rfl⟩ := AB' he6; rw [VR_v] at hx; subst hx; obtain ⟨D0, D, p1, p2, p3⟩ := r.sat; have hold := hE.old D0 w p1; have hlen : s.data.toList.length = len := hl
   have hload : (loadCells ad len).run P w = .ok ((s.data.toList.map fun b => (b.toNat : Int)).map (vi' .u8)).toArray w := by
    have key := run_loadCells_list (P := P) w ad ((s.data.toList.map fun b => (b.toNat : Int)).map (vi' .u8)) fun j u hu => by
     have hj : j < s.data.toList.length := by
      have := (List.getElem?_eq_some_iff.1 hu).1; simpa using this
     rw [hold _ _ (hcs j hj)]; rw [<- hmap, List.getElem?_map] at hu; rw [List.getD_eq_getElem?_getD]
     cases hg : s.data.toList[j]? with
     | none => rw [hg] at hu; cases hu
     | some b =>
      rw [hg] at hu; simpa using hu
    rw [List.length_map, List.length_map, hlen] at key; exact key
   refine ⟨_, ?_, VR_v.2 rfl, rfl, rfl⟩; rw [run_convert_bytes_string w src dst e _ _ _ (hE.under hds) (hE.under hde) (hE.under hdd), run_bytesToString w _ _ _ _ hload, NS']
  ·exact (A4' he3).elim
 ·rename_i e len cap; obtain ⟨de, hde, he3⟩ := AN' he2; clear he2; split at he3
  ·obtain ⟨c1, he6, rfl⟩ := AG' he3; obtain ⟨hl, hc1⟩ := (Cnd.and_iff _ _).1 hc; obtain ⟨rfl, rfl, rfl⟩ := AB' he6; rw [VR_v] at hx; subst hx; subst hl; refine ⟨_, ?_, VR_v.2 rfl, rfl, rfl⟩; rw [run_convert_bytes_string w src dst e _ _ _ (hE.under hds) (hE.under hde) (hE.under hdd)]; simp [Conv.bytesToString]
  ·exact (A4' he3).elim
 ·obtain ⟨c1, he6, rfl⟩ := AG' he2; obtain ⟨hl, hc1⟩ := (Cnd.and_iff _ _).1 hc; obtain ⟨rfl, rfl, rfl⟩ := AB' he6; rw [VR_v] at hx; subst hx; subst hl; refine ⟨_, ?_, VR_v.2 rfl, rfl, rfl⟩; rw [run_convert_int_string (P := P) w src dst _ _ (by rw [hE.under hds]; rfl) (hE.under hdd)]
 ·exact (A4' he2).elim
theorem T4' (hE : EnvOk P E) (r : Rep W0 N E.F h w) {o : Oper} {s : Δ} (hρ : ∀ x, VR N (ρ x) (σ x)) (he : (aTxt E ρ o.op s).run st h n lg = .ok an h' n' lg' c) (hc : c) :
  OpOK P W0 E.F N h' n n' w (execOp σ o) an := by
 obtain ⟨dst, op, type, pos, after, guard⟩ := o; unfold aTxt at he; unfold execOp
 cases op with
 | convert src d x =>
  obtain ⟨a, lg1, c1, e1, e2, e3⟩ := AV' he; obtain ⟨y, h1, h2, rfl, rfl⟩ := QT' (P := P) hE r (hρ x) e1 (e3 hc); exact okV h1 r (Ext.refl _ _ _) h2 e2
 | _ => exact (A4' he).elim
theorem XU' {N : A9'} {v : AV} (hv : VR N v y) : VR N (UV' v) y := by
 unfold UV'; split
 ·rename_i b; have := VR_v.1 hv; subst this
  cases b <;> exact EF'.2 rfl
 ·rename_i k m; rw [UQ']; exact hv
 ·exact hv
theorem OpOK.force {sm : Sem Next} (hk : OpOK P W0 F N h' n n' w sm an) : OpOK P W0 F N h' n n' w sm (ZI' an) := by
 obtain ⟨nx, w', N', q1, q2, q3, q4⟩ := hk; refine ⟨nx, w', N', q1, q2, q3, ?_⟩
 cases nx with
 | value y =>
  obtain ⟨a, rfl, hv⟩ := q4; exact ⟨_, rfl, XU' hv⟩
 | skip =>
  have q5 : an = .value AV.undef := q4; subst q5; rfl
 | enter f as =>
  obtain ⟨xs, rfl, hx⟩ := q4; exact ⟨xs, rfl, hx⟩
 | _ => exact q4.elim
theorem T6' (hE : EnvOk P E) (r : Rep W0 N E.F h w) {alt : Alt} {o : Oper} (hρ : ∀ x, VR N (ρ x) (σ x)) (hfr : BW' N n n') (he : (aOpX alt P E ρ o).run st h n lg = .ok an h' n' lg' c) (hc : c) :
  OpOK P W0 E.F N h' n n' w (execOp σ o) an := by
 cases alt with
 | yes => exact T8' hE r hρ he hc
 | no => exact PD' hE r hρ hfr he hc
 | fact y => exact QU' hE r hρ he hc
 | wr o' => exact VQ' hE r hρ he hc
 | txt s => exact T4' hE r hρ he hc
 | force =>
  obtain ⟨a, h1, n1, lg1, c1, c2, e1, e2, e3⟩ := run_bind _ _ he; obtain ⟨rfl, rfl, rfl⟩ := AB' e2; exact (PD' hE r hρ hfr e1 (e3 hc).1).force
end
end Go.Proofs.YtnnojnlejlokhaaGreatDoor.Eng
