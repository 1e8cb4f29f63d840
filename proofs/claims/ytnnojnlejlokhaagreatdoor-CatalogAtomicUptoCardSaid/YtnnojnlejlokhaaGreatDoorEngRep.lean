/- What the engine's names stand for. No program. -/
import Derived.Test.YtnnojnlejlokhaaGreatDoorEngRun
set_option linter.unusedVariables false
set_option linter.unusedSimpArgs false
namespace Go.Proofs.YtnnojnlejlokhaaGreatDoor.Eng
open Go Go.RowKit
variable {o o' : AO} {i n : Nat} {r : List Value} {l : List AV} {y : Value} {a : AV}
structure Loc where
 blk : Nat
 off : Nat
 room : Nat
abbrev A9' := Nat -> Option Loc
def A9'.le (N N' : A9') : Prop := ∀ i l, N i = some l -> N' i = some l
theorem A9'.le_refl (N : A9') : N.le N := fun _ _ h => h
theorem A9'.le.trans {N N' N'' : A9'} (h : N.le N') (h' : N'.le N'') : N.le N'' := fun i l hi => h' i l (h i l hi)
def A9'.put (N : A9') (n : Nat) (l : Loc) : A9' := fun i => if i = n then some l else N i
theorem A9'.put_same {N : A9'} {l : Loc} : N.put n l n = some l := if_pos rfl
theorem A9'.put_ne {N : A9'} {l : Loc} (h : i ≠ n) : N.put n l i = N i := if_neg h
theorem A9'.put_le {N : A9'} {l : Loc} (h : N n = none) : N.le (N.put n l) := fun i l' hi => by
 have : i ≠ n := fun e => by rw [e, h] at hi; cases hi
 rw [A9'.put_ne this]; exact hi
def Cp.fits : Cp -> Nat -> Prop
 | .ex k, c => c = k
 | .lo k, c => k <= c
mutual
def VR (N : A9') : AV -> Value -> Prop
 | .v x, y => y = x
 | .lit b, y => y = .bool b
 | .ptr i off, y => ∃ l, N i = some l /\ y = .pointer (some ⟨l.blk, l.off + off, none⟩)
 | .slice i off len sz cap, y => ∃ l x c, N i = some l /\ y = .slice (some ⟨l.blk, x, none⟩) len c /\ (x = l.off + off \/ c = 0) /\ off + c * sz <= l.room /\ cap.fits c /\ len <= c
 | .mt, y => ∃ a, y = .slice a 0 0
 | .un, y => ∃ a n c, y = .slice a n c
 | .map i, y => ∃ l, N i = some l /\ y = .map (some l.blk)
 | .iface t x, y => ∃ z, VR N x z /\ y = .iface t z
 | .func fn f c, y => ∃ f' c', VRs N f f' /\ VRs N c c' /\ y = .func fn f'.toArray c'.toArray
 | .agg cs, y => ∃ cs', VRs N cs cs' /\ y = .agg cs'.toArray
 | .tuple cs, y => ∃ cs', VRs N cs cs' /\ y = .tuple cs'.toArray
 | .any, y => True
def VRs (N : A9') : List AV -> List Value -> Prop
 | [], ys => ys = []
 | x :: l, ys => ∃ y r, VR N x y /\ VRs N l r /\ ys = y :: r
end
mutual
theorem VR.mono {N N' : A9'} (hN : N.le N') : ∀ {a : AV} {y : Value}, VR N a y -> VR N' a y
 | .v x, y, h => by simpa only [VR] using h
 | .lit x, y, h => by simpa only [VR] using h
 | .ptr i off, y, h => by
  simp only [VR] at h ⊢; obtain ⟨l, h1, h2⟩ := h; exact ⟨l, hN _ _ h1, h2⟩
 | .slice i off len sz cap, y, h => by
  simp only [VR] at h ⊢; obtain ⟨l, x, c, h1, h2⟩ := h; exact ⟨l, x, c, hN _ _ h1, h2⟩
 | .mt, y, h => by simpa only [VR] using h
 | .un, y, h => by simpa only [VR] using h
 | .map i, y, h => by
  simp only [VR] at h ⊢; obtain ⟨l, h1, h2⟩ := h; exact ⟨l, hN _ _ h1, h2⟩
 | .iface t x, y, h => by
  simp only [VR] at h ⊢; obtain ⟨z, h1, h2⟩ := h; exact ⟨z, VR.mono hN h1, h2⟩
 | .func fn f c, y, h => by
  simp only [VR] at h ⊢; obtain ⟨f', c', h1, h2, h3⟩ := h; exact ⟨f', c', VRs.mono hN h1, VRs.mono hN h2, h3⟩
 | .agg cs, y, h => by
  simp only [VR] at h ⊢; obtain ⟨cs', h1, h2⟩ := h; exact ⟨cs', VRs.mono hN h1, h2⟩
 | .tuple cs, y, h => by
  simp only [VR] at h ⊢; obtain ⟨cs', h1, h2⟩ := h; exact ⟨cs', VRs.mono hN h1, h2⟩
 | .any, y, h => by simp only [VR]
theorem VRs.mono {N N' : A9'} (hN : N.le N') : ∀ {l : List AV} {ys : List Value}, VRs N l ys -> VRs N' l ys
 | [], ys, h => by simpa only [VRs] using h
 | x :: l, ys, h => by
  simp only [VRs] at h ⊢; obtain ⟨y, r, h1, h2, h3⟩ := h; exact ⟨y, r, VR.mono hN h1, VRs.mono hN h2, h3⟩
end
section
variable {N : A9'}
theorem AX' : VRs N [] [] := by simp [VRs]
theorem AD' {x : AV} : VRs N (x :: l) (y :: r) ↔ VR N x y /\ VRs N l r := by
 simp only [VRs]
 constructor
 ·rintro ⟨y', r', h1, h2, h3⟩; cases h3; exact ⟨h1, h2⟩
 ·rintro ⟨h1, h2⟩; exact ⟨y, r, h1, h2, rfl⟩
theorem VRs.len : ∀ {l : List AV} {r : List Value}, VRs N l r -> l.length = r.length
 | [], r, h => by simp only [VRs] at h; subst h; rfl
 | x :: l, r, h => by
  simp only [VRs] at h; obtain ⟨y, r', _, h2, rfl⟩ := h; simp [VRs.len h2]
theorem NB' : ∀ {l : List AV} {r : List Value}, VRs N l r ↔ l.length = r.length /\ ∀ (j : Nat) (x : AV) (y : Value), l[j]? = some x -> r[j]? = some y -> VR N x y
 | [], r => by
  simp only [VRs]
  constructor
  ·rintro rfl; exact ⟨rfl, fun j x y h => by simp at h⟩
  ·rintro ⟨h, _⟩; exact List.eq_nil_of_length_eq_zero (by simpa using h.symm)
 | x :: l, [] => by simp [VRs]
 | x :: l, y :: r => by
  rw [AD', NB']
  constructor
  ·rintro ⟨h1, h2, h3⟩
   refine ⟨by simp [h2], fun j a b ha hb => ?_⟩
   cases j with
   | zero => simp at ha hb; subst ha hb; exact h1
   | succ j => exact h3 j a b (by simpa using ha) (by simpa using hb)
  ·rintro ⟨h1, h2⟩
   exact ⟨h2 0 x y rfl rfl, by simpa using h1, fun j a b ha hb => h2 (j + 1) a b (by simpa using ha) (by simpa using hb)⟩
theorem VRs.get (h : VRs N l r) {j : Nat} {x : AV} (hx : l[j]? = some x) : ∃ y, r[j]? = some y /\ VR N x y := by
 obtain ⟨h1, h2⟩ := NB'.1 h; have hj : j < l.length := (List.getElem?_eq_some_iff.1 hx).1; have hr : r[j]? = some r[j] := List.getElem?_eq_getElem ω; exact ⟨_, hr, h2 j x _ hx hr⟩
theorem VRs.append {l' : List AV} {r' : List Value} (h : VRs N l r) (h' : VRs N l' r') : VRs N (l ++ l') (r ++ r') := by
 induction l generalizing r with
 | nil => simp only [VRs] at h; subst h; exact h'
 | cons x l ih =>
  simp only [VRs] at h; obtain ⟨y, r0, h1, h2, rfl⟩ := h; exact AD'.2 ⟨h1, ih h2⟩
theorem VRs.take (h : VRs N l r) (k : Nat) : VRs N (l.take k) (r.take k) := by
 induction l generalizing r k with
 | nil => simp only [VRs] at h; subst h; simp [VRs]
 | cons x l ih =>
  simp only [VRs] at h; obtain ⟨y, r0, h1, h2, rfl⟩ := h
  cases k with
  | zero => simp [VRs]
  | succ k => exact AD'.2 ⟨h1, ih h2 k⟩
theorem VRs.drop (h : VRs N l r) (k : Nat) : VRs N (l.drop k) (r.drop k) := by
 induction l generalizing r k with
 | nil => simp only [VRs] at h; subst h; simp [VRs]
 | cons x l ih =>
  simp only [VRs] at h; obtain ⟨y, r0, h1, h2, rfl⟩ := h
  cases k with
  | zero => exact AD'.2 ⟨h1, h2⟩
  | succ k => exact ih h2 k
theorem VRs.vmap (l : List Value) : VRs N (vmap l) l := by
 induction l with
 | nil => simp [Eng.vmap, VRs]
 | cons x l ih => exact AD'.2 ⟨by simp [VR], ih⟩
theorem VRs.of_vmap {l : List Value} (h : VRs N (Eng.vmap l) r) : r = l := by
 induction l generalizing r with
 | nil => simpa [Eng.vmap, VRs] using h
 | cons x l ih =>
  simp only [Eng.vmap, List.map_cons, VRs, VR] at h; obtain ⟨y, r0, rfl, h2, rfl⟩ := h; rw [ih h2]
theorem VR_v {x : Value} : VR N (.v x) y ↔ y = x := by simp only [VR]
end
mutual
theorem DM' {N : A9'} : ∀ {a : AV} {x y : Value}, a.val? = some x -> VR N a y -> y = x
 | .v z, x, y, h, hy => by
  simp only [AV.val?, Option.some.injEq] at h; subst h; simpa only [VR] using hy
 | .lit b, x, y, h, hy => by
  simp only [AV.val?, Option.some.injEq] at h; subst h; simpa only [VR] using hy
 | .iface t a, x, y, h, hy => by
  simp only [AV.val?] at h; split at h
  ·rename_i z hz; simp only [VR] at hy; obtain ⟨z', h1, rfl⟩ := hy; cases h; rw [DM' hz h1]
  ·cases h
 | .func fn f c, x, y, h, hy => by
  simp only [AV.val?] at h; split at h
  ·rename_i f' c' hf hc; simp only [VR] at hy; obtain ⟨f'', c'', h1, h2, rfl⟩ := hy; cases h; rw [ID' hf h1, ID' hc h2]
  ·cases h
 | .agg cs, x, y, h, hy => by
  simp only [AV.val?] at h; split at h
  ·rename_i f' hf; simp only [VR] at hy; obtain ⟨f'', h1, rfl⟩ := hy; cases h; rw [ID' hf h1]
  ·cases h
 | .tuple cs, x, y, h, hy => by
  simp only [AV.val?] at h; split at h
  ·rename_i f' hf; simp only [VR] at hy; obtain ⟨f'', h1, rfl⟩ := hy; cases h; rw [ID' hf h1]
  ·cases h
 | .ptr i off, x, y, h, hy => by simp [AV.val?] at h
 | .slice i off len sz cap, x, y, h, hy => by simp [AV.val?] at h
 | .mt, x, y, h, hy => by simp [AV.val?] at h
 | .un, x, y, h, hy => by simp [AV.val?] at h
 | .map i, x, y, h, hy => by simp [AV.val?] at h
 | .any, x, y, h, hy => by simp [AV.val?] at h
theorem ID' {N : A9'} : ∀ {l : List AV} {r ys : List Value}, AV.vals? l = some r -> VRs N l ys -> ys = r
 | [], r, ys, h, hy => by
  simp only [AV.vals?, Option.some.injEq] at h; subst h; simpa only [VRs] using hy
 | a :: l, r, ys, h, hy => by
  simp only [AV.vals?] at h; split at h
  ·rename_i x r' hx hr; simp only [VRs] at hy; obtain ⟨y, ys', h1, h2, rfl⟩ := hy; cases h; rw [DM' hx h1, ID' hr h2]
  ·cases h
end
section
variable {N : A9'}
theorem VR.cells (h : VR N a y) (hk : a.known = true) : VRs N a.cells y.cells.toList := by
 cases a with
 | any => cases hk
 | v x =>
  rw [VR_v] at h; subst h
  cases y <;> first | exact VRs.vmap _ | exact AD'.2 ⟨VR_v.2 rfl, AX'⟩
 | lit b => simp only [VR] at h; subst h; exact AD'.2 ⟨VR_v.2 rfl, AX'⟩
 | agg cs => simp only [VR] at h; obtain ⟨cs', h1, rfl⟩ := h; simpa [AV.cells, Value.cells] using h1
 | ptr i off => have h' := h; simp only [VR] at h'; obtain ⟨l, _, rfl⟩ := h'; exact AD'.2 ⟨h, AX'⟩
 | slice i off len sz cap => have h' := h; simp only [VR] at h'; obtain ⟨l, x, c, _, rfl, _⟩ := h'; exact AD'.2 ⟨h, AX'⟩
 | mt => have h' := h; simp only [VR] at h'; obtain ⟨l, rfl⟩ := h'; exact AD'.2 ⟨h, AX'⟩
 | un => have h' := h; simp only [VR] at h'; obtain ⟨_, _, _, rfl⟩ := h'; exact AD'.2 ⟨h, AX'⟩
 | map i => have h' := h; simp only [VR] at h'; obtain ⟨l, _, rfl⟩ := h'; exact AD'.2 ⟨h, AX'⟩
 | iface t x => have h' := h; simp only [VR] at h'; obtain ⟨l, _, rfl⟩ := h'; exact AD'.2 ⟨h, AX'⟩
 | func fn f c => have h' := h; simp only [VR] at h'; obtain ⟨l, _, _, _, rfl⟩ := h'; exact AD'.2 ⟨h, AX'⟩
 | tuple cs => have h' := h; simp only [VR] at h'; obtain ⟨l, _, rfl⟩ := h'; exact AD'.2 ⟨h, AX'⟩
theorem EF' {b : Bool} : VR N (.lit b) y ↔ y = .bool b := by simp only [VR]
theorem VR.plain (h : VR N a y) : VR N a.plain y := by
 cases a with
 | lit b => rw [EF'] at h; exact VR_v.2 h
 | _ => exact h
theorem VRs.plain : ∀ {l : List AV} {r : List Value}, VRs N l r -> VRs N (l.map AV.plain) r
 | [], r, h => h
 | x :: l, r, h => by
  simp only [VRs] at h; obtain ⟨y, r', h1, h2, rfl⟩ := h; exact AD'.2 ⟨h1.plain, VRs.plain h2⟩
theorem b6' (x : Value) : oneV x = x.oneCell' := by cases x <;> rfl
theorem VR.one (h : VR N a y) (ho : a.one = true) : y.oneCell' = true := by
 cases a with
 | v x => rw [VR_v] at h; subst h; rw [<- b6']; exact ho
 | lit b => simp only [VR] at h; subst h; rfl
 | agg cs => cases ho
 | tuple cs => cases ho
 | any => cases ho
 | ptr i off => simp only [VR] at h; obtain ⟨l, _, rfl⟩ := h; rfl
 | slice i off len sz cap => simp only [VR] at h; obtain ⟨l, x, c, _, rfl, _⟩ := h; rfl
 | mt => simp only [VR] at h; obtain ⟨l, rfl⟩ := h; rfl
 | un => simp only [VR] at h; obtain ⟨_, _, _, rfl⟩ := h; rfl
 | map i => simp only [VR] at h; obtain ⟨l, _, rfl⟩ := h; rfl
 | iface t x => simp only [VR] at h; obtain ⟨l, _, rfl⟩ := h; rfl
 | func fn f c => simp only [VR] at h; obtain ⟨l, _, _, _, rfl⟩ := h; rfl
theorem VRs.ones (h : VRs N l r) (ho : l.all AV.one = true) : ∀ v ∈ r, v.oneCell' = true := by
 induction l generalizing r with
 | nil => simp only [VRs] at h; subst h; intro v hv; cases hv
 | cons x l ih =>
  simp only [VRs] at h; obtain ⟨y, r0, h1, h2, rfl⟩ := h; simp only [List.all_cons, Bool.and_eq_true] at ho; intro v hv
  rcases List.mem_cons.1 hv with rfl | hv
  ·exact h1.one ho.1
  ·exact ih h2 ho.2 v hv
end
def ER (N : A9') (a : AV × AV × Nat) (e : MapEntry) : Prop := VR N a.1 e.key /\ VR N a.2.1 e.val /\ e.born = a.2.2
def ERs (N : A9') : List (AV × AV × Nat) -> List MapEntry -> Prop
 | [], es => es = []
 | a :: l, es => ∃ e r, ER N a e /\ ERs N l r /\ es = e :: r
theorem ERs.mono {N N' : A9'} (hN : N.le N') : ∀ {l : List (AV × AV × Nat)} {es : List MapEntry}, ERs N l es -> ERs N' l es
 | [], _, h => h
 | _ :: _, _, ⟨e, r, ⟨h1, h2, h3⟩, h4, h5⟩ => ⟨e, r, ⟨h1.mono hN, h2.mono hN, h3⟩, ERs.mono hN h4, h5⟩
def MR (N : A9') : Option Nat -> Option Nat -> Prop
 | none, b => b = none
 | some j, b => ∃ l, N j = some l /\ b = some l.blk
theorem MR.mono {N N' : A9'} (hN : N.le N') : ∀ {m b : Option Nat}, MR N m b -> MR N' m b
 | none, _, h => h
 | some _, _, ⟨l, h1, h2⟩ => ⟨l, hN _ _ h1, h2⟩
def OR (N : A9') (i : Nat) : AO -> (Nat -> Prop) -> World -> Prop
 | .cells cs e, D, w => ∃ l arr fz, N i = some l /\ (∀ x, D x ↔ x = l.blk) /\ w.heap[l.blk]? = some (.cells arr (e / 2) fz) /\ l.off + l.room <= arr.size /\ cs.length <= l.room /\
   (fz = (0, 0) \/ arr.size <= fz.1) /\ VRs N cs ((arr.toList.drop l.off).take cs.length) /\ (e % 2 = 0 -> l.off = 0 /\ fz = (0, 0))
 | .map es c, D, w => ∃ l es', N i = some l /\ (∀ x, D x ↔ x = l.blk) /\ w.heap[l.blk]? = some (.map es' c) /\ ERs N es es'.toList /\ l.off = 0
 | .striter s pos, D, w => ∃ l, N i = some l /\ l.off = 0 /\ (∀ x, D x ↔ x = l.blk) /\ w.heap[l.blk]? = some (.stringIter s pos)
 | .miter m since seen last, D, w => ∃ l mb, N i = some l /\ l.off = 0 /\ (∀ x, D x ↔ x = l.blk) /\ w.heap[l.blk]? = some (.mapIter mb since seen.toArray last) /\ MR N m mb
 | .any h, D, w => h.on D w
 | .own _ h, D, w => ∃ l, N i = some l /\ l.off = 0 /\ (h l.blk l.room).on D w
 | .same j b, D, w => (∀ x, ¬ D x) /\ ∃ r, N j = some ⟨b, 0, r⟩
theorem OR.far {N : A9'} {D : Nat -> Prop} {w w' : World} (hf : ∀ b, D b -> w'.heap[b]? = w.heap[b]?) (h : OR N i o D w) : OR N i o D w' := by
 cases o with
 | cells cs e => obtain ⟨l, arr, fz, h1, h2, h3, h4⟩ := h; exact ⟨l, arr, fz, h1, h2, (hf _ ((h2 _).2 rfl)).trans h3, h4⟩
 | map es c => obtain ⟨l, es', h1, h2, h3, h4⟩ := h; exact ⟨l, es', h1, h2, (hf _ ((h2 _).2 rfl)).trans h3, h4⟩
 | striter s pos => obtain ⟨l, h1, h0, h2, h3⟩ := h; exact ⟨l, h1, h0, h2, (hf _ ((h2 _).2 rfl)).trans h3⟩
 | miter m since seen last => obtain ⟨l, mb, h1, h0, h2, h3, h4⟩ := h; exact ⟨l, mb, h1, h0, h2, (hf _ ((h2 _).2 rfl)).trans h3, h4⟩
 | any p => exact p.far hf h
 | own m p => obtain ⟨l, h1, h0, h2⟩ := h; exact ⟨l, h1, h0, (p l.blk l.room).far hf h2⟩
 | same j b => exact h
theorem OR.lt {N : A9'} {D : Nat -> Prop} {w : World} (h : OR N i o D w) : ∀ b, D b -> b < w.heap.size := by
 intro b hb
 cases o with
 | cells cs e => obtain ⟨l, arr, fz, h1, h2, h3, h4⟩ := h; rw [(h2 b).1 hb]; exact (Array.getElem?_eq_some_iff.1 h3).1
 | map es c => obtain ⟨l, es', h1, h2, h3, h4⟩ := h; rw [(h2 b).1 hb]; exact (Array.getElem?_eq_some_iff.1 h3).1
 | striter s pos => obtain ⟨l, h1, h0, h2, h3⟩ := h; rw [(h2 b).1 hb]; exact (Array.getElem?_eq_some_iff.1 h3).1
 | miter m since seen last => obtain ⟨l, mb, h1, h0, h2, h3, h4⟩ := h; rw [(h2 b).1 hb]; exact (Array.getElem?_eq_some_iff.1 h3).1
 | any p => exact p.lt h b hb
 | own m p => obtain ⟨l, h1, h0, h2⟩ := h; exact (p l.blk l.room).lt h2 b hb
 | same j b' => exact (h.1 b hb).elim
theorem OR.mono {N N' : A9'} (hN : N.le N') {D : Nat -> Prop} {w : World} (h : OR N i o D w) : OR N' i o D w := by
 cases o with
 | cells cs e => obtain ⟨l, arr, fz, h1, h2, h3, h4, h5, h6, h7, h8⟩ := h; exact ⟨l, arr, fz, hN _ _ h1, h2, h3, h4, h5, h6, h7.mono hN, h8⟩
 | map es c => obtain ⟨l, es', h1, h2, h3, h4⟩ := h; exact ⟨l, es', hN _ _ h1, h2, h3, h4.1.mono hN, h4.2⟩
 | striter s pos => obtain ⟨l, h1, h0, h2, h3⟩ := h; exact ⟨l, hN _ _ h1, h0, h2, h3⟩
 | miter m since seen last => obtain ⟨l, mb, h1, h0, h2, h3, h4⟩ := h; exact ⟨l, mb, hN _ _ h1, h0, h2, h3, h4.mono hN⟩
 | any p => exact h
 | own m p => obtain ⟨l, h1, h0, h2⟩ := h; exact ⟨l, hN _ _ h1, h0, h2⟩
 | same j b => obtain ⟨h1, r, h2⟩ := h; exact ⟨h1, r, hN _ _ h2⟩
def Wk (v u : AV) : Prop := ∀ N y, VR N v y -> VR N u y
theorem Wk.refl (v : AV) : Wk v v := fun _ _ h => h
theorem Wk.of_eq {v u : AV} (h : v = u) : Wk v u := h ▸ Wk.refl v
theorem Wk.any (x : AV) : Wk x .any := fun _ _ _ => by simp only [VR]
def OW (o o' : AO) : Prop := ∀ N i D w, OR N i o D w -> OR N i o' D w
theorem OW.refl (o : AO) : OW o o := fun _ _ _ _ h => h
theorem OW.of_eq (h : o = o') : OW o o' := h ▸ OW.refl o
structure Rep (W0 : World) (N : A9') (F : HP) (h : T) (w : World) : Prop where
 os : w.os = W0.os
 tape : w.tape = W0.tape
 output : w.output = W0.output
 sat : ∃ (D0 : Nat -> Prop) (D : Nat -> Nat -> Prop), F.on D0 w /\ (∀ i o, h.find i = some o -> OR N i o (D i) w /\ ∀ b, D i b -> ¬ D0 b) /\
  ∀ i j o o', h.find i = some o -> h.find j = some o' -> i ≠ j -> ∀ b, D i b -> ¬ D j b
section
variable {W0 w w' : World} {N N' : A9'} {F : HP} {h h' : T}
theorem Rep.like (r : Rep W0 N F h w) (hh : w'.heap = w.heap) (ho : w'.os = w.os) (ht : w'.tape = w.tape) (hu : w'.output = w.output) : Rep W0 N F h w' := by
 obtain ⟨D0, D, h1, h2, h3⟩ := r.sat
 exact ⟨ho.trans r.os, ht.trans r.tape, hu.trans r.output, D0, D, F.far (fun b _ => by rw [hh]) h1, fun i o hi => ⟨(h2 i o hi).1.far (fun b _ => by rw [hh]), (h2 i o hi).2⟩, h3⟩
theorem Rep.drew (r : Rep W0 N F h w) (k : Nat) : Rep W0 N F h { w with drawn := k } := r.like rfl rfl rfl rfl
theorem Rep.heap (r : Rep W0 N F h w) (hh : ∀ i, h'.find i = h.find i) : Rep W0 N F h' w := by
 obtain ⟨D0, D, h1, h2, h3⟩ := r.sat
 exact ⟨r.os, r.tape, r.output, D0, D, h1, fun i o hi => h2 i o (hh i ▸ hi), fun i j o o' hi hj => h3 i j o o' (hh i ▸ hi) (hh j ▸ hj)⟩
theorem Rep.obj (r : Rep W0 N F h w) (hi : h.find i = some o) : ∃ D, OR N i o D w := by
 obtain ⟨D0, D, h1, h2, h3⟩ := r.sat; exact ⟨_, (h2 i o hi).1⟩
theorem Rep.below (r : Rep W0 N F h w) (hb : Below w.heap.size w w') : Rep W0 N F h w' := by
 obtain ⟨D0, D, h1, h2, h3⟩ := r.sat
 exact ⟨hb.os.trans r.os, hb.tape.trans r.tape, hb.output.trans r.output, D0, D, F.far (fun b hb' => hb.block b (F.lt h1 b hb')) h1,
  fun i o hi => ⟨(h2 i o hi).1.far (fun b hb' => hb.block b ((h2 i o hi).1.lt b hb')), (h2 i o hi).2⟩, h3⟩
theorem Rep.names (r : Rep W0 N F h w) (hN : N.le N') : Rep W0 N' F h w := by
 obtain ⟨D0, D, h1, h2, h3⟩ := r.sat
 exact ⟨r.os, r.tape, r.output, D0, D, h1, fun i o hi => ⟨(h2 i o hi).1.mono hN, (h2 i o hi).2⟩, h3⟩
theorem Rep.turn (r : Rep W0 N F h w) (hi : h.find i = some o) (ho : w'.os = w.os) (ht : w'.tape = w.tape) (hu : w'.output = w.output)
  (hh : ∀ D, OR N i o D w -> (∀ b, b < w.heap.size -> ¬ D b -> w'.heap[b]? = w.heap[b]?) /\ ∃ D', OR N i o' D' w' /\ ∀ b, D' b -> D b \/ w.heap.size <= b) :
  Rep W0 N F (T.set T.depth h i (.leaf o')) w' := by
 have hlt := T.lt_of_find hi; obtain ⟨D0, D, h1, h2, h3⟩ := r.sat; obtain ⟨h4, D', h5, h6⟩ := hh (D i) (h2 i o hi).1
 have hfind : ∀ j, (T.set T.depth h i (.leaf o')).find j = if j = i then some o' else h.find j := fun j => by rw [T.find_set hlt]; rfl
 refine ⟨ho.trans r.os, ht.trans r.tape, hu.trans r.output, D0, fun j => if j = i then D' else D j, F.far (fun b hb => h4 b (F.lt h1 b hb) (fun hd => (h2 i o hi).2 b hd hb)) h1, ?_, ?_⟩
 ·intro j oj hj; rw [hfind] at hj; split at hj
  ·rename_i e; subst e; cases hj; simp only [if_true]
   refine ⟨h5, fun b hb h0 => ?_⟩
   rcases h6 b hb with h7 | h7
   ·exact (h2 j o hi).2 b h7 h0
   ·have := F.lt h1 b h0; omega
  ·rename_i e; simp only [e, if_false]; exact ⟨(h2 j oj hj).1.far (fun b hb => h4 b ((h2 j oj hj).1.lt b hb) (fun hd => h3 i j o oj hi hj (Ne.symm e) b hd hb)), (h2 j oj hj).2⟩
 ·intro j k oj ok hj hk hjk b hb hb'; rw [hfind] at hj hk
  by_cases e : j = i
  ·subst e; have e' : k ≠ j := Ne.symm hjk; simp only [e', if_false] at hk hb'; simp only [if_true] at hb
   rcases h6 b hb with h7 | h7
   ·exact h3 j k o ok hi hk hjk b h7 hb'
   ·have := (h2 k ok hk).1.lt b hb'; omega
  ·simp only [e, if_false] at hj hb
   by_cases e' : k = i
   ·subst e'; simp only [if_true] at hb'
    rcases h6 b hb' with h7 | h7
    ·exact h3 k j o oj hi hj (Ne.symm hjk) b h7 hb
    ·have := (h2 j oj hj).1.lt b hb; omega
   ·simp only [e', if_false] at hk hb'; exact h3 j k oj ok hj hk hjk b hb hb'
theorem Rep.new (r : Rep W0 N F h w) (hn : n < T.limit) (hN : N.le N') (hb : Below w.heap.size w w') (ho : ∃ D', OR N' n o D' w' /\ ∀ b, D' b -> w.heap.size <= b) :
  Rep W0 N' F (T.set T.depth h n (.leaf o)) w' := by
 obtain ⟨D0, D, h1, h2, h3⟩ := r.sat; obtain ⟨D', h5, h6⟩ := ho
 have hfind : ∀ j, (T.set T.depth h n (.leaf o)).find j = if j = n then some o else h.find j := fun j => by rw [T.find_set hn]; rfl
 refine ⟨hb.os.trans r.os, hb.tape.trans r.tape, hb.output.trans r.output, D0, fun j => if j = n then D' else D j, F.far (fun b hb' => hb.block b (F.lt h1 b hb')) h1, ?_, ?_⟩
 ·intro j oj hj; rw [hfind] at hj; split at hj
  ·rename_i e; subst e; cases hj; simp only [if_true]
   exact ⟨h5, fun b hb' h0 => by have := h6 b hb'; have := F.lt h1 b h0; omega⟩
  ·rename_i e; simp only [e, if_false]; exact ⟨((h2 j oj hj).1.far (fun b hb' => hb.block b ((h2 j oj hj).1.lt b hb'))).mono hN, (h2 j oj hj).2⟩
 ·intro j k oj ok hj hk hjk b hb1 hb2; rw [hfind] at hj hk
  by_cases e : j = n
  ·subst e; have e' : k ≠ j := Ne.symm hjk; simp only [e', if_false] at hk hb2; simp only [if_true] at hb1; have := h6 b hb1; have := (h2 k ok hk).1.lt b hb2; omega
  ·simp only [e, if_false] at hj hb1
   by_cases e' : k = n
   ·subst e'; simp only [if_true] at hb2; have := h6 b hb2; have := (h2 j oj hj).1.lt b hb1; omega
   ·simp only [e', if_false] at hk hb2; exact h3 j k oj ok hj hk hjk b hb1 hb2
theorem Rep.kill (r : Rep W0 N F h w) (hi : h.find i = some o) (ho : w'.os = w.os) (ht : w'.tape = w.tape) (hu : w'.output = w.output)
  (hh : ∀ D, OR N i o D w -> ∀ b, b < w.heap.size -> ¬ D b -> w'.heap[b]? = w.heap[b]?) : Rep W0 N F (T.set T.depth h i .nil) w' := by
 have hlt := T.lt_of_find hi; obtain ⟨D0, D, h1, h2, h3⟩ := r.sat; have h4 := hh (D i) (h2 i o hi).1
 have hfind : ∀ j, (T.set T.depth h i .nil).find j = if j = i then none else h.find j := fun j => by rw [T.find_set hlt]; rfl
 refine ⟨ho.trans r.os, ht.trans r.tape, hu.trans r.output, D0, D, F.far (fun b hb => h4 b (F.lt h1 b hb) (fun hd => (h2 i o hi).2 b hd hb)) h1, ?_, ?_⟩
 ·intro j oj hj; rw [hfind] at hj; split at hj
  ·cases hj
  ·rename_i e; exact ⟨(h2 j oj hj).1.far (fun b hb => h4 b ((h2 j oj hj).1.lt b hb) (fun hd => h3 i j o oj hi hj (Ne.symm e) b hd hb)), (h2 j oj hj).2⟩
 ·intro j k oj ok hj hk hjk; rw [hfind] at hj hk; split at hj
  ·cases hj
  ·split at hk
   ·cases hk
   ·exact h3 j k oj ok hj hk hjk
theorem Rep.move (r : Rep W0 N F h w) (hi : h.find i = some o) (hn : n < T.limit) (hN : N.le N') (ho : w'.os = w.os) (ht : w'.tape = w.tape) (hu : w'.output = w.output)
  (hh : ∀ D, OR N i o D w -> (∀ b, b < w.heap.size -> ¬ D b -> w'.heap[b]? = w.heap[b]?) /\ ∃ D', OR N' n o' D' w' /\ ∀ b, D' b -> D b \/ w.heap.size <= b) :
  Rep W0 N' F (T.set T.depth (T.set T.depth h i .nil) n (.leaf o')) w' := by
 have hlt := T.lt_of_find hi; obtain ⟨D0, D, h1, h2, h3⟩ := r.sat; obtain ⟨h4, D', h5, h6⟩ := hh (D i) (h2 i o hi).1
 have hfind : ∀ j, (T.set T.depth (T.set T.depth h i .nil) n (.leaf o')).find j = if j = n then some o' else if j = i then none else h.find j := fun j => by
  rw [T.find_set hn, T.find_set hlt]; rfl
 refine ⟨ho.trans r.os, ht.trans r.tape, hu.trans r.output, D0, fun j => if j = n then D' else D j, F.far (fun b hb => h4 b (F.lt h1 b hb) (fun hd => (h2 i o hi).2 b hd hb)) h1, ?_, ?_⟩
 ·intro j oj hj; rw [hfind] at hj; split at hj
  ·rename_i e; subst e; cases hj; simp only [if_true]
   refine ⟨h5, fun b hb h0 => ?_⟩
   rcases h6 b hb with h7 | h7
   ·exact (h2 i o hi).2 b h7 h0
   ·have := F.lt h1 b h0; omega
  ·rename_i e; split at hj
   ·cases hj
   ·rename_i e2; simp only [e, if_false]; exact ⟨((h2 j oj hj).1.far (fun b hb => h4 b ((h2 j oj hj).1.lt b hb) (fun hd => h3 i j o oj hi hj (Ne.symm e2) b hd hb))).mono hN, (h2 j oj hj).2⟩
 ·intro j k oj ok hj hk hjk b hb1 hb2; rw [hfind] at hj hk
  by_cases e : j = n
  ·subst e; have e' : k ≠ j := Ne.symm hjk; simp only [e', if_false] at hk hb2; simp only [if_true] at hb1; split at hk
   ·cases hk
   ·rename_i e2
    rcases h6 b hb1 with h7 | h7
    ·exact h3 i k o ok hi hk (Ne.symm e2) b h7 hb2
    ·have := (h2 k ok hk).1.lt b hb2; omega
  ·simp only [e, if_false] at hj hb1; split at hj
   ·cases hj
   ·rename_i e3
    by_cases e' : k = n
    ·subst e'; simp only [if_true] at hb2
     rcases h6 b hb2 with h7 | h7
     ·exact h3 i j o oj hi hj (Ne.symm e3) b h7 hb1
     ·have := (h2 j oj hj).1.lt b hb1; omega
    ·simp only [e', if_false] at hk hb2; split at hk
     ·cases hk
     ·exact h3 j k oj ok hj hk hjk b hb1 hb2
end
end Go.Proofs.YtnnojnlejlokhaaGreatDoor.Eng
