/- Parts of the proof, merged. -/
import Derived.Test.YtfledabgdcnkfaaEngKit
import Derived.Test.YtfledabgdcnkfaaEngFamS
import Derived.Test.YtfledabgdcnkfaaEngKit2
import Derived.Test.YtfledabgdcnkfaaEngLoopE
import Derived.Test.YtfledabgdcnkfaaEngKit3
import Derived.Test.YtfledabgdcnkfaaEngCon
import Derived.Test.YtfledabgdcnkfaaEngRow
/- Trees of values as cells tell them. No program. -/
set_option linter.unusedVariables false
set_option linter.unusedSimpArgs false
namespace Go.Proofs.Ytfledabgdcnkfaa.Tree
open Go Go.RowKit Go.Proofs.Ytfledabgdcnkfaa.Eng Go.Proofs.Ytfledabgdcnkfaa.Kit
inductive Tv where
  | mk (kind num : Int) (text : ByteArray) (list : List Tv) (tab : List (ByteArray × Tv))
  deriving Inhabited
abbrev Tf := List (ByteArray × Tv)
def Tv.kind : Tv → Int
  | .mk k _ _ _ _ => k
def Tv.num : Tv → Int
  | .mk _ n _ _ _ => n
def Tv.text : Tv → ByteArray
  | .mk _ _ t _ _ => t
def Tv.list : Tv → List Tv
  | .mk _ _ _ l _ => l
def Tv.tab : Tv → Tf
  | .mk _ _ _ _ f => f
structure Rv where
  k : Int
  n : Int
  t : ByteArray
  la : Option Addr
  ll : Nat
  lc : Nat
  ta : Option Addr
  tl : Nat
  tc : Nat
  deriving Inhabited
def Rv.cells (r : Rv) : List Value := [.int .i64 r.k, .int .i64 r.n, .string r.t, .slice r.la r.ll r.lc, .slice r.ta r.tl r.tc]
def aggR (r : Rv) : AV := .agg [iv r.k, iv r.n, sv r.t, slV r.la r.ll r.lc, slV r.ta r.tl r.tc]
abbrev Mem := Addr → Option Value
def Cells (C : Mem) (a : Addr) (cs : List Value) : Prop := ∀ j u, cs[j]? = some u → C (a.add j) = some u
def big : Nat := 140737488351232
def LOf (V : Tv → Rv → Prop) (C : Mem) (oa : Option Addr) (l : List Tv) : Prop := l.length * 80 ≤ big ∧ ∀ i x, l[i]? = some x → ∃ a r, oa = some a ∧ Cells C (a.add (i * 5)) r.cells ∧ V x r
def FOf (V : Tv → Rv → Prop) (C : Mem) (oa : Option Addr) (f : Tf) : Prop := f.length * 96 ≤ big ∧ ∀ i nm x, f[i]? = some (nm, x) → ∃ a r, oa = some a ∧ Cells C (a.add (i * 6)) (.string nm :: r.cells) ∧ V x r
def VAt (C : Mem) : Nat → Tv → Rv → Prop
  | 0 => fun _ _ => False
  | d + 1 => fun v r => (r.k = v.kind ∧ r.n = v.num ∧ r.t = v.text ∧ r.ll = v.list.length ∧ r.tl = v.tab.length) ∧ LOf (VAt C d) C r.la v.list ∧ FOf (VAt C d) C r.ta v.tab
abbrev LAt (C : Mem) (d : Nat) := LOf (VAt C d) C
abbrev FAt (C : Mem) (d : Nat) := FOf (VAt C d) C
theorem Cells.mono {C C' : Mem} (h : ∀ a v, C a = some v → C' a = some v) {a : Addr} {cs : List Value} (hc : Cells C a cs) : Cells C' a cs := fun j u hu => h _ _ (hc j u hu)
theorem LOf.mono {V V' : Tv → Rv → Prop} (hV : ∀ x r, V x r → V' x r) {C C' : Mem} (h : ∀ a v, C a = some v → C' a = some v) {oa : Option Addr} {l : List Tv} (hl : LOf V C oa l) : LOf V' C' oa l :=
  ⟨hl.1, fun i x hx => by
    obtain ⟨a, r, h1, h2, h3⟩ := hl.2 i x hx
    exact ⟨a, r, h1, h2.mono h, hV _ _ h3⟩⟩
theorem FOf.mono {V V' : Tv → Rv → Prop} (hV : ∀ x r, V x r → V' x r) {C C' : Mem} (h : ∀ a v, C a = some v → C' a = some v) {oa : Option Addr} {f : Tf} (hf : FOf V C oa f) : FOf V' C' oa f :=
  ⟨hf.1, fun i nm x hx => by
    obtain ⟨a, r, h1, h2, h3⟩ := hf.2 i nm x hx
    exact ⟨a, r, h1, h2.mono h, hV _ _ h3⟩⟩
theorem VAt.mono {C C' : Mem} (h : ∀ a v, C a = some v → C' a = some v) : ∀ {d : Nat} {v : Tv} {r : Rv}, VAt C d v r → VAt C' d v r
  | 0, _, _, hv => hv.elim
  | d + 1, v, r, hv => ⟨hv.1, hv.2.1.mono (fun x r hx => VAt.mono h hx) h, hv.2.2.mono (fun x r hx => VAt.mono h hx) h⟩
theorem VAt.deep {C : Mem} : ∀ {d : Nat} {v : Tv} {r : Rv}, VAt C d v r → VAt C (d + 1) v r
  | 0, _, _, hv => hv.elim
  | d + 1, v, r, hv => ⟨hv.1, hv.2.1.mono (fun x r hx => VAt.deep hx) (fun _ _ h => h), hv.2.2.mono (fun x r hx => VAt.deep hx) (fun _ _ h => h)⟩
theorem LAt.mono {C C' : Mem} (h : ∀ a v, C a = some v → C' a = some v) {d : Nat} {oa : Option Addr} {l : List Tv} (hl : LAt C d oa l) : LAt C' d oa l := LOf.mono (fun _ _ hx => VAt.mono h hx) h hl
theorem FAt.mono {C C' : Mem} (h : ∀ a v, C a = some v → C' a = some v) {d : Nat} {oa : Option Addr} {l : Tf} (hl : FAt C d oa l) : FAt C' d oa l := FOf.mono (fun _ _ hx => VAt.mono h hx) h hl
end Go.Proofs.Ytfledabgdcnkfaa.Tree

/- Trees in memory of our own: as named objects; many of them taken into one. No program. -/
set_option linter.unusedVariables false
set_option linter.unusedSimpArgs false
namespace Go.Proofs.Ytfledabgdcnkfaa.Tree
open Go Go.RowKit Go.Proofs.Ytfledabgdcnkfaa.Eng Go.Proofs.Ytfledabgdcnkfaa.Kit
noncomputable section
def memOn (D : Nat → Prop) (w : World) : Mem := fun a => by classical exact if D a.block then w.cell? a else none
theorem memOn_at {D : Nat → Prop} {w : World} {a : Addr} (h : D a.block) : memOn D w a = w.cell? a := by unfold memOn; rw [if_pos h]
theorem memOn_some {D : Nat → Prop} {w : World} {a : Addr} {v : Value} (h : memOn D w a = some v) : D a.block ∧ w.cell? a = some v := by
  unfold memOn at h
  split at h
  · rename_i hd; exact ⟨hd, h⟩
  · cases h
theorem memOn_mono {D D' : Nat → Prop} {w : World} (h : ∀ b, D b → D' b) : ∀ a v, memOn D w a = some v → memOn D' w a = some v := fun a v ha => by
  obtain ⟨h1, h2⟩ := memOn_some ha
  rw [memOn_at (h _ h1)]; exact h2
theorem cell_far {w w' : World} {a : Addr} (h : w'.heap[a.block]? = w.heap[a.block]?) : w'.cell? a = w.cell? a := by unfold World.cell?; rw [h]
theorem memOn_far {D : Nat → Prop} {w w' : World} (h : ∀ b, D b → w'.heap[b]? = w.heap[b]?) : memOn D w' = memOn D w := by
  funext a
  unfold memOn
  split
  · rename_i hd; exact cell_far (h _ hd)
  · rfl
def frz (P : Mem → Prop) : HP where
  on D w := P (memOn D w) ∧ ∀ b, D b → b < w.heap.size
  far {D w w'} hf := fun ⟨h1, h2⟩ => ⟨by rw [memOn_far hf]; exact h1, fun b hb => by
    have h3 := hf b hb
    rw [Array.getElem?_eq_getElem (h2 b hb)] at h3
    exact (Array.getElem?_eq_some_iff.1 h3).1⟩
  lt {D w} := fun ⟨_, h2⟩ => h2
theorem rep_absorb {W0 w : World} {F : HP} {N1 : Names} {H H' : LH} {D0 : Nat → Prop} {D : Nat → Nat → Prop} (hl : namesLt 1100 H = true) (hl' : namesLt 1100 H' = true) (r : Rep W0 N1 F (heapOf H) w)
    (h1 : F.on D0 w) (h2 : ∀ i o, getO H i = some o → OR N1 i o (D i) w ∧ ∀ b, D i b → ¬ D0 b) (h3 : ∀ i j o o', getO H i = some o → getO H j = some o' → i ≠ j → ∀ b, D i b → ¬ D j b)
    (k : Nat) (S : Nat → Prop) (hkS : ¬ S k) {ok : AO} (hk0 : getO H k = some ok)
    (hn : ∀ n o', n ≠ k → getO H' n = some o' → ¬ S n ∧ ∃ o, getO H n = some o ∧ OR N1 n o' (D n) w)
    (hk : ∀ o', getO H' k = some o' → OR N1 k o' (fun x => D k x ∨ ∃ j, S j ∧ (∃ o, getO H j = some o) ∧ D j x) w) : Rep W0 N1 F (heapOf H') w := by
  classical
  have hf' : ∀ n, (heapOf H').find n = getO H' n := find_heapOf (lt_lim hl')
  refine ⟨r.os, r.tape, r.output, D0, fun n x => if n = k then (D k x ∨ ∃ j, S j ∧ (∃ o, getO H j = some o) ∧ D j x) else D n x, h1, fun n o hno => ?_, fun n m o o' hno hmo hnm b hb hb' => ?_⟩
  · rw [hf'] at hno
    by_cases e : n = k
    · subst e
      simp only [if_true]
      refine ⟨hk o hno, fun b hb => ?_⟩
      rcases hb with hb | ⟨j, _, ⟨oj, hj⟩, hb⟩
      · exact (h2 n _ hk0).2 b hb
      · exact (h2 j _ hj).2 b hb
    · simp only [if_neg e]
      obtain ⟨_, o0, q1, q2⟩ := hn n o e hno
      exact ⟨q2, (h2 n _ q1).2⟩
  · rw [hf'] at hno hmo
    have key : ∀ m o', getO H' m = some o' → m ≠ k → ∀ b, (D k b ∨ ∃ j, S j ∧ (∃ o, getO H j = some o) ∧ D j b) → ¬ D m b := by
      intro m o' hm hmk b hb
      obtain ⟨q0, o1, q1, _⟩ := hn m o' hmk hm
      rcases hb with hb | ⟨j, hj, ⟨oj, hjo⟩, hb⟩
      · exact h3 k m _ _ hk0 q1 (Ne.symm hmk) b hb
      · exact h3 j m _ _ hjo q1 (fun e => q0 (e ▸ hj)) b hb
    by_cases e : n = k
    · subst e
      simp only [if_true] at hb
      have e' : m ≠ n := Ne.symm hnm
      simp only [if_neg e'] at hb'
      exact key m o' hmo e' b hb hb'
    · simp only [if_neg e] at hb
      by_cases e' : m = k
      · subst e'
        simp only [if_true] at hb'
        exact key n o hno e b hb' hb
      · simp only [if_neg e'] at hb'
        obtain ⟨_, o1, q1, _⟩ := hn n o e hno
        obtain ⟨_, o2, q2, _⟩ := hn m o' e' hmo
        exact h3 n m _ _ q1 q2 hnm b hb hb'
/-! Named objects. -/
variable (m : Md)
def ownL (d : Nat) (l : List Tv) : AO := .own m fun b _ => frz fun C => LAt C d (some ⟨b, 0, none⟩) l
def ownF (d : Nat) (f : Tf) : AO := .own m fun b _ => frz fun C => FAt C d (some ⟨b, 0, none⟩) f
variable {m}
theorem LOf.nil {V : Tv → Rv → Prop} {C : Mem} (oa : Option Addr) : LOf V C oa [] := ⟨Nat.zero_le _, fun i x h => by simp at h⟩
theorem FOf.nil {V : Tv → Rv → Prop} {C : Mem} (oa : Option Addr) : FOf V C oa [] := ⟨Nat.zero_le _, fun i nm x h => by simp at h⟩
theorem slice_raw {N : Names} {k n sz : Nat} {y : Value} (h : VR N (.slice k 0 n sz (.lo n)) y) : ∃ l x c, N k = some l ∧ y = .slice (some ⟨l.blk, x, none⟩) n c ∧ (0 < n → x = l.off) := by
  simp only [VR] at h
  obtain ⟨l, x, c, h1, h2, h3, h4, h5, h6⟩ := h
  refine ⟨l, x, c, h1, h2, fun hn => ?_⟩
  rcases h3 with h3 | h3
  · rw [h3, Nat.add_zero]
  · omega
theorem ownL_raw {N : Names} {k d : Nat} {l : List Tv} {y : Value} {D : Nat → Prop} {w : World} (ho : OR N k (ownL m d l) D w) (hy : VR N (.slice k 0 l.length 5 (.lo l.length)) y) : ∃ la lc, y = .slice la l.length lc ∧ LAt (memOn D w) d la l := by
  obtain ⟨lo, x, c, h1, rfl, h3⟩ := slice_raw hy
  obtain ⟨lo', h1', h0, h2⟩ := ho
  rw [h1] at h1'
  cases h1'
  refine ⟨_, _, rfl, ?_⟩
  cases l with
  | nil => exact LOf.nil _
  | cons v l => rw [h3 (Nat.succ_pos _), h0]; exact h2.1
theorem ownF_raw {N : Names} {k d : Nat} {l : Tf} {y : Value} {D : Nat → Prop} {w : World} (ho : OR N k (ownF m d l) D w) (hy : VR N (.slice k 0 l.length 6 (.lo l.length)) y) : ∃ la lc, y = .slice la l.length lc ∧ FAt (memOn D w) d la l := by
  obtain ⟨lo, x, c, h1, rfl, h3⟩ := slice_raw hy
  obtain ⟨lo', h1', h0, h2⟩ := ho
  rw [h1] at h1'
  cases h1'
  refine ⟨_, _, rfl, ?_⟩
  cases l with
  | nil => exact FOf.nil _
  | cons v l => rw [h3 (Nat.succ_pos _), h0]; exact h2.1
/-! Rows that are being made: their cells, and what lies behind them. -/
def encF (p : ByteArray × Rv) : List Value := .string p.1 :: p.2.cells
def encV (r : Rv) : List Value := r.cells
def PF (d : Nat) (R : List (ByteArray × Rv)) (f : Tf) (C : Mem) : Prop := R.length = f.length ∧ ∀ (i : Nat) (nm : ByteArray) (x : Tv), f[i]? = some (nm, x) → ∃ r, R[i]? = some (nm, r) ∧ VAt C d x r
def PV (d : Nat) (R : List Rv) (l : List Tv) (C : Mem) : Prop := R.length = l.length ∧ ∀ (i : Nat) (x : Tv), l[i]? = some x → ∃ r, R[i]? = some r ∧ VAt C d x r
theorem PF.mono {d : Nat} {R : List (ByteArray × Rv)} {f : Tf} {C C' : Mem} (h : ∀ a v, C a = some v → C' a = some v) (hp : PF d R f C) : PF d R f C' := ⟨hp.1, fun i nm x hx => by
  obtain ⟨r, h1, h2⟩ := hp.2 i nm x hx
  exact ⟨r, h1, h2.mono h⟩⟩
theorem PV.mono {d : Nat} {R : List Rv} {l : List Tv} {C C' : Mem} (h : ∀ a v, C a = some v → C' a = some v) (hp : PV d R l C) : PV d R l C' := ⟨hp.1, fun i x hx => by
  obtain ⟨r, h1, h2⟩ := hp.2 i x hx
  exact ⟨r, h1, h2.mono h⟩⟩
theorem PF.add {d : Nat} {R : List (ByteArray × Rv)} {f : Tf} {C : Mem} (hp : PF d R f C) {nm : ByteArray} {x : Tv} {r : Rv} (hx : VAt C d x r) : PF d (R ++ [(nm, r)]) (f ++ [(nm, x)]) C := by
  refine ⟨by simp [hp.1], fun i n y hy => ?_⟩
  rcases Nat.lt_or_ge i f.length with h | h
  · rw [List.getElem?_append_left h] at hy
    obtain ⟨s, h1, h2⟩ := hp.2 i n y hy
    exact ⟨s, by rw [List.getElem?_append_left (by have := hp.1; omega)]; exact h1, h2⟩
  · rw [List.getElem?_append_right h] at hy
    have : i - f.length = 0 := by
      cases hk : i - f.length with
      | zero => rfl
      | succ n => rw [hk] at hy; simp at hy
    rw [this] at hy
    simp only [List.getElem?_cons_zero, Option.some.injEq, Prod.mk.injEq] at hy
    obtain ⟨rfl, rfl⟩ := hy
    refine ⟨r, ?_, hx⟩
    rw [List.getElem?_append_right (by have := hp.1; omega), show i - R.length = 0 by have := hp.1; omega]
    rfl
theorem PV.add {d : Nat} {R : List Rv} {f : List Tv} {C : Mem} (hp : PV d R f C) {x : Tv} {r : Rv} (hx : VAt C d x r) : PV d (R ++ [r]) (f ++ [x]) C := by
  refine ⟨by simp [hp.1], fun i y hy => ?_⟩
  rcases Nat.lt_or_ge i f.length with h | h
  · rw [List.getElem?_append_left h] at hy
    obtain ⟨s, h1, h2⟩ := hp.2 i y hy
    exact ⟨s, by rw [List.getElem?_append_left (by have := hp.1; omega)]; exact h1, h2⟩
  · rw [List.getElem?_append_right h] at hy
    have : i - f.length = 0 := by
      cases hk : i - f.length with
      | zero => rfl
      | succ n => rw [hk] at hy; simp at hy
    rw [this] at hy
    simp only [List.getElem?_cons_zero, Option.some.injEq] at hy
    subst hy
    refine ⟨r, ?_, hx⟩
    rw [List.getElem?_append_right (by have := hp.1; omega), show i - R.length = 0 by have := hp.1; omega]
    rfl
end
end Go.Proofs.Ytfledabgdcnkfaa.Tree

/- Two tables that are one: Same: runs. -/
set_option linter.unusedVariables false
set_option linter.unusedSimpArgs false
set_option maxRecDepth 100000
namespace Go.Proofs.Ytfledabgdcnkfaa.Tree
open Go Go.RowKit Go.Proofs.Ytfledabgdcnkfaa.Eng Go.Proofs.Ytfledabgdcnkfaa.Kit
noncomputable section
abbrev fSm : Nat := 17
abbrev fSv : Nat := 26
def cSv (r r' : Rv) : List AV → Option (AP AV) := mkC (fun _ => .ret ()) (fun _ => True) (fun _ k => k) (fun _ => [aggR r, aggR r']) (fun _ => []) (fun _ => .leaf .ret [bv true] [])
def cSm (oa ob : Option Addr) (n c c' : Nat) : List AV → Option (AP AV) := mkC (fun _ => .ret ()) (fun _ => True) (fun _ k => k) (fun _ => [slV oa n c, slV ob n c']) (fun _ => []) (fun _ => .leaf .ret [bv true] [])
def aSm (oa ob : Option Addr) (n c c' i : Nat) : List (Nat × AV) := [(0, slV oa n c), (1, slV ob n c'), (5, iv (Int.ofNat i))]
def hSm (i : Nat) (nm : ByteArray) (r r' : Rv) : ClaimT := hintL [(fSm, 4, 3, hv (.lit true)), (fSm, 6, 4, hv (sv nm)), (fSm, 6, 9, hv (sv nm)), (fSm, 6, 10, hv (.lit false)), (fSm, 6, 16, hv (aggR r)), (fSm, 6, 21, hv (aggR r')), (fSm, 6, 24, hv (.lit false)), (fSm, 5, 1, hv (iv (Int.ofNat (i + 1))))]
def hSmE : ClaimT := hintL [(fSm, 4, 3, hv (.lit false))]
theorem oSmR_eq (W : World) (a b : Addr) (n c c' i : Nat) (nm : ByteArray) (r r' : Rv) (F : HP) : wLoop [(fSv, cSv r r')] (hSm i nm r r') [] W fSm (loopN fSm 4) (tms 0 42 (aSm (some a) (some b) n c c' i)) [] [] [0, 1, 5] F = VT.leaf (AX.normal,[AV.v (Value.slice (some a) n c),AV.v (Value.slice (some b) n c'),i' (i + 1)],42) [] 1100 (((p' (Wk (b' (decide (Int.ofNat i < ↑n))) (AV.lit true))).a t').a (((p' (i.blt n = true)).a t').a (((p' ((W.cell? ((a.add (i * 6)).add 0)).isSome = true)).a ((p' (AV.v ((W.cell? ((a.add (i * 6)).add 0)).getD (Value.tuple (Array.mk []))) = AV.v (Value.string (AV.v ((W.cell? ((a.add (i * 6)).add 0)).getD (Value.tuple (Array.mk [])))).strOf))).a ((p' (Wk (AV.v (Value.string (AV.v ((W.cell? ((a.add (i * 6)).add 0)).getD (Value.tuple (Array.mk [])))).strOf)) (s' nm))).a t'))).a (((p' (i.blt n = true)).a t').a (((p' ((W.cell? ((b.add (i * 6)).add 0)).isSome = true)).a ((p' (AV.v ((W.cell? ((b.add (i * 6)).add 0)).getD (Value.tuple (Array.mk []))) = AV.v (Value.string (AV.v ((W.cell? ((b.add (i * 6)).add 0)).getD (Value.tuple (Array.mk [])))).strOf))).a ((p' (Wk (AV.v (Value.string (AV.v ((W.cell? ((b.add (i * 6)).add 0)).getD (Value.tuple (Array.mk [])))).strOf)) (s' nm))).a t'))).a (((p' (Wk (AV.v (Value.bool !nm.toList == nm.toList)) (AV.lit false))).a t').a (((p' (i.blt n = true)).a t').a (((p' (([0,1,2,3,4].all fun j => (W.cell? ((Addr.mk (a.add (i * 6)).block ((a.add (i * 6)).off + 1) none).add j)).isSome) = true)).a ((p' ([AV.v ((W.cell? (Addr.mk (a.add (i * 6)).block ((a.add (i * 6)).off + 1) none)).getD (Value.tuple (Array.mk []))),AV.v ((W.cell? (Addr.mk (a.add (i * 6)).block ((a.add (i * 6)).off + 1 + 1) none)).getD (Value.tuple (Array.mk []))),AV.v ((W.cell? (Addr.mk (a.add (i * 6)).block ((a.add (i * 6)).off + 1 + 2) none)).getD (Value.tuple (Array.mk []))),AV.v ((W.cell? (Addr.mk (a.add (i * 6)).block ((a.add (i * 6)).off + 1 + 3) none)).getD (Value.tuple (Array.mk []))),AV.v ((W.cell? (Addr.mk (a.add (i * 6)).block ((a.add (i * 6)).off + 1 + 4) none)).getD (Value.tuple (Array.mk [])))] = [AV.v (Value.int IntKind.i64 (AV.v ((W.cell? (Addr.mk (a.add (i * 6)).block ((a.add (i * 6)).off + 1) none)).getD (Value.tuple (Array.mk [])))).intOf),AV.v (Value.int IntKind.i64 (AV.v ((W.cell? (Addr.mk (a.add (i * 6)).block ((a.add (i * 6)).off + 1 + 1) none)).getD (Value.tuple (Array.mk [])))).intOf),AV.v (Value.string (AV.v ((W.cell? (Addr.mk (a.add (i * 6)).block ((a.add (i * 6)).off + 1 + 2) none)).getD (Value.tuple (Array.mk [])))).strOf),AV.v ((W.cell? (Addr.mk (a.add (i * 6)).block ((a.add (i * 6)).off + 1 + 3) none)).getD (Value.tuple (Array.mk []))),AV.v ((W.cell? (Addr.mk (a.add (i * 6)).block ((a.add (i * 6)).off + 1 + 4) none)).getD (Value.tuple (Array.mk [])))])).a ((p' (Wk (AV.agg [AV.v (Value.int IntKind.i64 (AV.v ((W.cell? (Addr.mk (a.add (i * 6)).block ((a.add (i * 6)).off + 1) none)).getD (Value.tuple (Array.mk [])))).intOf),AV.v (Value.int IntKind.i64 (AV.v ((W.cell? (Addr.mk (a.add (i * 6)).block ((a.add (i * 6)).off + 1 + 1) none)).getD (Value.tuple (Array.mk [])))).intOf),AV.v (Value.string (AV.v ((W.cell? (Addr.mk (a.add (i * 6)).block ((a.add (i * 6)).off + 1 + 2) none)).getD (Value.tuple (Array.mk [])))).strOf),AV.v ((W.cell? (Addr.mk (a.add (i * 6)).block ((a.add (i * 6)).off + 1 + 3) none)).getD (Value.tuple (Array.mk []))),AV.v ((W.cell? (Addr.mk (a.add (i * 6)).block ((a.add (i * 6)).off + 1 + 4) none)).getD (Value.tuple (Array.mk [])))]) (AV.agg [z' r.k,z' r.n,s' r.t,AV.v (Value.slice r.la r.ll r.lc),AV.v (Value.slice r.ta r.tl r.tc)]))).a t'))).a (((p' (i.blt n = true)).a t').a (((p' (([0,1,2,3,4].all fun j => (W.cell? ((Addr.mk (b.add (i * 6)).block ((b.add (i * 6)).off + 1) none).add j)).isSome) = true)).a ((p' ([AV.v ((W.cell? (Addr.mk (b.add (i * 6)).block ((b.add (i * 6)).off + 1) none)).getD (Value.tuple (Array.mk []))),AV.v ((W.cell? (Addr.mk (b.add (i * 6)).block ((b.add (i * 6)).off + 1 + 1) none)).getD (Value.tuple (Array.mk []))),AV.v ((W.cell? (Addr.mk (b.add (i * 6)).block ((b.add (i * 6)).off + 1 + 2) none)).getD (Value.tuple (Array.mk []))),AV.v ((W.cell? (Addr.mk (b.add (i * 6)).block ((b.add (i * 6)).off + 1 + 3) none)).getD (Value.tuple (Array.mk []))),AV.v ((W.cell? (Addr.mk (b.add (i * 6)).block ((b.add (i * 6)).off + 1 + 4) none)).getD (Value.tuple (Array.mk [])))] = [AV.v (Value.int IntKind.i64 (AV.v ((W.cell? (Addr.mk (b.add (i * 6)).block ((b.add (i * 6)).off + 1) none)).getD (Value.tuple (Array.mk [])))).intOf),AV.v (Value.int IntKind.i64 (AV.v ((W.cell? (Addr.mk (b.add (i * 6)).block ((b.add (i * 6)).off + 1 + 1) none)).getD (Value.tuple (Array.mk [])))).intOf),AV.v (Value.string (AV.v ((W.cell? (Addr.mk (b.add (i * 6)).block ((b.add (i * 6)).off + 1 + 2) none)).getD (Value.tuple (Array.mk [])))).strOf),AV.v ((W.cell? (Addr.mk (b.add (i * 6)).block ((b.add (i * 6)).off + 1 + 3) none)).getD (Value.tuple (Array.mk []))),AV.v ((W.cell? (Addr.mk (b.add (i * 6)).block ((b.add (i * 6)).off + 1 + 4) none)).getD (Value.tuple (Array.mk [])))])).a ((p' (Wk (AV.agg [AV.v (Value.int IntKind.i64 (AV.v ((W.cell? (Addr.mk (b.add (i * 6)).block ((b.add (i * 6)).off + 1) none)).getD (Value.tuple (Array.mk [])))).intOf),AV.v (Value.int IntKind.i64 (AV.v ((W.cell? (Addr.mk (b.add (i * 6)).block ((b.add (i * 6)).off + 1 + 1) none)).getD (Value.tuple (Array.mk [])))).intOf),AV.v (Value.string (AV.v ((W.cell? (Addr.mk (b.add (i * 6)).block ((b.add (i * 6)).off + 1 + 2) none)).getD (Value.tuple (Array.mk [])))).strOf),AV.v ((W.cell? (Addr.mk (b.add (i * 6)).block ((b.add (i * 6)).off + 1 + 3) none)).getD (Value.tuple (Array.mk []))),AV.v ((W.cell? (Addr.mk (b.add (i * 6)).block ((b.add (i * 6)).off + 1 + 4) none)).getD (Value.tuple (Array.mk [])))]) (AV.agg [z' r'.k,z' r'.n,s' r'.t,AV.v (Value.slice r'.la r'.ll r'.lc),AV.v (Value.slice r'.ta r'.tl r'.tc)]))).a t'))).a (((Cnd.p True).a ((p' (VW [AV.agg [z' r.k,z' r.n,s' r.t,AV.v (Value.slice r.la r.ll r.lc),AV.v (Value.slice r.ta r.tl r.tc)],AV.agg [z' r'.k,z' r'.n,s' r'.t,AV.v (Value.slice r'.la r'.ll r'.lc),AV.v (Value.slice r'.ta r'.tl r'.tc)]] [AV.agg [z' r.k,z' r.n,s' r.t,AV.v (Value.slice r.la r.ll r.lc),AV.v (Value.slice r.ta r.tl r.tc)],AV.agg [z' r'.k,z' r'.n,s' r'.t,AV.v (Value.slice r'.la r'.ll r'.lc),AV.v (Value.slice r'.ta r'.tl r'.tc)]])).a t')).a (((p' (Wk (b' false) (AV.lit false))).a t').a (((p' (Wk (z' (IntKind.i64.wrap (Int.ofNat i + Int.ofNat 1))) (i' (i + 1)))).a t').a t'))))))))))))) := by kernel_rfl
theorem oSmE_eq (W : World) (oa ob : Option Addr) (n c c' : Nat) (F : HP) : wLoop [] hSmE [] W fSm (loopN fSm 4) (tms 0 42 (aSm oa ob n c c' n)) [] [] [0, 1, 5] F = VT.leaf (AX.exit 0,[AV.v (Value.slice oa n c),AV.v (Value.slice ob n c'),i' n],42) [] 1100 (((p' (Wk (b' (decide (Int.ofNat n < ↑n))) (AV.lit false))).a t').a t') := by kernel_rfl
def lSm (oa ob : Option Addr) (n c c' : Nat) : List AV → AP (AX × List AV) := mkL (fun _ => .ret ()) (fun _ => True) (fun _ k => k) (fun _ => tms 0 42 (aSm oa ob n c c' 0)) (fun _ => []) (fun _ => .leaf (.exit 0) (tms 0 42 []) [])
theorem oSm_eq (W : World) (oa ob : Option Addr) (n c c' : Nat) (F : HP) : wRun [] (hintL [(fSm, 1, 4, hv (.lit false))]) [(fSm, 4, loopN fSm 4, lSm oa ob n c c')] W fSm [slV oa n c, slV ob n c'] [] [] F = VT.leaf (b' true) [] 1100 (((p' (Wk (b' ((↑n : Int) != ↑n)) (AV.lit false))).a t').a ((p' ((fSm,4,loopN fSm 4,lSm oa ob n c c').snd.snd.fst = (fSm,4,loopN fSm 4,lSm oa ob n c c').snd.snd.fst)).a ((Cnd.p True).a ((p' (VW [AV.v (Value.slice oa n c),AV.v (Value.slice ob n c'),u',u',b' false,i' 0,AV.v (Value.slice oa n c),z' ↑n,AV.v (Value.slice ob n c'),z' ↑n,AV.lit false,u',u',u',u',u',u',u',u',u',u',u',u',u',u',u',u',u',u',u',u',u',u',u',u',u',u',u',u',u',u',u'] [AV.v (Value.slice oa n c),AV.v (Value.slice ob n c'),a',a',a',i' 0,a',a',a',a',a',a',a',a',a',a',a',a',a',a',a',a',a',a',a',a',a',a',a',a',a',a',a',a',a',a',a',a',a',a',a',a'])).a t')))) := by kernel_rfl
/-! sameValue. -/
abbrev tVl : TypeId := 2 * 54
def oSv (r r' : Rv) : LH := [(1000, .cells (vmap r.cells) tVl), (1001, .cells (vmap r'.cells) tVl)]
def aSv (i : Nat) : List (Nat × AV) := [(2, .ptr 1000 0), (3, .ptr 1001 0), (5, iv (Int.ofNat i))]
def hSv (i : Nat) (x x' : Rv) : ClaimT := hintL [(fSv, 4, 4, hv (.lit true)), (fSv, 6, 4, hv (aggR x)), (fSv, 6, 9, hv (aggR x')), (fSv, 6, 11, hv (.lit false)), (fSv, 5, 1, hv (iv (Int.ofNat (i + 1))))]
def hSvE : ClaimT := hintL [(fSv, 4, 4, hv (.lit false))]
theorem oSvR_eq (W : World) (r r' x x' : Rv) (a b : Addr) (i : Nat) (F : HP) : wLoop [(fSv, cSv x x')] (hSv i x x') [] W fSv (loopN fSv 4) (tms 0 58 (aSv i)) (oSv { r with la := some a } { r' with la := some b }) [1000, 1001] [2, 3, 5] F = VT.leaf (AX.normal,[AV.ptr 1000 0,AV.ptr 1001 0,i' (i + 1)],58) [some (AO.cells [z' r.k,z' r.n,s' r.t,AV.v (Value.slice (some a) r.ll r.lc),AV.v (Value.slice r.ta r.tl r.tc)] 108),some (AO.cells [z' r'.k,z' r'.n,s' r'.t,AV.v (Value.slice (some b) r'.ll r'.lc),AV.v (Value.slice r'.ta r'.tl r'.tc)] 108)] 1100 (((p' (true = true)).a t').a (((p' (Wk (b' (decide (Int.ofNat i < ↑r.ll))) (AV.lit true))).a t').a (((p' (true = true)).a t').a (((p' (i.blt r.ll = true)).a t').a (((p' (([0,1,2,3,4].all fun j => (W.cell? ((a.add (i * 5)).add j)).isSome) = true)).a ((p' ([AV.v ((W.cell? ((a.add (i * 5)).add 0)).getD (Value.tuple (Array.mk []))),AV.v ((W.cell? (Addr.mk (a.add (i * 5)).block ((a.add (i * 5)).off + 1) none)).getD (Value.tuple (Array.mk []))),AV.v ((W.cell? (Addr.mk (a.add (i * 5)).block ((a.add (i * 5)).off + 2) none)).getD (Value.tuple (Array.mk []))),AV.v ((W.cell? (Addr.mk (a.add (i * 5)).block ((a.add (i * 5)).off + 3) none)).getD (Value.tuple (Array.mk []))),AV.v ((W.cell? (Addr.mk (a.add (i * 5)).block ((a.add (i * 5)).off + 4) none)).getD (Value.tuple (Array.mk [])))] = [AV.v (Value.int IntKind.i64 (AV.v ((W.cell? ((a.add (i * 5)).add 0)).getD (Value.tuple (Array.mk [])))).intOf),AV.v (Value.int IntKind.i64 (AV.v ((W.cell? (Addr.mk (a.add (i * 5)).block ((a.add (i * 5)).off + 1) none)).getD (Value.tuple (Array.mk [])))).intOf),AV.v (Value.string (AV.v ((W.cell? (Addr.mk (a.add (i * 5)).block ((a.add (i * 5)).off + 2) none)).getD (Value.tuple (Array.mk [])))).strOf),AV.v ((W.cell? (Addr.mk (a.add (i * 5)).block ((a.add (i * 5)).off + 3) none)).getD (Value.tuple (Array.mk []))),AV.v ((W.cell? (Addr.mk (a.add (i * 5)).block ((a.add (i * 5)).off + 4) none)).getD (Value.tuple (Array.mk [])))])).a ((p' (Wk (AV.agg [AV.v (Value.int IntKind.i64 (AV.v ((W.cell? ((a.add (i * 5)).add 0)).getD (Value.tuple (Array.mk [])))).intOf),AV.v (Value.int IntKind.i64 (AV.v ((W.cell? (Addr.mk (a.add (i * 5)).block ((a.add (i * 5)).off + 1) none)).getD (Value.tuple (Array.mk [])))).intOf),AV.v (Value.string (AV.v ((W.cell? (Addr.mk (a.add (i * 5)).block ((a.add (i * 5)).off + 2) none)).getD (Value.tuple (Array.mk [])))).strOf),AV.v ((W.cell? (Addr.mk (a.add (i * 5)).block ((a.add (i * 5)).off + 3) none)).getD (Value.tuple (Array.mk []))),AV.v ((W.cell? (Addr.mk (a.add (i * 5)).block ((a.add (i * 5)).off + 4) none)).getD (Value.tuple (Array.mk [])))]) (AV.agg [z' x.k,z' x.n,s' x.t,AV.v (Value.slice x.la x.ll x.lc),AV.v (Value.slice x.ta x.tl x.tc)]))).a t'))).a (((p' (true = true)).a t').a (((p' (i.blt r'.ll = true)).a t').a (((p' (([0,1,2,3,4].all fun j => (W.cell? ((b.add (i * 5)).add j)).isSome) = true)).a ((p' ([AV.v ((W.cell? ((b.add (i * 5)).add 0)).getD (Value.tuple (Array.mk []))),AV.v ((W.cell? (Addr.mk (b.add (i * 5)).block ((b.add (i * 5)).off + 1) none)).getD (Value.tuple (Array.mk []))),AV.v ((W.cell? (Addr.mk (b.add (i * 5)).block ((b.add (i * 5)).off + 2) none)).getD (Value.tuple (Array.mk []))),AV.v ((W.cell? (Addr.mk (b.add (i * 5)).block ((b.add (i * 5)).off + 3) none)).getD (Value.tuple (Array.mk []))),AV.v ((W.cell? (Addr.mk (b.add (i * 5)).block ((b.add (i * 5)).off + 4) none)).getD (Value.tuple (Array.mk [])))] = [AV.v (Value.int IntKind.i64 (AV.v ((W.cell? ((b.add (i * 5)).add 0)).getD (Value.tuple (Array.mk [])))).intOf),AV.v (Value.int IntKind.i64 (AV.v ((W.cell? (Addr.mk (b.add (i * 5)).block ((b.add (i * 5)).off + 1) none)).getD (Value.tuple (Array.mk [])))).intOf),AV.v (Value.string (AV.v ((W.cell? (Addr.mk (b.add (i * 5)).block ((b.add (i * 5)).off + 2) none)).getD (Value.tuple (Array.mk [])))).strOf),AV.v ((W.cell? (Addr.mk (b.add (i * 5)).block ((b.add (i * 5)).off + 3) none)).getD (Value.tuple (Array.mk []))),AV.v ((W.cell? (Addr.mk (b.add (i * 5)).block ((b.add (i * 5)).off + 4) none)).getD (Value.tuple (Array.mk [])))])).a ((p' (Wk (AV.agg [AV.v (Value.int IntKind.i64 (AV.v ((W.cell? ((b.add (i * 5)).add 0)).getD (Value.tuple (Array.mk [])))).intOf),AV.v (Value.int IntKind.i64 (AV.v ((W.cell? (Addr.mk (b.add (i * 5)).block ((b.add (i * 5)).off + 1) none)).getD (Value.tuple (Array.mk [])))).intOf),AV.v (Value.string (AV.v ((W.cell? (Addr.mk (b.add (i * 5)).block ((b.add (i * 5)).off + 2) none)).getD (Value.tuple (Array.mk [])))).strOf),AV.v ((W.cell? (Addr.mk (b.add (i * 5)).block ((b.add (i * 5)).off + 3) none)).getD (Value.tuple (Array.mk []))),AV.v ((W.cell? (Addr.mk (b.add (i * 5)).block ((b.add (i * 5)).off + 4) none)).getD (Value.tuple (Array.mk [])))]) (AV.agg [z' x'.k,z' x'.n,s' x'.t,AV.v (Value.slice x'.la x'.ll x'.lc),AV.v (Value.slice x'.ta x'.tl x'.tc)]))).a t'))).a (((Cnd.p True).a ((p' (VW [AV.agg [z' x.k,z' x.n,s' x.t,AV.v (Value.slice x.la x.ll x.lc),AV.v (Value.slice x.ta x.tl x.tc)],AV.agg [z' x'.k,z' x'.n,s' x'.t,AV.v (Value.slice x'.la x'.ll x'.lc),AV.v (Value.slice x'.ta x'.tl x'.tc)]] [AV.agg [z' x.k,z' x.n,s' x.t,AV.v (Value.slice x.la x.ll x.lc),AV.v (Value.slice x.ta x.tl x.tc)],AV.agg [z' x'.k,z' x'.n,s' x'.t,AV.v (Value.slice x'.la x'.ll x'.lc),AV.v (Value.slice x'.ta x'.tl x'.tc)]])).a t')).a (((p' (Wk (b' false) (AV.lit false))).a t').a (((p' (Wk (z' (IntKind.i64.wrap (Int.ofNat i + Int.ofNat 1))) (i' (i + 1)))).a t').a t'))))))))))) := by kernel_rfl
theorem oSvE_eq (W : World) (r r' : Rv) (F : HP) : wLoop [] hSvE [] W fSv (loopN fSv 4) (tms 0 58 (aSv r.ll)) (oSv r r') [1000, 1001] [2, 3, 5] F = VT.leaf (AX.exit 0,[AV.ptr 1000 0,AV.ptr 1001 0,i' r.ll],58) [some (AO.cells [z' r.k,z' r.n,s' r.t,AV.v (Value.slice r.la r.ll r.lc),AV.v (Value.slice r.ta r.tl r.tc)] 108),some (AO.cells [z' r'.k,z' r'.n,s' r'.t,AV.v (Value.slice r'.la r'.ll r'.lc),AV.v (Value.slice r'.ta r'.tl r'.tc)] 108)] 1100 (((p' (true = true)).a t').a (((p' (Wk (b' (decide (Int.ofNat r.ll < ↑r.ll))) (AV.lit false))).a t').a t')) := by kernel_rfl
def gSv : List AV → AP (Nat × Nat) := fun tmps => match getL tmps 2 with
  | .ptr a _ => match getL tmps 3 with
    | .ptr b _ => .ret (a, b)
    | _ => .fail "same"
  | _ => .fail "same"
def nmSv (a b : Nat) : Nat → Nat := fun k => match Nat.beq k 1000 with
  | true => a
  | false => b
def lSv (r r' : Rv) : List AV → AP (AX × List AV) := mkL gSv (fun _ => True) (fun q => nmSv q.1 q.2) (fun _ => tms 0 58 (aSv 0)) (fun _ => oSv r r') (fun _ => .leaf (.exit 0) (tms 0 58 [(2, .ptr 1000 0), (3, .ptr 1001 0)]) (oSv r r'))
def hSvF : ClaimT := hintL [(fSv, 1, 4, hv (.lit false)), (fSv, 1, 10, hv (.lit false)), (fSv, 1, 17, hv (.lit false)), (fSv, 1, 26, hv (.lit false))]
theorem oSv_eq (W : World) (r r' : Rv) (F : HP) : wRun [(fSm, cSm r.ta r'.ta r.tl r.tc r'.tc)] hSvF [(fSv, 4, loopN fSv 4, lSv r r')] W fSv [aggR r, aggR r'] [] [] F = VT.leaf (b' true) [] 1104 (((p' (true = true)).a ((p' (z' r.k = z' r.k)).a t')).a (((p' (true = true)).a ((p' (z' r'.k = z' r'.k)).a t')).a (((p' (Wk (b' (r.k != r'.k)) (AV.lit false))).a t').a (((p' (true = true)).a ((p' (z' r.n = z' r.n)).a t')).a (((p' (true = true)).a ((p' (z' r'.n = z' r'.n)).a t')).a (((p' (Wk (b' (r.n != r'.n)) (AV.lit false))).a t').a (((p' (true = true)).a ((p' (s' r.t = s' r.t)).a t')).a (((p' (true = true)).a ((p' (s' r'.t = s' r'.t)).a t')).a (((p' (Wk (AV.v (Value.bool !r.t.toList == r'.t.toList)) (AV.lit false))).a t').a (((p' (true = true)).a t').a (((p' (true = true)).a t').a (((p' (Wk (b' ((↑r.ll : Int) != ↑r'.ll)) (AV.lit false))).a t').a ((p' ((fSv,4,loopN fSv 4,lSv r r').snd.snd.fst = (fSv,4,loopN fSv 4,lSv r r').snd.snd.fst)).a ((Cnd.p True).a ((p' (VW [AV.agg [z' r.k,z' r.n,s' r.t,AV.v (Value.slice r.la r.ll r.lc),AV.v (Value.slice r.ta r.tl r.tc)],AV.agg [z' r'.k,z' r'.n,s' r'.t,AV.v (Value.slice r'.la r'.ll r'.lc),AV.v (Value.slice r'.ta r'.tl r'.tc)],AV.ptr 1100 0,AV.ptr 1101 0,b' false,i' 0,AV.ptr 1100 0,z' r.k,AV.ptr 1101 0,z' r'.k,AV.lit false,AV.lit false,AV.ptr 1100 1,z' r.n,AV.ptr 1101 1,z' r'.n,AV.lit false,AV.lit false,AV.lit false,AV.ptr 1100 2,s' r.t,AV.ptr 1101 2,s' r'.t,AV.lit false,AV.lit false,AV.lit false,AV.ptr 1100 3,AV.v (Value.slice r.la r.ll r.lc),z' ↑r.ll,AV.ptr 1101 3,AV.v (Value.slice r'.la r'.ll r'.lc),z' ↑r'.ll,AV.lit false,AV.lit false,u',u',u',u',u',u',u',u',u',u',u',u',u',u',u',u',u',u',u',u',u',u',u',u'] [a',a',AV.ptr 1100 0,AV.ptr 1101 0,a',i' 0,a',a',a',a',a',a',a',a',a',a',a',a',a',a',a',a',a',a',a',a',a',a',a',a',a',a',a',a',a',a',a',a',a',a',a',a',a',a',a',a',a',a',a',a',a',a',a',a',a',a',a',a'])).a ((p' (OW (AO.cells [z' r.k,z' r.n,s' r.t,AV.v (Value.slice r.la r.ll r.lc),AV.v (Value.slice r.ta r.tl r.tc)] 108) (AO.cells [z' r.k,z' r.n,s' r.t,AV.v (Value.slice r.la r.ll r.lc),AV.v (Value.slice r.ta r.tl r.tc)] 108))).a ((p' (OW (AO.cells [z' r'.k,z' r'.n,s' r'.t,AV.v (Value.slice r'.la r'.ll r'.lc),AV.v (Value.slice r'.ta r'.tl r'.tc)] 108) (AO.cells [z' r'.k,z' r'.n,s' r'.t,AV.v (Value.slice r'.la r'.ll r'.lc),AV.v (Value.slice r'.ta r'.tl r'.tc)] 108))).a (((p' (true = true)).a t').a (((p' (true = true)).a t').a (((Cnd.p True).a ((p' (VW [AV.v (Value.slice r.ta r.tl r.tc),AV.v (Value.slice r'.ta r'.tl r'.tc)] [AV.v (Value.slice r.ta r.tl r.tc),AV.v (Value.slice r'.ta r.tl r'.tc)])).a t')).a t')))))))))))))))))))) := by kernel_rfl
end
end Go.Proofs.Ytfledabgdcnkfaa.Tree

/- Two tables that are one: Same. -/
set_option linter.unusedVariables false
set_option linter.unusedSimpArgs false
set_option maxRecDepth 100000
namespace Go.Proofs.Ytfledabgdcnkfaa.Tree
open Go Go.RowKit Go.Proofs.Ytfledabgdcnkfaa.Eng Go.Proofs.Ytfledabgdcnkfaa.Kit
theorem ltFC {n : Nat} : decide (Int.ofNat n < (n : Int)) = false := decide_eq_false (by simp only [Int.ofNat_eq_natCast]; omega)
theorem ltTC {j n : Nat} (h : j < n) : decide (Int.ofNat j < (n : Int)) = true := decide_eq_true (by simp only [Int.ofNat_eq_natCast]; omega)
theorem c5 {C : Mem} {A : Addr} {r : Rv} (h : Cells C A r.cells) : C (A.add 0) = some (.int .i64 r.k) ∧ C (Addr.mk A.block (A.off + 1) none) = some (.int .i64 r.n) ∧ C (Addr.mk A.block (A.off + 2) none) = some (.string r.t) ∧ C (Addr.mk A.block (A.off + 3) none) = some (.slice r.la r.ll r.lc) ∧ C (Addr.mk A.block (A.off + 4) none) = some (.slice r.ta r.tl r.tc) :=
  ⟨h 0 _ rfl, h 1 _ rfl, h 2 _ rfl, h 3 _ rfl, h 4 _ rfl⟩
theorem all5 {W : World} {A : Addr} {r : Rv} (h : Cells W.cell? A r.cells) : ([0, 1, 2, 3, 4].all fun j => (W.cell? (A.add j)).isSome) = true := by
  have e0 : W.cell? (A.add 0) = some _ := h 0 _ rfl
  have e1 : W.cell? (A.add 1) = some _ := h 1 _ rfl
  have e2 : W.cell? (A.add 2) = some _ := h 2 _ rfl
  have e3 : W.cell? (A.add 3) = some _ := h 3 _ rfl
  have e4 : W.cell? (A.add 4) = some _ := h 4 _ rfl
  simp only [List.all_cons, List.all_nil, e0, e1, e2, e3, e4, Bool.and_true, Option.isSome_some]
theorem add_one (A : Addr) (j : Nat) : (Addr.mk A.block (A.off + 1) none).add j = A.add (j + 1) := by
  unfold Addr.add
  rw [if_neg (Nat.succ_ne_zero j)]
  split
  · rename_i h; subst h; rfl
  · show Addr.mk A.block (A.off + 1 + j) none = Addr.mk A.block (A.off + (j + 1)) none
    rw [Nat.add_assoc, Nat.add_comm 1 j]
theorem c6 {C : Mem} {A : Addr} {nm : ByteArray} {r : Rv} (h : Cells C A (.string nm :: r.cells)) : C (A.add 0) = some (.string nm) ∧ Cells C (Addr.mk A.block (A.off + 1) none) r.cells :=
  ⟨h 0 _ rfl, fun j u hu => by rw [add_one]; exact h (j + 1) u hu⟩
theorem c6b {C : Mem} {A : Addr} {r : Rv} (h : Cells C (Addr.mk A.block (A.off + 1) none) r.cells) : C (Addr.mk A.block (A.off + 1) none) = some (.int .i64 r.k) ∧ C (Addr.mk A.block (A.off + 1 + 1) none) = some (.int .i64 r.n) ∧ C (Addr.mk A.block (A.off + 1 + 2) none) = some (.string r.t) ∧ C (Addr.mk A.block (A.off + 1 + 3) none) = some (.slice r.la r.ll r.lc) ∧ C (Addr.mk A.block (A.off + 1 + 4) none) = some (.slice r.ta r.tl r.tc) := c5 h
theorem agg_wk {r : Rv} {x0 x1 : Int} {x2 : ByteArray} {x3 x4 : Value} (h0 : x0 = r.k) (h1 : x1 = r.n) (h2 : x2 = r.t) (h3 : x3 = .slice r.la r.ll r.lc) (h4 : x4 = .slice r.ta r.tl r.tc) : Wk (.agg [.v (.int .i64 x0), .v (.int .i64 x1), .v (.string x2), .v x3, .v x4]) (aggR r) := by
  subst h0 h1 h2 h3 h4; exact Wk.refl _
theorem cSv_ok {W : World} {r r' : Rv} (h : Tri Try.prog W fSv [aggR r, aggR r'] [] (bv true) []) (F : HP) (hF : OldOK W F) : C1OK Try.prog F fSv (cSv r r') :=
  mkC_ok hF (fun _ => bv true) (fun _ => RO.ret _) (fun _ => rfl) (fun _ _ => h) fun _ => ⟨rfl, rfl, ⟨⟨trivial, trivial, trivial, trivial, trivial, trivial⟩, ⟨trivial, trivial, trivial, trivial, trivial, trivial⟩, trivial⟩, all_nil, ⟨trivial, trivial⟩, all_nil⟩
theorem cSm_ok {W : World} {oa ob : Option Addr} {n c c' : Nat} (h : Tri Try.prog W fSm [slV oa n c, slV ob n c'] [] (bv true) []) (F : HP) (hF : OldOK W F) : C1OK Try.prog F fSm (cSm oa ob n c c') :=
  mkC_ok hF (fun _ => bv true) (fun _ => RO.ret _) (fun _ => rfl) (fun _ _ => h) fun _ => ⟨rfl, rfl, ⟨trivial, trivial, trivial⟩, all_nil, ⟨trivial, trivial⟩, all_nil⟩
theorem get_some {α : Type} {l : List α} {i : Nat} (h : i < l.length) : ∃ x, l[i]? = some x := ⟨_, List.getElem?_eq_getElem h⟩
theorem big_nat {n k : Nat} (h : n * k ≤ big) (hk : 0 < k) : n ≤ 140737488351232 := Nat.le_trans (Nat.le_mul_of_pos_right n hk) h
theorem sm_step (W : World) (d : Nat) (hV : ∀ v r r', VAt W.cell? d v r → VAt W.cell? d v r' → Tri Try.prog W fSv [aggR r, aggR r'] [] (bv true) []) (f : Tf) (oa ob : Option Addr) (c c' : Nat) (ha : FAt W.cell? d oa f) (hb : FAt W.cell? d ob f) :
    Tri Try.prog W fSm [slV oa f.length c, slV ob f.length c'] [] (bv true) [] := by
  have hlen := big_nat ha.1 (by decide)
  have hloop : LTri Try.prog W (loopN fSm 4) (tms 0 42 (aSm oa ob f.length c c' 0)) [] (.exit 0) (tms 0 42 []) [] := by
    refine ltri_run (W := W) (g := fSm) (b := loopN fSm 4) (σ := {j : Nat // j ≤ f.length}) 42 (fun j => aSm oa ob f.length c c' j.1) (fun j => []) (.exit 0) [] [] (fun j => f.length - j.1) [] [0, 1, 5] (by intro h; cases h) (fun _ => rfl) rfl ?_ ⟨0, Nat.zero_le _⟩
    rintro ⟨j, hj⟩
    simp only
    by_cases h1 : j < f.length
    · obtain ⟨⟨nm, x⟩, hx⟩ := get_some h1
      obtain ⟨a, r, rfl, q1, q2⟩ := ha.2 j nm x hx
      obtain ⟨b, r', rfl, p1, p2⟩ := hb.2 j nm x hx
      have hsv := cSv_ok (hV x r r' q2 p2)
      obtain ⟨a0, ac⟩ := c6 q1
      obtain ⟨b0, bc⟩ := c6 p1
      have aA := all5 ac
      have bA := all5 bc
      obtain ⟨a1, a2, a3, a4, a5⟩ := c6b ac
      obtain ⟨b1, b2, b3, b4, b5⟩ := c6b bc
      have hw := wrap_succ j (by omega)
      have e1 : decide (Int.ofNat j < (f.length : Int)) = true := ltTC h1
      have c1 : (!(nm.toList == nm.toList)) = false := by rw [beq_self_eq_true]; rfl
      refine ⟨[(fSv, cSv r r')], hSm j nm r r', [], fun F hF => one_c (hsv F hF), fun _ _ => noL, fun F => ?_⟩
      refine cast (congrArg (VAll _) (oSmR_eq W a b f.length c c' j nm r r' F).symm) ⟨⟨?_, rfl, .inl ⟨rfl, ⟨j + 1, h1⟩, sub_down h1, [], by kernel_rfl, by kernel_rfl, ⟨Wk.refl _, Wk.refl _, Wk.refl _, trivial⟩, trivial⟩⟩⟩
      simp only [Cnd.holds, e1, h1, a0, b0, aA, bA, a1, a2, a3, a4, a5, b1, b2, b3, b4, b5, Option.getD_some, Option.isSome_some, Nat.blt_eq, true_and, and_true]
      and_intros
      all_goals first
        | (with_reducible exact wk_int hw)
        | exact wk_litE e1
        | exact wk_litE c1
        | exact wk_litE rfl
        | exact agg_wk rfl rfl rfl rfl rfl | (with_reducible first | exact trivial | exact rfl | exact Wk.refl _ | exact VW.refl _ | exact OW.refl _ | exact wk_lit _ | assumption) | exact rfl | exact Wk.refl _ | exact VW.refl _ | exact OW.refl _ | ((repeat (first | exact VW.nil | refine VW.cons (Wk.refl _) ?_ | refine VW.cons (Wk.any _) ?_ | refine VW.cons (wk_cap (Nat.le_refl _)) ?_)); done)
    · have hje : j = f.length := by omega
      subst hje
      refine ⟨[], hSmE, [], fun _ _ => noC, fun _ _ => noL, fun F => ?_⟩
      refine cast (congrArg (VAll _) (oSmE_eq W oa ob f.length c c' F).symm) ⟨⟨?_, rfl, .inr ⟨rfl, [], by kernel_rfl, by kernel_rfl, trivial, trivial⟩⟩⟩
      simp only [Cnd.holds, and_true]
      exact wk_litE ltFC
  have hl : ∀ F, OldOK W F → L1OK Try.prog F (loopN fSm 4) (lSm oa ob f.length c c') := fun F hF =>
    mkL_ok hF (fun _ => RO.ret _) (fun _ _ => hloop) fun _ => by
      simp only [RT.pick]
      exact closedT rfl rfl (all_cons trivial (all_cons trivial (all_cons trivial all_nil))) all_nil all_nil all_nil
  refine tri_run (con := []) (hints := hintL [(fSm, 1, 4, hv (.lit false))]) (lc := [(fSm, 4, loopN fSm 4, lSm oa ob f.length c c')]) [] rfl (fun F _ => noC) (fun F hF => one_l (hl F hF)) fun F => ?_
  refine cast (congrArg (VAll _) (oSm_eq W oa ob f.length c c' F).symm) ⟨⟨?_, (fit_mk (vs' := [bv true]) (H' := []) [] rfl rfl (VW.refl _) trivial).fits rfl⟩⟩
  simp only [Cnd.holds, Nat.blt_eq, true_and, and_true]
  and_intros
  all_goals first
    | exact wk_litE (bne_self_eq_false _) | (with_reducible first | exact trivial | exact rfl | exact Wk.refl _ | exact VW.refl _ | exact OW.refl _ | exact wk_lit _ | assumption) | exact rfl | exact Wk.refl _ | exact VW.refl _ | exact OW.refl _ | ((repeat (first | exact VW.nil | refine VW.cons (Wk.refl _) ?_ | refine VW.cons (Wk.any _) ?_ | refine VW.cons (wk_cap (Nat.le_refl _)) ?_)); done)
theorem sv_step (W : World) (d : Nat) (hV : ∀ v r r', VAt W.cell? d v r → VAt W.cell? d v r' → Tri Try.prog W fSv [aggR r, aggR r'] [] (bv true) []) (v : Tv) (r r' : Rv) (ha : VAt W.cell? (d + 1) v r) (hb : VAt W.cell? (d + 1) v r') :
    Tri Try.prog W fSv [aggR r, aggR r'] [] (bv true) [] := by
  obtain ⟨⟨i1, i2, i3, i4, i5⟩, al, af⟩ := ha
  obtain ⟨⟨j1, j2, j3, j4, j5⟩, bl, bf⟩ := hb
  have hlen := big_nat al.1 (by decide)
  have hsm := sm_step W d hV v.tab r.ta r'.ta r.tc r'.tc af bf
  have k1 : r.k = r'.k := i1.trans j1.symm
  have k2 : r.n = r'.n := i2.trans j2.symm
  have k3 : r.t = r'.t := i3.trans j3.symm
  have k4 : r'.ll = r.ll := j4.trans i4.symm
  have k5 : r'.tl = r.tl := j5.trans i5.symm
  rw [← i5] at hsm
  have hloop : LTri Try.prog W (loopN fSv 4) (tms 0 58 (aSv 0)) (oSv r r') (.exit 0) (tms 0 58 [(2, .ptr 1000 0), (3, .ptr 1001 0)]) (oSv r r') := by
    refine ltri_run (W := W) (g := fSv) (b := loopN fSv 4) (σ := {j : Nat // j ≤ r.ll}) 58 (fun j => aSv j.1) (fun j => oSv r r') (.exit 0) [(2, .ptr 1000 0), (3, .ptr 1001 0)] (oSv r r') (fun j => r.ll - j.1) [1000, 1001] [2, 3, 5] (by intro h; cases h) (fun _ => rfl) rfl ?_ ⟨0, Nat.zero_le _⟩
    rintro ⟨j, hj⟩
    simp only
    by_cases h1 : j < r.ll
    · obtain ⟨x, hx⟩ := get_some (l := v.list) (i := j) (by omega)
      obtain ⟨a, s, ea, q1, q2⟩ := al.2 j x hx
      obtain ⟨b, s', eb, p1, p2⟩ := bl.2 j x hx
      have hsv := cSv_ok (hV x s s' q2 p2)
      have aA := all5 q1
      have bA := all5 p1
      obtain ⟨a1, a2, a3, a4, a5⟩ := c5 q1
      obtain ⟨b1, b2, b3, b4, b5⟩ := c5 p1
      have hw := wrap_succ j (by omega)
      have e1 : decide (Int.ofNat j < (r.ll : Int)) = true := ltTC h1
      have h2 : j < r'.ll := by omega
      obtain ⟨rk, rn, rt, rla, rll, rlc, rta, rtl, rtc⟩ := r
      obtain ⟨rk', rn', rt', rla', rll', rlc', rta', rtl', rtc'⟩ := r'
      simp only at ea eb
      subst ea eb
      refine ⟨[(fSv, cSv s s')], hSv j s s', [], fun F hF => one_c (hsv F hF), fun _ _ => noL, fun F => ?_⟩
      refine cast (congrArg (VAll _) (oSvR_eq W ⟨rk, rn, rt, none, rll, rlc, rta, rtl, rtc⟩ ⟨rk', rn', rt', none, rll', rlc', rta', rtl', rtc'⟩ s s' a b j F).symm) ⟨⟨?_, rfl, .inl ⟨rfl, ⟨j + 1, h1⟩, sub_down h1, [(1000, 1000), (1001, 1001)], by kernel_rfl, by kernel_rfl, ⟨Wk.refl _, Wk.refl _, Wk.refl _, trivial⟩, ⟨_, rfl, OW.refl _⟩, ⟨_, rfl, OW.refl _⟩, trivial⟩⟩⟩
      simp only [Cnd.holds, e1, h1, h2, aA, bA, a1, a2, a3, a4, a5, b1, b2, b3, b4, b5, Option.getD_some, Option.isSome_some, Nat.blt_eq, true_and, and_true]
      and_intros
      all_goals first
        | (with_reducible exact wk_int hw)
        | exact wk_litE e1
        | exact wk_litE rfl
        | exact agg_wk rfl rfl rfl rfl rfl | (with_reducible first | exact trivial | exact rfl | exact Wk.refl _ | exact VW.refl _ | exact OW.refl _ | exact wk_lit _ | assumption) | exact rfl | exact Wk.refl _ | exact VW.refl _ | exact OW.refl _ | ((repeat (first | exact VW.nil | refine VW.cons (Wk.refl _) ?_ | refine VW.cons (Wk.any _) ?_ | refine VW.cons (wk_cap (Nat.le_refl _)) ?_)); done)
    · have hje : j = r.ll := by omega
      subst hje
      refine ⟨[], hSvE, [], fun _ _ => noC, fun _ _ => noL, fun F => ?_⟩
      refine cast (congrArg (VAll _) (oSvE_eq W r r' F).symm) ⟨⟨?_, rfl, .inr ⟨rfl, [(1000, 1000), (1001, 1001)], by kernel_rfl, by kernel_rfl, ⟨Wk.refl _, Wk.refl _, trivial⟩, ⟨_, rfl, OW.refl _⟩, ⟨_, rfl, OW.refl _⟩, trivial⟩⟩⟩
      simp only [Cnd.holds, and_true, true_and]
      exact wk_litE ltFC
  have gro : ∀ args, RO (gSv args) := by
    intro args
    unfold gSv
    repeat' split
    all_goals first | exact RO.ret _ | exact RO.fail _
  have ocl : ∀ (K : Nat → Bool) (r : Rv), (AO.cells (vmap r.cells) tVl).cl K := fun K r => ⟨trivial, trivial, trivial, trivial, trivial, trivial⟩
  have hl : ∀ F, OldOK W F → L1OK Try.prog F (loopN fSv 4) (lSv r r') := fun F hF =>
    mkL_ok hF gro (fun _ _ => hloop) fun _ => by
      simp only [RT.pick]
      exact closedT rfl rfl (all_cons rfl (all_cons rfl (all_cons trivial all_nil))) (all_cons (ocl _ _) (all_cons (ocl _ _) all_nil)) (all_cons rfl (all_cons rfl all_nil)) (all_cons (ocl _ _) (all_cons (ocl _ _) all_nil))
  refine tri_run (con := [(fSm, cSm r.ta r'.ta r.tl r.tc r'.tc)]) (hints := hSvF) (lc := [(fSv, 4, loopN fSv 4, lSv r r')]) [] rfl (fun F hF => one_c (cSm_ok hsm F hF)) (fun F hF => one_l (hl F hF)) fun F => ?_
  refine cast (congrArg (VAll _) (oSv_eq W r r' F).symm) ⟨⟨?_, (fit_mk (vs' := [bv true]) (H' := []) [] rfl rfl (VW.refl _) trivial).fits rfl⟩⟩
  have c1 : (!(r.t.toList == r'.t.toList)) = false := by rw [k3, beq_self_eq_true]; rfl
  have c2 : (r.k != r'.k) = false := by rw [k1]; exact bne_self_eq_false _
  have c3 : (r.n != r'.n) = false := by rw [k2]; exact bne_self_eq_false _
  have c4 : ((r.ll : Int) != (r'.ll : Int)) = false := by rw [k4]; exact bne_self_eq_false _
  simp only [Cnd.holds, k5, Nat.blt_eq, true_and, and_true]
  and_intros
  all_goals first
    | exact wk_litE c1
    | exact wk_litE c2
    | exact wk_litE c3
    | exact wk_litE c4 | (with_reducible first | exact trivial | exact rfl | exact Wk.refl _ | exact VW.refl _ | exact OW.refl _ | exact wk_lit _ | assumption) | exact rfl | exact Wk.refl _ | exact VW.refl _ | exact OW.refl _ | ((repeat (first | exact VW.nil | refine VW.cons (Wk.refl _) ?_ | refine VW.cons (Wk.any _) ?_ | refine VW.cons (wk_cap (Nat.le_refl _)) ?_)); done)
theorem sv_tri (W : World) : ∀ (d : Nat) (v : Tv) (r r' : Rv), VAt W.cell? d v r → VAt W.cell? d v r' → Tri Try.prog W fSv [aggR r, aggR r'] [] (bv true) []
  | 0, _, _, _, h, _ => h.elim
  | d + 1, v, r, r', h, h' => sv_step W d (sv_tri W d) v r r' h h'
theorem Same_tri (W : World) (d : Nat) (f : Tf) (oa ob : Option Addr) (c c' : Nat) (ha : FAt W.cell? d oa f) (hb : FAt W.cell? d ob f) : Tri Try.prog W fSm [slV oa f.length c, slV ob f.length c'] [] (bv true) [] := sm_step W d (sv_tri W d) f oa ob c c' ha hb
end Go.Proofs.Ytfledabgdcnkfaa.Tree

/- Code in pieces: behind a piece the state is one of many, which one is known in the world alone. No program. -/
set_option linter.unusedVariables false
set_option linter.unusedSimpArgs false
namespace Go.Proofs.Ytfledabgdcnkfaa.Eng
open Go Go.RowKit
def CTri (P : Program) (W : World) (cd : Code) (A : List AV) (H : LH) {ρ : Type} (ax : ρ → AX) (A' : ρ → List AV) (H' : ρ → LH) : Prop :=
  ∀ (W0 : World) (F : HP) (N : Names) (w : World) (a : Act) (Q : Exit → Act → World → Prop), OldOK W F → NB N H → Rep W0 N F (heapOf H) w → VRs N A a.tmps.toList →
    (∀ r a' w', St W0 F N (H' r) (A' r) a'.tmps.toList w' → a'.defers = a.defers → Q (exitOf (ax r)) a' w') → cd.wp P Q a w
section
variable {P : Program} {W : World} {ρ σ : Type}
theorem CTri.pre {cd : Code} {A A1 : List AV} {H H1 : LH} {ax : ρ → AX} {A' : ρ → List AV} {H' : ρ → LH} (h : CTri P W cd A1 H1 ax A' H') (hg : Goes A H A1 H1) : CTri P W cd A H ax A' H' := by
  intro W0 F N w a Q hF hN r ha hK
  obtain ⟨N1, g1, g2, g3, g4⟩ := hg W0 F N _ _ ⟨N, fun _ _ => rfl, hN, r, ha⟩
  exact h W0 F N1 w a Q hF g2 g3 g4 fun q a' w' ⟨N2, k1, k2, k3, k4⟩ hd => hK q a' w' ⟨N2, fun i hi => (k1 i hi).trans (g1 i hi), k2, k3, k4⟩ hd
theorem CTri.post {cd : Code} {A : List AV} {H : LH} {ax : ρ → AX} {A' : ρ → List AV} {H' : ρ → LH} {ρ2 : Type} {ax2 : ρ2 → AX} {A2 : ρ2 → List AV} {H2 : ρ2 → LH} (h : CTri P W cd A H ax A' H') (hg : ∀ r, ∃ r2, ax2 r2 = ax r ∧ Goes (A' r) (H' r) (A2 r2) (H2 r2)) : CTri P W cd A H ax2 A2 H2 := by
  intro W0 F N w a Q hF hN r ha hK
  refine h W0 F N w a Q hF hN r ha fun q a' w' hs hd => ?_
  obtain ⟨r2, e, hg⟩ := hg q
  rw [← e]
  exact hK r2 a' w' (hg _ _ _ _ _ hs) hd
theorem CTri.seq {c1 c2 : Code} {A : List AV} {H : LH} {A1 : σ → List AV} {H1 : σ → LH} {ax : ρ → AX} {A' : ρ → List AV} {H' : ρ → LH} (h1 : CTri P W c1 A H (fun _ : σ => .normal) A1 H1) (h2 : ∀ s, CTri P W c2 (A1 s) (H1 s) ax A' H') : CTri P W (.seq c1 c2) A H ax A' H' := by
  intro W0 F N w a Q hF hN r ha hK
  refine wp_seq (h1 W0 F N w a _ hF hN r ha fun s a' w' hs hd => ?_)
  obtain ⟨N1, g1, g2, g3, g4⟩ := hs
  exact h2 s W0 F N1 w' a' Q hF g2 g3 g4 fun q a2 w2 ⟨N2, k1, k2, k3, k4⟩ hd2 => hK q a2 w2 ⟨N2, fun i hi => (k1 i hi).trans (g1 i hi), k2, k3, k4⟩ (hd2.trans hd)
theorem CTri.block {c : Code} {id : Nat} {A : List AV} {H : LH} {A' : ρ → List AV} {H' : ρ → LH} (h : CTri P W c A H (fun _ : ρ => .exit id) A' H') : CTri P W (.block id c) A H (fun _ : ρ => .normal) A' H' := by
  intro W0 F N w a Q hF hN r ha hK
  refine wp_block (h W0 F N w a _ hF hN r ha fun q a' w' hs hd => ?_)
  show (if id = id then Q .normal a' w' else _)
  rw [if_pos rfl]
  exact hK q a' w' hs hd
theorem Tri.body {f : FuncId} {fn : Func} {cd : Code} {t m : Nat} {A A0 : List AV} {H H' : LH} {v : AV} {ax : AX} (hfn : P.funcs[f]? = some fn) (hcd : fn.body = some cd) (hres : fn.results = #[.tmp t]) (hm : fn.ntmps = m) (hA0 : A ++ List.replicate (m - A.length) AV.undef = A0) (hax : ax = .ret ∨ ax = .normal) (ht : t < m)
    (h : CTri P W cd A0 H (fun _ : Unit => ax) (fun _ => tms 0 m [(t, v)]) (fun _ => H')) : Tri P W f A H v H' := by
  intro W0 F N w vargs hF hN r ha
  have hlen : A.length = vargs.size := by rw [ha.len]; simp
  refine calls_of_wp hfn hcd ?_
  refine h W0 F N w _ _ hF hN r ?_ fun _ a' w' hs hd => ?_
  · subst hA0
    rw [Array.toList_append, Array.toList_replicate, hm, hlen]
    refine ha.append ?_
    generalize m - vargs.size = k
    induction k with
    | zero => exact VRs_nil
    | succ k ih => exact VRs_cons.2 ⟨undef_VR, ih⟩
  · obtain ⟨N1, g1, g2, g3, g4⟩ := hs
    have hv : ∀ (k j : Nat) (l : List Value), k ≤ t → t < k + j → VRs N1 (tms k j [(t, v)]) l → ∃ y, l[t - k]? = some y ∧ VR N1 v y := by
      intro k j
      induction j generalizing k with
      | zero => intro l h1 h2; omega
      | succ j ih =>
        intro l h1 h2 hl
        rw [tms] at hl
        simp only [VRs] at hl
        obtain ⟨y, l', q1, q2, rfl⟩ := hl
        by_cases e : k = t
        · subst e
          refine ⟨y, by simp, ?_⟩
          simpa using q1
        · obtain ⟨z, z1, z2⟩ := ih (k + 1) l' (by omega) (by omega) q2
          exact ⟨z, by rw [show t - k = (t - (k + 1)) + 1 from by omega, List.getElem?_cons_succ]; exact z1, z2⟩
    obtain ⟨y, hy, hvy⟩ := hv 0 m _ (Nat.zero_le _) (by omega) g4
    have hr : (results fn a'.tmps).run P w' = .ok y w' := by
      unfold results
      rw [hres]
      have : a'.tmps.getD t Go.undef = y := by
        rw [Nat.sub_zero, Array.getElem?_toList] at hy
        simp [Array.getD_eq_getD_getElem?, hy]
      rw [Array.getD_eq_getD_getElem?] at this
      simp [this]
    have hpost : a'.defers = [] ∧ ∃ y, (results fn a'.tmps).run P w' = .ok y w' ∧ ∃ z, Ending.returned y = .returned z ∧ St W0 F N H' [v] [z] w' := ⟨hd, y, hr, y, rfl, N1, g1, g2, g3, VRs_cons.2 ⟨hvy, VRs_nil⟩⟩
    rcases hax with rfl | rfl
    · exact hpost
    · exact hpost
theorem CTri.run {con : ConT} {claim : ClaimT} {lcon : LconT} {g : FuncId} {cd : Code} {A : List AV} {H : LH} {ax : ρ → AX} {A' : ρ → List AV} {H' : ρ → LH} (ks : List Nat) (fuel : Nat) (hm : P.follows .mixedOrders = true) (hH : namesLt 1100 H = true)
    (hcon : ∀ F, OldOK W F → ConOK P (envO P F con claim lcon W)) (hl : ∀ F, OldOK W F → LconOK P (envO P F con claim lcon W))
    (hrun : ∀ F, OldOK W F → (((runCode P (envO P F con claim lcon W) fuel g cd A).run2 (heapOf H) 1100 []).view ks).all fun u os _ => FitsE ks u.2 os fun W0 F N ys w => ∃ q, ax q = u.1 ∧ St W0 F N (H' q) (A' q) ys w) : CTri P W cd A H ax A' H' := by
  intro W0 F N w a Q hF hN r ha hK
  obtain ⟨⟨x, t⟩, h', n', lg', c, he, hc, hq⟩ := VT.all_pick (hrun F hF)
  rw [run2_pick] at he
  refine (runCode_sound hF.env hm (hcon F hF) (hl F hF) fuel).1 _ _ _ _ _ _ _ _ _ _ _ _ _ _ _ _ _ _ he hc r ha (fun i h1 h2 => hN.nothing hH h1) fun N2 a2 w2 r2 t2 d2 x2 => ?_
  have hlim := run_limit _ he (by decide)
  obtain ⟨q, e, hs⟩ := hq.state r2 x2 hlim (fun i hi => hN.nothing hH hi) t2
  simp only at e
  rw [← e]
  exact hK q a2 w2 hs d2
theorem CTri.loop {con : σ → ConT} {claim : σ → ClaimT} {lcon : σ → LconT} {g : FuncId} {b : Code} (A : σ → List AV) (H : σ → LH) (ax : ρ → AX) (A' : ρ → List AV) (H' : ρ → LH) (hax : ∀ q, ax q ≠ .normal) (μ : σ → Nat) (ks : List Nat) (fuel : Nat) (hm : P.follows .mixedOrders = true)
    (hH : ∀ s, namesLt 1100 (H s) = true)
    (hcon : ∀ s F, OldOK W F → ConOK P (envO P F (con s) (claim s) (lcon s) W)) (hl : ∀ s F, OldOK W F → LconOK P (envO P F (con s) (claim s) (lcon s) W))
    (hstep : ∀ s F, OldOK W F → (((runCode P (envO P F (con s) (claim s) (lcon s) W) fuel g b (A s)).run2 (heapOf (H s)) 1100 []).view ks).all fun r os _ =>
      FitsE ks r.2 os fun W0 F N ys w => (r.1 = .normal ∧ ∃ s', μ s' < μ s ∧ St W0 F N (H s') (A s') ys w) ∨ ∃ q, ax q = r.1 ∧ St W0 F N (H' q) (A' q) ys w) (s : σ) :
    CTri P W (.loop b) (A s) (H s) ax A' H' := by
  intro W0 F N w a Q hF hN r ha hK
  refine wp_loop_rounds (μ s + 1) ?_
  have key : ∀ (m : Nat) (s : σ), μ s < m → ∀ (N1 : Names) (w : World) (a1 : Act), (∀ i, i < 1000 → N1 i = N i) → NB N1 (H s) → Rep W0 N1 F (heapOf (H s)) w → VRs N1 (A s) a1.tmps.toList → a1.defers = a.defers →
      Code.rounds P b Q m a1 w := by
    intro m
    induction m with
    | zero => intro s hs; omega
    | succ m ih =>
      intro s hs N1 w a1 hN1 hNB r ha hd
      rw [rounds_succ]
      obtain ⟨⟨x, t⟩, h', n', lg', c, he, hc, hq⟩ := VT.all_pick (hstep s F hF)
      rw [run2_pick] at he
      refine (runCode_sound hF.env hm (hcon s F hF) (hl s F hF) fuel).1 _ _ _ _ _ _ _ _ _ _ _ _ _ _ _ _ _ _ he hc r ha (fun i h1 h2 => hNB.nothing (hH s) h1) fun N2 a2 w2 r2 t2 d2 x2 => ?_
      have hlim := run_limit _ he (by decide)
      have hN0 : ∀ i, 1100 ≤ i → N1 i = none := fun i hi => hNB.nothing (hH s) hi
      rcases hq.state r2 x2 hlim hN0 t2 with ⟨e, s', hμ, N3, q1, q2, q3, q4⟩ | ⟨q, e, N3, q1, q2, q3, q4⟩
      · simp only at e
        subst e
        show Code.rounds P b Q m a2 w2
        exact ih s' (by omega) N3 w2 a2 (fun i hi => (q1 i hi).trans (hN1 i hi)) q2 q3 q4 (d2.trans hd)
      · have hfin := hK q a2 w2 ⟨N3, fun i hi => (q1 i hi).trans (hN1 i hi), q2, q3, q4⟩ (d2.trans hd)
        have hx : x ≠ .normal := fun h => hax q (e.trans h)
        rw [e] at hfin
        cases x with
        | normal => exact absurd rfl hx
        | exit id => exact hfin
        | ret => exact hfin
  exact key _ s (by omega) N w a (fun _ _ => rfl) hN r ha rfl
end
end Go.Proofs.Ytfledabgdcnkfaa.Eng

/- Code in pieces, over the program. -/
set_option linter.unusedVariables false
set_option linter.unusedSimpArgs false
namespace Go.Proofs.Ytfledabgdcnkfaa.Kit
open Go Go.RowKit Go.Proofs.Ytfledabgdcnkfaa.Eng
section
variable {W : World} {g : FuncId} {ρ σ : Type}
end
/-! Pieces of code. -/
def fst : Code → Code
  | .seq a _ => a
  | c => c
def snd : Code → Code
  | .seq _ b => b
  | c => c
end Go.Proofs.Ytfledabgdcnkfaa.Kit

/- Rows of like elements: cells one by one. No program. -/
set_option linter.unusedVariables false
set_option linter.unusedSimpArgs false
namespace Go.Proofs.Ytfledabgdcnkfaa.Eng
open Go Go.RowKit
section
variable {α : Type} {enc : α → List Value} {k : Nat}
end
end Go.Proofs.Ytfledabgdcnkfaa.Eng

/- A table as new memory: Copy: runs. -/
set_option linter.unusedVariables false
set_option linter.unusedSimpArgs false
set_option maxRecDepth 100000
namespace Go.Proofs.Ytfledabgdcnkfaa.Tree
open Go Go.RowKit Go.Proofs.Ytfledabgdcnkfaa.Eng Go.Proofs.Ytfledabgdcnkfaa.Kit
noncomputable section
abbrev fCp : Nat := 14
abbrev fCv : Nat := 24
abbrev tFl : TypeId := 2 * 56
abbrev md : Md := .nothing
def sF (i n : Nat) : AV := .slice i 0 n 6 (.lo n)
def sL (i n : Nat) : AV := .slice i 0 n 5 (.lo n)
def rF (R : List (ByteArray × Rv)) : AO := .cells (rowV encF R) tFl
def rV (R : List Rv) : AO := .cells (rowV encV R) tVl
def cCz (r : Rv) (d : Nat) (v : Tv) (nt : Nat) : List AV → Option (AP AV) := mkC (fun _ => .ret ()) (fun _ => True) (fun _ k => k) (fun _ => [aggR r]) (fun _ => []) (fun _ => .leaf .ret [.agg [iv r.k, iv r.n, sv r.t, .mt, sF 1001 nt]] [(1001, ownF md d v.tab)])
def cCn (r : Rv) (d : Nat) (v : Tv) (nl nt : Nat) : List AV → Option (AP AV) := mkC (fun _ => .ret ()) (fun _ => True) (fun _ k => k) (fun _ => [aggR r]) (fun _ => []) (fun _ => .leaf .ret [.agg [iv r.k, iv r.n, sv r.t, sL 1000 nl, sF 1001 nt]] [(1000, ownL md d v.list), (1001, ownF md d v.tab)])
def aCp (oa : Option Addr) (n c m i : Nat) : List (Nat × AV) := [(0, slV oa n c), (3, sF 1000 m), (4, iv (Int.ofNat i))]
def oCp (R : List (ByteArray × Rv)) (P : Mem → Prop) : LH := [(1000, rF R), (1001, .any (frz P))]
def hCp (i : Nat) (nm : ByteArray) (r : Rv) : ClaimT := hintL [(fCp, 3, 3, hv (.lit true)), (fCp, 5, 5, hv (sv nm)), (fCp, 5, 10, hv (aggR r)), (fCp, 4, 1, hv (iv (Int.ofNat (i + 1))))]
def hCpE : ClaimT := hintL [(fCp, 3, 3, hv (.lit false))]
theorem oCpZ_eq (W : World) (a : Addr) (n c m i : Nat) (nm : ByteArray) (r : Rv) (d : Nat) (v : Tv) (nt : Nat) (R : List (ByteArray × Rv)) (P : Mem → Prop) (F : HP) : wLoop [(fCv, cCz r d v nt)] (hCp i nm r) [] W fCp (loopN fCp 3) (tms 0 28 (aCp (some a) n c m i)) (oCp R P) [1000, 1001, 1100, 1101, 1102, 1103, 1104] [0, 3, 4] F = VT.leaf (AX.normal,[AV.v (Value.slice (some a) n c),AV.slice 1102 0 (m + 1) 6 (Cp.lo (m + 1)),i' (i + 1)],28) [none,some (AO.any (frz P)),some (AO.own md fun b x => frz fun C => FAt C d (some (Addr.mk b 0 none)) v.tab),some (AO.cells [s' nm,z' r.k,z' r.n,s' r.t,AV.mt,AV.slice 1100 0 nt 6 (Cp.lo nt)] 112),some (AO.cells (List.take (m * 6) (List.drop 0 (rowV encF R)) ++ [s' nm,z' r.k,z' r.n,s' r.t,AV.mt,AV.slice 1100 0 nt 6 (Cp.lo nt)]) 112),none,none] 1103 (((p' (Wk (b' (decide (Int.ofNat i < ↑n))) (AV.lit true))).a t').a (((p' (i.blt n = true)).a t').a (((p' ((W.cell? ((a.add (i * 6)).add 0)).isSome = true)).a ((p' (AV.v ((W.cell? ((a.add (i * 6)).add 0)).getD (Value.tuple (Array.mk []))) = AV.v (Value.string (AV.v ((W.cell? ((a.add (i * 6)).add 0)).getD (Value.tuple (Array.mk [])))).strOf))).a ((p' (Wk (AV.v (Value.string (AV.v ((W.cell? ((a.add (i * 6)).add 0)).getD (Value.tuple (Array.mk [])))).strOf)) (s' nm))).a t'))).a (((p' (i.blt n = true)).a t').a (((p' (([0,1,2,3,4].all fun j => (W.cell? ((Addr.mk (a.add (i * 6)).block ((a.add (i * 6)).off + 1) none).add j)).isSome) = true)).a ((p' ([AV.v ((W.cell? (Addr.mk (a.add (i * 6)).block ((a.add (i * 6)).off + 1) none)).getD (Value.tuple (Array.mk []))),AV.v ((W.cell? (Addr.mk (a.add (i * 6)).block ((a.add (i * 6)).off + 1 + 1) none)).getD (Value.tuple (Array.mk []))),AV.v ((W.cell? (Addr.mk (a.add (i * 6)).block ((a.add (i * 6)).off + 1 + 2) none)).getD (Value.tuple (Array.mk []))),AV.v ((W.cell? (Addr.mk (a.add (i * 6)).block ((a.add (i * 6)).off + 1 + 3) none)).getD (Value.tuple (Array.mk []))),AV.v ((W.cell? (Addr.mk (a.add (i * 6)).block ((a.add (i * 6)).off + 1 + 4) none)).getD (Value.tuple (Array.mk [])))] = [AV.v (Value.int IntKind.i64 (AV.v ((W.cell? (Addr.mk (a.add (i * 6)).block ((a.add (i * 6)).off + 1) none)).getD (Value.tuple (Array.mk [])))).intOf),AV.v (Value.int IntKind.i64 (AV.v ((W.cell? (Addr.mk (a.add (i * 6)).block ((a.add (i * 6)).off + 1 + 1) none)).getD (Value.tuple (Array.mk [])))).intOf),AV.v (Value.string (AV.v ((W.cell? (Addr.mk (a.add (i * 6)).block ((a.add (i * 6)).off + 1 + 2) none)).getD (Value.tuple (Array.mk [])))).strOf),AV.v ((W.cell? (Addr.mk (a.add (i * 6)).block ((a.add (i * 6)).off + 1 + 3) none)).getD (Value.tuple (Array.mk []))),AV.v ((W.cell? (Addr.mk (a.add (i * 6)).block ((a.add (i * 6)).off + 1 + 4) none)).getD (Value.tuple (Array.mk [])))])).a ((p' (Wk (AV.agg [AV.v (Value.int IntKind.i64 (AV.v ((W.cell? (Addr.mk (a.add (i * 6)).block ((a.add (i * 6)).off + 1) none)).getD (Value.tuple (Array.mk [])))).intOf),AV.v (Value.int IntKind.i64 (AV.v ((W.cell? (Addr.mk (a.add (i * 6)).block ((a.add (i * 6)).off + 1 + 1) none)).getD (Value.tuple (Array.mk [])))).intOf),AV.v (Value.string (AV.v ((W.cell? (Addr.mk (a.add (i * 6)).block ((a.add (i * 6)).off + 1 + 2) none)).getD (Value.tuple (Array.mk [])))).strOf),AV.v ((W.cell? (Addr.mk (a.add (i * 6)).block ((a.add (i * 6)).off + 1 + 3) none)).getD (Value.tuple (Array.mk []))),AV.v ((W.cell? (Addr.mk (a.add (i * 6)).block ((a.add (i * 6)).off + 1 + 4) none)).getD (Value.tuple (Array.mk [])))]) (AV.agg [z' r.k,z' r.n,s' r.t,AV.v (Value.slice r.la r.ll r.lc),AV.v (Value.slice r.ta r.tl r.tc)]))).a t'))).a (((Cnd.p True).a ((p' (VW [AV.agg [z' r.k,z' r.n,s' r.t,AV.v (Value.slice r.la r.ll r.lc),AV.v (Value.slice r.ta r.tl r.tc)]] [AV.agg [z' r.k,z' r.n,s' r.t,AV.v (Value.slice r.la r.ll r.lc),AV.v (Value.slice r.ta r.tl r.tc)]])).a t')).a (((p' (true = true)).a ((p' (true = true)).a ((p' (true = true)).a ((p' (true = true)).a ((p' ((0 + m * 6).ble (rowV encF R).length = true)).a ((p' (((m + 1) * 96).ble 140737488355328 = true)).a ((p' ((m + 1).ble 9223372036854775807 = true)).a ((p' ((List.take (m * 6) (List.drop 0 (rowV encF R))).length.beq (m * 6) = true)).a t')))))))).a (((p' (Wk (z' (IntKind.i64.wrap (Int.ofNat i + Int.ofNat 1))) (i' (i + 1)))).a t').a t')))))))) := by kernel_rfl
theorem oCpN_eq (W : World) (a : Addr) (n c m i : Nat) (nm : ByteArray) (r : Rv) (d : Nat) (v : Tv) (nl nt : Nat) (R : List (ByteArray × Rv)) (P : Mem → Prop) (F : HP) : wLoop [(fCv, cCn r d v nl nt)] (hCp i nm r) [] W fCp (loopN fCp 3) (tms 0 28 (aCp (some a) n c m i)) (oCp R P) [1000, 1001, 1100, 1101, 1102, 1103, 1104] [0, 3, 4] F = VT.leaf (AX.normal,[AV.v (Value.slice (some a) n c),AV.slice 1103 0 (m + 1) 6 (Cp.lo (m + 1)),i' (i + 1)],28) [none,some (AO.any (frz P)),some (AO.own md fun b x => frz fun C => LAt C d (some (Addr.mk b 0 none)) v.list),some (AO.own md fun b x => frz fun C => FAt C d (some (Addr.mk b 0 none)) v.tab),some (AO.cells [s' nm,z' r.k,z' r.n,s' r.t,AV.slice 1100 0 nl 5 (Cp.lo nl),AV.slice 1101 0 nt 6 (Cp.lo nt)] 112),some (AO.cells (List.take (m * 6) (List.drop 0 (rowV encF R)) ++ [s' nm,z' r.k,z' r.n,s' r.t,AV.slice 1100 0 nl 5 (Cp.lo nl),AV.slice 1101 0 nt 6 (Cp.lo nt)]) 112),none] 1104 (((p' (Wk (b' (decide (Int.ofNat i < ↑n))) (AV.lit true))).a t').a (((p' (i.blt n = true)).a t').a (((p' ((W.cell? ((a.add (i * 6)).add 0)).isSome = true)).a ((p' (AV.v ((W.cell? ((a.add (i * 6)).add 0)).getD (Value.tuple (Array.mk []))) = AV.v (Value.string (AV.v ((W.cell? ((a.add (i * 6)).add 0)).getD (Value.tuple (Array.mk [])))).strOf))).a ((p' (Wk (AV.v (Value.string (AV.v ((W.cell? ((a.add (i * 6)).add 0)).getD (Value.tuple (Array.mk [])))).strOf)) (s' nm))).a t'))).a (((p' (i.blt n = true)).a t').a (((p' (([0,1,2,3,4].all fun j => (W.cell? ((Addr.mk (a.add (i * 6)).block ((a.add (i * 6)).off + 1) none).add j)).isSome) = true)).a ((p' ([AV.v ((W.cell? (Addr.mk (a.add (i * 6)).block ((a.add (i * 6)).off + 1) none)).getD (Value.tuple (Array.mk []))),AV.v ((W.cell? (Addr.mk (a.add (i * 6)).block ((a.add (i * 6)).off + 1 + 1) none)).getD (Value.tuple (Array.mk []))),AV.v ((W.cell? (Addr.mk (a.add (i * 6)).block ((a.add (i * 6)).off + 1 + 2) none)).getD (Value.tuple (Array.mk []))),AV.v ((W.cell? (Addr.mk (a.add (i * 6)).block ((a.add (i * 6)).off + 1 + 3) none)).getD (Value.tuple (Array.mk []))),AV.v ((W.cell? (Addr.mk (a.add (i * 6)).block ((a.add (i * 6)).off + 1 + 4) none)).getD (Value.tuple (Array.mk [])))] = [AV.v (Value.int IntKind.i64 (AV.v ((W.cell? (Addr.mk (a.add (i * 6)).block ((a.add (i * 6)).off + 1) none)).getD (Value.tuple (Array.mk [])))).intOf),AV.v (Value.int IntKind.i64 (AV.v ((W.cell? (Addr.mk (a.add (i * 6)).block ((a.add (i * 6)).off + 1 + 1) none)).getD (Value.tuple (Array.mk [])))).intOf),AV.v (Value.string (AV.v ((W.cell? (Addr.mk (a.add (i * 6)).block ((a.add (i * 6)).off + 1 + 2) none)).getD (Value.tuple (Array.mk [])))).strOf),AV.v ((W.cell? (Addr.mk (a.add (i * 6)).block ((a.add (i * 6)).off + 1 + 3) none)).getD (Value.tuple (Array.mk []))),AV.v ((W.cell? (Addr.mk (a.add (i * 6)).block ((a.add (i * 6)).off + 1 + 4) none)).getD (Value.tuple (Array.mk [])))])).a ((p' (Wk (AV.agg [AV.v (Value.int IntKind.i64 (AV.v ((W.cell? (Addr.mk (a.add (i * 6)).block ((a.add (i * 6)).off + 1) none)).getD (Value.tuple (Array.mk [])))).intOf),AV.v (Value.int IntKind.i64 (AV.v ((W.cell? (Addr.mk (a.add (i * 6)).block ((a.add (i * 6)).off + 1 + 1) none)).getD (Value.tuple (Array.mk [])))).intOf),AV.v (Value.string (AV.v ((W.cell? (Addr.mk (a.add (i * 6)).block ((a.add (i * 6)).off + 1 + 2) none)).getD (Value.tuple (Array.mk [])))).strOf),AV.v ((W.cell? (Addr.mk (a.add (i * 6)).block ((a.add (i * 6)).off + 1 + 3) none)).getD (Value.tuple (Array.mk []))),AV.v ((W.cell? (Addr.mk (a.add (i * 6)).block ((a.add (i * 6)).off + 1 + 4) none)).getD (Value.tuple (Array.mk [])))]) (AV.agg [z' r.k,z' r.n,s' r.t,AV.v (Value.slice r.la r.ll r.lc),AV.v (Value.slice r.ta r.tl r.tc)]))).a t'))).a (((Cnd.p True).a ((p' (VW [AV.agg [z' r.k,z' r.n,s' r.t,AV.v (Value.slice r.la r.ll r.lc),AV.v (Value.slice r.ta r.tl r.tc)]] [AV.agg [z' r.k,z' r.n,s' r.t,AV.v (Value.slice r.la r.ll r.lc),AV.v (Value.slice r.ta r.tl r.tc)]])).a t')).a (((p' (true = true)).a ((p' (true = true)).a ((p' (true = true)).a ((p' (true = true)).a ((p' ((0 + m * 6).ble (rowV encF R).length = true)).a ((p' (((m + 1) * 96).ble 140737488355328 = true)).a ((p' ((m + 1).ble 9223372036854775807 = true)).a ((p' ((List.take (m * 6) (List.drop 0 (rowV encF R))).length.beq (m * 6) = true)).a t')))))))).a (((p' (Wk (z' (IntKind.i64.wrap (Int.ofNat i + Int.ofNat 1))) (i' (i + 1)))).a t').a t')))))))) := by kernel_rfl
theorem oCpE_eq (W : World) (oa : Option Addr) (n c m : Nat) (R : List (ByteArray × Rv)) (P : Mem → Prop) (F : HP) : wLoop [] hCpE [] W fCp (loopN fCp 3) (tms 0 28 (aCp oa n c m n)) (oCp R P) [1000, 1001, 1100, 1101, 1102, 1103, 1104] [0, 3, 4] F = VT.leaf (AX.exit 0,[AV.v (Value.slice oa n c),AV.slice 1000 0 m 6 (Cp.lo m),i' n],28) [some (AO.cells (rowV encF R) 112),some (AO.any (frz P)),none,none,none,none,none] 1100 (((p' (Wk (b' (decide (Int.ofNat n < ↑n))) (AV.lit false))).a t').a t') := by kernel_rfl
def gCp : List AV → AP Nat := fun tmps => match getL tmps 3 with
  | .slice a _ _ _ _ => .ret a
  | _ => .fail "copy"
def nmCp (a : Nat) : Nat → Nat := fun k => match Nat.beq k 1000 with
  | true => a
  | false => k
def lCp (oa : Option Addr) (n c : Nat) (d : Nat) (f : Tf) : List AV → AP (AX × List AV) := mkL gCp (fun _ => True) (fun q => nmCp q) (fun _ => tms 0 28 (aCp oa n c 0 0)) (fun _ => [(1000, rF [])]) (fun _ => .leaf (.exit 0) (tms 0 28 [(3, sF 1000 n)]) [(1000, ownF md d f)])
theorem oCp_eq (W : World) (oa : Option Addr) (n c d : Nat) (f : Tf) (F : HP) : wRun [] noHints [(fCp, 3, loopN fCp 3, lCp oa n c d f)] W fCp [slV oa n c] [] [1100, 1101, 1102] F = VT.leaf (AV.slice 1101 0 n 6 (Cp.lo n)) [none,some (AO.own md fun b x => frz fun C => FAt C d (some (Addr.mk b 0 none)) f),none] 1102 ((p' ((fCp,3,loopN fCp 3,lCp oa n c d f).snd.snd.fst = (fCp,3,loopN fCp 3,lCp oa n c d f).snd.snd.fst)).a ((Cnd.p True).a ((p' (VW [AV.v (Value.slice oa n c),u',AV.v (Value.slice none 0 0),AV.slice 1100 0 0 6 (Cp.ex 0),i' 0,AV.slice 1100 0 0 6 (Cp.ex 0),u',u',u',u',u',u',u',u',u',u',u',u',u',u',u',u',u',u',u',u',u',u'] [AV.v (Value.slice oa n c),a',a',AV.slice 1100 0 0 6 (Cp.lo 0),i' 0,a',a',a',a',a',a',a',a',a',a',a',a',a',a',a',a',a',a',a',a',a',a',a'])).a ((p' (OW (AO.cells (rep [s' (ByteArray.mk (Array.mk [])),i' 0,i' 0,s' (ByteArray.mk (Array.mk [])),AV.v (Value.slice none 0 0),AV.v (Value.slice none 0 0)] 0) 112) (AO.cells [] 112))).a t')))) := by kernel_rfl
/-! CopyValue. -/
def cCp (oa : Option Addr) (n c d : Nat) (f : Tf) : List AV → Option (AP AV) := mkC (fun _ => .ret ()) (fun _ => True) (fun _ k => k) (fun _ => [slV oa n c]) (fun _ => []) (fun _ => .leaf .ret [sF 1000 n] [(1000, ownF md d f)])
def z0 : Rv := ⟨0, 0, ⟨⟨[]⟩⟩, none, 0, 0, none, 0, 0⟩
def oZ0 : AO := .cells (vmap z0.cells) tVl
def oCv (r : Rv) (x : AV) (R : List Rv) (P : Mem → Prop) : LH := [(1000, .cells (vmap r.cells) tVl), (1001, .cells [iv r.k, iv r.n, sv r.t, x, slV none 0 0] tVl), (1002, rV R), (1003, .any (frz P)), (1004, oZ0)]
def oC0 (r : Rv) : LH := [(1000, .cells (vmap r.cells) tVl), (1001, .cells [iv r.k, iv r.n, sv r.t, slV none 0 0, slV none 0 0] tVl), (1004, oZ0)]
def aCv (i : Nat) : List (Nat × AV) := [(1, .ptr 1000 0), (2, .ptr 1004 0), (3, .ptr 1001 0), (4, iv (Int.ofNat i))]
def hCv (i : Nat) (x : Rv) : ClaimT := hintL [(fCv, 3, 4, hv (.lit true)), (fCv, 5, 6, hv (aggR x)), (fCv, 4, 1, hv (iv (Int.ofNat (i + 1))))]
def hCvE : ClaimT := hintL [(fCv, 3, 4, hv (.lit false))]
theorem oV0Z_eq (W : World) (r : Rv) (a : Addr) (x : Rv) (d : Nat) (v : Tv) (nt : Nat) (F : HP) : wLoop [(fCv, cCz x d v nt)] (hCv 0 x) [] W fCv (loopN fCv 3) (tms 0 35 (aCv 0)) (oC0 { r with la := some a }) [1000, 1001, 1002, 1003, 1004, 1100, 1101, 1102, 1103, 1104] [1, 2, 3, 4] F = VT.leaf (AX.normal,[AV.ptr 1000 0,AV.ptr 1004 0,AV.ptr 1001 0,i' 1],35) [some (AO.cells [z' r.k,z' r.n,s' r.t,AV.v (Value.slice (some a) r.ll r.lc),AV.v (Value.slice r.ta r.tl r.tc)] 108),some (AO.cells [z' r.k,z' r.n,s' r.t,AV.slice 1102 0 1 5 (Cp.lo 1),AV.v (Value.slice none 0 0)] 108),none,none,some (AO.cells [i' 0,i' 0,s' (ByteArray.mk (Array.mk [])),AV.v (Value.slice none 0 0),AV.v (Value.slice none 0 0)] 108),some (AO.own md fun b x => frz fun C => FAt C d (some (Addr.mk b 0 none)) v.tab),some (AO.cells [z' x.k,z' x.n,s' x.t,AV.mt,AV.slice 1100 0 nt 6 (Cp.lo nt)] 108),some (AO.cells [z' x.k,z' x.n,s' x.t,AV.mt,AV.slice 1100 0 nt 6 (Cp.lo nt)] 108),none,none] 1103 (((p' (true = true)).a t').a (((p' (Wk (b' (decide (Int.ofNat 0 < ↑r.ll))) (AV.lit true))).a t').a (((p' (true = true)).a t').a (((p' (true = true)).a t').a (((p' (Nat.blt 0 r.ll = true)).a t').a (((p' (([0,1,2,3,4].all fun j => (W.cell? ((a.add 0).add j)).isSome) = true)).a ((p' ([AV.v ((W.cell? ((a.add 0).add 0)).getD (Value.tuple (Array.mk []))),AV.v ((W.cell? (Addr.mk (a.add 0).block ((a.add 0).off + 1) none)).getD (Value.tuple (Array.mk []))),AV.v ((W.cell? (Addr.mk (a.add 0).block ((a.add 0).off + 2) none)).getD (Value.tuple (Array.mk []))),AV.v ((W.cell? (Addr.mk (a.add 0).block ((a.add 0).off + 3) none)).getD (Value.tuple (Array.mk []))),AV.v ((W.cell? (Addr.mk (a.add 0).block ((a.add 0).off + 4) none)).getD (Value.tuple (Array.mk [])))] = [AV.v (Value.int IntKind.i64 (AV.v ((W.cell? ((a.add 0).add 0)).getD (Value.tuple (Array.mk [])))).intOf),AV.v (Value.int IntKind.i64 (AV.v ((W.cell? (Addr.mk (a.add 0).block ((a.add 0).off + 1) none)).getD (Value.tuple (Array.mk [])))).intOf),AV.v (Value.string (AV.v ((W.cell? (Addr.mk (a.add 0).block ((a.add 0).off + 2) none)).getD (Value.tuple (Array.mk [])))).strOf),AV.v ((W.cell? (Addr.mk (a.add 0).block ((a.add 0).off + 3) none)).getD (Value.tuple (Array.mk []))),AV.v ((W.cell? (Addr.mk (a.add 0).block ((a.add 0).off + 4) none)).getD (Value.tuple (Array.mk [])))])).a ((p' (Wk (AV.agg [AV.v (Value.int IntKind.i64 (AV.v ((W.cell? ((a.add 0).add 0)).getD (Value.tuple (Array.mk [])))).intOf),AV.v (Value.int IntKind.i64 (AV.v ((W.cell? (Addr.mk (a.add 0).block ((a.add 0).off + 1) none)).getD (Value.tuple (Array.mk [])))).intOf),AV.v (Value.string (AV.v ((W.cell? (Addr.mk (a.add 0).block ((a.add 0).off + 2) none)).getD (Value.tuple (Array.mk [])))).strOf),AV.v ((W.cell? (Addr.mk (a.add 0).block ((a.add 0).off + 3) none)).getD (Value.tuple (Array.mk []))),AV.v ((W.cell? (Addr.mk (a.add 0).block ((a.add 0).off + 4) none)).getD (Value.tuple (Array.mk [])))]) (AV.agg [z' x.k,z' x.n,s' x.t,AV.v (Value.slice x.la x.ll x.lc),AV.v (Value.slice x.ta x.tl x.tc)]))).a t'))).a (((Cnd.p True).a ((p' (VW [AV.agg [z' x.k,z' x.n,s' x.t,AV.v (Value.slice x.la x.ll x.lc),AV.v (Value.slice x.ta x.tl x.tc)]] [AV.agg [z' x.k,z' x.n,s' x.t,AV.v (Value.slice x.la x.ll x.lc),AV.v (Value.slice x.ta x.tl x.tc)]])).a t')).a (((p' (true = true)).a ((p' (true = true)).a ((p' (true = true)).a ((p' (true = true)).a ((p' (true = true)).a ((p' (true = true)).a t')))))).a (((p' (true = true)).a t').a (((p' (Wk (i' 1) (i' 1))).a t').a t')))))))))) := by kernel_rfl
theorem oV0N_eq (W : World) (r : Rv) (a : Addr) (x : Rv) (d : Nat) (v : Tv) (nl nt : Nat) (F : HP) : wLoop [(fCv, cCn x d v nl nt)] (hCv 0 x) [] W fCv (loopN fCv 3) (tms 0 35 (aCv 0)) (oC0 { r with la := some a }) [1000, 1001, 1002, 1003, 1004, 1100, 1101, 1102, 1103, 1104] [1, 2, 3, 4] F = VT.leaf (AX.normal,[AV.ptr 1000 0,AV.ptr 1004 0,AV.ptr 1001 0,i' 1],35) [some (AO.cells [z' r.k,z' r.n,s' r.t,AV.v (Value.slice (some a) r.ll r.lc),AV.v (Value.slice r.ta r.tl r.tc)] 108),some (AO.cells [z' r.k,z' r.n,s' r.t,AV.slice 1103 0 1 5 (Cp.lo 1),AV.v (Value.slice none 0 0)] 108),none,none,some (AO.cells [i' 0,i' 0,s' (ByteArray.mk (Array.mk [])),AV.v (Value.slice none 0 0),AV.v (Value.slice none 0 0)] 108),some (AO.own md fun b x => frz fun C => LAt C d (some (Addr.mk b 0 none)) v.list),some (AO.own md fun b x => frz fun C => FAt C d (some (Addr.mk b 0 none)) v.tab),some (AO.cells [z' x.k,z' x.n,s' x.t,AV.slice 1100 0 nl 5 (Cp.lo nl),AV.slice 1101 0 nt 6 (Cp.lo nt)] 108),some (AO.cells [z' x.k,z' x.n,s' x.t,AV.slice 1100 0 nl 5 (Cp.lo nl),AV.slice 1101 0 nt 6 (Cp.lo nt)] 108),none] 1104 (((p' (true = true)).a t').a (((p' (Wk (b' (decide (Int.ofNat 0 < ↑r.ll))) (AV.lit true))).a t').a (((p' (true = true)).a t').a (((p' (true = true)).a t').a (((p' (Nat.blt 0 r.ll = true)).a t').a (((p' (([0,1,2,3,4].all fun j => (W.cell? ((a.add 0).add j)).isSome) = true)).a ((p' ([AV.v ((W.cell? ((a.add 0).add 0)).getD (Value.tuple (Array.mk []))),AV.v ((W.cell? (Addr.mk (a.add 0).block ((a.add 0).off + 1) none)).getD (Value.tuple (Array.mk []))),AV.v ((W.cell? (Addr.mk (a.add 0).block ((a.add 0).off + 2) none)).getD (Value.tuple (Array.mk []))),AV.v ((W.cell? (Addr.mk (a.add 0).block ((a.add 0).off + 3) none)).getD (Value.tuple (Array.mk []))),AV.v ((W.cell? (Addr.mk (a.add 0).block ((a.add 0).off + 4) none)).getD (Value.tuple (Array.mk [])))] = [AV.v (Value.int IntKind.i64 (AV.v ((W.cell? ((a.add 0).add 0)).getD (Value.tuple (Array.mk [])))).intOf),AV.v (Value.int IntKind.i64 (AV.v ((W.cell? (Addr.mk (a.add 0).block ((a.add 0).off + 1) none)).getD (Value.tuple (Array.mk [])))).intOf),AV.v (Value.string (AV.v ((W.cell? (Addr.mk (a.add 0).block ((a.add 0).off + 2) none)).getD (Value.tuple (Array.mk [])))).strOf),AV.v ((W.cell? (Addr.mk (a.add 0).block ((a.add 0).off + 3) none)).getD (Value.tuple (Array.mk []))),AV.v ((W.cell? (Addr.mk (a.add 0).block ((a.add 0).off + 4) none)).getD (Value.tuple (Array.mk [])))])).a ((p' (Wk (AV.agg [AV.v (Value.int IntKind.i64 (AV.v ((W.cell? ((a.add 0).add 0)).getD (Value.tuple (Array.mk [])))).intOf),AV.v (Value.int IntKind.i64 (AV.v ((W.cell? (Addr.mk (a.add 0).block ((a.add 0).off + 1) none)).getD (Value.tuple (Array.mk [])))).intOf),AV.v (Value.string (AV.v ((W.cell? (Addr.mk (a.add 0).block ((a.add 0).off + 2) none)).getD (Value.tuple (Array.mk [])))).strOf),AV.v ((W.cell? (Addr.mk (a.add 0).block ((a.add 0).off + 3) none)).getD (Value.tuple (Array.mk []))),AV.v ((W.cell? (Addr.mk (a.add 0).block ((a.add 0).off + 4) none)).getD (Value.tuple (Array.mk [])))]) (AV.agg [z' x.k,z' x.n,s' x.t,AV.v (Value.slice x.la x.ll x.lc),AV.v (Value.slice x.ta x.tl x.tc)]))).a t'))).a (((Cnd.p True).a ((p' (VW [AV.agg [z' x.k,z' x.n,s' x.t,AV.v (Value.slice x.la x.ll x.lc),AV.v (Value.slice x.ta x.tl x.tc)]] [AV.agg [z' x.k,z' x.n,s' x.t,AV.v (Value.slice x.la x.ll x.lc),AV.v (Value.slice x.ta x.tl x.tc)]])).a t')).a (((p' (true = true)).a ((p' (true = true)).a ((p' (true = true)).a ((p' (true = true)).a ((p' (true = true)).a ((p' (true = true)).a t')))))).a (((p' (true = true)).a t').a (((p' (Wk (i' 1) (i' 1))).a t').a t')))))))))) := by kernel_rfl
theorem oV1Z_eq (W : World) (r : Rv) (a : Addr) (x : Rv) (d : Nat) (v : Tv) (nt m i : Nat) (R : List Rv) (P : Mem → Prop) (F : HP) : wLoop [(fCv, cCz x d v nt)] (hCv i x) [] W fCv (loopN fCv 3) (tms 0 35 (aCv i)) (oCv { r with la := some a } (sL 1002 m) R P) [1000, 1001, 1002, 1003, 1004, 1100, 1101, 1102, 1103, 1104] [1, 2, 3, 4] F = VT.leaf (AX.normal,[AV.ptr 1000 0,AV.ptr 1004 0,AV.ptr 1001 0,i' (i + 1)],35) [some (AO.cells [z' r.k,z' r.n,s' r.t,AV.v (Value.slice (some a) r.ll r.lc),AV.v (Value.slice r.ta r.tl r.tc)] 108),some (AO.cells [z' r.k,z' r.n,s' r.t,AV.slice 1102 0 (m + 1) 5 (Cp.lo (m + 1)),AV.v (Value.slice none 0 0)] 108),none,some (AO.any (frz P)),some (AO.cells [i' 0,i' 0,s' (ByteArray.mk (Array.mk [])),AV.v (Value.slice none 0 0),AV.v (Value.slice none 0 0)] 108),some (AO.own md fun b x => frz fun C => FAt C d (some (Addr.mk b 0 none)) v.tab),some (AO.cells [z' x.k,z' x.n,s' x.t,AV.mt,AV.slice 1100 0 nt 6 (Cp.lo nt)] 108),some (AO.cells (List.take (m * 5) (List.drop 0 (rowV encV R)) ++ [z' x.k,z' x.n,s' x.t,AV.mt,AV.slice 1100 0 nt 6 (Cp.lo nt)]) 108),none,none] 1103 (((p' (true = true)).a t').a (((p' (Wk (b' (decide (Int.ofNat i < ↑r.ll))) (AV.lit true))).a t').a (((p' (true = true)).a t').a (((p' (true = true)).a t').a (((p' (i.blt r.ll = true)).a t').a (((p' (([0,1,2,3,4].all fun j => (W.cell? ((a.add (i * 5)).add j)).isSome) = true)).a ((p' ([AV.v ((W.cell? ((a.add (i * 5)).add 0)).getD (Value.tuple (Array.mk []))),AV.v ((W.cell? (Addr.mk (a.add (i * 5)).block ((a.add (i * 5)).off + 1) none)).getD (Value.tuple (Array.mk []))),AV.v ((W.cell? (Addr.mk (a.add (i * 5)).block ((a.add (i * 5)).off + 2) none)).getD (Value.tuple (Array.mk []))),AV.v ((W.cell? (Addr.mk (a.add (i * 5)).block ((a.add (i * 5)).off + 3) none)).getD (Value.tuple (Array.mk []))),AV.v ((W.cell? (Addr.mk (a.add (i * 5)).block ((a.add (i * 5)).off + 4) none)).getD (Value.tuple (Array.mk [])))] = [AV.v (Value.int IntKind.i64 (AV.v ((W.cell? ((a.add (i * 5)).add 0)).getD (Value.tuple (Array.mk [])))).intOf),AV.v (Value.int IntKind.i64 (AV.v ((W.cell? (Addr.mk (a.add (i * 5)).block ((a.add (i * 5)).off + 1) none)).getD (Value.tuple (Array.mk [])))).intOf),AV.v (Value.string (AV.v ((W.cell? (Addr.mk (a.add (i * 5)).block ((a.add (i * 5)).off + 2) none)).getD (Value.tuple (Array.mk [])))).strOf),AV.v ((W.cell? (Addr.mk (a.add (i * 5)).block ((a.add (i * 5)).off + 3) none)).getD (Value.tuple (Array.mk []))),AV.v ((W.cell? (Addr.mk (a.add (i * 5)).block ((a.add (i * 5)).off + 4) none)).getD (Value.tuple (Array.mk [])))])).a ((p' (Wk (AV.agg [AV.v (Value.int IntKind.i64 (AV.v ((W.cell? ((a.add (i * 5)).add 0)).getD (Value.tuple (Array.mk [])))).intOf),AV.v (Value.int IntKind.i64 (AV.v ((W.cell? (Addr.mk (a.add (i * 5)).block ((a.add (i * 5)).off + 1) none)).getD (Value.tuple (Array.mk [])))).intOf),AV.v (Value.string (AV.v ((W.cell? (Addr.mk (a.add (i * 5)).block ((a.add (i * 5)).off + 2) none)).getD (Value.tuple (Array.mk [])))).strOf),AV.v ((W.cell? (Addr.mk (a.add (i * 5)).block ((a.add (i * 5)).off + 3) none)).getD (Value.tuple (Array.mk []))),AV.v ((W.cell? (Addr.mk (a.add (i * 5)).block ((a.add (i * 5)).off + 4) none)).getD (Value.tuple (Array.mk [])))]) (AV.agg [z' x.k,z' x.n,s' x.t,AV.v (Value.slice x.la x.ll x.lc),AV.v (Value.slice x.ta x.tl x.tc)]))).a t'))).a (((Cnd.p True).a ((p' (VW [AV.agg [z' x.k,z' x.n,s' x.t,AV.v (Value.slice x.la x.ll x.lc),AV.v (Value.slice x.ta x.tl x.tc)]] [AV.agg [z' x.k,z' x.n,s' x.t,AV.v (Value.slice x.la x.ll x.lc),AV.v (Value.slice x.ta x.tl x.tc)]])).a t')).a (((p' (true = true)).a ((p' (true = true)).a ((p' (true = true)).a ((p' (true = true)).a ((p' ((0 + m * 5).ble (rowV encV R).length = true)).a ((p' (((m + 1) * 80).ble 140737488355328 = true)).a ((p' ((m + 1).ble 9223372036854775807 = true)).a ((p' ((List.take (m * 5) (List.drop 0 (rowV encV R))).length.beq (m * 5) = true)).a t')))))))).a (((p' (true = true)).a t').a (((p' (Wk (z' (IntKind.i64.wrap (Int.ofNat i + Int.ofNat 1))) (i' (i + 1)))).a t').a t')))))))))) := by kernel_rfl
theorem oV1N_eq (W : World) (r : Rv) (a : Addr) (x : Rv) (d : Nat) (v : Tv) (nl nt m i : Nat) (R : List Rv) (P : Mem → Prop) (F : HP) : wLoop [(fCv, cCn x d v nl nt)] (hCv i x) [] W fCv (loopN fCv 3) (tms 0 35 (aCv i)) (oCv { r with la := some a } (sL 1002 m) R P) [1000, 1001, 1002, 1003, 1004, 1100, 1101, 1102, 1103, 1104] [1, 2, 3, 4] F = VT.leaf (AX.normal,[AV.ptr 1000 0,AV.ptr 1004 0,AV.ptr 1001 0,i' (i + 1)],35) [some (AO.cells [z' r.k,z' r.n,s' r.t,AV.v (Value.slice (some a) r.ll r.lc),AV.v (Value.slice r.ta r.tl r.tc)] 108),some (AO.cells [z' r.k,z' r.n,s' r.t,AV.slice 1103 0 (m + 1) 5 (Cp.lo (m + 1)),AV.v (Value.slice none 0 0)] 108),none,some (AO.any (frz P)),some (AO.cells [i' 0,i' 0,s' (ByteArray.mk (Array.mk [])),AV.v (Value.slice none 0 0),AV.v (Value.slice none 0 0)] 108),some (AO.own md fun b x => frz fun C => LAt C d (some (Addr.mk b 0 none)) v.list),some (AO.own md fun b x => frz fun C => FAt C d (some (Addr.mk b 0 none)) v.tab),some (AO.cells [z' x.k,z' x.n,s' x.t,AV.slice 1100 0 nl 5 (Cp.lo nl),AV.slice 1101 0 nt 6 (Cp.lo nt)] 108),some (AO.cells (List.take (m * 5) (List.drop 0 (rowV encV R)) ++ [z' x.k,z' x.n,s' x.t,AV.slice 1100 0 nl 5 (Cp.lo nl),AV.slice 1101 0 nt 6 (Cp.lo nt)]) 108),none] 1104 (((p' (true = true)).a t').a (((p' (Wk (b' (decide (Int.ofNat i < ↑r.ll))) (AV.lit true))).a t').a (((p' (true = true)).a t').a (((p' (true = true)).a t').a (((p' (i.blt r.ll = true)).a t').a (((p' (([0,1,2,3,4].all fun j => (W.cell? ((a.add (i * 5)).add j)).isSome) = true)).a ((p' ([AV.v ((W.cell? ((a.add (i * 5)).add 0)).getD (Value.tuple (Array.mk []))),AV.v ((W.cell? (Addr.mk (a.add (i * 5)).block ((a.add (i * 5)).off + 1) none)).getD (Value.tuple (Array.mk []))),AV.v ((W.cell? (Addr.mk (a.add (i * 5)).block ((a.add (i * 5)).off + 2) none)).getD (Value.tuple (Array.mk []))),AV.v ((W.cell? (Addr.mk (a.add (i * 5)).block ((a.add (i * 5)).off + 3) none)).getD (Value.tuple (Array.mk []))),AV.v ((W.cell? (Addr.mk (a.add (i * 5)).block ((a.add (i * 5)).off + 4) none)).getD (Value.tuple (Array.mk [])))] = [AV.v (Value.int IntKind.i64 (AV.v ((W.cell? ((a.add (i * 5)).add 0)).getD (Value.tuple (Array.mk [])))).intOf),AV.v (Value.int IntKind.i64 (AV.v ((W.cell? (Addr.mk (a.add (i * 5)).block ((a.add (i * 5)).off + 1) none)).getD (Value.tuple (Array.mk [])))).intOf),AV.v (Value.string (AV.v ((W.cell? (Addr.mk (a.add (i * 5)).block ((a.add (i * 5)).off + 2) none)).getD (Value.tuple (Array.mk [])))).strOf),AV.v ((W.cell? (Addr.mk (a.add (i * 5)).block ((a.add (i * 5)).off + 3) none)).getD (Value.tuple (Array.mk []))),AV.v ((W.cell? (Addr.mk (a.add (i * 5)).block ((a.add (i * 5)).off + 4) none)).getD (Value.tuple (Array.mk [])))])).a ((p' (Wk (AV.agg [AV.v (Value.int IntKind.i64 (AV.v ((W.cell? ((a.add (i * 5)).add 0)).getD (Value.tuple (Array.mk [])))).intOf),AV.v (Value.int IntKind.i64 (AV.v ((W.cell? (Addr.mk (a.add (i * 5)).block ((a.add (i * 5)).off + 1) none)).getD (Value.tuple (Array.mk [])))).intOf),AV.v (Value.string (AV.v ((W.cell? (Addr.mk (a.add (i * 5)).block ((a.add (i * 5)).off + 2) none)).getD (Value.tuple (Array.mk [])))).strOf),AV.v ((W.cell? (Addr.mk (a.add (i * 5)).block ((a.add (i * 5)).off + 3) none)).getD (Value.tuple (Array.mk []))),AV.v ((W.cell? (Addr.mk (a.add (i * 5)).block ((a.add (i * 5)).off + 4) none)).getD (Value.tuple (Array.mk [])))]) (AV.agg [z' x.k,z' x.n,s' x.t,AV.v (Value.slice x.la x.ll x.lc),AV.v (Value.slice x.ta x.tl x.tc)]))).a t'))).a (((Cnd.p True).a ((p' (VW [AV.agg [z' x.k,z' x.n,s' x.t,AV.v (Value.slice x.la x.ll x.lc),AV.v (Value.slice x.ta x.tl x.tc)]] [AV.agg [z' x.k,z' x.n,s' x.t,AV.v (Value.slice x.la x.ll x.lc),AV.v (Value.slice x.ta x.tl x.tc)]])).a t')).a (((p' (true = true)).a ((p' (true = true)).a ((p' (true = true)).a ((p' (true = true)).a ((p' ((0 + m * 5).ble (rowV encV R).length = true)).a ((p' (((m + 1) * 80).ble 140737488355328 = true)).a ((p' ((m + 1).ble 9223372036854775807 = true)).a ((p' ((List.take (m * 5) (List.drop 0 (rowV encV R))).length.beq (m * 5) = true)).a t')))))))).a (((p' (true = true)).a t').a (((p' (Wk (z' (IntKind.i64.wrap (Int.ofNat i + Int.ofNat 1))) (i' (i + 1)))).a t').a t')))))))))) := by kernel_rfl
theorem oVE0_eq (W : World) (r : Rv) (F : HP) : wLoop [] hCvE [] W fCv (loopN fCv 3) (tms 0 35 (aCv r.ll)) (oC0 r) [1000, 1001, 1002, 1003, 1004, 1100, 1101, 1102, 1103, 1104] [1, 2, 3, 4] F = VT.leaf (AX.exit 0,[AV.ptr 1000 0,AV.ptr 1004 0,AV.ptr 1001 0,i' r.ll],35) [some (AO.cells [z' r.k,z' r.n,s' r.t,AV.v (Value.slice r.la r.ll r.lc),AV.v (Value.slice r.ta r.tl r.tc)] 108),some (AO.cells [z' r.k,z' r.n,s' r.t,AV.v (Value.slice none 0 0),AV.v (Value.slice none 0 0)] 108),none,none,some (AO.cells [i' 0,i' 0,s' (ByteArray.mk (Array.mk [])),AV.v (Value.slice none 0 0),AV.v (Value.slice none 0 0)] 108),none,none,none,none,none] 1100 (((p' (true = true)).a t').a (((p' (Wk (b' (decide (Int.ofNat r.ll < ↑r.ll))) (AV.lit false))).a t').a t')) := by kernel_rfl
theorem oVE1_eq (W : World) (r : Rv) (m : Nat) (R : List Rv) (P : Mem → Prop) (F : HP) : wLoop [] hCvE [] W fCv (loopN fCv 3) (tms 0 35 (aCv r.ll)) (oCv r (sL 1002 m) R P) [1000, 1001, 1002, 1003, 1004, 1100, 1101, 1102, 1103, 1104] [1, 2, 3, 4] F = VT.leaf (AX.exit 0,[AV.ptr 1000 0,AV.ptr 1004 0,AV.ptr 1001 0,i' r.ll],35) [some (AO.cells [z' r.k,z' r.n,s' r.t,AV.v (Value.slice r.la r.ll r.lc),AV.v (Value.slice r.ta r.tl r.tc)] 108),some (AO.cells [z' r.k,z' r.n,s' r.t,AV.slice 1002 0 m 5 (Cp.lo m),AV.v (Value.slice none 0 0)] 108),some (AO.cells (rowV encV R) 108),some (AO.any (frz P)),some (AO.cells [i' 0,i' 0,s' (ByteArray.mk (Array.mk [])),AV.v (Value.slice none 0 0),AV.v (Value.slice none 0 0)] 108),none,none,none,none,none] 1100 (((p' (true = true)).a t').a (((p' (Wk (b' (decide (Int.ofNat r.ll < ↑r.ll))) (AV.lit false))).a t').a t')) := by kernel_rfl
def gCv : List AV → AP (Nat × Nat × Nat) := fun tmps => match getL tmps 1 with
  | .ptr a _ => match getL tmps 3 with
    | .ptr b _ => match getL tmps 2 with
      | .ptr c _ => .ret (a, b, c)
      | _ => .fail "copy value"
    | _ => .fail "copy value"
  | _ => .fail "copy value"
def nmCv (a b c : Nat) : Nat → Nat := fun k => match Nat.beq k 1000 with
  | true => a
  | false => match Nat.beq k 1001 with
    | true => b
    | false => match Nat.beq k 1004 with
      | true => c
      | false => k
def oEn (r : Rv) (d : Nat) (l : List Tv) : LH := [(1000, .cells (vmap r.cells) tVl), (1001, .cells [iv r.k, iv r.n, sv r.t, sL 1002 l.length, slV none 0 0] tVl), (1002, ownL md d l), (1004, oZ0)]
def lCz (r : Rv) : List AV → AP (AX × List AV) := mkL gCv (fun _ => True) (fun q => nmCv q.1 q.2.1 q.2.2) (fun _ => tms 0 35 (aCv 0)) (fun _ => oC0 r) (fun _ => .leaf (.exit 0) (tms 0 35 [(1, .ptr 1000 0), (2, .ptr 1004 0), (3, .ptr 1001 0)]) (oC0 r))
def lCn (r : Rv) (d : Nat) (l : List Tv) : List AV → AP (AX × List AV) := mkL gCv (fun _ => True) (fun q => nmCv q.1 q.2.1 q.2.2) (fun _ => tms 0 35 (aCv 0)) (fun _ => oC0 r) (fun _ => .leaf (.exit 0) (tms 0 35 [(1, .ptr 1000 0), (2, .ptr 1004 0), (3, .ptr 1001 0)]) (oEn r d l))
theorem oVz_eq (W : World) (r : Rv) (d : Nat) (f : Tf) (F : HP) : wRun [(fCp, cCp r.ta r.tl r.tc d f)] noHints [(fCv, 3, loopN fCv 3, lCz r)] W fCv [aggR r] [] [1100, 1101, 1102, 1103, 1104, 1105, 1106, 1107, 1108, 1109] F = VT.leaf (AV.agg [z' r.k,z' r.n,s' r.t,AV.v (Value.slice none 0 0),AV.slice 1106 0 r.tl 6 (Cp.lo r.tl)]) [none,none,none,some (AO.cells [z' r.k,z' r.n,s' r.t,AV.v (Value.slice r.la r.ll r.lc),AV.v (Value.slice r.ta r.tl r.tc)] 108),some (AO.cells [z' r.k,z' r.n,s' r.t,AV.v (Value.slice none 0 0),AV.slice 1106 0 r.tl 6 (Cp.lo r.tl)] 108),some (AO.cells [z' r.k,z' r.n,s' r.t,AV.v (Value.slice none 0 0),AV.slice 1106 0 r.tl 6 (Cp.lo r.tl)] 108),some (AO.own md fun b x => frz fun C => FAt C d (some (Addr.mk b 0 none)) f),none,none,none] 1107 (((p' (true = true)).a ((p' (z' r.k = z' r.k)).a t')).a (((p' (true = true)).a ((p' (z' r.n = z' r.n)).a t')).a (((p' (true = true)).a ((p' (s' r.t = s' r.t)).a t')).a (((p' (true = true)).a t').a ((p' ((fCv,3,loopN fCv 3,lCz r).snd.snd.fst = (fCv,3,loopN fCv 3,lCz r).snd.snd.fst)).a ((Cnd.p True).a ((p' (VW [AV.agg [z' r.k,z' r.n,s' r.t,AV.v (Value.slice r.la r.ll r.lc),AV.v (Value.slice r.ta r.tl r.tc)],AV.ptr 1100 0,AV.ptr 1101 0,AV.ptr 1102 0,i' 0,AV.ptr 1100 0,z' r.k,AV.ptr 1100 1,z' r.n,AV.ptr 1100 2,s' r.t,AV.agg [z' r.k,z' r.n,s' r.t,AV.v (Value.slice none 0 0),AV.v (Value.slice none 0 0)],u',u',u',u',u',u',u',u',u',u',u',u',u',u',u',u',u',u',u',u',u',u',u'] [a',AV.ptr 1100 0,AV.ptr 1101 0,AV.ptr 1102 0,i' 0,a',a',a',a',a',a',a',a',a',a',a',a',a',a',a',a',a',a',a',a',a',a',a',a',a',a',a',a',a',a'])).a ((p' (OW (AO.cells [z' r.k,z' r.n,s' r.t,AV.v (Value.slice r.la r.ll r.lc),AV.v (Value.slice r.ta r.tl r.tc)] 108) (AO.cells [z' r.k,z' r.n,s' r.t,AV.v (Value.slice r.la r.ll r.lc),AV.v (Value.slice r.ta r.tl r.tc)] 108))).a ((p' (OW (AO.cells [z' r.k,z' r.n,s' r.t,AV.v (Value.slice none 0 0),AV.v (Value.slice none 0 0)] 108) (AO.cells [z' r.k,z' r.n,s' r.t,AV.v (Value.slice none 0 0),AV.v (Value.slice none 0 0)] 108))).a ((p' (OW (AO.cells [i' 0,i' 0,s' (ByteArray.mk (Array.mk [])),AV.v (Value.slice none 0 0),AV.v (Value.slice none 0 0)] 108) (AO.cells [i' 0,i' 0,s' (ByteArray.mk (Array.mk [])),AV.v (Value.slice none 0 0),AV.v (Value.slice none 0 0)] 108))).a (((p' (true = true)).a t').a (((Cnd.p True).a ((p' (VW [AV.v (Value.slice r.ta r.tl r.tc)] [AV.v (Value.slice r.ta r.tl r.tc)])).a t')).a (((p' (true = true)).a t').a (((p' (true = true)).a ((p' ([z' r.k,z' r.n,s' r.t,AV.v (Value.slice none 0 0),AV.slice 1106 0 r.tl 6 (Cp.lo r.tl)] = [z' r.k,z' r.n,s' r.t,AV.v (Value.slice none 0 0),AV.slice 1106 0 r.tl 6 (Cp.lo r.tl)])).a t')).a (((p' (true = true)).a t').a ((p' (true = true)).a ((p' ([z' r.k,z' r.n,s' r.t,AV.v (Value.slice none 0 0),AV.slice 1106 0 r.tl 6 (Cp.lo r.tl)] = [z' r.k,z' r.n,s' r.t,AV.v (Value.slice none 0 0),AV.slice 1106 0 r.tl 6 (Cp.lo r.tl)])).a t'))))))))))))))))) := by kernel_rfl
theorem oVn_eq (W : World) (r : Rv) (d : Nat) (l : List Tv) (f : Tf) (F : HP) : wRun [(fCp, cCp r.ta r.tl r.tc d f)] noHints [(fCv, 3, loopN fCv 3, lCn r d l)] W fCv [aggR r] [] [1100, 1101, 1102, 1103, 1104, 1105, 1106, 1107, 1108, 1109] F = VT.leaf (AV.agg [z' r.k,z' r.n,s' r.t,AV.slice 1105 0 l.length 5 (Cp.lo l.length),AV.slice 1107 0 r.tl 6 (Cp.lo r.tl)]) [none,none,none,some (AO.cells [z' r.k,z' r.n,s' r.t,AV.v (Value.slice r.la r.ll r.lc),AV.v (Value.slice r.ta r.tl r.tc)] 108),some (AO.cells [z' r.k,z' r.n,s' r.t,AV.slice 1105 0 l.length 5 (Cp.lo l.length),AV.slice 1107 0 r.tl 6 (Cp.lo r.tl)] 108),some (AO.own md fun b x => frz fun C => LAt C d (some (Addr.mk b 0 none)) l),some (AO.cells [z' r.k,z' r.n,s' r.t,AV.slice 1105 0 l.length 5 (Cp.lo l.length),AV.slice 1107 0 r.tl 6 (Cp.lo r.tl)] 108),some (AO.own md fun b x => frz fun C => FAt C d (some (Addr.mk b 0 none)) f),none,none] 1108 (((p' (true = true)).a ((p' (z' r.k = z' r.k)).a t')).a (((p' (true = true)).a ((p' (z' r.n = z' r.n)).a t')).a (((p' (true = true)).a ((p' (s' r.t = s' r.t)).a t')).a (((p' (true = true)).a t').a ((p' ((fCv,3,loopN fCv 3,lCn r d l).snd.snd.fst = (fCv,3,loopN fCv 3,lCn r d l).snd.snd.fst)).a ((Cnd.p True).a ((p' (VW [AV.agg [z' r.k,z' r.n,s' r.t,AV.v (Value.slice r.la r.ll r.lc),AV.v (Value.slice r.ta r.tl r.tc)],AV.ptr 1100 0,AV.ptr 1101 0,AV.ptr 1102 0,i' 0,AV.ptr 1100 0,z' r.k,AV.ptr 1100 1,z' r.n,AV.ptr 1100 2,s' r.t,AV.agg [z' r.k,z' r.n,s' r.t,AV.v (Value.slice none 0 0),AV.v (Value.slice none 0 0)],u',u',u',u',u',u',u',u',u',u',u',u',u',u',u',u',u',u',u',u',u',u',u'] [a',AV.ptr 1100 0,AV.ptr 1101 0,AV.ptr 1102 0,i' 0,a',a',a',a',a',a',a',a',a',a',a',a',a',a',a',a',a',a',a',a',a',a',a',a',a',a',a',a',a',a'])).a ((p' (OW (AO.cells [z' r.k,z' r.n,s' r.t,AV.v (Value.slice r.la r.ll r.lc),AV.v (Value.slice r.ta r.tl r.tc)] 108) (AO.cells [z' r.k,z' r.n,s' r.t,AV.v (Value.slice r.la r.ll r.lc),AV.v (Value.slice r.ta r.tl r.tc)] 108))).a ((p' (OW (AO.cells [z' r.k,z' r.n,s' r.t,AV.v (Value.slice none 0 0),AV.v (Value.slice none 0 0)] 108) (AO.cells [z' r.k,z' r.n,s' r.t,AV.v (Value.slice none 0 0),AV.v (Value.slice none 0 0)] 108))).a ((p' (OW (AO.cells [i' 0,i' 0,s' (ByteArray.mk (Array.mk [])),AV.v (Value.slice none 0 0),AV.v (Value.slice none 0 0)] 108) (AO.cells [i' 0,i' 0,s' (ByteArray.mk (Array.mk [])),AV.v (Value.slice none 0 0),AV.v (Value.slice none 0 0)] 108))).a (((p' (true = true)).a t').a (((Cnd.p True).a ((p' (VW [AV.v (Value.slice r.ta r.tl r.tc)] [AV.v (Value.slice r.ta r.tl r.tc)])).a t')).a (((p' (true = true)).a t').a (((p' (true = true)).a ((p' ([z' r.k,z' r.n,s' r.t,AV.slice 1105 0 l.length 5 (Cp.lo l.length),AV.slice 1107 0 r.tl 6 (Cp.lo r.tl)] = [z' r.k,z' r.n,s' r.t,AV.slice 1105 0 l.length 5 (Cp.lo l.length),AV.slice 1107 0 r.tl 6 (Cp.lo r.tl)])).a t')).a (((p' (true = true)).a t').a ((p' (true = true)).a ((p' ([z' r.k,z' r.n,s' r.t,AV.slice 1105 0 l.length 5 (Cp.lo l.length),AV.slice 1107 0 r.tl 6 (Cp.lo r.tl)] = [z' r.k,z' r.n,s' r.t,AV.slice 1105 0 l.length 5 (Cp.lo l.length),AV.slice 1107 0 r.tl 6 (Cp.lo r.tl)])).a t'))))))))))))))))) := by kernel_rfl
end
end Go.Proofs.Ytfledabgdcnkfaa.Tree

/- A row's last value, with what lies behind it, is taken in. No program. -/
set_option linter.unusedVariables false
set_option linter.unusedSimpArgs false
namespace Go.Proofs.Ytfledabgdcnkfaa.Tree
open Go Go.RowKit Go.Proofs.Ytfledabgdcnkfaa.Eng Go.Proofs.Ytfledabgdcnkfaa.Kit
noncomputable section
theorem cells_split {N : Names} {i : Nat} {a b : List AV} {e : TypeId} {D : Nat → Prop} {w : World} (h : OR N i (.cells (a ++ b) e) D w) : ∃ yb, VRs N b yb ∧ ∀ c : List AV, c.length = b.length → VRs N c yb → OR N i (.cells (a ++ c) e) D w := by
  obtain ⟨l, arr, fz, h1, h2, h3, h4, h5, h6, h7, h8⟩ := h
  obtain ⟨ys, hys⟩ : ∃ ys, (arr.toList.drop l.off).take (a ++ b).length = ys := ⟨_, rfl⟩
  have key : ∀ (a : List AV) (ys : List Value), VRs N (a ++ b) ys → ∃ yb, VRs N b yb ∧ ∀ c : List AV, VRs N c yb → VRs N (a ++ c) ys := by
    intro a
    induction a with
    | nil => exact fun ys hy => ⟨ys, hy, fun c hc => hc⟩
    | cons x a ih =>
      intro ys hy
      obtain ⟨y, r, q1, q2, rfl⟩ := hy
      obtain ⟨yb, q3, q4⟩ := ih r q2
      exact ⟨yb, q3, fun c hc => ⟨y, r, q1, q4 c hc, rfl⟩⟩
  rw [hys] at h7
  obtain ⟨yb, q3, q4⟩ := key a ys h7
  refine ⟨yb, q3, fun c hc hv => ⟨l, arr, fz, h1, h2, h3, h4, ?_, h6, ?_, h8⟩⟩
  · rw [List.length_append, hc, ← List.length_append]; exact h5
  · rw [List.length_append, hc, ← List.length_append, hys]; exact q4 c hv
theorem st_abs {W0 w : World} {F : HP} {N : Names} {H : LH} {vs : List AV} {ys : List Value} (hl : namesLt 1100 H = true) (hs : St W0 F N H vs ys w) (i k : Nat) (S : List Nat) (hik : i ≠ k) (hiS : i ∉ S) (hkS : k ∉ S) {a b : List AV} {e : TypeId} {ok : AO}
    (hi : getO H i = some (.cells (a ++ b) e)) (hk : getO H k = some ok) (hkl : ∀ N1 D w, OR N1 k ok D w → ∀ b, D b → b < w.heap.size) (Q : List Value → Mem → Prop)
    (core : ∀ (N1 : Names) (D : Nat → Nat → Prop), (∀ n o, getO H n = some o → OR N1 n o (D n) w) → ∀ yb, VRs N1 b yb → ∃ c : List Value, c.length = b.length ∧ VRs N1 (vmap c) yb ∧ Q c (memOn (fun x => D k x ∨ ∃ j, j ∈ S ∧ (∃ o, getO H j = some o) ∧ D j x) w)) :
    ∃ c, (∃ C, Q c C) ∧ ∀ (H' : LH) (Q' : Mem → Prop), namesLt 1100 H' = true → getO H' i = some (.cells (a ++ vmap c) e) → getO H' k = some (.any (frz Q')) → (∀ C, Q c C → Q' C) → (∀ n o, n ≠ i → n ≠ k → getO H' n = some o → n ∉ S ∧ getO H n = some o) →
      AV.cls (fun n => Nat.blt n 1000 || (getO H' n).isSome) vs → (∀ x ∈ H', x.2.cl (fun n => Nat.blt n 1000 || (getO H' n).isSome)) → St W0 F N H' vs ys w := by
  obtain ⟨N1, g1, g2, r, hvs⟩ := hs
  obtain ⟨D0, D, h1, h2, h3⟩ := r.sat
  have hf : ∀ n, (heapOf H).find n = getO H n := find_heapOf (lt_lim hl)
  have h2' : ∀ n o, getO H n = some o → OR N1 n o (D n) w ∧ ∀ b, D n b → ¬ D0 b := fun n o hn => h2 n o (by rw [hf]; exact hn)
  obtain ⟨yb, q1, q2⟩ := cells_split (h2' i _ hi).1
  obtain ⟨c, c1, c2, c3⟩ := core N1 D (fun n o hn => (h2' n o hn).1) yb q1
  refine ⟨c, ⟨_, c3⟩, fun H' Q' hl' hi' hk' hQ hn hv ho => st_restrict hl' g1 (rep_absorb hl hl' r h1 h2' (fun n m o o' hn hm => h3 n m o o' (by rw [hf]; exact hn) (by rw [hf]; exact hm)) k (fun n => n ∈ S) hkS hk (fun n o' hnk hno => ?_) fun o' hko => ?_) hvs hv ho⟩
  · by_cases hni : n = i
    · subst hni
      rw [hi'] at hno
      cases hno
      exact ⟨hiS, _, hi, q2 _ (by rw [show (vmap c).length = c.length by simp [vmap]]; exact c1) c2⟩
    · obtain ⟨a1, a2⟩ := hn n o' hni hnk hno
      exact ⟨a1, o', a2, (h2' n o' a2).1⟩
  · rw [hk'] at hko
    cases hko
    refine ⟨hQ _ c3, fun b hb => ?_⟩
    rcases hb with hb | ⟨j, _, ⟨oj, hj⟩, hb⟩
    · exact (h2' k _ hk).1.lt b hb
    · exact (h2' j _ hj).1.lt b hb
theorem five {N : Names} {k n : Int} {t : ByteArray} {LV TV : AV} {yb : List Value} (h : VRs N [iv k, iv n, sv t, LV, TV] yb) : ∃ yl yt, VR N LV yl ∧ VR N TV yt ∧ yb = [.int .i64 k, .int .i64 n, .string t, yl, yt] := by
  obtain ⟨y0, r0, a0, h, rfl⟩ := h
  obtain ⟨y1, r1, a1, h, rfl⟩ := h
  obtain ⟨y2, r2, a2, h, rfl⟩ := h
  obtain ⟨y3, r3, a3, h, rfl⟩ := h
  obtain ⟨y4, r4, a4, h, rfl⟩ := h
  have h : r4 = [] := h
  subst h
  have a0 : y0 = .int .i64 k := VR_v.1 a0
  have a1 : y1 = .int .i64 n := VR_v.1 a1
  have a2 : y2 = .string t := VR_v.1 a2
  subst a0 a1 a2
  exact ⟨y3, y4, a3, a4, rfl⟩
def QV (d : Nat) (v : Tv) (c : List Value) (C : Mem) : Prop := ∃ r : Rv, c = r.cells ∧ VAt C (d + 1) v r
theorem cells_inj {r r' : Rv} (h : r.cells = r'.cells) : r = r' := by
  obtain ⟨a, b, c, d, e, f, g, i, j⟩ := r
  obtain ⟨a', b', c', d', e', f', g', i', j'⟩ := r'
  simp only [Rv.cells, List.cons.injEq, Value.int.injEq, Value.string.injEq, Value.slice.injEq, true_and, and_true] at h
  obtain ⟨rfl, rfl, rfl, ⟨rfl, rfl, rfl⟩, rfl, rfl, rfl⟩ := h
  rfl
theorem core_val {N1 : Names} {H : LH} {D : Nat → Nat → Prop} {w : World} {m : Md} {d : Nat} {v : Tv} {x : Rv} {LV : AV} {kt : Nat} {DD : Nat → Prop} (hx : x.k = v.kind ∧ x.n = v.num ∧ x.t = v.text)
    (hD : ∀ n o, getO H n = some o → OR N1 n o (D n) w) (hkt : getO H kt = some (ownF m d v.tab)) (hDt : ∀ b, D kt b → DD b)
    (hLV : ∀ y, VR N1 LV y → ∃ la lc, y = .slice la v.list.length lc ∧ LAt (memOn DD w) d la v.list) :
    ∀ yb, VRs N1 [iv x.k, iv x.n, sv x.t, LV, .slice kt 0 v.tab.length 6 (.lo v.tab.length)] yb → ∃ c : List Value, c.length = 5 ∧ VRs N1 (vmap c) yb ∧ QV d v c (memOn DD w) := by
  intro yb hy
  obtain ⟨yl, yt, a1, a2, rfl⟩ := five hy
  obtain ⟨la, lc, rfl, b1⟩ := hLV yl a1
  obtain ⟨ta, tc, rfl, b2⟩ := ownF_raw (hD kt _ hkt) a2
  refine ⟨_, rfl, VRs.vmap _, ⟨x.k, x.n, x.t, la, v.list.length, lc, ta, v.tab.length, tc⟩, rfl, ⟨hx.1, hx.2.1, hx.2.2, rfl, rfl⟩, b1, b2.mono (memOn_mono hDt)⟩
theorem mt_raw {N1 : Names} {C : Mem} {d : Nat} {l : List Tv} (hl : l = []) : ∀ y, VR N1 .mt y → ∃ la lc, y = .slice la l.length lc ∧ LAt C d la l := by
  intro y hy
  subst hl
  simp only [VR] at hy
  obtain ⟨a, rfl⟩ := hy
  exact ⟨_, _, rfl, LOf.nil _⟩
theorem list_raw {N1 : Names} {H : LH} {D : Nat → Nat → Prop} {w : World} {m : Md} {d kl : Nat} {l : List Tv} {DD : Nat → Prop} (hD : ∀ n o, getO H n = some o → OR N1 n o (D n) w) (hkl : getO H kl = some (ownL m d l)) (hDl : ∀ b, D kl b → DD b) :
    ∀ y, VR N1 (.slice kl 0 l.length 5 (.lo l.length)) y → ∃ la lc, y = .slice la l.length lc ∧ LAt (memOn DD w) d la l := by
  intro y hy
  obtain ⟨la, lc, e, h⟩ := ownL_raw (hD kl _ hkl) hy
  exact ⟨la, lc, e, h.mono (memOn_mono hDl)⟩
/-! A row that is whole, with what lies behind it. -/
theorem cells_mem {N : Names} {i : Nat} {cs : List Value} {e : TypeId} {D : Nat → Prop} {w : World} (h : OR N i (.cells (vmap cs) (2 * e)) D w) : ∃ l, N i = some l ∧ l.off = 0 ∧ ∀ j u, cs[j]? = some u → memOn D w ⟨l.blk, j, none⟩ = some u := by
  obtain ⟨l, arr, fz, h1, h2, h3, h4, h5, h6, h7, h8⟩ := h
  obtain ⟨z, _⟩ := h8 (Nat.mul_mod_right 2 e)
  refine ⟨l, h1, z, fun j u hj => ?_⟩
  rw [memOn_at ((h2 _).2 rfl)]
  have h7 := VRs.of_vmap h7
  have hlen : (vmap cs).length = cs.length := by simp [vmap]
  rw [z, List.drop_zero, hlen] at h7
  unfold World.cell?
  simp only [h3]
  have hj' := (List.getElem?_eq_some_iff.1 hj).1
  have : (arr.toList.take cs.length)[j]? = some u := by rw [h7]; exact hj
  rw [List.getElem?_take_of_lt hj'] at this
  simpa using this
theorem pieces {α : Type} {f : α → List Value} {m : Nat} (hf : ∀ x, (f x).length = m) : ∀ (l : List α) (k j : Nat) (x : α), l[k]? = some x → j < m → (l.flatMap f)[k * m + j]? = (f x)[j]?
  | [], k, j, x, h, _ => by simp at h
  | y :: l, 0, j, x, h, hj => by
    simp only [List.getElem?_cons_zero, Option.some.injEq] at h
    subst h
    rw [List.flatMap_cons, Nat.zero_mul, Nat.zero_add, List.getElem?_append_left (by rw [hf]; exact hj)]
  | y :: l, k + 1, j, x, h, hj => by
    rw [List.getElem?_cons_succ] at h
    rw [List.flatMap_cons, List.getElem?_append_right (by rw [hf, Nat.succ_mul]; omega), hf, show (k + 1) * m + j - m = k * m + j from by rw [Nat.succ_mul]; omega]
    exact pieces hf l k j x h hj
theorem addr_at (b n j : Nat) : ((Addr.mk b 0 none).add n).add j = Addr.mk b (n + j) none := by
  unfold Addr.add
  split
  · rename_i hj
    subst hj
    split
    · rename_i hn; subst hn; rfl
    · show Addr.mk b (0 + n) none = _; rw [Nat.zero_add, Nat.add_zero]
  · split
    · rename_i hn; subst hn; rfl
    · show Addr.mk b (0 + n + j) none = _; rw [Nat.zero_add]
theorem row_mem {α : Type} {f : α → List Value} {m : Nat} (hf : ∀ x, (f x).length = m) {N : Names} {i : Nat} {R : List α} {e : TypeId} {D : Nat → Prop} {w : World} (h : OR N i (.cells (rowV f R) (2 * e)) D w) :
    ∃ l, N i = some l ∧ l.off = 0 ∧ ∀ k x, R[k]? = some x → Cells (memOn D w) ((Addr.mk l.blk 0 none).add (k * m)) (f x) := by
  obtain ⟨l, h1, h2, h3⟩ := cells_mem (cs := R.flatMap f) h
  refine ⟨l, h1, h2, fun k x hx j u hu => ?_⟩
  rw [addr_at]
  refine h3 _ _ ?_
  rw [pieces hf R k j x hx (by rw [← hf x]; exact (List.getElem?_eq_some_iff.1 hu).1)]
  exact hu
theorem st_whole {W0 w : World} {F : HP} {N : Names} {H H' : LH} {vs : List AV} {ys : List Value} (hl : namesLt 1100 H = true) (hl' : namesLt 1100 H' = true) (hs : St W0 F N H vs ys w) (i k : Nat) (hik : i ≠ k) {oi o2 : AO} {P : Mem → Prop}
    (hi : getO H i = some oi) (hk : getO H k = some (.any (frz P))) (hi' : getO H' i = some o2) (hk' : getO H' k = none) (hn : ∀ n o, n ≠ i → n ≠ k → getO H' n = some o → getO H n = some o)
    (core : ∀ N1 Di Dk, OR N1 i oi Di w → P (memOn Dk w) → (∀ b, Dk b → b < w.heap.size) → (∀ b, Di b → ¬ Dk b) → OR N1 i o2 (fun x => Di x ∨ Dk x) w)
    (hv : AV.cls (fun n => Nat.blt n 1000 || (getO H' n).isSome) vs) (ho : ∀ x ∈ H', x.2.cl (fun n => Nat.blt n 1000 || (getO H' n).isSome)) : St W0 F N H' vs ys w := by
  obtain ⟨N1, g1, g2, r, hvs⟩ := hs
  obtain ⟨D0, D, h1, h2, h3⟩ := r.sat
  have hf : ∀ n, (heapOf H).find n = getO H n := find_heapOf (lt_lim hl)
  have h2' : ∀ n o, getO H n = some o → OR N1 n o (D n) w ∧ ∀ b, D n b → ¬ D0 b := fun n o hn => h2 n o (by rw [hf]; exact hn)
  have h3' : ∀ n m o o', getO H n = some o → getO H m = some o' → n ≠ m → ∀ b, D n b → ¬ D m b := fun n m o o' hn hm => h3 n m o o' (by rw [hf]; exact hn) (by rw [hf]; exact hm)
  refine st_restrict hl' g1 (rep_absorb hl hl' r h1 h2' h3' i (fun n => n = k) hik hi (fun n o' hni hno => ?_) fun o' hio => ?_) hvs hv ho
  · have hnk : n ≠ k := fun e => by rw [e, hk'] at hno; cases hno
    have := hn n o' hni hnk hno
    exact ⟨hnk, o', this, (h2' n o' this).1⟩
  · rw [hi'] at hio
    cases hio
    have hkk := (h2' k _ hk).1
    have := core N1 (D i) (D k) (h2' i _ hi).1 hkk.1 hkk.2 (h3' i k _ _ hi hk hik)
    have e : (fun x => D i x ∨ ∃ j, j = k ∧ (∃ o, getO H j = some o) ∧ D j x) = fun x => D i x ∨ D k x := by
      funext x
      refine propext ⟨?_, ?_⟩
      · rintro (h | ⟨j, rfl, _, h⟩)
        · exact .inl h
        · exact .inr h
      · rintro (h | h)
        · exact .inl h
        · exact .inr ⟨k, rfl, ⟨_, hk⟩, h⟩
    rw [e]
    exact this
theorem encV_len (r : Rv) : (encV r).length = 5 := rfl
theorem encF_len (p : ByteArray × Rv) : (encF p).length = 6 := rfl
theorem whole_L {m : Md} {d : Nat} {R : List Rv} {l : List Tv} {e : TypeId} {N1 : Names} {i : Nat} {Di Dk : Nat → Prop} {w : World} (hb : l.length * 80 ≤ big) (h : OR N1 i (.cells (rowV encV R) (2 * e)) Di w) (hp : PV d R l (memOn Dk w)) (hlt : ∀ b, Dk b → b < w.heap.size) : OR N1 i (ownL m d l) (fun x => Di x ∨ Dk x) w := by
  have hDi := h.lt
  obtain ⟨lo, h1, h2, h3⟩ := row_mem encV_len h
  refine ⟨lo, h1, h2, ⟨hb, fun k x hx => ?_⟩, fun b hb => hb.elim (hDi b) (hlt b)⟩
  obtain ⟨r, q1, q2⟩ := hp.2 k x hx
  exact ⟨_, r, rfl, (h3 k r q1).mono (memOn_mono fun b hb => .inl hb), q2.mono (memOn_mono fun b hb => .inr hb)⟩
theorem whole_F {m : Md} {d : Nat} {R : List (ByteArray × Rv)} {f : Tf} {e : TypeId} {N1 : Names} {i : Nat} {Di Dk : Nat → Prop} {w : World} (hb : f.length * 96 ≤ big) (h : OR N1 i (.cells (rowV encF R) (2 * e)) Di w) (hp : PF d R f (memOn Dk w)) (hlt : ∀ b, Dk b → b < w.heap.size) : OR N1 i (ownF m d f) (fun x => Di x ∨ Dk x) w := by
  have hDi := h.lt
  obtain ⟨lo, h1, h2, h3⟩ := row_mem encF_len h
  refine ⟨lo, h1, h2, ⟨hb, fun k nm x hx => ?_⟩, fun b hb => hb.elim (hDi b) (hlt b)⟩
  obtain ⟨r, q1, q2⟩ := hp.2 k nm x hx
  exact ⟨_, r, rfl, (h3 k (nm, r) q1).mono (memOn_mono fun b hb => .inl hb), q2.mono (memOn_mono fun b hb => .inr hb)⟩
end
end Go.Proofs.Ytfledabgdcnkfaa.Tree

/- A table as new memory: Copy: its loop. -/
set_option linter.unusedVariables false
set_option linter.unusedSimpArgs false
set_option maxRecDepth 100000
namespace Go.Proofs.Ytfledabgdcnkfaa.Tree
open Go Go.RowKit Go.Proofs.Ytfledabgdcnkfaa.Eng Go.Proofs.Ytfledabgdcnkfaa.Kit
theorem rens_app {σ : Nat → Nat} : ∀ (a b : List AV), AV.rens σ (a ++ b) = AV.rens σ a ++ AV.rens σ b
  | [], b => rfl
  | x :: a, b => by simp only [List.cons_append, AV.rens, rens_app a b]
structure CvOk (W : World) (e : Nat) (v : Tv) (r : Rv) : Prop where
  z : v.list = [] → Tri Try.prog W fCv [aggR r] [] (.agg [iv r.k, iv r.n, sv r.t, .mt, sF 1001 v.tab.length]) [(1001, ownF md e v.tab)]
  n : v.list ≠ [] → Tri Try.prog W fCv [aggR r] [] (.agg [iv r.k, iv r.n, sv r.t, sL 1000 v.list.length, sF 1001 v.tab.length]) [(1000, ownL md e v.list), (1001, ownF md e v.tab)]
theorem agg_cl (K : Nat → Bool) (r : Rv) : AV.cl K (aggR r) := ⟨trivial, trivial, trivial, trivial, trivial, trivial⟩
theorem cCz_ok {W : World} {e : Nat} {v : Tv} {r : Rv} (h : CvOk W e v r) (hz : v.list = []) (F : HP) (hF : OldOK W F) : C1OK Try.prog F fCv (cCz r e v v.tab.length) :=
  mkC_ok hF (fun _ => .agg [iv r.k, iv r.n, sv r.t, .mt, sF 1001 v.tab.length]) (fun _ => RO.ret _) (fun _ => rfl) (fun _ _ => h.z hz) fun _ => ⟨rfl, rfl, ⟨agg_cl _ _, trivial⟩, all_nil, ⟨⟨trivial, trivial, trivial, trivial, rfl, trivial⟩, trivial⟩, all_cons trivial all_nil⟩
theorem cCn_ok {W : World} {e : Nat} {v : Tv} {r : Rv} (h : CvOk W e v r) (hz : v.list ≠ []) (F : HP) (hF : OldOK W F) : C1OK Try.prog F fCv (cCn r e v v.list.length v.tab.length) :=
  mkC_ok hF (fun _ => .agg [iv r.k, iv r.n, sv r.t, sL 1000 v.list.length, sF 1001 v.tab.length]) (fun _ => RO.ret _) (fun _ => rfl) (fun _ _ => h.n hz) fun _ => ⟨rfl, rfl, ⟨agg_cl _ _, trivial⟩, all_nil, ⟨⟨trivial, trivial, trivial, rfl, rfl, trivial⟩, trivial⟩, all_cons trivial (all_cons trivial all_nil)⟩
theorem tms_cls {m : Nat} {told : List (Nat × AV)} {K : Nat → Bool} (h : ∀ x ∈ told, AV.cl K x.2) : AV.cls K (tms 0 m told) := cls_tms h m 0
theorem PF.nil (d : Nat) (C : Mem) : PF d [] [] C := ⟨rfl, fun i nm x h => by simp at h⟩
theorem take_add {f : Tf} {j : Nat} {nm : ByteArray} {x : Tv} (h : f[j]? = some (nm, x)) : f.take (j + 1) = f.take j ++ [(nm, x)] := by
  rw [List.take_add_one, h]; rfl
theorem st_nextF {W0 w : World} {F : HP} {N : Names} {ys : List Value} {vs : List AV} {d e : Nat} (hde : d = e + 1) {R : List (ByteArray × Rv)} {f0 : Tf} {nm : ByteArray} {v : Tv} {r : Rv} (hx : r.k = v.kind ∧ r.n = v.num ∧ r.t = v.text) {LV : AV} {X : LH} {S : List Nat}
    (hS : ∀ n, n ∈ S → n = 1002 ∨ n = 1003) (hS3 : 1003 ∈ S) (hX : (X = [] ∧ LV = .mt ∧ v.list = []) ∨ (X = [(1002, ownL md e v.list)] ∧ LV = sL 1002 v.list.length ∧ 1002 ∈ S))
    (hs : St W0 F N ([(1000, .cells ((rowV encF R ++ [sv nm]) ++ [iv r.k, iv r.n, sv r.t, LV, sF 1003 v.tab.length]) tFl), (1001, .any (frz (PF d R f0))), (1003, ownF md e v.tab)] ++ X) vs ys w) (hv : ∀ R P, AV.cls (fun n => Nat.blt n 1000 || (getO (oCp R P) n).isSome) vs) :
    ∃ r', St W0 F N (oCp (R ++ [(nm, r')]) (PF d (R ++ [(nm, r')]) (f0 ++ [(nm, v)]))) vs ys w := by
  subst hde
  have hl : namesLt 1100 ([(1000, .cells ((rowV encF R ++ [sv nm]) ++ [iv r.k, iv r.n, sv r.t, LV, sF 1003 v.tab.length]) tFl), (1001, .any (frz (PF (e + 1) R f0))), (1003, ownF md e v.tab)] ++ X) = true := by
    rcases hX with ⟨rfl, _⟩ | ⟨rfl, _⟩ <;> rfl
  have hg3 : getO ([(1000, .cells ((rowV encF R ++ [sv nm]) ++ [iv r.k, iv r.n, sv r.t, LV, sF 1003 v.tab.length]) tFl), (1001, .any (frz (PF (e + 1) R f0))), (1003, ownF md e v.tab)] ++ X) 1003 = some (ownF md e v.tab) := rfl
  obtain ⟨c, hc⟩ := st_abs hl hs 1000 1001 S (by decide) (fun h => by rcases hS _ h with h | h <;> cases h) (fun h => by rcases hS _ h with h | h <;> cases h) (a := rowV encF R ++ [sv nm]) (b := [iv r.k, iv r.n, sv r.t, LV, sF 1003 v.tab.length]) (e := tFl) rfl rfl (fun N1 D w h => h.lt)
    (fun c C => PF (e + 1) R f0 C ∧ QV e v c C) (fun N1 D hD yb hy => by
      have hP : PF (e + 1) R f0 (memOn (D 1001) w) := (hD 1001 _ rfl).1
      have hLV : ∀ y, VR N1 LV y → ∃ la lc, y = .slice la v.list.length lc ∧ LAt (memOn (fun x => D 1001 x ∨ ∃ j, j ∈ S ∧ (∃ o, getO ([(1000, .cells ((rowV encF R ++ [sv nm]) ++ [iv r.k, iv r.n, sv r.t, LV, sF 1003 v.tab.length]) tFl), (1001, .any (frz (PF (e + 1) R f0))), (1003, ownF md e v.tab)] ++ X) j = some o) ∧ D j x) w) e la v.list := by
        rcases hX with ⟨rfl, rfl, h0⟩ | ⟨rfl, rfl, hm⟩
        · exact mt_raw h0
        · exact list_raw hD (kl := 1002) rfl fun b hb => .inr ⟨1002, hm, ⟨_, rfl⟩, hb⟩
      obtain ⟨c, c1, c2, c3⟩ := core_val hx hD hg3 (fun b hb => .inr ⟨1003, hS3, ⟨_, hg3⟩, hb⟩) hLV yb hy
      exact ⟨c, c1, c2, hP.mono (memOn_mono fun b hb => .inl hb), c3⟩)
  obtain ⟨⟨C0, _, r', rfl, _⟩, hc⟩ := hc
  refine ⟨r', hc _ _ rfl ?_ rfl (fun C ⟨h1, r2, h2, h3⟩ => ?_) (fun n o h1 h2 h3 => ?_) (hv _ _) (all_cons ?_ (all_cons trivial all_nil))⟩
  · show some (AO.cells (rowV encF (R ++ [(nm, r')])) tFl) = some _
    rw [rowV_append, rowV_one, List.append_assoc]
    rfl
  · rw [← cells_inj h2] at h3
    exact h1.add h3
  · simp only [oCp, getO, if_neg h1, if_neg h2] at h3
    cases h3
  · exact cls_rowV _ _
theorem goes_empty {vs : List AV} {H H' : LH} {k : Nat} {P : Mem → Prop} (hP : ∀ C, P C) (hl : namesLt 1100 H = true) (hl' : namesLt 1100 H' = true) (hk : getO H' k = some (.any (frz P))) (hk1 : 1000 ≤ k) (hk0 : getO H k = none) (hr : ∀ n, n ≠ k → getO H' n = getO H n) : Goes vs H vs H' := by
  intro W0 F N ys w ⟨N1, g1, g2, r, hvs⟩
  have hf : ∀ n, (heapOf H).find n = getO H n := find_heapOf (lt_lim hl)
  have hf' : ∀ n, (heapOf H').find n = getO H' n := find_heapOf (lt_lim hl')
  obtain ⟨D0, D, h1, h2, h3⟩ := r.sat
  refine ⟨N1, g1, fun n hn hg => ?_, ⟨r.os, r.tape, r.output, D0, fun n x => if n = k then False else D n x, h1, fun n o hno => ?_, fun n m o o' hn hm hnm x hx hx' => ?_⟩, hvs⟩
  · by_cases e : n = k
    · rw [e, hk] at hg; cases hg
    · rw [hr n e] at hg; exact g2 n hn hg
  · rw [hf'] at hno
    by_cases e : n = k
    · subst e
      rw [hk] at hno; cases hno
      simp only [if_true]
      exact ⟨⟨hP _, fun b hb => hb.elim⟩, fun b hb => hb.elim⟩
    · simp only [if_neg e]
      exact h2 n o (by rw [hf, ← hr n e]; exact hno)
  · rw [hf'] at hn hm
    by_cases e : n = k
    · simp only [if_pos e] at hx
    · by_cases e' : m = k
      · simp only [if_pos e'] at hx'
      · simp only [if_neg e] at hx
        simp only [if_neg e'] at hx'
        exact h3 n m o o' (by rw [hf, ← hr n e]; exact hn) (by rw [hf, ← hr m e']; exact hm) hnm x hx hx'
theorem cp_loop (W : World) (d : Nat) (hV : ∀ v r, VAt W.cell? d v r → ∃ e, d = e + 1 ∧ CvOk W e v r) (f : Tf) (oa : Option Addr) (c : Nat) (ha : FAt W.cell? d oa f) :
    LTri Try.prog W (loopN fCp 3) (tms 0 28 (aCp oa f.length c 0 0)) [(1000, rF [])] (.exit 0) (tms 0 28 [(3, sF 1000 f.length)]) [(1000, ownF md d f)] := by
  have hlen := big_nat ha.1 (by decide)
  have hbig := ha.1
  refine LTri.pre (goes_empty (H' := oCp [] (PF d [] [])) (k := 1001) (fun C => PF.nil d C) rfl rfl rfl (by decide) rfl (fun n hn => by simp only [oCp, getO, if_neg hn])) ?_
  refine ltri_runE (W := W) (g := fCp) (b := loopN fCp 3) (σ := {z : Nat × List (ByteArray × Rv) // z.1 ≤ f.length ∧ z.2.length = z.1}) 28 (fun z => aCp oa f.length c z.1.2.length z.1.1) (fun z => oCp z.1.2 (PF d z.1.2 (f.take z.1.1))) (.exit 0) [(3, sF 1000 f.length)] [(1000, ownF md d f)] (fun z => f.length - z.1.1) [1000, 1001, 1100, 1101, 1102, 1103, 1104] [0, 3, 4] (by intro h; cases h) (fun _ => rfl) ?_ ⟨(0, []), Nat.zero_le _, rfl⟩
  rintro ⟨⟨j, R⟩, hj, hR⟩
  simp only at hj hR ⊢
  by_cases h1 : j < f.length
  · obtain ⟨⟨nm, x⟩, hx⟩ := get_some h1
    obtain ⟨a, r, rfl, q1, q2⟩ := ha.2 j nm x hx
    obtain ⟨e, rfl, hcv⟩ := hV x r q2
    obtain ⟨a0, ac⟩ := c6 q1
    have aA := all5 ac
    obtain ⟨a1, a2, a3, a4, a5⟩ := c6b ac
    obtain ⟨⟨i1, i2, i3, i4, i5⟩, _, _⟩ := q2
    have hw := wrap_succ j (by omega)
    have e1 : decide (Int.ofNat j < (f.length : Int)) = true := ltTC h1
    have k1 : (0 + R.length * 6).ble (rowV encF R).length = true := by rw [rowV_length encF_len, Nat.ble_eq]; omega
    have k2 : ((R.length + 1) * 96).ble 140737488355328 = true := by
      have hb : big = 140737488351232 := rfl
      rw [Nat.ble_eq]; omega
    have k3 : (R.length + 1).ble 9223372036854775807 = true := by rw [Nat.ble_eq]; omega
    have ktk : List.take (R.length * 6) (List.drop 0 (rowV encF R)) = rowV encF R := by rw [List.drop_zero, rowV_take encF_len, List.take_length]
    have k4 : (List.take (R.length * 6) (List.drop 0 (rowV encF R))).length.beq (R.length * 6) = true := by rw [ktk, rowV_length encF_len]; exact Nat.beq_refl _
    have hnx := take_add hx
    have hvs : ∀ R1 P, AV.cls (fun n => Nat.blt n 1000 || (getO (oCp R1 P) n).isSome) (tms 0 28 (aCp (some a) f.length c (R.length + 1) (j + 1))) := fun R1 P => tms_cls (all_cons trivial (all_cons rfl (all_cons trivial all_nil)))
    by_cases hz : x.list = []
    · refine ⟨[(fCv, cCz r e x x.tab.length)], hCp j nm r, [], fun F hF => one_c (cCz_ok hcv hz F hF), fun _ _ => noL, fun F => ?_⟩
      refine cast (congrArg (VAll _) (oCpZ_eq W a f.length c R.length j nm r e x x.tab.length R (PF (e + 1) R (f.take j)) F).symm) ⟨⟨?_, rfl, .inl ⟨rfl, aCp (some a) f.length c (R.length + 1) (j + 1), [(1000, .cells ((rowV encF R ++ [sv nm]) ++ [iv r.k, iv r.n, sv r.t, .mt, sF 1003 x.tab.length]) tFl), (1001, .any (frz (PF (e + 1) R (f.take j)))), (1003, ownF md e x.tab)], [(1000, 1102), (1001, 1001), (1003, 1100)], rfl, ⟨by kernel_rfl, by kernel_rfl, ⟨Wk.refl _, Wk.refl _, Wk.refl _, trivial⟩, ⟨_, rfl, ?_⟩, ⟨_, rfl, OW.refl _⟩, ⟨_, rfl, OW.refl _⟩, trivial⟩, fun W0 F N ys w hs => ?_⟩⟩⟩
      · simp only [Cnd.holds, e1, h1, a0, aA, a1, a2, a3, a4, a5, k1, k2, k3, k4, Option.getD_some, Option.isSome_some, Nat.blt_eq, true_and, and_true]
        and_intros
        all_goals first
          | (with_reducible exact wk_int hw)
          | exact wk_litE e1
          | exact agg_wk rfl rfl rfl rfl rfl | (with_reducible first | exact trivial | exact rfl | exact Wk.refl _ | exact VW.refl _ | exact OW.refl _ | exact wk_lit _ | assumption) | exact rfl | exact Wk.refl _ | exact VW.refl _ | exact OW.refl _ | ((repeat (first | exact VW.nil | refine VW.cons (Wk.refl _) ?_ | refine VW.cons (Wk.any _) ?_ | refine VW.cons (wk_cap (Nat.le_refl _)) ?_)); done)
      · refine OW.of_eq ?_
        rw [ktk]
        simp only [AO.ren, rens_app, rens_rowV, List.append_assoc]
        rfl
      · obtain ⟨r', hs'⟩ := st_nextF (X := []) (S := [1003]) rfl ⟨i1, i2, i3⟩ (fun n hn => .inr (List.mem_singleton.1 hn)) (List.mem_singleton.2 rfl) (.inl ⟨rfl, rfl, hz⟩) hs hvs
        refine ⟨⟨(j + 1, R ++ [(nm, r')]), h1, by rw [List.length_append, hR]; rfl⟩, sub_down h1, ?_⟩
        simp only [hnx, List.length_append, List.length_cons, List.length_nil]
        exact hs'
    · refine ⟨[(fCv, cCn r e x x.list.length x.tab.length)], hCp j nm r, [], fun F hF => one_c (cCn_ok hcv hz F hF), fun _ _ => noL, fun F => ?_⟩
      refine cast (congrArg (VAll _) (oCpN_eq W a f.length c R.length j nm r e x x.list.length x.tab.length R (PF (e + 1) R (f.take j)) F).symm) ⟨⟨?_, rfl, .inl ⟨rfl, aCp (some a) f.length c (R.length + 1) (j + 1), [(1000, .cells ((rowV encF R ++ [sv nm]) ++ [iv r.k, iv r.n, sv r.t, sL 1002 x.list.length, sF 1003 x.tab.length]) tFl), (1001, .any (frz (PF (e + 1) R (f.take j)))), (1003, ownF md e x.tab), (1002, ownL md e x.list)], [(1000, 1103), (1001, 1001), (1003, 1101), (1002, 1100)], rfl, ⟨by kernel_rfl, by kernel_rfl, ⟨Wk.refl _, Wk.refl _, Wk.refl _, trivial⟩, ⟨_, rfl, ?_⟩, ⟨_, rfl, OW.refl _⟩, ⟨_, rfl, OW.refl _⟩, ⟨_, rfl, OW.refl _⟩, trivial⟩, fun W0 F N ys w hs => ?_⟩⟩⟩
      · simp only [Cnd.holds, e1, h1, a0, aA, a1, a2, a3, a4, a5, k1, k2, k3, k4, Option.getD_some, Option.isSome_some, Nat.blt_eq, true_and, and_true]
        and_intros
        all_goals first
          | (with_reducible exact wk_int hw)
          | exact wk_litE e1
          | exact agg_wk rfl rfl rfl rfl rfl | (with_reducible first | exact trivial | exact rfl | exact Wk.refl _ | exact VW.refl _ | exact OW.refl _ | exact wk_lit _ | assumption) | exact rfl | exact Wk.refl _ | exact VW.refl _ | exact OW.refl _ | ((repeat (first | exact VW.nil | refine VW.cons (Wk.refl _) ?_ | refine VW.cons (Wk.any _) ?_ | refine VW.cons (wk_cap (Nat.le_refl _)) ?_)); done)
      · refine OW.of_eq ?_
        rw [ktk]
        simp only [AO.ren, rens_app, rens_rowV, List.append_assoc]
        rfl
      · obtain ⟨r', hs'⟩ := st_nextF (X := [(1002, ownL md e x.list)]) (S := [1002, 1003]) rfl ⟨i1, i2, i3⟩ (fun n hn => by simpa using hn) (by simp) (.inr ⟨rfl, rfl, by simp⟩) hs hvs
        refine ⟨⟨(j + 1, R ++ [(nm, r')]), h1, by rw [List.length_append, hR]; rfl⟩, sub_down h1, ?_⟩
        simp only [hnx, List.length_append, List.length_cons, List.length_nil]
        exact hs'
  · have hje : j = f.length := by omega
    subst hje
    have ht : f.take f.length = f := List.take_length
    simp only [ht]
    refine ⟨[], hCpE, [], fun _ _ => noC, fun _ _ => noL, fun F => ?_⟩
    refine cast (congrArg (VAll _) (oCpE_eq W oa f.length c R.length R (PF d R f) F).symm) ⟨⟨?_, rfl, .inr ⟨rfl, [(3, sF 1000 R.length)], oCp R (PF d R f), [(1000, 1000), (1001, 1001)], rfl, ⟨by kernel_rfl, by kernel_rfl, ⟨Wk.refl _, trivial⟩, ⟨_, rfl, OW.of_eq (by simp only [rF, AO.ren, rens_rowV])⟩, ⟨_, rfl, OW.refl _⟩, trivial⟩, fun W0 F N ys w hs => ?_⟩⟩⟩
    · simp only [Cnd.holds, and_true]
      exact wk_litE ltFC
    · rw [hR] at hs
      exact st_whole (H' := [(1000, ownF md d f)]) rfl rfl hs 1000 1001 (by decide) rfl rfl rfl rfl (fun n o h1 h2 h3 => by simp only [getO, if_neg h1] at h3; cases h3) (fun N1 Di Dk h1 h2 h3 _ => whole_F hbig h1 h2 h3) (tms_cls (all_cons rfl all_nil)) (all_cons trivial all_nil)
end Go.Proofs.Ytfledabgdcnkfaa.Tree

/- A table as new memory: CopyValue's loop; Copy and CopyValue whole. -/
set_option linter.unusedVariables false
set_option linter.unusedSimpArgs false
set_option maxRecDepth 100000
namespace Go.Proofs.Ytfledabgdcnkfaa.Tree
open Go Go.RowKit Go.Proofs.Ytfledabgdcnkfaa.Eng Go.Proofs.Ytfledabgdcnkfaa.Kit
theorem gCp_ro : ∀ args, RO (gCp args) := by
  intro args
  unfold gCp
  repeat' split
  all_goals first | exact RO.ret _ | exact RO.fail _
theorem gCv_ro : ∀ args, RO (gCv args) := by
  intro args
  unfold gCv
  repeat' split
  all_goals first | exact RO.ret _ | exact RO.fail _
theorem Copy_of (W : World) (d : Nat) (hV : ∀ v r, VAt W.cell? d v r → ∃ e, d = e + 1 ∧ CvOk W e v r) (f : Tf) (oa : Option Addr) (c : Nat) (ha : FAt W.cell? d oa f) :
    Tri Try.prog W fCp [slV oa f.length c] [] (sF 1000 f.length) [(1000, ownF md d f)] := by
  have hl : ∀ F, OldOK W F → L1OK Try.prog F (loopN fCp 3) (lCp oa f.length c d f) := fun F hF =>
    mkL_ok hF gCp_ro (fun _ _ => cp_loop W d hV f oa c ha) fun _ => by
      simp only [RT.pick]
      exact closedT rfl rfl (all_cons trivial (all_cons rfl (all_cons trivial all_nil))) (all_cons trivial all_nil) (all_cons rfl all_nil) (all_cons trivial all_nil)
  refine tri_run (con := []) (hints := noHints) (lc := [(fCp, 3, loopN fCp 3, lCp oa f.length c d f)]) [1100, 1101, 1102] rfl (fun F _ => noC) (fun F hF => one_l (hl F hF)) fun F => ?_
  refine cast (congrArg (VAll _) (oCp_eq W oa f.length c d f F).symm) ⟨⟨?_, (fit_mk (vs' := [sF 1000 f.length]) (H' := [(1000, ownF md d f)]) [(1000, 1101)] rfl rfl (VW.refl _) ⟨⟨_, rfl, OW.refl _⟩, trivial⟩).fits rfl⟩⟩
  simp only [Cnd.holds, Nat.blt_eq, true_and, and_true]
  and_intros
  all_goals first | (with_reducible first | exact trivial | exact rfl | exact Wk.refl _ | exact VW.refl _ | exact OW.refl _ | exact wk_lit _ | assumption) | exact rfl | exact Wk.refl _ | exact VW.refl _ | exact OW.refl _ | ((repeat (first | exact VW.nil | refine VW.cons (Wk.refl _) ?_ | refine VW.cons (Wk.any _) ?_ | refine VW.cons (wk_cap (Nat.le_refl _)) ?_)); done)
/-! CopyValue. -/
def oNx (o0 o1 : AO) (R : List Rv) (P : Mem → Prop) : LH := [(1000, o0), (1001, o1), (1002, rV R), (1003, .any (frz P)), (1004, oZ0)]
theorem PV.nil (d : Nat) (C : Mem) : PV d [] [] C := ⟨rfl, fun i x h => by simp at h⟩
theorem st_nextV {W0 w : World} {F : HP} {N : Names} {ys : List Value} {vs : List AV} {e : Nat} {R : List Rv} {l0 : List Tv} {v : Tv} {r : Rv} (hx : r.k = v.kind ∧ r.n = v.num ∧ r.t = v.text) {LV : AV} {o0 o1 : AO} {X : LH} {S : List Nat}
    (hS : ∀ n, n ∈ S → n = 1005 ∨ n = 1006) (hS5 : 1005 ∈ S) (hX : (X = [] ∧ LV = .mt ∧ v.list = []) ∨ (X = [(1006, ownL md e v.list)] ∧ LV = sL 1006 v.list.length ∧ 1006 ∈ S))
    (hs : St W0 F N ([(1000, o0), (1001, o1), (1002, .cells (rowV encV R ++ [iv r.k, iv r.n, sv r.t, LV, sF 1005 v.tab.length]) tVl), (1003, .any (frz (PV (e + 1) R l0))), (1004, oZ0), (1005, ownF md e v.tab)] ++ X) vs ys w)
    (hv : ∀ R P, AV.cls (fun n => Nat.blt n 1000 || (getO (oNx o0 o1 R P) n).isSome) vs) (ho : ∀ R P, ∀ x ∈ oNx o0 o1 R P, x.2.cl (fun n => Nat.blt n 1000 || (getO (oNx o0 o1 R P) n).isSome)) :
    ∃ r', St W0 F N (oNx o0 o1 (R ++ [r']) (PV (e + 1) (R ++ [r']) (l0 ++ [v]))) vs ys w := by
  obtain ⟨HH, hHH⟩ : ∃ HH, HH = [(1000, o0), (1001, o1), (1002, AO.cells (rowV encV R ++ [iv r.k, iv r.n, sv r.t, LV, sF 1005 v.tab.length]) tVl), (1003, .any (frz (PV (e + 1) R l0))), (1004, oZ0), (1005, ownF md e v.tab)] ++ X := ⟨_, rfl⟩
  rw [← hHH] at hs
  have hl : namesLt 1100 HH = true := by
    subst hHH
    rcases hX with ⟨rfl, _⟩ | ⟨rfl, _⟩ <;> rfl
  have hg5 : getO HH 1005 = some (ownF md e v.tab) := by subst hHH; rfl
  have hg3 : getO HH 1003 = some (.any (frz (PV (e + 1) R l0))) := by subst hHH; rfl
  have hg0 : getO HH 1000 = some o0 := by subst hHH; rfl
  have hg1 : getO HH 1001 = some o1 := by subst hHH; rfl
  have hg4 : getO HH 1004 = some oZ0 := by subst hHH; rfl
  obtain ⟨c, hc⟩ := st_abs hl hs 1002 1003 S (by decide) (fun h => by rcases hS _ h with h | h <;> cases h) (fun h => by rcases hS _ h with h | h <;> cases h) (a := rowV encV R) (b := [iv r.k, iv r.n, sv r.t, LV, sF 1005 v.tab.length]) (e := tVl) (by subst hHH; rfl) hg3 (fun N1 D w h => h.lt)
    (fun c C => PV (e + 1) R l0 C ∧ QV e v c C) (fun N1 D hD yb hy => by
      have hP : PV (e + 1) R l0 (memOn (D 1003) w) := (hD 1003 _ hg3).1
      have hLV : ∀ y, VR N1 LV y → ∃ la lc, y = .slice la v.list.length lc ∧ LAt (memOn (fun x => D 1003 x ∨ ∃ j, j ∈ S ∧ (∃ o, getO HH j = some o) ∧ D j x) w) e la v.list := by
        rcases hX with ⟨rfl, rfl, h0⟩ | ⟨rfl, rfl, hm⟩
        · exact mt_raw h0
        · have hg6 : getO HH 1006 = some (ownL md e v.list) := by subst hHH; rfl
          exact list_raw hD hg6 fun b hb => .inr ⟨1006, hm, ⟨_, hg6⟩, hb⟩
      obtain ⟨c, c1, c2, c3⟩ := core_val hx hD hg5 (fun b hb => .inr ⟨1005, hS5, ⟨_, hg5⟩, hb⟩) hLV yb hy
      exact ⟨c, c1, c2, hP.mono (memOn_mono fun b hb => .inl hb), c3⟩)
  obtain ⟨⟨C0, _, r', rfl, _⟩, hc⟩ := hc
  refine ⟨r', hc _ _ rfl ?_ rfl (fun C ⟨h1, r2, h2, h3⟩ => ?_) (fun n o h1 h2 h3 => ?_) (hv _ _) (ho _ _)⟩
  · show some (AO.cells (rowV encV (R ++ [r'])) tVl) = some _
    rw [rowV_append, rowV_one]
    rfl
  · rw [← cells_inj h2] at h3
    exact h1.add h3
  · simp only [oNx, getO] at h3
    by_cases e0 : n = 1000
    · subst e0; refine ⟨(fun h => by (rcases hS _ h with h | h <;> cases h)), ?_⟩; rw [hg0]; exact h3
    · rw [if_neg e0] at h3
      by_cases e1 : n = 1001
      · subst e1; refine ⟨(fun h => by (rcases hS _ h with h | h <;> cases h)), ?_⟩; rw [hg1]; exact h3
      · rw [if_neg e1, if_neg h1, if_neg h2] at h3
        by_cases e4 : n = 1004
        · subst e4; refine ⟨(fun h => by (rcases hS _ h with h | h <;> cases h)), ?_⟩; rw [hg4]; exact h3
        · rw [if_neg e4] at h3; cases h3
theorem st_firstV {W0 w : World} {F : HP} {N : Names} {ys : List Value} {vs : List AV} {e : Nat} {v : Tv} {r : Rv} (hx : r.k = v.kind ∧ r.n = v.num ∧ r.t = v.text) {LV : AV} {o0 o1 : AO} {X : LH} {S : List Nat}
    (hS : ∀ n, n ∈ S → n = 1006) (hX : (X = [] ∧ LV = .mt ∧ v.list = []) ∨ (X = [(1006, ownL md e v.list)] ∧ LV = sL 1006 v.list.length ∧ 1006 ∈ S))
    (hs : St W0 F N ([(1000, o0), (1001, o1), (1002, .cells [iv r.k, iv r.n, sv r.t, LV, sF 1003 v.tab.length] tVl), (1003, ownF md e v.tab), (1004, oZ0)] ++ X) vs ys w)
    (hv : ∀ R P, AV.cls (fun n => Nat.blt n 1000 || (getO (oNx o0 o1 R P) n).isSome) vs) (ho : ∀ R P, ∀ x ∈ oNx o0 o1 R P, x.2.cl (fun n => Nat.blt n 1000 || (getO (oNx o0 o1 R P) n).isSome)) :
    ∃ r', St W0 F N (oNx o0 o1 [r'] (PV (e + 1) [r'] [v])) vs ys w := by
  obtain ⟨HH, hHH⟩ : ∃ HH, HH = [(1000, o0), (1001, o1), (1002, AO.cells [iv r.k, iv r.n, sv r.t, LV, sF 1003 v.tab.length] tVl), (1003, ownF md e v.tab), (1004, oZ0)] ++ X := ⟨_, rfl⟩
  rw [← hHH] at hs
  have hl : namesLt 1100 HH = true := by
    subst hHH
    rcases hX with ⟨rfl, _⟩ | ⟨rfl, _⟩ <;> rfl
  have hg3 : getO HH 1003 = some (ownF md e v.tab) := by subst hHH; rfl
  have hg0 : getO HH 1000 = some o0 := by subst hHH; rfl
  have hg1 : getO HH 1001 = some o1 := by subst hHH; rfl
  have hg4 : getO HH 1004 = some oZ0 := by subst hHH; rfl
  obtain ⟨c, hc⟩ := st_abs hl hs 1002 1003 S (by decide) (fun h => by have h := hS _ h; cases h) (fun h => by have h := hS _ h; cases h) (a := []) (b := [iv r.k, iv r.n, sv r.t, LV, sF 1003 v.tab.length]) (e := tVl) (by subst hHH; rfl) hg3 (fun N1 D w h => h.lt)
    (fun c C => QV e v c C) (fun N1 D hD yb hy => by
      have hLV : ∀ y, VR N1 LV y → ∃ la lc, y = .slice la v.list.length lc ∧ LAt (memOn (fun x => D 1003 x ∨ ∃ j, j ∈ S ∧ (∃ o, getO HH j = some o) ∧ D j x) w) e la v.list := by
        rcases hX with ⟨rfl, rfl, h0⟩ | ⟨rfl, rfl, hm⟩
        · exact mt_raw h0
        · have hg6 : getO HH 1006 = some (ownL md e v.list) := by subst hHH; rfl
          exact list_raw hD hg6 fun b hb => .inr ⟨1006, hm, ⟨_, hg6⟩, hb⟩
      exact core_val hx hD hg3 (fun b hb => .inl hb) hLV yb hy)
  obtain ⟨⟨C0, r', rfl, _⟩, hc⟩ := hc
  refine ⟨r', hc _ _ rfl rfl rfl (fun C ⟨r2, h2, h3⟩ => ?_) (fun n o h1 h2 h3 => ?_) (hv _ _) (ho _ _)⟩
  · rw [← cells_inj h2] at h3
    exact (PV.nil _ C).add h3
  · simp only [oNx, getO] at h3
    by_cases e0 : n = 1000
    · subst e0; refine ⟨(fun h => by (have h := hS _ h; cases h)), ?_⟩; rw [hg0]; exact h3
    · rw [if_neg e0] at h3
      by_cases e1 : n = 1001
      · subst e1; refine ⟨(fun h => by (have h := hS _ h; cases h)), ?_⟩; rw [hg1]; exact h3
      · rw [if_neg e1, if_neg h1, if_neg h2] at h3
        by_cases e4 : n = 1004
        · subst e4; refine ⟨(fun h => by (have h := hS _ h; cases h)), ?_⟩; rw [hg4]; exact h3
        · rw [if_neg e4] at h3; cases h3
end Go.Proofs.Ytfledabgdcnkfaa.Tree

/- A table as new memory: CopyValue; both, for every table. -/
set_option linter.unusedVariables false
set_option linter.unusedSimpArgs false
set_option maxRecDepth 100000
namespace Go.Proofs.Ytfledabgdcnkfaa.Tree
open Go Go.RowKit Go.Proofs.Ytfledabgdcnkfaa.Eng Go.Proofs.Ytfledabgdcnkfaa.Kit
theorem wk_agg5 {a b c x x' y : AV} (h : Wk x x') : Wk (.agg [a, b, c, x, y]) (.agg [a, b, c, x', y]) := fun N z hz => by
  simp only [VR] at hz ⊢
  obtain ⟨cs, h1, h2⟩ := hz
  exact ⟨cs, (VW.cons (Wk.refl _) (VW.cons (Wk.refl _) (VW.cons (Wk.refl _) (VW.cons h (VW.cons (Wk.refl _) VW.nil))))) N cs h1, h2⟩
def oSt (r : Rv) (e : Nat) (l : List Tv) (R : List Rv) : Nat → LH
  | 0 => oC0 r
  | i + 1 => oCv r (sL 1002 R.length) R (PV e R (l.take (i + 1)))
theorem oNx_cl (r : Rv) (m : Nat) (R : List Rv) (P : Mem → Prop) : ∀ x ∈ oNx (.cells (vmap r.cells) tVl) (.cells [iv r.k, iv r.n, sv r.t, sL 1002 m, slV none 0 0] tVl) R P, x.2.cl (fun n => Nat.blt n 1000 || (getO (oNx (.cells (vmap r.cells) tVl) (.cells [iv r.k, iv r.n, sv r.t, sL 1002 m, slV none 0 0] tVl) R P) n).isSome) :=
  all_cons ⟨trivial, trivial, trivial, trivial, trivial, trivial⟩ (all_cons ⟨trivial, trivial, trivial, rfl, trivial, trivial⟩ (all_cons (cls_rowV _ _) (all_cons trivial (all_cons ⟨trivial, trivial, trivial, trivial, trivial, trivial⟩ all_nil))))
theorem take_addL {f : List Tv} {j : Nat} {x : Tv} (h : f[j]? = some x) : f.take (j + 1) = f.take j ++ [x] := by
  rw [List.take_add_one, h]; rfl
theorem aCv_cls (K : Nat → Bool) (h : K 1000 = true ∧ K 1001 = true ∧ K 1004 = true) (i : Nat) : AV.cls K (tms 0 35 (aCv i)) := tms_cls (all_cons h.1 (all_cons h.2.2 (all_cons h.2.1 (all_cons trivial all_nil))))
theorem cv_loop (W : World) (d : Nat) (hV : ∀ v r, VAt W.cell? d v r → ∃ e, d = e + 1 ∧ CvOk W e v r) (l : List Tv) (hne : l ≠ []) (r : Rv) (hll : r.ll = l.length) (ha : LAt W.cell? d r.la l) :
    LTri Try.prog W (loopN fCv 3) (tms 0 35 (aCv 0)) (oC0 r) (.exit 0) (tms 0 35 [(1, .ptr 1000 0), (2, .ptr 1004 0), (3, .ptr 1001 0)]) (oEn r d l) := by
  have hlen := big_nat ha.1 (by decide)
  have hbig := ha.1
  refine ltri_runE (W := W) (g := fCv) (b := loopN fCv 3) (σ := {z : Nat × List Rv // z.1 ≤ l.length ∧ z.2.length = z.1}) 35 (fun z => aCv z.1.1) (fun z => oSt r d l z.1.2 z.1.1) (.exit 0) [(1, .ptr 1000 0), (2, .ptr 1004 0), (3, .ptr 1001 0)] (oEn r d l) (fun z => l.length - z.1.1) [1000, 1001, 1002, 1003, 1004, 1100, 1101, 1102, 1103, 1104] [1, 2, 3, 4] (by intro h; cases h) (fun z => by
    obtain ⟨⟨i, R⟩, _⟩ := z
    cases i <;> rfl) ?_ ⟨(0, []), Nat.zero_le _, rfl⟩
  rintro ⟨⟨j, R⟩, hj, hR⟩
  simp only at hj hR ⊢
  by_cases h1 : j < l.length
  · obtain ⟨x, hx⟩ := get_some h1
    obtain ⟨a, s, ea, q1, q2⟩ := ha.2 j x hx
    obtain ⟨e, rfl, hcv⟩ := hV x s q2
    have aA := all5 q1
    obtain ⟨a1, a2, a3, a4, a5⟩ := c5 q1
    obtain ⟨⟨i1, i2, i3, i4, i5⟩, _, _⟩ := q2
    have hw := wrap_succ j (by omega)
    have e1 : decide (Int.ofNat j < (r.ll : Int)) = true := ltTC (by omega)
    have h1' : j < r.ll := by omega
    obtain ⟨rk, rn, rt, rla, rll, rlc, rta, rtl, rtc⟩ := r
    simp only at ea hll
    subst ea
    have hnx := take_addL hx
    rcases Nat.eq_zero_or_pos j with rfl | hpos
    · clear hbig
      have hR0 : R = [] := List.length_eq_zero_iff.1 hR
      subst hR0
      have e0 : decide (Int.ofNat 0 < (rll : Int)) = true := e1
      by_cases hz : x.list = []
      · refine ⟨[(fCv, cCz s e x x.tab.length)], hCv 0 s, [], fun F hF => one_c (cCz_ok hcv hz F hF), fun _ _ => noL, fun F => ?_⟩
        refine cast (congrArg (VAll _) (oV0Z_eq W ⟨rk, rn, rt, none, rll, rlc, rta, rtl, rtc⟩ a s e x x.tab.length F).symm) ⟨⟨?_, rfl, .inl ⟨rfl, aCv 1, [(1000, .cells (vmap (Rv.mk rk rn rt (some a) rll rlc rta rtl rtc).cells) tVl), (1001, .cells [iv rk, iv rn, sv rt, sL 1002 1, slV none 0 0] tVl), (1002, .cells [iv s.k, iv s.n, sv s.t, .mt, sF 1003 x.tab.length] tVl), (1003, ownF md e x.tab), (1004, oZ0)], [(1000, 1000), (1001, 1001), (1002, 1102), (1003, 1100), (1004, 1004)], rfl, ⟨by kernel_rfl, by kernel_rfl, ⟨Wk.refl _, Wk.refl _, Wk.refl _, Wk.refl _, trivial⟩, ⟨_, rfl, OW.refl _⟩, ⟨_, rfl, OW.refl _⟩, ⟨_, rfl, OW.refl _⟩, ⟨_, rfl, OW.refl _⟩, ⟨_, rfl, OW.refl _⟩, trivial⟩, fun W0 F N ys w hs => ?_⟩⟩⟩
        · simp only [Cnd.holds, e0, h1', aA, a1, a2, a3, a4, a5, Option.getD_some, Option.isSome_some, Nat.blt_eq, true_and, and_true]
          and_intros
          all_goals first
            | (with_reducible exact wk_int hw)
            | exact wk_litE e0
            | exact agg_wk rfl rfl rfl rfl rfl | (with_reducible first | exact trivial | exact rfl | exact Wk.refl _ | exact VW.refl _ | exact OW.refl _ | exact wk_lit _ | assumption) | exact rfl | exact Wk.refl _ | exact VW.refl _ | exact OW.refl _ | ((repeat (first | exact VW.nil | refine VW.cons (Wk.refl _) ?_ | refine VW.cons (Wk.any _) ?_ | refine VW.cons (wk_cap (Nat.le_refl _)) ?_)); done)
        · obtain ⟨r', hs'⟩ := st_firstV (X := []) (S := []) ⟨i1, i2, i3⟩ (fun n hn => by cases hn) (.inl ⟨rfl, rfl, hz⟩) hs (fun R P => aCv_cls _ ⟨rfl, rfl, rfl⟩ _) (fun R P => oNx_cl _ 1 R P)
          refine ⟨⟨(1, [r']), h1, rfl⟩, sub_down h1, ?_⟩
          show St _ _ _ (oCv _ _ _ (PV _ _ (l.take (0 + 1)))) _ _ _
          rw [hnx]
          exact hs'
      · refine ⟨[(fCv, cCn s e x x.list.length x.tab.length)], hCv 0 s, [], fun F hF => one_c (cCn_ok hcv hz F hF), fun _ _ => noL, fun F => ?_⟩
        refine cast (congrArg (VAll _) (oV0N_eq W ⟨rk, rn, rt, none, rll, rlc, rta, rtl, rtc⟩ a s e x x.list.length x.tab.length F).symm) ⟨⟨?_, rfl, .inl ⟨rfl, aCv 1, [(1000, .cells (vmap (Rv.mk rk rn rt (some a) rll rlc rta rtl rtc).cells) tVl), (1001, .cells [iv rk, iv rn, sv rt, sL 1002 1, slV none 0 0] tVl), (1002, .cells [iv s.k, iv s.n, sv s.t, sL 1006 x.list.length, sF 1003 x.tab.length] tVl), (1003, ownF md e x.tab), (1004, oZ0), (1006, ownL md e x.list)], [(1000, 1000), (1001, 1001), (1002, 1103), (1003, 1101), (1004, 1004), (1006, 1100)], rfl, ⟨by kernel_rfl, by kernel_rfl, ⟨Wk.refl _, Wk.refl _, Wk.refl _, Wk.refl _, trivial⟩, ⟨_, rfl, OW.refl _⟩, ⟨_, rfl, OW.refl _⟩, ⟨_, rfl, OW.refl _⟩, ⟨_, rfl, OW.refl _⟩, ⟨_, rfl, OW.refl _⟩, ⟨_, rfl, OW.refl _⟩, trivial⟩, fun W0 F N ys w hs => ?_⟩⟩⟩
        · simp only [Cnd.holds, e0, h1', aA, a1, a2, a3, a4, a5, Option.getD_some, Option.isSome_some, Nat.blt_eq, true_and, and_true]
          and_intros
          all_goals first
            | (with_reducible exact wk_int hw)
            | exact wk_litE e0
            | exact agg_wk rfl rfl rfl rfl rfl | (with_reducible first | exact trivial | exact rfl | exact Wk.refl _ | exact VW.refl _ | exact OW.refl _ | exact wk_lit _ | assumption) | exact rfl | exact Wk.refl _ | exact VW.refl _ | exact OW.refl _ | ((repeat (first | exact VW.nil | refine VW.cons (Wk.refl _) ?_ | refine VW.cons (Wk.any _) ?_ | refine VW.cons (wk_cap (Nat.le_refl _)) ?_)); done)
        · obtain ⟨r', hs'⟩ := st_firstV (X := [(1006, ownL md e x.list)]) (S := [1006]) ⟨i1, i2, i3⟩ (fun n hn => by simpa using hn) (.inr ⟨rfl, rfl, by simp⟩) hs (fun R P => aCv_cls _ ⟨rfl, rfl, rfl⟩ _) (fun R P => oNx_cl _ 1 R P)
          refine ⟨⟨(1, [r']), h1, rfl⟩, sub_down h1, ?_⟩
          show St _ _ _ (oCv _ _ _ (PV _ _ (l.take (0 + 1)))) _ _ _
          rw [hnx]
          exact hs'
    · obtain ⟨j, rfl⟩ : ∃ m, j = m + 1 := ⟨j - 1, by omega⟩
      have k1 : (0 + R.length * 5).ble (rowV encV R).length = true := by rw [rowV_length encV_len, Nat.ble_eq]; omega
      have k2 : ((R.length + 1) * 80).ble 140737488355328 = true := by
        have hb : big = 140737488351232 := rfl
        rw [Nat.ble_eq]; omega
      have k3 : (R.length + 1).ble 9223372036854775807 = true := by rw [Nat.ble_eq]; omega
      have ktk : List.take (R.length * 5) (List.drop 0 (rowV encV R)) = rowV encV R := by rw [List.drop_zero, rowV_take encV_len, List.take_length]
      have k4 : (List.take (R.length * 5) (List.drop 0 (rowV encV R))).length.beq (R.length * 5) = true := by rw [ktk, rowV_length encV_len]; exact Nat.beq_refl _
      by_cases hz : x.list = []
      · refine ⟨[(fCv, cCz s e x x.tab.length)], hCv (j + 1) s, [], fun F hF => one_c (cCz_ok hcv hz F hF), fun _ _ => noL, fun F => ?_⟩
        refine cast (congrArg (VAll _) (oV1Z_eq W ⟨rk, rn, rt, none, rll, rlc, rta, rtl, rtc⟩ a s e x x.tab.length R.length (j + 1) R (PV (e + 1) R (l.take (j + 1))) F).symm) ⟨⟨?_, rfl, .inl ⟨rfl, aCv (j + 1 + 1), [(1000, .cells (vmap (Rv.mk rk rn rt (some a) rll rlc rta rtl rtc).cells) tVl), (1001, .cells [iv rk, iv rn, sv rt, sL 1002 (R.length + 1), slV none 0 0] tVl), (1002, .cells (rowV encV R ++ [iv s.k, iv s.n, sv s.t, .mt, sF 1005 x.tab.length]) tVl), (1003, .any (frz (PV (e + 1) R (l.take (j + 1))))), (1004, oZ0), (1005, ownF md e x.tab)], [(1000, 1000), (1001, 1001), (1002, 1102), (1003, 1003), (1004, 1004), (1005, 1100)], rfl, ⟨by kernel_rfl, by kernel_rfl, ⟨Wk.refl _, Wk.refl _, Wk.refl _, Wk.refl _, trivial⟩, ⟨_, rfl, OW.refl _⟩, ⟨_, rfl, OW.refl _⟩, ⟨_, rfl, ?_⟩, ⟨_, rfl, OW.refl _⟩, ⟨_, rfl, OW.refl _⟩, ⟨_, rfl, OW.refl _⟩, trivial⟩, fun W0 F N ys w hs => ?_⟩⟩⟩
        · simp only [Cnd.holds, e1, h1', aA, a1, a2, a3, a4, a5, k1, k2, k3, k4, Option.getD_some, Option.isSome_some, Nat.blt_eq, true_and, and_true]
          and_intros
          all_goals first
            | (with_reducible exact wk_int hw)
            | exact wk_litE e1
            | exact agg_wk rfl rfl rfl rfl rfl | (with_reducible first | exact trivial | exact rfl | exact Wk.refl _ | exact VW.refl _ | exact OW.refl _ | exact wk_lit _ | assumption) | exact rfl | exact Wk.refl _ | exact VW.refl _ | exact OW.refl _ | ((repeat (first | exact VW.nil | refine VW.cons (Wk.refl _) ?_ | refine VW.cons (Wk.any _) ?_ | refine VW.cons (wk_cap (Nat.le_refl _)) ?_)); done)
        · refine OW.of_eq ?_
          rw [ktk]
          simp only [AO.ren, rens_app, rens_rowV]
          rfl
        · obtain ⟨r', hs'⟩ := st_nextV (X := []) (S := [1005]) ⟨i1, i2, i3⟩ (fun n hn => .inl (List.mem_singleton.1 hn)) (List.mem_singleton.2 rfl) (.inl ⟨rfl, rfl, hz⟩) hs (fun R P => aCv_cls _ ⟨rfl, rfl, rfl⟩ _) (fun R1 P => oNx_cl _ (R.length + 1) R1 P)
          refine ⟨⟨(j + 1 + 1, R ++ [r']), h1, by rw [List.length_append, hR]; rfl⟩, sub_down h1, ?_⟩
          have hlr : (R ++ [r']).length = R.length + 1 := by rw [List.length_append]; rfl
          show St _ _ _ (oCv _ (sL 1002 (R ++ [r']).length) (R ++ [r']) (PV (e + 1) (R ++ [r']) (l.take (j + 1 + 1)))) (tms 0 35 (aCv (j + 1 + 1))) _ _
          rw [hnx, hlr]
          exact hs'
      · refine ⟨[(fCv, cCn s e x x.list.length x.tab.length)], hCv (j + 1) s, [], fun F hF => one_c (cCn_ok hcv hz F hF), fun _ _ => noL, fun F => ?_⟩
        refine cast (congrArg (VAll _) (oV1N_eq W ⟨rk, rn, rt, none, rll, rlc, rta, rtl, rtc⟩ a s e x x.list.length x.tab.length R.length (j + 1) R (PV (e + 1) R (l.take (j + 1))) F).symm) ⟨⟨?_, rfl, .inl ⟨rfl, aCv (j + 1 + 1), [(1000, .cells (vmap (Rv.mk rk rn rt (some a) rll rlc rta rtl rtc).cells) tVl), (1001, .cells [iv rk, iv rn, sv rt, sL 1002 (R.length + 1), slV none 0 0] tVl), (1002, .cells (rowV encV R ++ [iv s.k, iv s.n, sv s.t, sL 1006 x.list.length, sF 1005 x.tab.length]) tVl), (1003, .any (frz (PV (e + 1) R (l.take (j + 1))))), (1004, oZ0), (1005, ownF md e x.tab), (1006, ownL md e x.list)], [(1000, 1000), (1001, 1001), (1002, 1103), (1003, 1003), (1004, 1004), (1005, 1101), (1006, 1100)], rfl, ⟨by kernel_rfl, by kernel_rfl, ⟨Wk.refl _, Wk.refl _, Wk.refl _, Wk.refl _, trivial⟩, ⟨_, rfl, OW.refl _⟩, ⟨_, rfl, OW.refl _⟩, ⟨_, rfl, ?_⟩, ⟨_, rfl, OW.refl _⟩, ⟨_, rfl, OW.refl _⟩, ⟨_, rfl, OW.refl _⟩, ⟨_, rfl, OW.refl _⟩, trivial⟩, fun W0 F N ys w hs => ?_⟩⟩⟩
        · simp only [Cnd.holds, e1, h1', aA, a1, a2, a3, a4, a5, k1, k2, k3, k4, Option.getD_some, Option.isSome_some, Nat.blt_eq, true_and, and_true]
          and_intros
          all_goals first
            | (with_reducible exact wk_int hw)
            | exact wk_litE e1
            | exact agg_wk rfl rfl rfl rfl rfl | (with_reducible first | exact trivial | exact rfl | exact Wk.refl _ | exact VW.refl _ | exact OW.refl _ | exact wk_lit _ | assumption) | exact rfl | exact Wk.refl _ | exact VW.refl _ | exact OW.refl _ | ((repeat (first | exact VW.nil | refine VW.cons (Wk.refl _) ?_ | refine VW.cons (Wk.any _) ?_ | refine VW.cons (wk_cap (Nat.le_refl _)) ?_)); done)
        · refine OW.of_eq ?_
          rw [ktk]
          simp only [AO.ren, rens_app, rens_rowV]
          rfl
        · obtain ⟨r', hs'⟩ := st_nextV (X := [(1006, ownL md e x.list)]) (S := [1005, 1006]) ⟨i1, i2, i3⟩ (fun n hn => by simpa using hn) (by simp) (.inr ⟨rfl, rfl, by simp⟩) hs (fun R P => aCv_cls _ ⟨rfl, rfl, rfl⟩ _) (fun R1 P => oNx_cl _ (R.length + 1) R1 P)
          refine ⟨⟨(j + 1 + 1, R ++ [r']), h1, by rw [List.length_append, hR]; rfl⟩, sub_down h1, ?_⟩
          have hlr : (R ++ [r']).length = R.length + 1 := by rw [List.length_append]; rfl
          show St _ _ _ (oCv _ (sL 1002 (R ++ [r']).length) (R ++ [r']) (PV (e + 1) (R ++ [r']) (l.take (j + 1 + 1)))) (tms 0 35 (aCv (j + 1 + 1))) _ _
          rw [hnx, hlr]
          exact hs'
  · have hje : j = l.length := by omega
    subst hje
    obtain ⟨m, hm⟩ : ∃ m, l.length = m + 1 := ⟨l.length - 1, by have := List.length_pos_iff.2 hne; omega⟩
    have hst : oSt r d l R l.length = oCv r (sL 1002 R.length) R (PV d R l) := by
      rw [hm]
      show oCv r (sL 1002 R.length) R (PV d R (l.take (m + 1))) = _
      rw [← hm, List.take_length]
    rw [hst]
    refine ⟨[], hCvE, [], fun _ _ => noC, fun _ _ => noL, fun F => ?_⟩
    obtain ⟨rk, rn, rt, rla, rll, rlc, rta, rtl, rtc⟩ := r
    simp only at hll
    subst hll
    refine cast (congrArg (VAll _) (oVE1_eq W ⟨rk, rn, rt, rla, l.length, rlc, rta, rtl, rtc⟩ R.length R (PV d R l) F).symm) ⟨⟨?_, rfl, .inr ⟨rfl, [(1, .ptr 1000 0), (2, .ptr 1004 0), (3, .ptr 1001 0)], oCv ⟨rk, rn, rt, rla, l.length, rlc, rta, rtl, rtc⟩ (sL 1002 R.length) R (PV d R l), [(1000, 1000), (1001, 1001), (1002, 1002), (1003, 1003), (1004, 1004)], rfl, ⟨by kernel_rfl, by kernel_rfl, ⟨Wk.refl _, Wk.refl _, Wk.refl _, trivial⟩, ⟨_, rfl, OW.refl _⟩, ⟨_, rfl, OW.refl _⟩, ⟨_, rfl, OW.of_eq (by simp only [rV, AO.ren, rens_rowV])⟩, ⟨_, rfl, OW.refl _⟩, ⟨_, rfl, OW.refl _⟩, trivial⟩, fun W0 F N ys w hs => ?_⟩⟩⟩
    · simp only [Cnd.holds, and_true, true_and]
      exact wk_litE ltFC
    · rw [hR] at hs
      exact st_whole (H' := oEn ⟨rk, rn, rt, rla, l.length, rlc, rta, rtl, rtc⟩ d l) rfl rfl hs 1002 1003 (by decide) rfl rfl rfl rfl (fun n o h1 h2 h3 => by
        simp only [oEn, getO] at h3
        simp only [oCv, getO, if_neg h1, if_neg h2] at h3 ⊢
        exact h3) (fun N1 Di Dk h1 h2 h3 _ => whole_L hbig h1 h2 h3) (tms_cls (all_cons rfl (all_cons rfl (all_cons rfl all_nil)))) (all_cons ⟨trivial, trivial, trivial, trivial, trivial, trivial⟩ (all_cons ⟨trivial, trivial, trivial, rfl, trivial, trivial⟩ (all_cons trivial (all_cons ⟨trivial, trivial, trivial, trivial, trivial, trivial⟩ all_nil))))
theorem cv_loop0 (W : World) (r : Rv) (hll : r.ll = 0) : LTri Try.prog W (loopN fCv 3) (tms 0 35 (aCv 0)) (oC0 r) (.exit 0) (tms 0 35 [(1, .ptr 1000 0), (2, .ptr 1004 0), (3, .ptr 1001 0)]) (oC0 r) := by
  obtain ⟨rk, rn, rt, rla, rll, rlc, rta, rtl, rtc⟩ := r
  simp only at hll
  subst hll
  refine ltri_run (W := W) (g := fCv) (b := loopN fCv 3) (σ := Unit) 35 (fun _ => aCv 0) (fun _ => oC0 ⟨rk, rn, rt, rla, 0, rlc, rta, rtl, rtc⟩) (.exit 0) [(1, .ptr 1000 0), (2, .ptr 1004 0), (3, .ptr 1001 0)] (oC0 ⟨rk, rn, rt, rla, 0, rlc, rta, rtl, rtc⟩) (fun _ => 0) [1000, 1001, 1002, 1003, 1004, 1100, 1101, 1102, 1103, 1104] [1, 2, 3, 4] (by intro h; cases h) (fun _ => rfl) rfl (fun _ => ?_) ()
  refine ⟨[], hCvE, [], fun _ _ => noC, fun _ _ => noL, fun F => ?_⟩
  refine cast (congrArg (VAll _) (oVE0_eq W ⟨rk, rn, rt, rla, 0, rlc, rta, rtl, rtc⟩ F).symm) ⟨⟨?_, rfl, .inr ⟨rfl, [(1000, 1000), (1001, 1001), (1004, 1004)], by kernel_rfl, by kernel_rfl, ⟨Wk.refl _, Wk.refl _, Wk.refl _, trivial⟩, ⟨_, rfl, OW.refl _⟩, ⟨_, rfl, OW.refl _⟩, ⟨_, rfl, OW.refl _⟩, trivial⟩⟩⟩
  simp only [Cnd.holds, and_true, true_and]
  exact wk_litE rfl
theorem oC0_cl (K : Nat → Bool) (r : Rv) : ∀ x ∈ oC0 r, x.2.cl K := all_cons ⟨trivial, trivial, trivial, trivial, trivial, trivial⟩ (all_cons ⟨trivial, trivial, trivial, trivial, trivial, trivial⟩ (all_cons ⟨trivial, trivial, trivial, trivial, trivial, trivial⟩ all_nil))
theorem cCp_ok {W : World} {oa : Option Addr} {c d : Nat} {f : Tf} (h : Tri Try.prog W fCp [slV oa f.length c] [] (sF 1000 f.length) [(1000, ownF md d f)]) (F : HP) (hF : OldOK W F) : C1OK Try.prog F fCp (cCp oa f.length c d f) :=
  mkC_ok hF (fun _ => sF 1000 f.length) (fun _ => RO.ret _) (fun _ => rfl) (fun _ _ => h) fun _ => ⟨rfl, rfl, ⟨trivial, trivial⟩, all_nil, ⟨rfl, trivial⟩, all_cons trivial all_nil⟩
theorem cv_step (W : World) (d : Nat) (hV : ∀ v r, VAt W.cell? d v r → ∃ e, d = e + 1 ∧ CvOk W e v r) (v : Tv) (r : Rv) (h : VAt W.cell? (d + 1) v r) : CvOk W d v r := by
  obtain ⟨⟨i1, i2, i3, i4, i5⟩, hl, hf⟩ := h
  have hcp := Copy_of W d hV v.tab r.ta r.tc hf
  rw [← i5] at hcp
  constructor
  · intro hz
    have hll : r.ll = 0 := by rw [i4, hz]; rfl
    have hloop : ∀ F, OldOK W F → L1OK Try.prog F (loopN fCv 3) (lCz r) := fun F hF =>
      mkL_ok hF gCv_ro (fun _ _ => cv_loop0 W r hll) fun _ => by
        simp only [RT.pick]
        exact closedT rfl rfl (all_cons rfl (all_cons rfl (all_cons rfl (all_cons trivial all_nil)))) (oC0_cl _ _) (all_cons rfl (all_cons rfl (all_cons rfl all_nil))) (oC0_cl _ _)
    have hcp' : ∀ F, OldOK W F → C1OK Try.prog F fCp (cCp r.ta r.tl r.tc d v.tab) := fun F hF => by
      have := cCp_ok (W := W) (oa := r.ta) (c := r.tc) (d := d) (f := v.tab) (by rw [← i5]; exact hcp) F hF
      rw [← i5] at this
      exact this
    rw [← i5]
    refine tri_run (con := [(fCp, cCp r.ta r.tl r.tc d v.tab)]) (hints := noHints) (lc := [(fCv, 3, loopN fCv 3, lCz r)]) [1100, 1101, 1102, 1103, 1104, 1105, 1106, 1107, 1108, 1109] rfl (fun F hF => one_c (hcp' F hF)) (fun F hF => one_l (hloop F hF)) fun F => ?_
    refine cast (congrArg (VAll _) (oVz_eq W r d v.tab F).symm) ⟨⟨?_, (fit_mk (vs' := [.agg [iv r.k, iv r.n, sv r.t, .mt, sF 1001 r.tl]]) (H' := [(1001, ownF md d v.tab)]) [(1001, 1106)] rfl rfl ?_ ⟨⟨_, rfl, OW.refl _⟩, trivial⟩).fits rfl⟩⟩
    · simp only [Cnd.holds, Nat.blt_eq, true_and, and_true]
      and_intros
      all_goals first | (with_reducible first | exact trivial | exact rfl | exact Wk.refl _ | exact VW.refl _ | exact OW.refl _ | exact wk_lit _ | assumption) | exact rfl | exact Wk.refl _ | exact VW.refl _ | exact OW.refl _ | ((repeat (first | exact VW.nil | refine VW.cons (Wk.refl _) ?_ | refine VW.cons (Wk.any _) ?_ | refine VW.cons (wk_cap (Nat.le_refl _)) ?_)); done)
    · exact VW.cons (wk_agg5 wk_mt0) VW.nil
  · intro hz
    have hll : r.ll = v.list.length := i4
    have hloop : ∀ F, OldOK W F → L1OK Try.prog F (loopN fCv 3) (lCn r d v.list) := fun F hF =>
      mkL_ok hF gCv_ro (fun _ _ => cv_loop W d hV v.list hz r hll hl) fun _ => by
        simp only [RT.pick]
        exact closedT rfl rfl (all_cons rfl (all_cons rfl (all_cons rfl (all_cons trivial all_nil)))) (oC0_cl _ _) (all_cons rfl (all_cons rfl (all_cons rfl all_nil))) (all_cons ⟨trivial, trivial, trivial, trivial, trivial, trivial⟩ (all_cons ⟨trivial, trivial, trivial, rfl, trivial, trivial⟩ (all_cons trivial (all_cons ⟨trivial, trivial, trivial, trivial, trivial, trivial⟩ all_nil))))
    have hcp' : ∀ F, OldOK W F → C1OK Try.prog F fCp (cCp r.ta r.tl r.tc d v.tab) := fun F hF => by
      have := cCp_ok (W := W) (oa := r.ta) (c := r.tc) (d := d) (f := v.tab) (by rw [← i5]; exact hcp) F hF
      rw [← i5] at this
      exact this
    rw [← i5]
    refine tri_run (con := [(fCp, cCp r.ta r.tl r.tc d v.tab)]) (hints := noHints) (lc := [(fCv, 3, loopN fCv 3, lCn r d v.list)]) [1100, 1101, 1102, 1103, 1104, 1105, 1106, 1107, 1108, 1109] rfl (fun F hF => one_c (hcp' F hF)) (fun F hF => one_l (hloop F hF)) fun F => ?_
    refine cast (congrArg (VAll _) (oVn_eq W r d v.list v.tab F).symm) ⟨⟨?_, (fit_mk (vs' := [.agg [iv r.k, iv r.n, sv r.t, sL 1000 v.list.length, sF 1001 r.tl]]) (H' := [(1000, ownL md d v.list), (1001, ownF md d v.tab)]) [(1000, 1105), (1001, 1107)] rfl rfl (VW.refl _) ⟨⟨_, rfl, OW.refl _⟩, ⟨_, rfl, OW.refl _⟩, trivial⟩).fits rfl⟩⟩
    simp only [Cnd.holds, Nat.blt_eq, true_and, and_true]
    and_intros
    all_goals first | (with_reducible first | exact trivial | exact rfl | exact Wk.refl _ | exact VW.refl _ | exact OW.refl _ | exact wk_lit _ | assumption) | exact rfl | exact Wk.refl _ | exact VW.refl _ | exact OW.refl _ | ((repeat (first | exact VW.nil | refine VW.cons (Wk.refl _) ?_ | refine VW.cons (Wk.any _) ?_ | refine VW.cons (wk_cap (Nat.le_refl _)) ?_)); done)
theorem cv_all (W : World) : ∀ (d : Nat) (v : Tv) (r : Rv), VAt W.cell? d v r → ∃ e, d = e + 1 ∧ CvOk W e v r
  | 0, _, _, h => h.elim
  | d + 1, v, r, h => ⟨d, rfl, cv_step W d (cv_all W d) v r h⟩
theorem Copy_tri (W : World) (d : Nat) (f : Tf) (oa : Option Addr) (c : Nat) (ha : FAt W.cell? d oa f) : Tri Try.prog W fCp [slV oa f.length c] [] (sF 1000 f.length) [(1000, ownF md d f)] := Copy_of W d (cv_all W d) f oa c ha
end Go.Proofs.Ytfledabgdcnkfaa.Tree

