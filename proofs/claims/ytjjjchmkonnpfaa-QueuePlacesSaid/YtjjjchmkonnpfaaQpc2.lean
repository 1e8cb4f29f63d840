/- Parts of the proof, merged. -/
import Derived.Test.YtjjjchmkonnpfaaMem
import Derived.Deep.Slices
import Derived.SizedLaws
import Derived.Test.YtjjjchmkonnpfaaEngKit
import Derived.Test.YtjjjchmkonnpfaaEngXQpc
import Derived.Test.YtjjjchmkonnpfaaEngCon
import Derived.Test.YtjjjchmkonnpfaaEngRow
import Derived.Test.YtjjjchmkonnpfaaEngIMap
import Derived.Test.YtjjjchmkonnpfaaProg
import Derived.KernelRfl
import Derived.IntWalk
noncomputable section
set_option linter.unusedVariables false
set_option linter.unusedSimpArgs false
set_option maxRecDepth 100000
set_option linter.unusedSectionVars false
namespace Go.Proofs.Ytjjjchmkonnpfaa
open Go
theorem MZ' {α : Type} {f : α -> List Value} {m : Nat} (hf : ∀ x, (f x).length = m) : ∀ (l : List α) (k j : Nat) (h : k < l.length), j < m -> (l.flatMap f)[k * m + j]? = (f l[k])[j]?
 | [], _, _, h, _ => by simp at h
 | x :: l, 0, j, _, hj => by
  rw [List.flatMap_cons, Nat.zero_mul, Nat.zero_add, List.getElem?_append_left (by rw [hf]; exact hj)]; rfl
 | x :: l, k + 1, j, h, hj => by
  rw [List.flatMap_cons, List.getElem?_append_right (by rw [hf, Nat.add_mul]; omega), hf, show (k + 1) * m + j - m = k * m + j from by rw [Nat.add_mul]; omega]
  exact MZ' hf l k j (by simpa using h) hj
open Go.ChangeShapes Go.WideShapes Go.RowKit Go.Deep
variable {t : TypeId}
section
variable {H : Type} {enc : TypeId × Value -> H} {P : Program} {w : World} {base : Nat} {spare : Nat -> Bool} {held : Bool}
def CD' (P : Program) (t : TypeId) (d : DataW H) : Prop := ∀ n ∈ d.weights P t, n <= reachBytes
theorem U1' {ts : List TypeId} {ds : List (DataW H)} (h : (DataW.weightsEach P ts ds).all (· <= reachBytes) = true) {j : Nat} {d : DataW H} (ht : ts[j]? = some t) (hd : ds[j]? = some d) : CD' P t d := fun n hn => by
 simpa using List.all_eq_true.1 h n (DataW.weights_mem_each ht hd n hn)
theorem I9' {e : TypeId} : ∀ {l : List (DataW H)} {d : DataW H}, d ∈ l -> ∀ n ∈ d.weights P e, n ∈ DataW.weightsAll P e l
 | x :: l, d, hd, n, hn => by
  rw [DataW.weightsAll, List.mem_append]
  rcases List.mem_cons.1 hd with rfl | hd
  ·exact .inl hn
  ·exact .inr (I9' hd n hn)
theorem CD'.elem {e : TypeId} {elems sp : List (DataW H)} (hu : P.underlying t = some (.slice e)) (h : CD' P t (.slice elems sp)) {d : DataW H} (hd : d ∈ elems) : CD' P e d := fun n hn => by
 refine h n ?_; simp only [DataW.weights, hu, List.mem_cons, List.mem_append]; exact .inr (.inl (I9' hd n hn))
theorem CD'.len {e : TypeId} {elems sp : List (DataW H)} (hu : P.underlying t = some (.slice e)) (h : CD' P t (.slice elems sp)) : (elems.length + sp.length) * P.bytesOf e <= reachBytes :=
 h _ (by simp only [DataW.weights, hu, List.mem_cons, true_or])
theorem CD'.field {fs : Array Field} {parts : List (DataW H)} (hu : P.underlying t = some (.struct fs)) (h : CD' P t (.agg parts)) {i : Nat} {f : Field} {d : DataW H} (hf : fs[i]? = some f) (hp : parts[i]? = some d) : CD' P f.type d := fun n hn => by
 refine h n ?_; simp only [DataW.weights, hu]; exact DataW.weights_mem_each (j := i) (by simp [hf]) hp n hn
end
end Go.Proofs.Ytjjjchmkonnpfaa
namespace Go.Proofs.Ytjjjchmkonnpfaa.Tree
open Go Go.RowKit Eng Kit
variable {d k : Nat} {w : World} {N : A3'} {y : Value}
inductive Tv where
 | mk (kind num : Int) (text : Δ) (list : List Tv) (tab : List (Δ × Tv))
 deriving Inhabited
abbrev Tf := List (Δ × Tv)
def Tv.kind : Tv -> Int
 | .mk k _ _ _ _ => k
def Tv.num : Tv -> Int
 | .mk _ n _ _ _ => n
def Tv.text : Tv -> Δ
 | .mk _ _ t _ _ => t
def Tv.list : Tv -> List Tv
 | .mk _ _ _ l _ => l
def Tv.tab : Tv -> Tf
 | .mk _ _ _ _ f => f
structure Rv where
 k : Int
 n : Int
 t : Δ
 la : Option Addr
 ll : Nat
 lc : Nat
 ta : Option Addr
 tl : Nat
 tc : Nat
 deriving Inhabited
def Rv.cells (r : Rv) : List Value := [.int .i64 r.k, .int .i64 r.n, .string r.t, .slice r.la r.ll r.lc, .slice r.ta r.tl r.tc]
def aggR (r : Rv) : AV := .agg [iv r.k, iv r.n, sv r.t, slV r.la r.ll r.lc, slV r.ta r.tl r.tc]
abbrev Mem := Addr -> Option Value
def Cells (C : Mem) (a : Addr) (cs : List Value) : Prop := ∀ j u, cs[j]? = some u -> C (a.add j) = some u
def big : Nat := 140737488351232
def LOf (V : Tv -> Rv -> Prop) (C : Mem) (oa : Option Addr) (l : List Tv) : Prop := l.length * 80 <= big /\ ∀ i x, l[i]? = some x -> ∃ a r, oa = some a /\ Cells C (a.add (i * 5)) r.cells /\ V x r
def FOf (V : Tv -> Rv -> Prop) (C : Mem) (oa : Option Addr) (f : Tf) : Prop := f.length * 96 <= big /\ ∀ i nm x, f[i]? = some (nm, x) -> ∃ a r, oa = some a /\ Cells C (a.add (i * 6)) (.string nm :: r.cells) /\ V x r
def VAt (C : Mem) : Nat -> Tv -> Rv -> Prop
 | 0 => fun _ _ => False
 | d + 1 => fun v r => (r.k = v.kind /\ r.n = v.num /\ r.t = v.text /\ r.ll = v.list.length /\ r.tl = v.tab.length) /\ LOf (VAt C d) C r.la v.list /\ FOf (VAt C d) C r.ta v.tab
abbrev LAt (C : Mem) (d : Nat) := LOf (VAt C d) C
abbrev FAt (C : Mem) (d : Nat) := FOf (VAt C d) C
theorem Cells.mono {C C' : Mem} (h : ∀ a v, C a = some v -> C' a = some v) {a : Addr} {cs : List Value} (hc : Cells C a cs) : Cells C' a cs := fun j u hu => h _ _ (hc j u hu)
theorem LOf.mono {V V' : Tv -> Rv -> Prop} (hV : ∀ x r, V x r -> V' x r) {C C' : Mem} (h : ∀ a v, C a = some v -> C' a = some v) {oa : Option Addr} {l : List Tv} (hl : LOf V C oa l) : LOf V' C' oa l :=
 ⟨hl.1, fun i x hx => by
  obtain ⟨a, r, h1, h2, h3⟩ := hl.2 i x hx
  exact ⟨a, r, h1, h2.mono h, hV _ _ h3⟩⟩
theorem FOf.mono {V V' : Tv -> Rv -> Prop} (hV : ∀ x r, V x r -> V' x r) {C C' : Mem} (h : ∀ a v, C a = some v -> C' a = some v) {oa : Option Addr} {f : Tf} (hf : FOf V C oa f) : FOf V' C' oa f :=
 ⟨hf.1, fun i nm x hx => by
  obtain ⟨a, r, h1, h2, h3⟩ := hf.2 i nm x hx
  exact ⟨a, r, h1, h2.mono h, hV _ _ h3⟩⟩
theorem VAt.mono {C C' : Mem} (h : ∀ a v, C a = some v -> C' a = some v) : ∀ {d : Nat} {v : Tv} {r : Rv}, VAt C d v r -> VAt C' d v r
 | 0, _, _, hv => hv.elim
 | d + 1, v, r, hv => ⟨hv.1, hv.2.1.mono (fun x r hx => VAt.mono h hx) h, hv.2.2.mono (fun x r hx => VAt.mono h hx) h⟩
theorem VAt.deep {C : Mem} : ∀ {d : Nat} {v : Tv} {r : Rv}, VAt C d v r -> VAt C (d + 1) v r
 | 0, _, _, hv => hv.elim
 | d + 1, v, r, hv => ⟨hv.1, hv.2.1.mono (fun x r hx => VAt.deep hx) (fun _ _ h => h), hv.2.2.mono (fun x r hx => VAt.deep hx) (fun _ _ h => h)⟩
theorem LAt.mono {C C' : Mem} (h : ∀ a v, C a = some v -> C' a = some v) {oa : Option Addr} {l : List Tv} (hl : LAt C d oa l) : LAt C' d oa l := LOf.mono (fun _ _ hx => VAt.mono h hx) h hl
theorem FAt.mono {C C' : Mem} (h : ∀ a v, C a = some v -> C' a = some v) {oa : Option Addr} {l : Tf} (hl : FAt C d oa l) : FAt C' d oa l := FOf.mono (fun _ _ hx => VAt.mono h hx) h hl
noncomputable section
def D4' (D : Nat -> Prop) (w : World) : Mem := fun a => by classical exact if D a.block then w.cell? a else none
theorem T6' {D : Nat -> Prop} {a : Addr} (h : D a.block) : D4' D w a = w.cell? a := by unfold D4'; rw [if_pos h]
theorem N3' {D : Nat -> Prop} {a : Addr} {v : Value} (h : D4' D w a = some v) : D a.block /\ w.cell? a = some v := by
 unfold D4' at h; split at h
 ·rename_i hd; exact ⟨hd, h⟩
 ·cases h
theorem C1' {D D' : Nat -> Prop} (h : ∀ b, D b -> D' b) : ∀ a v, D4' D w a = some v -> D4' D' w a = some v := fun a v ha => by
 obtain ⟨h1, h2⟩ := N3' ha; rw [T6' (h _ h1)]; exact h2
theorem aY' {w' : World} {a : Addr} (h : w'.heap[a.block]? = w.heap[a.block]?) : w'.cell? a = w.cell? a := by unfold World.cell?; rw [h]
theorem WB' {D : Nat -> Prop} {w' : World} (h : ∀ b, D b -> w'.heap[b]? = w.heap[b]?) : D4' D w' = D4' D w := by
 funext a; unfold D4'; split
 ·rename_i hd; exact aY' (h _ hd)
 ·rfl
def frz (P : Mem -> Prop) : HP where
 on D w := P (D4' D w) /\ ∀ b, D b -> b < w.heap.size
 far {D w w'} hf := fun ⟨h1, h2⟩ => ⟨by rw [WB' hf]; exact h1, fun b hb => by
  have h3 := hf b hb; rw [Array.getElem?_eq_getElem (h2 b hb)] at h3
  exact (Array.getElem?_eq_some_iff.1 h3).1⟩
 lt {D w} := fun ⟨_, h2⟩ => h2
theorem MY' {W0 : World} {F : HP} {N1 : A3'} {H H' : LH} {D0 : Nat -> Prop} {D : Nat -> Nat -> Prop} (hl : AD' 1100 H = true) (hl' : AD' 1100 H' = true) (r : Rep W0 N1 F (AN' H) w)
  (h1 : F.on D0 w) (h2 : ∀ i o, getO H i = some o -> OR N1 i o (D i) w /\ ∀ b, D i b -> ¬ D0 b) (h3 : ∀ i j o o', getO H i = some o -> getO H j = some o' -> i ≠ j -> ∀ b, D i b -> ¬ D j b)
  (k : Nat) (S : Nat -> Prop) (hkS : ¬ S k) {ok : AO} (hk0 : getO H k = some ok)
  (hn : ∀ n o', n ≠ k -> getO H' n = some o' -> ¬ S n /\ ∃ o, getO H n = some o /\ OR N1 n o' (D n) w)
  (hk : ∀ o', getO H' k = some o' -> OR N1 k o' (fun x => D k x \/ ∃ j, S j /\ (∃ o, getO H j = some o) /\ D j x) w) : Rep W0 N1 F (AN' H') w := by
 classical
 have hf' : ∀ n, (AN' H').find n = getO H' n := AG' (GG' hl')
 refine ⟨r.os, r.tape, r.output, D0, fun n x => if n = k then (D k x \/ ∃ j, S j /\ (∃ o, getO H j = some o) /\ D j x) else D n x, h1, fun n o hno => ?_, fun n m o o' hno hmo hnm b hb hb' => ?_⟩
 ·rw [hf'] at hno
  by_cases e : n = k
  ·subst e; simp only [if_true]
   refine ⟨hk o hno, fun b hb => ?_⟩
   rcases hb with hb | ⟨j, _, ⟨oj, hj⟩, hb⟩
   ·exact (h2 n _ hk0).2 b hb
   ·exact (h2 j _ hj).2 b hb
  ·simp only [if_neg e]; obtain ⟨_, o0, q1, q2⟩ := hn n o e hno; exact ⟨q2, (h2 n _ q1).2⟩
 ·rw [hf'] at hno hmo
  have key : ∀ m o', getO H' m = some o' -> m ≠ k -> ∀ b, (D k b \/ ∃ j, S j /\ (∃ o, getO H j = some o) /\ D j b) -> ¬ D m b := by
   intro m o' hm hmk b hb; obtain ⟨q0, o1, q1, _⟩ := hn m o' hmk hm
   rcases hb with hb | ⟨j, hj, ⟨oj, hjo⟩, hb⟩
   ·exact h3 k m _ _ hk0 q1 (Ne.symm hmk) b hb
   ·exact h3 j m _ _ hjo q1 (fun e => q0 (e ▸ hj)) b hb
  by_cases e : n = k
  ·subst e; simp only [if_true] at hb; have e' : m ≠ n := Ne.symm hnm; simp only [if_neg e'] at hb'; exact key m o' hmo e' b hb hb'
  ·simp only [if_neg e] at hb
   by_cases e' : m = k
   ·subst e'; simp only [if_true] at hb'; exact key n o hno e b hb' hb
   ·simp only [if_neg e'] at hb'; obtain ⟨_, o1, q1, _⟩ := hn n o e hno; obtain ⟨_, o2, q2, _⟩ := hn m o' e' hmo; exact h3 n m _ _ q1 q2 hnm b hb hb'
variable (m : Md)
def ownL (d : Nat) (l : List Tv) : AO := .own m fun b _ => frz fun C => LAt C d (some ⟨b, 0, none⟩) l
def ownF (d : Nat) (f : Tf) : AO := .own m fun b _ => frz fun C => FAt C d (some ⟨b, 0, none⟩) f
variable {m}
theorem LOf.nil {V : Tv -> Rv -> Prop} {C : Mem} (oa : Option Addr) : LOf V C oa [] := ⟨Nat.zero_le _, fun i x h => by simp at h⟩
theorem FOf.nil {V : Tv -> Rv -> Prop} {C : Mem} (oa : Option Addr) : FOf V C oa [] := ⟨Nat.zero_le _, fun i nm x h => by simp at h⟩
theorem LA' {n sz : Nat} (h : VR N (.slice k 0 n sz (.lo n)) y) : ∃ l x c, N k = some l /\ y = .slice (some ⟨l.blk, x, none⟩) n c /\ (0 < n -> x = l.off) := by
 simp only [VR] at h; obtain ⟨l, x, c, h1, h2, h3, h4, h5, h6⟩ := h
 refine ⟨l, x, c, h1, h2, fun hn => ?_⟩
 rcases h3 with h3 | h3
 ·rw [h3, Nat.add_zero]
 ·omega
theorem YW' {l : List Tv} {D : Nat -> Prop} (ho : OR N k (ownL m d l) D w) (hy : VR N (.slice k 0 l.length 5 (.lo l.length)) y) : ∃ la lc, y = .slice la l.length lc /\ LAt (D4' D w) d la l := by
 obtain ⟨lo, x, c, h1, rfl, h3⟩ := LA' hy; obtain ⟨lo', h1', h0, h2⟩ := ho; rw [h1] at h1'; cases h1'; refine ⟨_, _, rfl, ?_⟩
 cases l with
 | nil => exact LOf.nil _
 | cons v l => rw [h3 (Nat.succ_pos _), h0]; exact h2.1
theorem YX' {l : Tf} {D : Nat -> Prop} (ho : OR N k (ownF m d l) D w) (hy : VR N (.slice k 0 l.length 6 (.lo l.length)) y) : ∃ la lc, y = .slice la l.length lc /\ FAt (D4' D w) d la l := by
 obtain ⟨lo, x, c, h1, rfl, h3⟩ := LA' hy; obtain ⟨lo', h1', h0, h2⟩ := ho; rw [h1] at h1'; cases h1'; refine ⟨_, _, rfl, ?_⟩
 cases l with
 | nil => exact FOf.nil _
 | cons v l => rw [h3 (Nat.succ_pos _), h0]; exact h2.1
def encF (p : Δ × Rv) : List Value := .string p.1 :: p.2.cells
def encV (r : Rv) : List Value := r.cells
def PF (d : Nat) (R : List (Δ × Rv)) (f : Tf) (C : Mem) : Prop := R.length = f.length /\ ∀ (i : Nat) (nm : Δ) (x : Tv), f[i]? = some (nm, x) -> ∃ r, R[i]? = some (nm, r) /\ VAt C d x r
def PV (d : Nat) (R : List Rv) (l : List Tv) (C : Mem) : Prop := R.length = l.length /\ ∀ (i : Nat) (x : Tv), l[i]? = some x -> ∃ r, R[i]? = some r /\ VAt C d x r
theorem PF.mono {R : List (Δ × Rv)} {f : Tf} {C C' : Mem} (h : ∀ a v, C a = some v -> C' a = some v) (hp : PF d R f C) : PF d R f C' := ⟨hp.1, fun i nm x hx => by
 obtain ⟨r, h1, h2⟩ := hp.2 i nm x hx
 exact ⟨r, h1, h2.mono h⟩⟩
theorem PV.mono {R : List Rv} {l : List Tv} {C C' : Mem} (h : ∀ a v, C a = some v -> C' a = some v) (hp : PV d R l C) : PV d R l C' := ⟨hp.1, fun i x hx => by
 obtain ⟨r, h1, h2⟩ := hp.2 i x hx
 exact ⟨r, h1, h2.mono h⟩⟩
theorem PF.add {R : List (Δ × Rv)} {f : Tf} {C : Mem} (hp : PF d R f C) {nm : Δ} {x : Tv} {r : Rv} (hx : VAt C d x r) : PF d (R ++ [(nm, r)]) (f ++ [(nm, x)]) C := by
 refine ⟨by simp [hp.1], fun i n y hy => ?_⟩
 rcases Nat.lt_or_ge i f.length with h | h
 ·rw [List.getElem?_append_left h] at hy; obtain ⟨s, h1, h2⟩ := hp.2 i n y hy
  exact ⟨s, by rw [List.getElem?_append_left (by have := hp.1; omega)]; exact h1, h2⟩
 ·rw [List.getElem?_append_right h] at hy
  have : i - f.length = 0 := by
   cases hk : i - f.length with
   | zero => rfl
   | succ n => rw [hk] at hy; simp at hy
  rw [this] at hy; simp only [List.getElem?_cons_zero, Option.some.injEq, Prod.mk.injEq] at hy; obtain ⟨rfl, rfl⟩ := hy; refine ⟨r, ?_, hx⟩
  rw [List.getElem?_append_right (by have := hp.1; omega), show i - R.length = 0 by have := hp.1; omega]
  rfl
theorem PV.add {R : List Rv} {f : List Tv} {C : Mem} (hp : PV d R f C) {x : Tv} {r : Rv} (hx : VAt C d x r) : PV d (R ++ [r]) (f ++ [x]) C := by
 refine ⟨by simp [hp.1], fun i y hy => ?_⟩
 rcases Nat.lt_or_ge i f.length with h | h
 ·rw [List.getElem?_append_left h] at hy; obtain ⟨s, h1, h2⟩ := hp.2 i y hy
  exact ⟨s, by rw [List.getElem?_append_left (by have := hp.1; omega)]; exact h1, h2⟩
 ·rw [List.getElem?_append_right h] at hy
  have : i - f.length = 0 := by
   cases hk : i - f.length with
   | zero => rfl
   | succ n => rw [hk] at hy; simp at hy
  rw [this] at hy; simp only [List.getElem?_cons_zero, Option.some.injEq] at hy; subst hy; refine ⟨r, ?_, hx⟩
  rw [List.getElem?_append_right (by have := hp.1; omega), show i - R.length = 0 by have := hp.1; omega]
  rfl
end
abbrev tVl : TypeId := 2 * 117
theorem CF' {b b' : Bool} (h : b = b') : Wk (.lit b) (.v (.bool b')) := by subst h; exact fun N y hy => VR_v.2 (GK'.1 hy)
theorem c5 {C : Mem} {A : Addr} {r : Rv} (h : Cells C A r.cells) : C (A.add 0) = some (.int .i64 r.k) /\ C (Addr.mk A.block (A.off + 1) none) = some (.int .i64 r.n) /\ C (Addr.mk A.block (A.off + 2) none) = some (.string r.t) /\ C (Addr.mk A.block (A.off + 3) none) = some (.slice r.la r.ll r.lc) /\ C (Addr.mk A.block (A.off + 4) none) = some (.slice r.ta r.tl r.tc) :=
 ⟨h 0 _ rfl, h 1 _ rfl, h 2 _ rfl, h 3 _ rfl, h 4 _ rfl⟩
theorem all5 {W : World} {A : Addr} {r : Rv} (h : Cells W.cell? A r.cells) : ([0, 1, 2, 3, 4].all fun j => (W.cell? (A.add j)).isSome) = true := by
 have e0 : W.cell? (A.add 0) = some _ := h 0 _ rfl; have e1 : W.cell? (A.add 1) = some _ := h 1 _ rfl; have e2 : W.cell? (A.add 2) = some _ := h 2 _ rfl; have e3 : W.cell? (A.add 3) = some _ := h 3 _ rfl; have e4 : W.cell? (A.add 4) = some _ := h 4 _ rfl; simp only [List.all_cons, List.all_nil, e0, e1, e2, e3, e4, Bool.and_true, Option.isSome_some]
theorem gN' (A : Addr) (j : Nat) : (Addr.mk A.block (A.off + 1) none).add j = A.add (j + 1) := by
 unfold Addr.add; rw [if_neg (Nat.succ_ne_zero j)]; split
 ·rename_i h; subst h; rfl
 ·show Addr.mk A.block (A.off + 1 + j) none = Addr.mk A.block (A.off + (j + 1)) none; rw [Nat.add_assoc, Nat.add_comm 1 j]
theorem c6 {C : Mem} {A : Addr} {nm : Δ} {r : Rv} (h : Cells C A (.string nm :: r.cells)) : C (A.add 0) = some (.string nm) /\ Cells C (Addr.mk A.block (A.off + 1) none) r.cells :=
 ⟨h 0 _ rfl, fun j u hu => by rw [gN']; exact h (j + 1) u hu⟩
theorem d5' {r : Rv} {x0 x1 : Int} {x2 : Δ} {x3 x4 : Value} (h0 : x0 = r.k) (h1 : x1 = r.n) (h2 : x2 = r.t) (h3 : x3 = .slice r.la r.ll r.lc) (h4 : x4 = .slice r.ta r.tl r.tc) : Wk (.agg [.v (.int .i64 x0), .v (.int .i64 x1), .v (.string x2), .v x3, .v x4]) (aggR r) := by
 subst h0 h1 h2 h3 h4; exact Ya
theorem DD' {α : Type} {l : List α} {i : Nat} (h : i < l.length) : ∃ x, l[i]? = some x := ⟨_, List.getElem?_eq_getElem h⟩
theorem XP' {n : Nat} (h : n * k <= big) (hk : 0 < k) : n <= 140737488351232 := Nat.le_trans (Nat.le_mul_of_pos_right n hk) h
end Go.Proofs.Ytjjjchmkonnpfaa.Tree
namespace Go.Proofs.Ytjjjchmkonnpfaa.Eng
open Go Go.RowKit
section
variable {α : Type} {enc : α -> List Value} {k : Nat}
end
end Go.Proofs.Ytjjjchmkonnpfaa.Eng
namespace Go.Proofs.Ytjjjchmkonnpfaa.Tree
open Go Go.RowKit Eng Kit
open Int renaming ofNat -> o'
open Go.Value renaming string -> vs'
open Go.Value renaming int -> vi'
open AO renaming cells -> ce'
open AV renaming v -> v'
open AV renaming ptr -> pt'
open Go.IntKind renaming i64 -> I'
open Cnd renaming holds -> ch'
open List renaming length_append -> la'
open List renaming mem_cons_self -> ms'
open Go.Value renaming slice -> sl'
variable {w W0 W : World} {N N1 : A3'} {d i k : Nat} {e : TypeId} {H : LH} {vs : List AV} {nm t : Δ} {F : HP} {ys : List Value} {n : Int}
noncomputable section
abbrev fFt : Nat := 58
abbrev fFv : Nat := 67
abbrev tFl : TypeId := 2 * 119
abbrev md : Md := .nothing
abbrev nilS : AV := slV none 0 0
def sF (i n : Nat) : AV := .slice i 0 n 6 (.lo n)
def sL (i n : Nat) : AV := .slice i 0 n 5 (.lo n)
def rF (R : List (Δ × Rv)) : AO := .cells (rowV encF R) tFl
def rV (R : List Rv) : AO := .cells (rowV encV R) tVl
def aggF (nm : Δ) (r : Rv) : AV := .agg [sv nm, iv r.k, iv r.n, sv r.t, slV r.la r.ll r.lc, slV r.ta r.tl r.tc]
def cFv (r : Rv) (LV TV : AV) (OL OT : AO) : List AV -> Option (AP AV) := mkC (fun _ => .ret ()) (fun _ => True) (fun _ k => k) (fun _ => [aggR r]) (fun _ => []) (fun _ => .leaf .ret [.agg [iv r.k, iv r.n, sv r.t, LV, TV]] [(1006, OL), (1007, OT)])
def cFt (oa : Option Addr) (n c : Nat) (FV : AV) (OF : AO) : List AV -> Option (AP AV) := mkC (fun _ => .ret ()) (fun _ => True) (fun _ k => k) (fun _ => [slV oa n c]) (fun _ => []) (fun _ => .leaf .ret [FV] [(1007, OF)])
def aFc (oa : Option Addr) (n c : Nat) (x : AV) (i : Nat) : List (Nat × AV) := [(2, x), (5, slV oa n c), (6, iv (o' n)), (7, iv (o' i))]
def oFc (R : List (Δ × Rv)) (P : Mem -> Prop) : LH := [(1000, rF R), (1001, .any (frz P))]
def hFc (i : Nat) (nm : Δ) (r : Rv) : AY' := AJ' [ht' fFt 2 0, (fFt, 3, 1, hv (aggF nm r)), (fFt, 5, 0, hv (iv (o' (i + 1))))]
def hFcE : AY' := AJ' [hf' fFt 2 0]
def kFc : List Nat := [1000, 1001, 1006, 1007, 1100, 1101, 1102, 1103, 1104, 1105]
def iFc : List Nat := [2, 5, 6, 7]
abbrev _root_.Go.Proofs.Ytjjjchmkonnpfaa.k1' : Cnd := t'
abbrev _root_.Go.Proofs.Ytjjjchmkonnpfaa.k2' : Cnd := (f' (Wk (i' 1) (i' 1)))
abbrev k3' (q0 : Rv) : Cnd := ((p' True).a (f' (VW [AV.agg [z' q0.k,z' q0.n,s' q0.t,v' (sl' q0.la q0.ll q0.lc),v' (sl' q0.ta q0.tl q0.tc)]] [AV.agg [z' q0.k,z' q0.n,s' q0.t,v' (sl' q0.la q0.ll q0.lc),v' (sl' q0.ta q0.tl q0.tc)]])))
abbrev k4' (q0 : Rv) : Cnd := (ee' [z' q0.k,z' q0.n,s' q0.t,v' (sl' q0.la q0.ll q0.lc),v' (sl' q0.ta q0.tl q0.tc)])
abbrev k5' (q0 : Δ) : Cnd := (ee' (s' q0))
abbrev _root_.Go.Proofs.Ytjjjchmkonnpfaa.k6' : Cnd := (fe' true)
theorem f7' (W : World) (a : Addr) (n c : Nat) (nm : Δ) (r : Rv) (LV TV : AV) (OL OT : AO) (F : HP) : B0' [(fFv, cFv r LV TV OL OT)] (hFc 0 nm r) [] W fFt (AH' fFt 2) (tms 0 22 (aFc (some a) n c nilS 0)) [] kFc iFc F = VT.leaf (AX.normal,[AV.slice 1104 0 1 6 (Cp.lo 1),v' (sl' (some a) n c),i' n,i' 1],22) [none,none,none,none,some (ce' [s' nm,z' r.k,z' r.n,s' r.t,v' (sl' r.la r.ll r.lc),v' (sl' r.ta r.tl r.tc)] 238),some (AO.ren (sgN (fun k => k) [1006,1007] 1101) OL),some (AO.ren (sgN (fun k => k) [1006,1007] 1101) OT),some (ce' [s' nm,z' r.k,z' r.n,s' r.t,(AV.ren (sgN (fun k => k) [1006,1007] 1101) LV),(AV.ren (sgN (fun k => k) [1006,1007] 1101) TV)] 238),some (ce' [s' nm,z' r.k,z' r.n,s' r.t,(AV.ren (sgN (fun k => k) [1006,1007] 1101) LV),(AV.ren (sgN (fun k => k) [1006,1007] 1101) TV)] 238),none] 1105 ((wb' (decide (o' 0 < o' n)) j').a ((f' (Nat.blt 0 n = true)).a (((p' (([0,1,2,3,4,5].all fun j => (W.cell? ((a.add 0).add j)).isSome) = true)).a ((p' ([v' ((W.cell? ((a.add 0).add 0)).getD (Value.tuple (Array.mk []))),v' ((W.cell? (Addr.mk (a.add 0).block ((a.add 0).off + 1) none)).getD (Value.tuple (Array.mk []))),v' ((W.cell? (Addr.mk (a.add 0).block ((a.add 0).off + 2) none)).getD (Value.tuple (Array.mk []))),v' ((W.cell? (Addr.mk (a.add 0).block ((a.add 0).off + 3) none)).getD (Value.tuple (Array.mk []))),v' ((W.cell? (Addr.mk (a.add 0).block ((a.add 0).off + 4) none)).getD (Value.tuple (Array.mk []))),v' ((W.cell? (Addr.mk (a.add 0).block ((a.add 0).off + 5) none)).getD (Value.tuple (Array.mk [])))] = [v' (vs' (v' ((W.cell? ((a.add 0).add 0)).getD (Value.tuple (Array.mk [])))).strOf),v' (vi' I' (v' ((W.cell? (Addr.mk (a.add 0).block ((a.add 0).off + 1) none)).getD (Value.tuple (Array.mk [])))).intOf),v' (vi' I' (v' ((W.cell? (Addr.mk (a.add 0).block ((a.add 0).off + 2) none)).getD (Value.tuple (Array.mk [])))).intOf),v' (vs' (v' ((W.cell? (Addr.mk (a.add 0).block ((a.add 0).off + 3) none)).getD (Value.tuple (Array.mk [])))).strOf),v' ((W.cell? (Addr.mk (a.add 0).block ((a.add 0).off + 4) none)).getD (Value.tuple (Array.mk []))),v' ((W.cell? (Addr.mk (a.add 0).block ((a.add 0).off + 5) none)).getD (Value.tuple (Array.mk [])))])).a (f' (Wk (AV.agg [v' (vs' (v' ((W.cell? ((a.add 0).add 0)).getD (Value.tuple (Array.mk [])))).strOf),v' (vi' I' (v' ((W.cell? (Addr.mk (a.add 0).block ((a.add 0).off + 1) none)).getD (Value.tuple (Array.mk [])))).intOf),v' (vi' I' (v' ((W.cell? (Addr.mk (a.add 0).block ((a.add 0).off + 2) none)).getD (Value.tuple (Array.mk [])))).intOf),v' (vs' (v' ((W.cell? (Addr.mk (a.add 0).block ((a.add 0).off + 3) none)).getD (Value.tuple (Array.mk [])))).strOf),v' ((W.cell? (Addr.mk (a.add 0).block ((a.add 0).off + 4) none)).getD (Value.tuple (Array.mk []))),v' ((W.cell? (Addr.mk (a.add 0).block ((a.add 0).off + 5) none)).getD (Value.tuple (Array.mk [])))]) (AV.agg [s' nm,z' r.k,z' r.n,s' r.t,v' (sl' r.la r.ll r.lc),v' (sl' r.ta r.tl r.tc)]))))).a (k6'.a ((k5' nm).a ((k4' r).a ((k3' r).a ((tt'.a (tt'.a ((p' ([s' nm,z' r.k,z' r.n,s' r.t,(AV.ren (sgN (fun k => k) [1006,1007] 1101) LV),(AV.ren (sgN (fun k => k) [1006,1007] 1101) TV)].all AV.one = true)).a (tt'.a (ee' true))))).a (k2'.a k1'))))))))) := χ
abbrev _root_.Go.Proofs.Ytjjjchmkonnpfaa.k7' (q0 : Nat) : Cnd := (f' (Wk (z' (IntKind.i64.wrap (o' q0 + o' 1))) (i' (q0 + 1))))
abbrev _root_.Go.Proofs.Ytjjjchmkonnpfaa.h8' (q0 q1 : Nat) (z : Cnd) : Cnd := ((wb' (decide (o' q0 < o' q1)) j').a ((f' (q0.blt q1 = true)).a z))
theorem f6' (W : World) (a : Addr) (n c m i : Nat) (nm : Δ) (r : Rv) (LV TV : AV) (OL OT : AO) (R : List (Δ × Rv)) (P : Mem -> Prop) (F : HP) : B0' [(fFv, cFv r LV TV OL OT)] (hFc i nm r) [] W fFt (AH' fFt 2) (tms 0 22 (aFc (some a) n c (sF 1000 m) i)) (oFc R P) kFc iFc F = VT.leaf (AX.normal,[AV.slice 1104 0 (m + 1) 6 (Cp.lo (m + 1)),v' (sl' (some a) n c),i' n,i' (i + 1)],22) [none,some (AO.any (frz P)),none,none,some (ce' [s' nm,z' r.k,z' r.n,s' r.t,v' (sl' r.la r.ll r.lc),v' (sl' r.ta r.tl r.tc)] 238),some (AO.ren (sgN (fun k => k) [1006,1007] 1101) OL),some (AO.ren (sgN (fun k => k) [1006,1007] 1101) OT),some (ce' [s' nm,z' r.k,z' r.n,s' r.t,(AV.ren (sgN (fun k => k) [1006,1007] 1101) LV),(AV.ren (sgN (fun k => k) [1006,1007] 1101) TV)] 238),some (ce' (List.take (m * 6) (List.drop 0 (rowV encF R)) ++ [s' nm,z' r.k,z' r.n,s' r.t,(AV.ren (sgN (fun k => k) [1006,1007] 1101) LV),(AV.ren (sgN (fun k => k) [1006,1007] 1101) TV)]) 238),none] 1105 (h8' i n (((p' (([0,1,2,3,4,5].all fun j => (W.cell? ((a.add (i * 6)).add j)).isSome) = true)).a ((p' ([v' ((W.cell? ((a.add (i * 6)).add 0)).getD (Value.tuple (Array.mk []))),v' ((W.cell? (Addr.mk (a.add (i * 6)).block ((a.add (i * 6)).off + 1) none)).getD (Value.tuple (Array.mk []))),v' ((W.cell? (Addr.mk (a.add (i * 6)).block ((a.add (i * 6)).off + 2) none)).getD (Value.tuple (Array.mk []))),v' ((W.cell? (Addr.mk (a.add (i * 6)).block ((a.add (i * 6)).off + 3) none)).getD (Value.tuple (Array.mk []))),v' ((W.cell? (Addr.mk (a.add (i * 6)).block ((a.add (i * 6)).off + 4) none)).getD (Value.tuple (Array.mk []))),v' ((W.cell? (Addr.mk (a.add (i * 6)).block ((a.add (i * 6)).off + 5) none)).getD (Value.tuple (Array.mk [])))] = [v' (vs' (v' ((W.cell? ((a.add (i * 6)).add 0)).getD (Value.tuple (Array.mk [])))).strOf),v' (vi' I' (v' ((W.cell? (Addr.mk (a.add (i * 6)).block ((a.add (i * 6)).off + 1) none)).getD (Value.tuple (Array.mk [])))).intOf),v' (vi' I' (v' ((W.cell? (Addr.mk (a.add (i * 6)).block ((a.add (i * 6)).off + 2) none)).getD (Value.tuple (Array.mk [])))).intOf),v' (vs' (v' ((W.cell? (Addr.mk (a.add (i * 6)).block ((a.add (i * 6)).off + 3) none)).getD (Value.tuple (Array.mk [])))).strOf),v' ((W.cell? (Addr.mk (a.add (i * 6)).block ((a.add (i * 6)).off + 4) none)).getD (Value.tuple (Array.mk []))),v' ((W.cell? (Addr.mk (a.add (i * 6)).block ((a.add (i * 6)).off + 5) none)).getD (Value.tuple (Array.mk [])))])).a (f' (Wk (AV.agg [v' (vs' (v' ((W.cell? ((a.add (i * 6)).add 0)).getD (Value.tuple (Array.mk [])))).strOf),v' (vi' I' (v' ((W.cell? (Addr.mk (a.add (i * 6)).block ((a.add (i * 6)).off + 1) none)).getD (Value.tuple (Array.mk [])))).intOf),v' (vi' I' (v' ((W.cell? (Addr.mk (a.add (i * 6)).block ((a.add (i * 6)).off + 2) none)).getD (Value.tuple (Array.mk [])))).intOf),v' (vs' (v' ((W.cell? (Addr.mk (a.add (i * 6)).block ((a.add (i * 6)).off + 3) none)).getD (Value.tuple (Array.mk [])))).strOf),v' ((W.cell? (Addr.mk (a.add (i * 6)).block ((a.add (i * 6)).off + 4) none)).getD (Value.tuple (Array.mk []))),v' ((W.cell? (Addr.mk (a.add (i * 6)).block ((a.add (i * 6)).off + 5) none)).getD (Value.tuple (Array.mk [])))]) (AV.agg [s' nm,z' r.k,z' r.n,s' r.t,v' (sl' r.la r.ll r.lc),v' (sl' r.ta r.tl r.tc)]))))).a (k6'.a ((k5' nm).a ((k4' r).a ((k3' r).a ((tt'.a (tt'.a ((p' ([s' nm,z' r.k,z' r.n,s' r.t,(AV.ren (sgN (fun k => k) [1006,1007] 1101) LV),(AV.ren (sgN (fun k => k) [1006,1007] 1101) TV)].all AV.one = true)).a (tt'.a ((p' ((0 + m * 6).ble (rowV encF R).length = true)).a ((p' (((m + 1) * 96).ble 140737488355328 = true)).a ((p' ((m + 1).ble 9223372036854775807 = true)).a (f' ((List.take (m * 6) (List.drop 0 (rowV encF R))).length.beq (m * 6) = true))))))))).a ((k7' i).a k1')))))))) := χ
theorem ZT' (W : World) (oa : Option Addr) (n c : Nat) (F : HP) : B0' [] hFcE [] W fFt (AH' fFt 2) (tms 0 22 (aFc oa n c nilS 0)) [] kFc iFc F = VT.leaf (AX.exit 0,[e',v' (sl' oa n c),i' n,i' 0],22) [none,none,none,none,none,none,none,none,none,none] 1100 ((wb' (decide (o' 0 < o' n)) g').a k1') := χ
abbrev _root_.Go.Proofs.Ytjjjchmkonnpfaa.k9' (q0 : Nat) : Cnd := (wb' (decide (o' q0 < o' q0)) g')
theorem ZS' (W : World) (oa : Option Addr) (n c m : Nat) (R : List (Δ × Rv)) (P : Mem -> Prop) (F : HP) : B0' [] hFcE [] W fFt (AH' fFt 2) (tms 0 22 (aFc oa n c (sF 1000 m) n)) (oFc R P) kFc iFc F = VT.leaf (AX.exit 0,[AV.slice 1000 0 m 6 (Cp.lo m),v' (sl' oa n c),i' n,i' n],22) [some (ce' (rowV encF R) 238),some (AO.any (frz P)),none,none,none,none,none,none,none,none] 1100 ((k9' n).a k1') := χ
end
noncomputable section
def z0 : Rv := ⟨0, 0, ⟨⟨[]⟩⟩, none, 0, 0, none, 0, 0⟩
def oZ0 : AO := .cells (vmap z0.cells) tVl
def aFv (r : Rv) (x : AV) (i : Nat) : List (Nat × AV) := [(1, .ptr 1000 0), (2, .ptr 1004 0), (3, x), (7, slV r.la r.ll r.lc), (8, iv (o' r.ll)), (9, iv (o' i))]
def oFv (r : Rv) (R : List Rv) (P : Mem -> Prop) : LH := [(1000, .cells (vmap r.cells) tVl), (1001, .any (frz P)), (1002, rV R), (1004, oZ0)]
def oF0 (r : Rv) : LH := [(1000, .cells (vmap r.cells) tVl), (1004, oZ0)]
def hFv (i : Nat) (x : Rv) : AY' := AJ' [ht' fFv 3 0, (fFv, 4, 1, hv (aggR x)), (fFv, 6, 0, hv (iv (o' (i + 1))))]
def hFvE : AY' := AJ' [hf' fFv 3 0]
def kFv : List Nat := [1000, 1001, 1002, 1004, 1006, 1007, 1100, 1101, 1102, 1103, 1104, 1105]
def iFv : List Nat := [1, 2, 3, 7, 8, 9]
abbrev _root_.Go.Proofs.Ytjjjchmkonnpfaa.y0' : Δ := ByteArray.mk (Array.mk [])
theorem f5' (W : World) (r : Rv) (a : Addr) (x : Rv) (LV TV : AV) (OL OT : AO) (F : HP) : B0' [(fFv, cFv x LV TV OL OT)] (hFv 0 x) [] W fFv (AH' fFv 3) (tms 0 26 (aFv { r with la := some a } nilS 0)) (oF0 { r with la := some a }) kFv iFv F = VT.leaf (AX.normal,[pt' 1000 0,pt' 1004 0,AV.slice 1104 0 1 5 (Cp.lo 1),v' (sl' (some a) r.ll r.lc),i' r.ll,i' 1],26) [some (ce' [z' r.k,z' r.n,s' r.t,v' (sl' (some a) r.ll r.lc),v' (sl' r.ta r.tl r.tc)] 234),none,none,some (ce' [i' 0,i' 0,s' y0',e',e'] 234),none,none,some (ce' [z' x.k,z' x.n,s' x.t,v' (sl' x.la x.ll x.lc),v' (sl' x.ta x.tl x.tc)] 234),some (AO.ren (sgN (fun k => k) [1006,1007] 1101) OL),some (AO.ren (sgN (fun k => k) [1006,1007] 1101) OT),some (ce' [z' x.k,z' x.n,s' x.t,(AV.ren (sgN (fun k => k) [1006,1007] 1101) LV),(AV.ren (sgN (fun k => k) [1006,1007] 1101) TV)] 234),some (ce' [z' x.k,z' x.n,s' x.t,(AV.ren (sgN (fun k => k) [1006,1007] 1101) LV),(AV.ren (sgN (fun k => k) [1006,1007] 1101) TV)] 234),none] 1105 ((wb' (decide (o' 0 < o' r.ll)) j').a ((f' (Nat.blt 0 r.ll = true)).a (((p' (([0,1,2,3,4].all fun j => (W.cell? ((a.add 0).add j)).isSome) = true)).a ((p' ([v' ((W.cell? ((a.add 0).add 0)).getD (Value.tuple (Array.mk []))),v' ((W.cell? (Addr.mk (a.add 0).block ((a.add 0).off + 1) none)).getD (Value.tuple (Array.mk []))),v' ((W.cell? (Addr.mk (a.add 0).block ((a.add 0).off + 2) none)).getD (Value.tuple (Array.mk []))),v' ((W.cell? (Addr.mk (a.add 0).block ((a.add 0).off + 3) none)).getD (Value.tuple (Array.mk []))),v' ((W.cell? (Addr.mk (a.add 0).block ((a.add 0).off + 4) none)).getD (Value.tuple (Array.mk [])))] = [v' (vi' I' (v' ((W.cell? ((a.add 0).add 0)).getD (Value.tuple (Array.mk [])))).intOf),v' (vi' I' (v' ((W.cell? (Addr.mk (a.add 0).block ((a.add 0).off + 1) none)).getD (Value.tuple (Array.mk [])))).intOf),v' (vs' (v' ((W.cell? (Addr.mk (a.add 0).block ((a.add 0).off + 2) none)).getD (Value.tuple (Array.mk [])))).strOf),v' ((W.cell? (Addr.mk (a.add 0).block ((a.add 0).off + 3) none)).getD (Value.tuple (Array.mk []))),v' ((W.cell? (Addr.mk (a.add 0).block ((a.add 0).off + 4) none)).getD (Value.tuple (Array.mk [])))])).a (f' (Wk (AV.agg [v' (vi' I' (v' ((W.cell? ((a.add 0).add 0)).getD (Value.tuple (Array.mk [])))).intOf),v' (vi' I' (v' ((W.cell? (Addr.mk (a.add 0).block ((a.add 0).off + 1) none)).getD (Value.tuple (Array.mk [])))).intOf),v' (vs' (v' ((W.cell? (Addr.mk (a.add 0).block ((a.add 0).off + 2) none)).getD (Value.tuple (Array.mk [])))).strOf),v' ((W.cell? (Addr.mk (a.add 0).block ((a.add 0).off + 3) none)).getD (Value.tuple (Array.mk []))),v' ((W.cell? (Addr.mk (a.add 0).block ((a.add 0).off + 4) none)).getD (Value.tuple (Array.mk [])))]) (AV.agg [z' x.k,z' x.n,s' x.t,v' (sl' x.la x.ll x.lc),v' (sl' x.ta x.tl x.tc)]))))).a (k6'.a ((k4' x).a ((k3' x).a ((tt'.a (tt'.a ((p' ([z' x.k,z' x.n,s' x.t,(AV.ren (sgN (fun k => k) [1006,1007] 1101) LV),(AV.ren (sgN (fun k => k) [1006,1007] 1101) TV)].all AV.one = true)).a (tt'.a (ee' true))))).a (k2'.a k1')))))))) := χ
theorem f4' (W : World) (r : Rv) (a : Addr) (x : Rv) (m i : Nat) (LV TV : AV) (OL OT : AO) (R : List Rv) (P : Mem -> Prop) (F : HP) : B0' [(fFv, cFv x LV TV OL OT)] (hFv i x) [] W fFv (AH' fFv 3) (tms 0 26 (aFv { r with la := some a } (sL 1002 m) i)) (oFv { r with la := some a } R P) kFv iFv F = VT.leaf (AX.normal,[pt' 1000 0,pt' 1004 0,AV.slice 1104 0 (m + 1) 5 (Cp.lo (m + 1)),v' (sl' (some a) r.ll r.lc),i' r.ll,i' (i + 1)],26) [some (ce' [z' r.k,z' r.n,s' r.t,v' (sl' (some a) r.ll r.lc),v' (sl' r.ta r.tl r.tc)] 234),some (AO.any (frz P)),none,some (ce' [i' 0,i' 0,s' y0',e',e'] 234),none,none,some (ce' [z' x.k,z' x.n,s' x.t,v' (sl' x.la x.ll x.lc),v' (sl' x.ta x.tl x.tc)] 234),some (AO.ren (sgN (fun k => k) [1006,1007] 1101) OL),some (AO.ren (sgN (fun k => k) [1006,1007] 1101) OT),some (ce' [z' x.k,z' x.n,s' x.t,(AV.ren (sgN (fun k => k) [1006,1007] 1101) LV),(AV.ren (sgN (fun k => k) [1006,1007] 1101) TV)] 234),some (ce' (List.take (m * 5) (List.drop 0 (rowV encV R)) ++ [z' x.k,z' x.n,s' x.t,(AV.ren (sgN (fun k => k) [1006,1007] 1101) LV),(AV.ren (sgN (fun k => k) [1006,1007] 1101) TV)]) 234),none] 1105 ((wb' (decide (o' i < o' r.ll)) j').a ((f' (i.blt r.ll = true)).a (((p' (([0,1,2,3,4].all fun j => (W.cell? ((a.add (i * 5)).add j)).isSome) = true)).a ((p' ([v' ((W.cell? ((a.add (i * 5)).add 0)).getD (Value.tuple (Array.mk []))),v' ((W.cell? (Addr.mk (a.add (i * 5)).block ((a.add (i * 5)).off + 1) none)).getD (Value.tuple (Array.mk []))),v' ((W.cell? (Addr.mk (a.add (i * 5)).block ((a.add (i * 5)).off + 2) none)).getD (Value.tuple (Array.mk []))),v' ((W.cell? (Addr.mk (a.add (i * 5)).block ((a.add (i * 5)).off + 3) none)).getD (Value.tuple (Array.mk []))),v' ((W.cell? (Addr.mk (a.add (i * 5)).block ((a.add (i * 5)).off + 4) none)).getD (Value.tuple (Array.mk [])))] = [v' (vi' I' (v' ((W.cell? ((a.add (i * 5)).add 0)).getD (Value.tuple (Array.mk [])))).intOf),v' (vi' I' (v' ((W.cell? (Addr.mk (a.add (i * 5)).block ((a.add (i * 5)).off + 1) none)).getD (Value.tuple (Array.mk [])))).intOf),v' (vs' (v' ((W.cell? (Addr.mk (a.add (i * 5)).block ((a.add (i * 5)).off + 2) none)).getD (Value.tuple (Array.mk [])))).strOf),v' ((W.cell? (Addr.mk (a.add (i * 5)).block ((a.add (i * 5)).off + 3) none)).getD (Value.tuple (Array.mk []))),v' ((W.cell? (Addr.mk (a.add (i * 5)).block ((a.add (i * 5)).off + 4) none)).getD (Value.tuple (Array.mk [])))])).a (f' (Wk (AV.agg [v' (vi' I' (v' ((W.cell? ((a.add (i * 5)).add 0)).getD (Value.tuple (Array.mk [])))).intOf),v' (vi' I' (v' ((W.cell? (Addr.mk (a.add (i * 5)).block ((a.add (i * 5)).off + 1) none)).getD (Value.tuple (Array.mk [])))).intOf),v' (vs' (v' ((W.cell? (Addr.mk (a.add (i * 5)).block ((a.add (i * 5)).off + 2) none)).getD (Value.tuple (Array.mk [])))).strOf),v' ((W.cell? (Addr.mk (a.add (i * 5)).block ((a.add (i * 5)).off + 3) none)).getD (Value.tuple (Array.mk []))),v' ((W.cell? (Addr.mk (a.add (i * 5)).block ((a.add (i * 5)).off + 4) none)).getD (Value.tuple (Array.mk [])))]) (AV.agg [z' x.k,z' x.n,s' x.t,v' (sl' x.la x.ll x.lc),v' (sl' x.ta x.tl x.tc)]))))).a (k6'.a ((k4' x).a ((k3' x).a ((tt'.a (tt'.a ((p' ([z' x.k,z' x.n,s' x.t,(AV.ren (sgN (fun k => k) [1006,1007] 1101) LV),(AV.ren (sgN (fun k => k) [1006,1007] 1101) TV)].all AV.one = true)).a (tt'.a ((p' ((0 + m * 5).ble (rowV encV R).length = true)).a ((p' (((m + 1) * 80).ble 140737488355328 = true)).a ((p' ((m + 1).ble 9223372036854775807 = true)).a (f' ((List.take (m * 5) (List.drop 0 (rowV encV R))).length.beq (m * 5) = true))))))))).a ((k7' i).a k1')))))))) := χ
abbrev k10' (q0 : Rv) : Cnd := (wb' (decide (o' q0.ll < o' q0.ll)) g')
theorem ZR' (W : World) (r : Rv) (F : HP) : B0' [] hFvE [] W fFv (AH' fFv 3) (tms 0 26 (aFv r nilS r.ll)) (oF0 r) kFv iFv F = VT.leaf (AX.exit 0,[pt' 1000 0,pt' 1004 0,e',v' (sl' r.la r.ll r.lc),i' r.ll,i' r.ll],26) [some (ce' [z' r.k,z' r.n,s' r.t,v' (sl' r.la r.ll r.lc),v' (sl' r.ta r.tl r.tc)] 234),none,none,some (ce' [i' 0,i' 0,s' y0',e',e'] 234),none,none,none,none,none,none,none,none] 1100 ((k10' r).a k1') := χ
theorem ZQ' (W : World) (r : Rv) (m : Nat) (R : List Rv) (P : Mem -> Prop) (F : HP) : B0' [] hFvE [] W fFv (AH' fFv 3) (tms 0 26 (aFv r (sL 1002 m) r.ll)) (oFv r R P) kFv iFv F = VT.leaf (AX.exit 0,[pt' 1000 0,pt' 1004 0,AV.slice 1002 0 m 5 (Cp.lo m),v' (sl' r.la r.ll r.lc),i' r.ll,i' r.ll],26) [some (ce' [z' r.k,z' r.n,s' r.t,v' (sl' r.la r.ll r.lc),v' (sl' r.ta r.tl r.tc)] 234),some (AO.any (frz P)),some (ce' (rowV encV R) 234),some (ce' [i' 0,i' 0,s' y0',e',e'] 234),none,none,none,none,none,none,none,none] 1100 ((k10' r).a k1') := χ
def lFt (oa : Option Addr) (n c : Nat) (FV : AV) (OF : AO) : List AV -> AP (AX × List AV) := mkL (fun _ => .ret ()) (fun _ => True) (fun _ k => k) (fun _ => tms 0 22 (aFc oa n c nilS 0)) (fun _ => []) (fun _ => .leaf (.exit 0) (tms 0 22 [(2, FV)]) [(1007, OF)])
abbrev _root_.Go.Proofs.Ytjjjchmkonnpfaa.k11' : Cnd := (p' True)
theorem W3' (W : World) (oa : Option Addr) (n c : Nat) (FV : AV) (OF : AO) (F : HP) : wRun [] AF' [(fFt, 2, AH' fFt 2, lFt oa n c FV OF)] W fFt [slV oa n c] [] [1007, 1100, 1101, 1102] F = VT.leaf ([a',a',getL [a',a',(AV.ren (sgN (fun k => k) [1007] 1100) FV),a',a',a',a',a',a',a',a',a',a',a',a',a',a',a',a',a',a',getL [a',a',(AV.ren (sgN (fun k => k) [1007] 1100) FV),a',a',a',a',a',a',a',a',a',a',a',a',a',a',a',a',a',a',a'] 2] 21,a',a',a',a',a',a',a',a',a',a',a',a',a',a',a',a',a',a',getL [a',a',(AV.ren (sgN (fun k => k) [1007] 1100) FV),a',a',a',a',a',a',a',a',a',a',a',a',a',a',a',a',a',a',a'] 2].getD 2 (u')).plain [none,some (AO.ren (sgN (fun k => k) [1007] 1100) OF),none,none] 1101 ((p' ((fFt,2,AH' fFt 2,lFt oa n c FV OF).snd.snd.fst = (fFt,2,AH' fFt 2,lFt oa n c FV OF).snd.snd.fst)).a (k11'.a ((p' (VW (v' (sl' oa n c)::u'::e'::u'::u'::v' (sl' oa n c)::z' ↑n::i' 0::ru8 (ru4 (u'::u'::[]))) (a'::a'::e'::a'::a'::v' (sl' oa n c)::i' n::i' 0::ra8 (ra4 (a'::a'::[]))))).a k1'))) := χ
def gFv : List AV -> AP (Nat × Nat) := fun tmps => match getL tmps 1 with
 | .ptr a _ => match getL tmps 2 with
  | .ptr b _ => .ret (a, b)
  | _ => .fail "copy value"
 | _ => .fail "copy value"
def nmFv (q : Nat × Nat) : Nat -> Nat := fun k => match Nat.beq k 1000 with
 | true => q.1
 | false => match Nat.beq k 1004 with
  | true => q.2
  | false => k
def lFv (r : Rv) (LV : AV) (OL : AO) : List AV -> AP (AX × List AV) := mkL gFv (fun _ => True) nmFv (fun _ => tms 0 26 (aFv r nilS 0)) (fun _ => oF0 r) (fun _ => .leaf (.exit 0) (tms 0 26 [(1, .ptr 1000 0), (2, .ptr 1004 0), (3, LV)]) [(1000, .cells (vmap r.cells) tVl), (1004, oZ0), (1006, OL)])
abbrev _root_.Go.Proofs.Ytjjjchmkonnpfaa.h12' (z : Cnd) : Cnd := ((fe' true).a (tt'.a z))
abbrev h13' (q0 : Rv) (q1 q2 : Nat) (z : Cnd) : Cnd := ((p' True).a ((p' (VW (AV.agg [z' q0.k,z' q0.n,s' q0.t,v' (sl' q0.la q0.ll q0.lc),v' (sl' q0.ta q0.tl q0.tc)]::pt' q1 0::pt' q2 0::e'::u'::u'::pt' q1 3::v' (sl' q0.la q0.ll q0.lc)::z' ↑q0.ll::i' 0::ru16 ([])) (a'::pt' q1 0::pt' q2 0::e'::a'::a'::a'::v' (sl' q0.la q0.ll q0.lc)::i' q0.ll::i' 0::ra16 ([])))).a ((ow' (ce' [z' q0.k,z' q0.n,s' q0.t,v' (sl' q0.la q0.ll q0.lc),v' (sl' q0.ta q0.tl q0.tc)] 234)).a ((ow' (ce' [i' 0,i' 0,s' y0',e',e'] 234)).a ((fe' true).a (((p' True).a (f' (VW [v' (sl' q0.ta q0.tl q0.tc)] [v' (sl' q0.ta q0.tl q0.tc)]))).a ((fe' true).a ((fe' true).a z))))))))
abbrev k14' (q0 : Rv) (q1 : AO) : Cnd := (p' ((fFv,3,AH' fFv 3,lFv q0 nilS q1).snd.snd.fst = (fFv,3,AH' fFv 3,lFv q0 nilS q1).snd.snd.fst))
theorem ZM' (W : World) (r : Rv) (OL OF : AO) (F : HP) : wRun [(fFt, cFt r.ta r.tl r.tc nilS OF)] AF' [(fFv, 3, AH' fFv 3, lFv r nilS OL)] W fFv [aggR r] [] [1006, 1007, 1100, 1101, 1102, 1103, 1104, 1105] F = VT.leaf (AV.agg [z' r.k,z' r.n,s' r.t,e',e']) [none,none,none,none,some (ce' [z' r.k,z' r.n,s' r.t,e',e'] 234),some (ce' [z' r.k,z' r.n,s' r.t,e',e'] 234),some (AO.ren (sgN (nmFv (1100,1101)) [1000,1004,1006] 1102) OL),some (AO.ren (sgN (fun k => k) [1007] 1105) OF)] 1106 (k6'.a ((k14' r OL).a (h13' r 1100 1101 ((ee' [z' r.k,z' r.n,s' r.t,e',e']).a (h12' ((p' ([z' r.k,z' r.n,s' r.t,e',e'] = [z' r.k,z' r.n,s' r.t,e',e'])).a k1')))))) := χ
theorem ZN' (W : World) (r : Rv) (OL OF : AO) (F : HP) : wRun [(fFt, cFt r.ta r.tl r.tc (sF 1007 r.tl) OF)] AF' [(fFv, 3, AH' fFv 3, lFv r nilS OL)] W fFv [aggR r] [] [1006, 1007, 1100, 1101, 1102, 1103, 1104, 1105] F = VT.leaf (AV.agg [z' r.k,z' r.n,s' r.t,e',AV.slice 1105 0 r.tl 6 (Cp.lo r.tl)]) [none,none,none,none,some (ce' [z' r.k,z' r.n,s' r.t,e',AV.slice 1105 0 r.tl 6 (Cp.lo r.tl)] 234),some (ce' [z' r.k,z' r.n,s' r.t,e',AV.slice 1105 0 r.tl 6 (Cp.lo r.tl)] 234),some (AO.ren (sgN (nmFv (1100,1101)) [1000,1004,1006] 1102) OL),some (AO.ren (sgN (fun k => k) [1007] 1105) OF)] 1106 (k6'.a ((k14' r OL).a (h13' r 1100 1101 ((ee' [z' r.k,z' r.n,s' r.t,e',AV.slice 1105 0 r.tl 6 (Cp.lo r.tl)]).a (h12' ((p' ([z' r.k,z' r.n,s' r.t,e',AV.slice 1105 0 r.tl 6 (Cp.lo r.tl)] = [z' r.k,z' r.n,s' r.t,e',AV.slice 1105 0 r.tl 6 (Cp.lo r.tl)])).a k1')))))) := χ
abbrev k15' (q0 : Rv) (q1 : Nat) (q2 : AO) : Cnd := (p' ((fFv,3,AH' fFv 3,lFv q0 (sL q1 q0.ll) q2).snd.snd.fst = (fFv,3,AH' fFv 3,lFv q0 (sL q1 q0.ll) q2).snd.snd.fst))
theorem ZO' (W : World) (r : Rv) (OL OF : AO) (F : HP) : wRun [(fFt, cFt r.ta r.tl r.tc nilS OF)] AF' [(fFv, 3, AH' fFv 3, lFv r (sL 1006 r.ll) OL)] W fFv [aggR r] [] [1006, 1007, 1100, 1101, 1102, 1103, 1104, 1105] F = VT.leaf (AV.agg [z' r.k,z' r.n,s' r.t,AV.slice 1104 0 r.ll 5 (Cp.lo r.ll),e']) [none,none,none,none,some (ce' [z' r.k,z' r.n,s' r.t,AV.slice 1104 0 r.ll 5 (Cp.lo r.ll),e'] 234),some (ce' [z' r.k,z' r.n,s' r.t,AV.slice 1104 0 r.ll 5 (Cp.lo r.ll),e'] 234),some (AO.ren (sgN (nmFv (1100,1101)) [1000,1004,1006] 1102) OL),some (AO.ren (sgN (fun k => k) [1007] 1105) OF)] 1106 (k6'.a ((k15' r 1006 OL).a (h13' r 1100 1101 ((ee' [z' r.k,z' r.n,s' r.t,AV.slice 1104 0 r.ll 5 (Cp.lo r.ll),e']).a (h12' ((p' ([z' r.k,z' r.n,s' r.t,AV.slice 1104 0 r.ll 5 (Cp.lo r.ll),e'] = [z' r.k,z' r.n,s' r.t,AV.slice 1104 0 r.ll 5 (Cp.lo r.ll),e'])).a k1')))))) := χ
theorem ZP' (W : World) (r : Rv) (OL OF : AO) (F : HP) : wRun [(fFt, cFt r.ta r.tl r.tc (sF 1007 r.tl) OF)] AF' [(fFv, 3, AH' fFv 3, lFv r (sL 1006 r.ll) OL)] W fFv [aggR r] [] [1006, 1007, 1100, 1101, 1102, 1103, 1104, 1105] F = VT.leaf (AV.agg [z' r.k,z' r.n,s' r.t,AV.slice 1104 0 r.ll 5 (Cp.lo r.ll),AV.slice 1105 0 r.tl 6 (Cp.lo r.tl)]) [none,none,none,none,some (ce' [z' r.k,z' r.n,s' r.t,AV.slice 1104 0 r.ll 5 (Cp.lo r.ll),AV.slice 1105 0 r.tl 6 (Cp.lo r.tl)] 234),some (ce' [z' r.k,z' r.n,s' r.t,AV.slice 1104 0 r.ll 5 (Cp.lo r.ll),AV.slice 1105 0 r.tl 6 (Cp.lo r.tl)] 234),some (AO.ren (sgN (nmFv (1100,1101)) [1000,1004,1006] 1102) OL),some (AO.ren (sgN (fun k => k) [1007] 1105) OF)] 1106 (k6'.a ((k15' r 1006 OL).a (h13' r 1100 1101 ((ee' [z' r.k,z' r.n,s' r.t,AV.slice 1104 0 r.ll 5 (Cp.lo r.ll),AV.slice 1105 0 r.tl 6 (Cp.lo r.tl)]).a (h12' ((p' ([z' r.k,z' r.n,s' r.t,AV.slice 1104 0 r.ll 5 (Cp.lo r.ll),AV.slice 1105 0 r.tl 6 (Cp.lo r.tl)] = [z' r.k,z' r.n,s' r.t,AV.slice 1104 0 r.ll 5 (Cp.lo r.ll),AV.slice 1105 0 r.tl 6 (Cp.lo r.tl)])).a k1')))))) := χ
end
theorem RX' {a b : List AV} {D : Nat -> Prop} (h : OR N i (.cells (a ++ b) e) D w) : ∃ yb, VRs N b yb /\ ∀ c : List AV, c.length = b.length -> VRs N c yb -> OR N i (.cells (a ++ c) e) D w := by
 obtain ⟨l, arr, fz, h1, h2, h3, h4, h5, h6, h7, h8⟩ := h; obtain ⟨ys, hys⟩ : ∃ ys, (arr.toList.drop l.off).take (a ++ b).length = ys := ⟨_, rfl⟩
 have key : ∀ (a : List AV) (ys : List Value), VRs N (a ++ b) ys -> ∃ yb, VRs N b yb /\ ∀ c : List AV, VRs N c yb -> VRs N (a ++ c) ys := by
  intro a
  induction a with
  | nil => exact fun ys hy => ⟨ys, hy, fun c hc => hc⟩
  | cons x a ih =>
   intro ys hy; obtain ⟨y, r, q1, q2, rfl⟩ := hy; obtain ⟨yb, q3, q4⟩ := ih r q2
   exact ⟨yb, q3, fun c hc => ⟨y, r, q1, q4 c hc, rfl⟩⟩
 rw [hys] at h7; obtain ⟨yb, q3, q4⟩ := key a ys h7
 refine ⟨yb, q3, fun c hc hv => ⟨l, arr, fz, h1, h2, h3, h4, ?_, h6, ?_, h8⟩⟩
 ·rw [la', hc, <- la']; exact h5
 ·rw [la', hc, <- la', hys]; exact q4 c hv
theorem V8' (hl : AD' 1100 H = true) (hs : St W0 F N H vs ys w) (i k : Nat) (S : List Nat) (hik : i ≠ k) (hiS : i ∉ S) (hkS : k ∉ S) {a b : List AV} {ok : AO}
  (hi : getO H i = some (.cells (a ++ b) e)) (hk : getO H k = some ok) (hkl : ∀ N1 D w, OR N1 k ok D w -> ∀ b, D b -> b < w.heap.size) (Q : List Value -> Mem -> Prop)
  (core : ∀ (N1 : A3') (D : Nat -> Nat -> Prop), (∀ n o, getO H n = some o -> OR N1 n o (D n) w) -> ∀ yb, VRs N1 b yb -> ∃ c : List Value, c.length = b.length /\ VRs N1 (vmap c) yb /\ Q c (D4' (fun x => D k x \/ ∃ j, j ∈ S /\ (∃ o, getO H j = some o) /\ D j x) w)) :
  ∃ c, (∃ C, Q c C) /\ ∀ (H' : LH) (Q' : Mem -> Prop), AD' 1100 H' = true -> getO H' i = some (.cells (a ++ vmap c) e) -> getO H' k = some (.any (frz Q')) -> (∀ C, Q c C -> Q' C) -> (∀ n o, n ≠ i -> n ≠ k -> getO H' n = some o -> n ∉ S /\ getO H n = some o) ->
   AV.cls (fun n => Nat.blt n 1000 || (getO H' n).isSome) vs -> (∀ x ∈ H', x.2.cl (fun n => Nat.blt n 1000 || (getO H' n).isSome)) -> St W0 F N H' vs ys w := by
 obtain ⟨N1, g1, g2, r, hvs⟩ := hs; obtain ⟨D0, D, h1, h2, h3⟩ := r.sat; have hf : ∀ n, (AN' H).find n = getO H n := AG' (GG' hl)
 have h2' : ∀ n o, getO H n = some o -> OR N1 n o (D n) w /\ ∀ b, D n b -> ¬ D0 b := fun n o hn => h2 n o (by rw [hf]; exact hn)
 obtain ⟨yb, q1, q2⟩ := RX' (h2' i _ hi).1; obtain ⟨c, c1, c2, c3⟩ := core N1 D (fun n o hn => (h2' n o hn).1) yb q1
 refine ⟨c, ⟨_, c3⟩, fun H' Q' hl' hi' hk' hQ hn hv ho => IL' hl' g1 (MY' hl hl' r h1 h2' (fun n m o o' hn hm => h3 n m o o' (by rw [hf]; exact hn) (by rw [hf]; exact hm)) k (fun n => n ∈ S) hkS hk (fun n o' hnk hno => ?_) fun o' hko => ?_) hvs hv ho⟩
 ·by_cases hni : n = i
  ·subst hni; rw [hi'] at hno; cases hno; exact ⟨hiS, _, hi, q2 _ (by rw [show (vmap c).length = c.length by simp [vmap]]; exact c1) c2⟩
  ·obtain ⟨a1, a2⟩ := hn n o' hni hnk hno; exact ⟨a1, o', a2, (h2' n o' a2).1⟩
 ·rw [hk'] at hko; cases hko
  refine ⟨hQ _ c3, fun b hb => ?_⟩
  rcases hb with hb | ⟨j, _, ⟨oj, hj⟩, hb⟩
  ·exact (h2' k _ hk).1.lt b hb
  ·exact (h2' j _ hj).1.lt b hb
theorem five {k : Int} {LV TV : AV} {yb : List Value} (h : VRs N [iv k, iv n, sv t, LV, TV] yb) : ∃ yl yt, VR N LV yl /\ VR N TV yt /\ yb = [.int .i64 k, .int .i64 n, .string t, yl, yt] := by
 obtain ⟨y0, r0, a0, h, rfl⟩ := h; obtain ⟨y1, r1, a1, h, rfl⟩ := h; obtain ⟨y2, r2, a2, h, rfl⟩ := h; obtain ⟨y3, r3, a3, h, rfl⟩ := h; obtain ⟨y4, r4, a4, h, rfl⟩ := h; have h : r4 = [] := h; subst h; have a0 : y0 = .int .i64 k := VR_v.1 a0; have a1 : y1 = .int .i64 n := VR_v.1 a1; have a2 : y2 = .string t := VR_v.1 a2; subst a0 a1 a2; exact ⟨y3, y4, a3, a4, rfl⟩
def QV (d : Nat) (v : Tv) (c : List Value) (C : Mem) : Prop := ∃ r : Rv, c = r.cells /\ VAt C (d + 1) v r
theorem Q8' {r r' : Rv} (h : r.cells = r'.cells) : r = r' := by
 obtain ⟨a, b, c, d, e, f, g, i, j⟩ := r; obtain ⟨a', b', c', d', e', f', g', i', j'⟩ := r'; simp only [Rv.cells, List.cons.injEq, Value.int.injEq, Value.string.injEq, Value.slice.injEq, true_and, and_true] at h; obtain ⟨rfl, rfl, rfl, ⟨rfl, rfl, rfl⟩, rfl, rfl, rfl⟩ := h; rfl
theorem Q7' {cs : List Value} {D : Nat -> Prop} (h : OR N i (.cells (vmap cs) (2 * e)) D w) : ∃ l, N i = some l /\ l.off = 0 /\ ∀ j u, cs[j]? = some u -> D4' D w ⟨l.blk, j, none⟩ = some u := by
 obtain ⟨l, arr, fz, h1, h2, h3, h4, h5, h6, h7, h8⟩ := h; obtain ⟨z, _⟩ := h8 (Nat.mul_mod_right 2 e)
 refine ⟨l, h1, z, fun j u hj => ?_⟩
 rw [T6' ((h2 _).2 rfl)]; have h7 := VRs.of_vmap h7
 have hlen : (vmap cs).length = cs.length := by simp [vmap]
 rw [z, List.drop_zero, hlen] at h7; unfold World.cell?; simp only [h3]; have hj' := (List.getElem?_eq_some_iff.1 hj).1
 have : (arr.toList.take cs.length)[j]? = some u := by rw [h7]; exact hj
 rw [List.getElem?_take_of_lt hj'] at this; simpa using this
theorem bI' {α : Type} {f : α -> List Value} {m : Nat} (hf : ∀ x, (f x).length = m) : ∀ (l : List α) (k j : Nat) (x : α), l[k]? = some x -> j < m -> (l.flatMap f)[k * m + j]? = (f x)[j]?
 | [], k, j, x, h, _ => by simp at h
 | y :: l, 0, j, x, h, hj => by
  simp only [List.getElem?_cons_zero, Option.some.injEq] at h; subst h; rw [List.flatMap_cons, Nat.zero_mul, Nat.zero_add, List.getElem?_append_left (by rw [hf]; exact hj)]
 | y :: l, k + 1, j, x, h, hj => by
  rw [List.getElem?_cons_succ] at h
  rw [List.flatMap_cons, List.getElem?_append_right (by rw [hf, Nat.succ_mul]; omega), hf, show (k + 1) * m + j - m = k * m + j from by rw [Nat.succ_mul]; omega]
  exact bI' hf l k j x h hj
theorem gM' (b n j : Nat) : ((Addr.mk b 0 none).add n).add j = Addr.mk b (n + j) none := by
 unfold Addr.add; split
 ·rename_i hj; subst hj; split
  ·rename_i hn; subst hn; rfl
  ·show Addr.mk b (0 + n) none = _; rw [Nat.zero_add, Nat.add_zero]
 ·split
  ·rename_i hn; subst hn; rfl
  ·show Addr.mk b (0 + n + j) none = _; rw [Nat.zero_add]
theorem VE' {α : Type} {f : α -> List Value} {m : Nat} (hf : ∀ x, (f x).length = m) {R : List α} {D : Nat -> Prop} (h : OR N i (.cells (rowV f R) (2 * e)) D w) :
  ∃ l, N i = some l /\ l.off = 0 /\ ∀ k x, R[k]? = some x -> Cells (D4' D w) ((Addr.mk l.blk 0 none).add (k * m)) (f x) := by
 obtain ⟨l, h1, h2, h3⟩ := Q7' (cs := R.flatMap f) h
 refine ⟨l, h1, h2, fun k x hx j u hu => ?_⟩
 rw [gM']; refine h3 _ _ ?_; rw [bI' hf R k j x hx (by rw [<- hf x]; exact (List.getElem?_eq_some_iff.1 hu).1)]; exact hu
theorem SO' {H' : LH} (hl : AD' 1100 H = true) (hl' : AD' 1100 H' = true) (hs : St W0 F N H vs ys w) (i k : Nat) (hik : i ≠ k) {oi o2 : AO} {P : Mem -> Prop}
  (hi : getO H i = some oi) (hk : getO H k = some (.any (frz P))) (hi' : getO H' i = some o2) (hk' : getO H' k = none) (hn : ∀ n o, n ≠ i -> n ≠ k -> getO H' n = some o -> getO H n = some o)
  (core : ∀ N1 Di Dk, OR N1 i oi Di w -> P (D4' Dk w) -> (∀ b, Dk b -> b < w.heap.size) -> (∀ b, Di b -> ¬ Dk b) -> OR N1 i o2 (fun x => Di x \/ Dk x) w)
  (hv : AV.cls (fun n => Nat.blt n 1000 || (getO H' n).isSome) vs) (ho : ∀ x ∈ H', x.2.cl (fun n => Nat.blt n 1000 || (getO H' n).isSome)) : St W0 F N H' vs ys w := by
 obtain ⟨N1, g1, g2, r, hvs⟩ := hs; obtain ⟨D0, D, h1, h2, h3⟩ := r.sat; have hf : ∀ n, (AN' H).find n = getO H n := AG' (GG' hl)
 have h2' : ∀ n o, getO H n = some o -> OR N1 n o (D n) w /\ ∀ b, D n b -> ¬ D0 b := fun n o hn => h2 n o (by rw [hf]; exact hn)
 have h3' : ∀ n m o o', getO H n = some o -> getO H m = some o' -> n ≠ m -> ∀ b, D n b -> ¬ D m b := fun n m o o' hn hm => h3 n m o o' (by rw [hf]; exact hn) (by rw [hf]; exact hm)
 refine IL' hl' g1 (MY' hl hl' r h1 h2' h3' i (fun n => n = k) hik hi (fun n o' hni hno => ?_) fun o' hio => ?_) hvs hv ho
 ·have hnk : n ≠ k := fun e => by rw [e, hk'] at hno; cases hno
  have := hn n o' hni hnk hno; exact ⟨hnk, o', this, (h2' n o' this).1⟩
 ·rw [hi'] at hio; cases hio; have hkk := (h2' k _ hk).1; have := core N1 (D i) (D k) (h2' i _ hi).1 hkk.1 hkk.2 (h3' i k _ _ hi hk hik)
  have e : (fun x => D i x \/ ∃ j, j = k /\ (∃ o, getO H j = some o) /\ D j x) = fun x => D i x \/ D k x := by
   funext x; refine propext ⟨?_, ?_⟩
   ·rintro (h | ⟨j, rfl, _, h⟩)
    ·exact .inl h
    ·exact .inr h
   ·rintro (h | h)
    ·exact .inl h
    ·exact .inr ⟨k, rfl, ⟨_, hk⟩, h⟩
  rw [e]; exact this
theorem L1' (r : Rv) : (encV r).length = 5 := rfl
theorem L2' (p : Δ × Rv) : (encF p).length = 6 := rfl
theorem dA' {m : Md} {R : List Rv} {l : List Tv} {Di Dk : Nat -> Prop} (hb : l.length * 80 <= big) (h : OR N1 i (.cells (rowV encV R) (2 * e)) Di w) (hp : PV d R l (D4' Dk w)) (hlt : ∀ b, Dk b -> b < w.heap.size) : OR N1 i (ownL m d l) (fun x => Di x \/ Dk x) w := by
 have hDi := h.lt; obtain ⟨lo, h1, h2, h3⟩ := VE' L1' h
 refine ⟨lo, h1, h2, ⟨hb, fun k x hx => ?_⟩, fun b hb => hb.elim (hDi b) (hlt b)⟩
 obtain ⟨r, q1, q2⟩ := hp.2 k x hx; exact ⟨_, r, rfl, (h3 k r q1).mono (C1' fun b hb => .inl hb), q2.mono (C1' fun b hb => .inr hb)⟩
theorem dB' {m : Md} {R : List (Δ × Rv)} {f : Tf} {Di Dk : Nat -> Prop} (hb : f.length * 96 <= big) (h : OR N1 i (.cells (rowV encF R) (2 * e)) Di w) (hp : PF d R f (D4' Dk w)) (hlt : ∀ b, Dk b -> b < w.heap.size) : OR N1 i (ownF m d f) (fun x => Di x \/ Dk x) w := by
 have hDi := h.lt; obtain ⟨lo, h1, h2, h3⟩ := VE' L2' h
 refine ⟨lo, h1, h2, ⟨hb, fun k nm x hx => ?_⟩, fun b hb => hb.elim (hDi b) (hlt b)⟩
 obtain ⟨r, q1, q2⟩ := hp.2 k nm x hx; exact ⟨_, r, rfl, (h3 k (nm, r) q1).mono (C1' fun b hb => .inl hb), q2.mono (C1' fun b hb => .inr hb)⟩
theorem GR' {σ : Nat -> Nat} : ∀ (a b : List AV), AV.rens σ (a ++ b) = AV.rens σ a ++ AV.rens σ b
 | [], b => rfl
 | x :: a, b => by simp only [List.cons_append, AV.rens, GR' a b]
theorem XB' {K : Nat -> Bool} : ∀ {a b : List AV}, AV.cls K a -> AV.cls K b -> AV.cls K (a ++ b)
 | [], b, _, hb => hb
 | x :: a, b, ha, hb => ⟨ha.1, XB' ha.2 hb⟩
theorem NO' {m : Nat} {told : List (Nat × AV)} {K : Nat -> Bool} (h : ∀ x ∈ told, AV.cl K x.2) : AV.cls K (tms 0 m told) := M1' h m 0
theorem agg_cl (K : Nat -> Bool) (r : Rv) : AV.cl K (aggR r) := ⟨Ye, Ye, Ye, Ye, Ye, Ye⟩
theorem c6n {C : Mem} {A : Addr} {r : Rv} (h : Cells C A (.string nm :: r.cells)) : C (A.add 0) = some (.string nm) /\ C (Addr.mk A.block (A.off + 1) none) = some (.int .i64 r.k) /\ C (Addr.mk A.block (A.off + 2) none) = some (.int .i64 r.n) /\ C (Addr.mk A.block (A.off + 3) none) = some (.string r.t) /\ C (Addr.mk A.block (A.off + 4) none) = some (.slice r.la r.ll r.lc) /\ C (Addr.mk A.block (A.off + 5) none) = some (.slice r.ta r.tl r.tc) :=
 ⟨h 0 _ rfl, h 1 _ rfl, h 2 _ rfl, h 3 _ rfl, h 4 _ rfl, h 5 _ rfl⟩
theorem all6 {A : Addr} {r : Rv} (h : Cells W.cell? A (.string nm :: r.cells)) : ([0, 1, 2, 3, 4, 5].all fun j => (W.cell? (A.add j)).isSome) = true := by
 have e0 : W.cell? (A.add 0) = some _ := h 0 _ rfl; have e1 : W.cell? (A.add 1) = some _ := h 1 _ rfl; have e2 : W.cell? (A.add 2) = some _ := h 2 _ rfl; have e3 : W.cell? (A.add 3) = some _ := h 3 _ rfl; have e4 : W.cell? (A.add 4) = some _ := h 4 _ rfl; have e5 : W.cell? (A.add 5) = some _ := h 5 _ rfl; simp only [List.all_cons, List.all_nil, e0, e1, e2, e3, e4, e5, Bool.and_true, Option.isSome_some]
theorem XX' {x : Δ} {r : Rv} {x0 x1 : Int} {x2 : Δ} {x3 x4 : Value} (h : x = nm) (h0 : x0 = r.k) (h1 : x1 = r.n) (h2 : x2 = r.t) (h3 : x3 = .slice r.la r.ll r.lc) (h4 : x4 = .slice r.ta r.tl r.tc) : Wk (.agg [.v (.string x), .v (.int .i64 x0), .v (.int .i64 x1), .v (.string x2), .v x3, .v x4]) (aggF nm r) := by
 subst h h0 h1 h2 h3 h4; exact Ya
theorem ltT {j n : Nat} (h : j < n) : decide (o' j < o' n) = true := decide_eq_true (by simp only [Z0]; omega)
theorem ltF {n : Nat} : decide (o' n < o' n) = false := decide_eq_false (by simp only [Z0]; omega)
def dumZ : AO := .any (frz fun _ => True)
def lVk (k : Nat) : List Tv -> AV
 | [] => nilS
 | v :: l => sL k (l.length + 1)
def fVk (k : Nat) : Tf -> AV
 | [] => nilS
 | v :: l => sF k (l.length + 1)
abbrev lV (l : List Tv) : AV := lVk 1006 l
abbrev fV (f : Tf) : AV := fVk 1007 f
def lOd (e : Nat) : List Tv -> AO
 | [] => dumZ
 | v :: l => ownL md e (v :: l)
def fOd (e : Nat) : Tf -> AO
 | [] => dumZ
 | v :: l => ownF md e (v :: l)
theorem SV' (σ : Nat -> Nat) (k : Nat) : ∀ l, AV.ren σ (lVk k l) = lVk (σ k) l
 | [] => rfl
 | _ :: _ => rfl
theorem SX' (σ : Nat -> Nat) (k : Nat) : ∀ l, AV.ren σ (fVk k l) = fVk (σ k) l
 | [] => rfl
 | _ :: _ => rfl
theorem SW' (σ : Nat -> Nat) (e : Nat) : ∀ l, AO.ren σ (lOd e l) = lOd e l
 | [] => rfl
 | _ :: _ => rfl
theorem D6' (σ : Nat -> Nat) (e : Nat) : ∀ l, AO.ren σ (fOd e l) = fOd e l
 | [] => rfl
 | _ :: _ => rfl
theorem lV_cl {K : Nat -> Bool} (h : K k = true) : ∀ l, AV.cl K (lVk k l)
 | [] => trivial
 | _ :: _ => h
theorem aM' {K : Nat -> Bool} (h : K k = true) : ∀ l, AV.cl K (fVk k l)
 | [] => trivial
 | _ :: _ => h
theorem fS' (K : Nat -> Bool) (e : Nat) : ∀ l, (lOd e l).cl K
 | [] => trivial
 | _ :: _ => trivial
theorem aN' (K : Nat -> Bool) (e : Nat) : ∀ l, (fOd e l).cl K
 | [] => trivial
 | _ :: _ => trivial
theorem W7' {y : Value} (h : VR N nilS y) : y = .slice none 0 0 := VR_v.1 h
theorem lV_raw {e : Nat} {D : Nat -> Prop} : ∀ {l : List Tv} {y : Value}, OR N k (lOd e l) D w -> VR N (lVk k l) y -> ∃ la lc, y = .slice la l.length lc /\ LAt (D4' D w) e la l
 | [], y, _, h => ⟨none, 0, W7' h, LOf.nil _⟩
 | v :: l, y, ho, h => YW' (l := v :: l) ho h
theorem bV' {e : Nat} {D : Nat -> Prop} : ∀ {l : Tf} {y : Value}, OR N k (fOd e l) D w -> VR N (fVk k l) y -> ∃ la lc, y = .slice la l.length lc /\ FAt (D4' D w) e la l
 | [], y, _, h => ⟨none, 0, W7' h, FOf.nil _⟩
 | v :: l, y, ho, h => YX' (l := v :: l) ho h
def CvOk (W : World) (e : Nat) (v : Tv) (r : Rv) : Prop := Tri Θ W fFv [aggR r] [] (.agg [iv r.k, iv r.n, sv r.t, lV v.list, fV v.tab]) [(1006, lOd e v.list), (1007, fOd e v.tab)]
theorem d0' {e : Nat} {v : Tv} {r : Rv} (h : CvOk W e v r) (F : HP) (hF : B9' W F) : C1OK Θ F fFv (cFv r (lV v.list) (fV v.tab) (lOd e v.list) (fOd e v.tab)) :=
 D7' hF (fun _ => .agg [iv r.k, iv r.n, sv r.t, lV v.list, fV v.tab]) (fun _ => RO.ret _) (fun _ => rfl) (fun _ _ => h) fun _ => ⟨rfl, rfl, ⟨agg_cl _ _, Ye⟩, A4', ⟨⟨Ye, Ye, Ye, lV_cl rfl _, aM' rfl _, Ye⟩, Ye⟩, A0' (fS' _ _ _) (A0' (aN' _ _ _) A4')⟩
theorem PF.nil (d : Nat) (C : Mem) : PF d [] [] C := ⟨rfl, fun i nm x h => by simp at h⟩
theorem PV.nil (d : Nat) (C : Mem) : PV d [] [] C := ⟨rfl, fun i x h => by simp at h⟩
theorem DP' {α : Type} {f : List α} {j : Nat} {x : α} (h : f[j]? = some x) : f.take (j + 1) = f.take j ++ [x] := by
 rw [List.take_add_one, h]; rfl
theorem g9' {D : Nat -> Nat -> Prop} {v : Tv} {x : Rv} {k1 k2 : Nat} {DD : Nat -> Prop} (hx : x.k = v.kind /\ x.n = v.num /\ x.t = v.text)
  (hD : ∀ n o, getO H n = some o -> OR N1 n o (D n) w) (h1 : getO H k1 = some (lOd d v.list)) (h2 : getO H k2 = some (fOd d v.tab)) (hD1 : ∀ b, D k1 b -> DD b) (hD2 : ∀ b, D k2 b -> DD b) :
  ∀ yb, VRs N1 [iv x.k, iv x.n, sv x.t, lVk k1 v.list, fVk k2 v.tab] yb -> ∃ c : List Value, c.length = 5 /\ VRs N1 (vmap c) yb /\ QV d v c (D4' DD w) := by
 intro yb hy; obtain ⟨yl, yt, a1, a2, rfl⟩ := five hy; obtain ⟨la, lc, rfl, b1⟩ := lV_raw (hD k1 _ h1) a1; obtain ⟨ta, tc, rfl, b2⟩ := bV' (hD k2 _ h2) a2; refine ⟨_, rfl, VRs.vmap _, ⟨x.k, x.n, x.t, la, v.list.length, lc, ta, v.tab.length, tc⟩, rfl, ⟨hx.1, hx.2.1, hx.2.2, rfl, rfl⟩, b1.mono (C1' hD1), b2.mono (C1' hD2)⟩
theorem X9' {D : Nat -> Nat -> Prop} {v : Tv} {x : Rv} {k1 k2 : Nat} {DD : Nat -> Prop} {Q : Mem -> Prop} (hx : x.k = v.kind /\ x.n = v.num /\ x.t = v.text)
  (hD : ∀ n o, getO H n = some o -> OR N1 n o (D n) w) (h1 : getO H k1 = some (lOd d v.list)) (h2 : getO H k2 = some (fOd d v.tab)) (hD1 : ∀ b, D k1 b -> DD b) (hD2 : ∀ b, D k2 b -> DD b) (hQ : Q (D4' DD w)) :
  ∀ yb, VRs N1 [iv x.k, iv x.n, sv x.t, lVk k1 v.list, fVk k2 v.tab] yb -> ∃ c : List Value, c.length = 5 /\ VRs N1 (vmap c) yb /\ (Q (D4' DD w) /\ QV d v c (D4' DD w)) := fun yb hy => by
 obtain ⟨c, c1, c2, c3⟩ := g9' hx hD h1 h2 hD1 hD2 yb hy; exact ⟨c, c1, c2, hQ, c3⟩
theorem SQ' {e : Nat} (hde : d = e + 1) {R : List (Δ × Rv)} {f0 : Tf} {v : Tv} {r : Rv} (hx : r.k = v.kind /\ r.n = v.num /\ r.t = v.text)
  (hs : St W0 F N [(1000, .cells ((rowV encF R ++ [sv nm]) ++ [iv r.k, iv r.n, sv r.t, lV v.list, fV v.tab]) tFl), (1001, .any (frz (PF d R f0))), (1006, lOd e v.list), (1007, fOd e v.tab)] vs ys w) (hv : ∀ R P, AV.cls (fun n => Nat.blt n 1000 || (getO (oFc R P) n).isSome) vs) :
  ∃ r', St W0 F N (oFc (R ++ [(nm, r')]) (PF d (R ++ [(nm, r')]) (f0 ++ [(nm, v)]))) vs ys w := by
 subst hde
 obtain ⟨c, hc⟩ := V8' rfl hs 1000 1001 [1006, 1007] δ δ δ (a := rowV encF R ++ [sv nm]) (b := [iv r.k, iv r.n, sv r.t, lV v.list, fV v.tab]) (e := tFl) rfl rfl (fun N1 D w h => h.lt)
  (fun c C => PF (e + 1) R f0 C /\ QV e v c C) (fun N1 D hD yb hy => by
   have hP : PF (e + 1) R f0 (D4' (D 1001) w) := (hD 1001 _ rfl).1
   exact X9' hx hD (k1 := 1006) (k2 := 1007) (Q := PF (e + 1) R f0) rfl rfl (fun b hb => .inr ⟨1006, ms', ⟨_, rfl⟩, hb⟩) (fun b hb => .inr ⟨1007, List.mem_cons_of_mem _ ms', ⟨_, rfl⟩, hb⟩) (hP.mono (C1' fun b hb => .inl hb)) yb hy)
 obtain ⟨⟨C0, _, r', rfl, _⟩, hc⟩ := hc; refine ⟨r', hc _ _ rfl ?_ rfl (fun C ⟨h1, r2, h2, h3⟩ => ?_) (fun n o h1 h2 h3 => ?_) (hv _ _) (A0' ?_ (A0' Ye A4'))⟩
 ·show some (ce' (rowV encF (R ++ [(nm, r')])) tFl) = some _; rw [EA', KZ', List.append_assoc]; rfl
 ·rw [<- Q8' h2] at h3; exact h1.add h3
 ·simp only [oFc, getO, if_neg h1, if_neg h2] at h3; cases h3
 ·exact E8' _ _
theorem BR' {H' : LH} {P : Mem -> Prop} (hP : ∀ C, P C) (hl : AD' 1100 H = true) (hl' : AD' 1100 H' = true) (hk : getO H' k = some (.any (frz P))) (hk1 : 1000 <= k) (hk0 : getO H k = none) (hr : ∀ n, n ≠ k -> getO H' n = getO H n) : Goes vs H vs H' := by
 intro W0 F N ys w ⟨N1, g1, g2, r, hvs⟩; have hf : ∀ n, (AN' H).find n = getO H n := AG' (GG' hl); have hf' : ∀ n, (AN' H').find n = getO H' n := AG' (GG' hl'); obtain ⟨D0, D, h1, h2, h3⟩ := r.sat
 refine ⟨N1, g1, fun n hn hg => ?_, ⟨r.os, r.tape, r.output, D0, fun n x => if n = k then False else D n x, h1, fun n o hno => ?_, fun n m o o' hn hm hnm x hx hx' => ?_⟩, hvs⟩
 ·by_cases e : n = k
  ·rw [e, hk] at hg; cases hg
  ·rw [hr n e] at hg; exact g2 n hn hg
 ·rw [hf'] at hno
  by_cases e : n = k
  ·subst e; rw [hk] at hno; cases hno; simp only [if_true]
   exact ⟨⟨hP _, fun b hb => hb.elim⟩, fun b hb => hb.elim⟩
  ·simp only [if_neg e]; exact h2 n o (by rw [hf, <- hr n e]; exact hno)
 ·rw [hf'] at hn hm
  by_cases e : n = k
  ·simp only [if_pos e] at hx
  ·by_cases e' : m = k
   ·simp only [if_pos e'] at hx'
   ·simp only [if_neg e] at hx; simp only [if_neg e'] at hx'; exact h3 n m o o' (by rw [hf, <- hr n e]; exact hn) (by rw [hf, <- hr m e']; exact hm) hnm x hx hx'
def xF : Nat -> AV
 | 0 => nilS
 | j + 1 => sF 1000 (j + 1)
def hFs (d : Nat) (f : Tf) (R : List (Δ × Rv)) : Nat -> LH
 | 0 => []
 | j + 1 => oFc R (PF d R (f.take (j + 1)))
theorem ST' {k : Int} {σ : Nat -> Nat} (l : List Tv) (f : Tf) : [v' (vs' nm), v' (vi' I' k), v' (vi' I' n), v' (vs' t), AV.ren σ (lV l), AV.ren σ (fV f)].all AV.one = true := by cases l <;> cases f <;> rfl
theorem g8' (W : World) (d : Nat) (hV : ∀ v r, VAt W.cell? d v r -> ∃ e, d = e + 1 /\ CvOk W e v r) (f : Tf) (oa : Option Addr) (c : Nat) (ha : FAt W.cell? d oa f) :
  LTri Θ W (AH' fFt 2) (tms 0 22 (aFc oa f.length c nilS 0)) [] (.exit 0) (tms 0 22 [(2, fV f)]) [(1007, fOd d f)] := by
 have hlen := XP' ha.1 δ; have hbig := ha.1
 refine CT' (W := W) (g := fFt) (b := AH' fFt 2) (σ := {z : Nat × List (Δ × Rv) // z.1 <= f.length /\ z.2.length = z.1}) 22 (fun z => aFc oa f.length c (xF z.1.1) z.1.1) (fun z => hFs d f z.1.2 z.1.1) (.exit 0) [(2, fV f)] [(1007, fOd d f)] (fun z => f.length - z.1.1) kFc iFc (by intro h; cases h) (fun z => by
  obtain ⟨⟨i, R⟩, _⟩ := z
  cases i <;> rfl) ?_ ⟨(0, []), Nat.zero_le _, rfl⟩
 rintro ⟨⟨j, R⟩, hj, hR⟩; simp only at hj hR ⊢
 by_cases h1 : j < f.length
 ·obtain ⟨⟨nm, x⟩, hx⟩ := DD' h1; obtain ⟨a, r, rfl, q1, q2⟩ := ha.2 j nm x hx; obtain ⟨e, rfl, hcv⟩ := hV x r q2; obtain ⟨a0, a1, a2, a3, a4, a5⟩ := c6n q1; have aA := all6 q1; obtain ⟨⟨i1, i2, i3, i4, i5⟩, _, _⟩ := q2; have hw := BZ' j ω; have e1 : decide (o' j < o' f.length) = true := ltT h1; have hnx := DP' hx
  have hvs : ∀ i (R1 : List (Δ × Rv)) P, AV.cls (fun n => Nat.blt n 1000 || (getO (oFc R1 P) n).isSome) (tms 0 22 (aFc (some a) f.length c (xF (j + 1)) i)) := fun i R1 P => NO' (A0' rfl (A0' Ye (A0' Ye (A0' Ye A4'))))
  refine ⟨[(fFv, cFv r (lV x.list) (fV x.tab) (lOd e x.list) (fOd e x.tab))], hFc j nm r, [], fun F hF => C7' (d0' hcv F hF), fun _ _ => noL, fun F => ?_⟩
  rcases Nat.eq_zero_or_pos j with rfl | hpos
  ·have hR0 : R = [] := List.length_eq_zero_iff.1 hR; subst hR0
   refine Yj (f7' W a f.length c nm r (lV x.list) (fV x.tab) (lOd e x.list) (fOd e x.tab) F) ⟨⟨?_, rfl, .inl ⟨rfl, aFc (some a) f.length c (xF 1) 1, [(1000, .cells [sv nm, iv r.k, iv r.n, sv r.t, lV x.list, fV x.tab] tFl), (1006, lOd e x.list), (1007, fOd e x.tab)], [(1000, 1104), (1006, 1101), (1007, 1102)], rfl, ⟨χ, by kernel_rfl, ⟨Ya, Ya, Ya, Ya, Ye⟩, ⟨_, rfl, ?_⟩, ⟨_, rfl, ?_⟩, ⟨_, rfl, ?_⟩, Ye⟩, fun W0 F N ys w hs => ?_⟩⟩⟩
   ·simp only [ch', e1, h1, a0, aA, a1, a2, a3, a4, a5, Option.getD_some, Option.isSome_some, Nat.blt_eq, true_and, and_true]; and_intros; all_goals exact Kq22'
   ·refine OW.of_eq ?_; simp only [AO.ren, AV.rens, SV', SX']; rfl
   ·refine OW.of_eq ?_; simp only [SW']
   ·refine OW.of_eq ?_; simp only [D6']
   ·obtain ⟨_, hs1⟩ : ∃ u : Unit, St W0 F N [(1000, .cells ((rowV encF [] ++ [sv nm]) ++ [iv r.k, iv r.n, sv r.t, lV x.list, fV x.tab]) tFl), (1001, .any (frz (PF (e + 1) [] []))), (1006, lOd e x.list), (1007, fOd e x.tab)] (tms 0 22 (aFc (some a) f.length c (xF 1) 1)) ys w :=
     ⟨(), BR' (k := 1001) (fun C => PF.nil (e + 1) C) rfl rfl rfl δ rfl (fun n hn => by simp only [getO, if_neg hn]; rfl) _ _ _ _ _ hs⟩
    obtain ⟨r', hs'⟩ := SQ' rfl ⟨i1, i2, i3⟩ hs1 (hvs _); refine ⟨⟨(1, [(nm, r')]), h1, rfl⟩, BE' h1, ?_⟩; show St _ _ _ (oFc _ (PF _ _ (f.take (0 + 1)))) _ _ _; rw [hnx]; exact hs'
  ·obtain ⟨j, rfl⟩ : ∃ m, j = m + 1 := ⟨j - 1, by omega⟩
   have k1 : (0 + (j + 1) * 6).ble (rowV encF R).length = true := by rw [BG' L2', Nat.ble_eq]; omega
   have k2 : ((j + 1 + 1) * 96).ble 140737488355328 = true := by
    have hb : big = 140737488351232 := rfl; rw [Nat.ble_eq]; omega
   have k3 : (j + 1 + 1).ble 9223372036854775807 = true := by rw [Nat.ble_eq]; omega
   have ktk : List.take ((j + 1) * 6) (List.drop 0 (rowV encF R)) = rowV encF R := by rw [List.drop_zero, <- hR, GB' L2', List.take_length]
   have k4 : (List.take ((j + 1) * 6) (List.drop 0 (rowV encF R))).length.beq ((j + 1) * 6) = true := by rw [ktk, BG' L2', hR]; exact Nat.beq_refl _
   refine Yj (f6' W a f.length c (j + 1) (j + 1) nm r (lV x.list) (fV x.tab) (lOd e x.list) (fOd e x.tab) R (PF (e + 1) R (f.take (j + 1))) F) ⟨⟨?_, rfl, .inl ⟨rfl, aFc (some a) f.length c (xF (j + 1 + 1)) (j + 1 + 1), [(1000, .cells ((rowV encF R ++ [sv nm]) ++ [iv r.k, iv r.n, sv r.t, lV x.list, fV x.tab]) tFl), (1001, .any (frz (PF (e + 1) R (f.take (j + 1))))), (1006, lOd e x.list), (1007, fOd e x.tab)], [(1000, 1104), (1001, 1001), (1006, 1101), (1007, 1102)], rfl, ⟨χ, by kernel_rfl, ⟨Ya, Ya, Ya, Ya, Ye⟩, ⟨_, rfl, ?_⟩, ⟨_, rfl, Yc⟩, ⟨_, rfl, ?_⟩, ⟨_, rfl, ?_⟩, Ye⟩, fun W0 F N ys w hs => ?_⟩⟩⟩
   ·simp only [ch', e1, h1, a0, aA, a1, a2, a3, a4, a5, k1, k2, k3, k4, Option.getD_some, Option.isSome_some, Nat.blt_eq, true_and, and_true]; and_intros; all_goals exact Kq22'
   ·refine OW.of_eq ?_; rw [ktk]; simp only [AO.ren, GR', A8', List.append_assoc, AV.rens, SV', SX']; rfl
   ·refine OW.of_eq ?_; simp only [SW']
   ·refine OW.of_eq ?_; simp only [D6']
   ·obtain ⟨r', hs'⟩ := SQ' rfl ⟨i1, i2, i3⟩ hs (hvs _)
    refine ⟨⟨(j + 1 + 1, R ++ [(nm, r')]), h1, by rw [la', hR]; rfl⟩, BE' h1, ?_⟩
    show St _ _ _ (oFc _ (PF _ _ (f.take (j + 1 + 1)))) _ _ _; rw [hnx]; exact hs'
 ·have hje : j = f.length := ω
  subst hje
  refine ⟨[], hFcE, [], fun _ _ => noC, fun _ _ => noL, fun F => ?_⟩
  cases f with
  | nil =>
   refine Yj (ZT' W oa 0 c F) ⟨⟨?_, rfl, .inr ⟨rfl, [(2, nilS)], [], [], rfl, ⟨χ, by kernel_rfl, ⟨Ya, Ye⟩, Ye⟩, fun W0 F N ys w hs => ?_⟩⟩⟩
   ·simp only [ch', and_true]; exact A5' rfl
   ·exact BR' (k := 1007) (fun C => trivial) rfl rfl rfl δ rfl (fun n hn => by simp only [getO, if_neg hn]) _ _ _ _ _ hs
  | cons y f =>
   have ht : (y :: f).take (y :: f).length = y :: f := List.take_length; have hf1 : (y :: f).length = f.length + 1 := rfl
   refine Yj (ZS' W oa (f.length + 1) c (f.length + 1) R (PF d R ((y :: f).take (f.length + 1))) F) ⟨⟨?_, rfl, .inr ⟨rfl, [(2, sF 1007 (f.length + 1))], [(1007, rF R), (1001, .any (frz (PF d R ((y :: f).take (f.length + 1)))))], [(1007, 1000), (1001, 1001)], rfl, ⟨χ, by kernel_rfl, ⟨Ya, Ye⟩, ⟨_, rfl, OW.of_eq (by simp only [rF, AO.ren, A8'])⟩, ⟨_, rfl, Yc⟩, Ye⟩, fun W0 F N ys w hs => ?_⟩⟩⟩
   ·simp only [ch', and_true]; exact A5' ltF
   ·rw [<- hf1, ht] at hs; exact SO' (H' := [(1007, ownF md d (y :: f))]) rfl rfl hs 1007 1001 δ rfl rfl rfl rfl (fun n o h1 h2 h3 => by simp only [getO, if_neg h1] at h3; cases h3) (fun N1 Di Dk h1 h2 h3 _ => dB' hbig h1 h2 h3) (NO' (A0' rfl A4')) (A0' Ye A4')
def oNx (r : Rv) (R : List Rv) (P : Mem -> Prop) : LH := [(1000, .cells (vmap r.cells) tVl), (1001, .any (frz P)), (1002, rV R), (1004, oZ0)]
theorem oNx_cl (r : Rv) (R : List Rv) (P : Mem -> Prop) (K : Nat -> Bool) : ∀ x ∈ oNx r R P, x.2.cl K :=
 A0' ⟨Ye, Ye, Ye, Ye, Ye, Ye⟩ (A0' Ye (A0' (E8' _ _) (A0' ⟨Ye, Ye, Ye, Ye, Ye, Ye⟩ A4')))
theorem SP' {e : Nat} (hde : d = e + 1) {r0 : Rv} {R : List Rv} {l0 : List Tv} {v : Tv} {r : Rv} (hx : r.k = v.kind /\ r.n = v.num /\ r.t = v.text)
  (hs : St W0 F N [(1000, .cells (vmap r0.cells) tVl), (1001, .any (frz (PV d R l0))), (1002, .cells (rowV encV R ++ [iv r.k, iv r.n, sv r.t, lV v.list, fV v.tab]) tVl), (1004, oZ0), (1006, lOd e v.list), (1007, fOd e v.tab)] vs ys w) (hv : ∀ R P, AV.cls (fun n => Nat.blt n 1000 || (getO (oNx r0 R P) n).isSome) vs) :
  ∃ r', St W0 F N (oNx r0 (R ++ [r']) (PV d (R ++ [r']) (l0 ++ [v]))) vs ys w := by
 subst hde
 obtain ⟨c, hc⟩ := V8' rfl hs 1002 1001 [1006, 1007] δ δ δ (a := rowV encV R) (b := [iv r.k, iv r.n, sv r.t, lV v.list, fV v.tab]) (e := tVl) rfl rfl (fun N1 D w h => h.lt)
  (fun c C => PV (e + 1) R l0 C /\ QV e v c C) (fun N1 D hD yb hy => by
   have hP : PV (e + 1) R l0 (D4' (D 1001) w) := (hD 1001 _ rfl).1
   exact X9' hx hD (k1 := 1006) (k2 := 1007) (Q := PV (e + 1) R l0) rfl rfl (fun b hb => .inr ⟨1006, ms', ⟨_, rfl⟩, hb⟩) (fun b hb => .inr ⟨1007, List.mem_cons_of_mem _ ms', ⟨_, rfl⟩, hb⟩) (hP.mono (C1' fun b hb => .inl hb)) yb hy)
 obtain ⟨⟨C0, _, r', rfl, _⟩, hc⟩ := hc; refine ⟨r', hc _ _ rfl ?_ rfl (fun C ⟨h1, r2, h2, h3⟩ => ?_) (fun n o h1 h2 h3 => ?_) (hv _ _) (oNx_cl _ _ _ _)⟩
 ·show some (ce' (rowV encV (R ++ [r'])) tVl) = some _; rw [EA', KZ']; rfl
 ·rw [<- Q8' h2] at h3; exact h1.add h3
 ·simp only [oNx, getO] at h3
  by_cases e0 : n = 1000
  ·subst e0; exact ⟨δ, by rw [if_pos rfl] at h3; exact h3⟩
  ·rw [if_neg e0, if_neg h2, if_neg h1] at h3
   by_cases e4 : n = 1004
   ·subst e4; exact ⟨δ, by rw [if_pos rfl] at h3; exact h3⟩
   ·rw [if_neg e4] at h3; cases h3
def xL : Nat -> AV
 | 0 => nilS
 | j + 1 => sL 1002 (j + 1)
def hVs (r : Rv) (d : Nat) (l : List Tv) (R : List Rv) : Nat -> LH
 | 0 => oF0 r
 | j + 1 => oFv r R (PV d R (l.take (j + 1)))
theorem SU' {k : Int} {σ : Nat -> Nat} (l : List Tv) (f : Tf) : [v' (vi' I' k), v' (vi' I' n), v' (vs' t), AV.ren σ (lV l), AV.ren σ (fV f)].all AV.one = true := by cases l <;> cases f <;> rfl
def oEn (r : Rv) (d : Nat) (l : List Tv) : LH := [(1000, .cells (vmap r.cells) tVl), (1004, oZ0), (1006, lOd d l)]
theorem g7' (W : World) (d : Nat) (hV : ∀ v r, VAt W.cell? d v r -> ∃ e, d = e + 1 /\ CvOk W e v r) (l : List Tv) (r : Rv) (hll : r.ll = l.length) (ha : LAt W.cell? d r.la l) :
  LTri Θ W (AH' fFv 3) (tms 0 26 (aFv r nilS 0)) (oF0 r) (.exit 0) (tms 0 26 [(1, .ptr 1000 0), (2, .ptr 1004 0), (3, lV l)]) (oEn r d l) := by
 have hlen := XP' ha.1 δ; have hbig := ha.1
 refine CT' (W := W) (g := fFv) (b := AH' fFv 3) (σ := {z : Nat × List Rv // z.1 <= l.length /\ z.2.length = z.1}) 26 (fun z => aFv r (xL z.1.1) z.1.1) (fun z => hVs r d l z.1.2 z.1.1) (.exit 0) [(1, .ptr 1000 0), (2, .ptr 1004 0), (3, lV l)] (oEn r d l) (fun z => l.length - z.1.1) kFv iFv (by intro h; cases h) (fun z => by
  obtain ⟨⟨i, R⟩, _⟩ := z
  cases i <;> rfl) ?_ ⟨(0, []), Nat.zero_le _, rfl⟩
 rintro ⟨⟨j, R⟩, hj, hR⟩; simp only at hj hR ⊢
 by_cases h1 : j < l.length
 ·obtain ⟨x, hx⟩ := DD' h1; obtain ⟨a, s, ea, q1, q2⟩ := ha.2 j x hx; obtain ⟨e, rfl, hcv⟩ := hV x s q2; have aA := all5 q1; obtain ⟨a1, a2, a3, a4, a5⟩ := c5 q1; obtain ⟨⟨i1, i2, i3, i4, i5⟩, _, _⟩ := q2; have hw := BZ' j ω
  have h1' : j < r.ll := ω
  have e1 : decide (o' j < o' r.ll) = true := ltT h1'; obtain ⟨rk, rn, rt, rla, rll, rlc, rta, rtl, rtc⟩ := r; simp only at ea hll; subst ea; have hnx := DP' hx
  have hvs : ∀ i (R1 : List Rv) P, AV.cls (fun n => Nat.blt n 1000 || (getO (oNx ⟨rk, rn, rt, some a, rll, rlc, rta, rtl, rtc⟩ R1 P) n).isSome) (tms 0 26 (aFv ⟨rk, rn, rt, some a, rll, rlc, rta, rtl, rtc⟩ (xL (j + 1)) i)) := fun i R1 P => NO' (A0' rfl (A0' rfl (A0' rfl (A0' Ye (A0' Ye (A0' Ye A4'))))))
  refine ⟨[(fFv, cFv s (lV x.list) (fV x.tab) (lOd e x.list) (fOd e x.tab))], hFv j s, [], fun F hF => C7' (d0' hcv F hF), fun _ _ => noL, fun F => ?_⟩
  rcases Nat.eq_zero_or_pos j with rfl | hpos
  ·have hR0 : R = [] := List.length_eq_zero_iff.1 hR; subst hR0
   refine Yj (f5' W ⟨rk, rn, rt, none, rll, rlc, rta, rtl, rtc⟩ a s (lV x.list) (fV x.tab) (lOd e x.list) (fOd e x.tab) F) ⟨⟨?_, rfl, .inl ⟨rfl, aFv ⟨rk, rn, rt, some a, rll, rlc, rta, rtl, rtc⟩ (xL 1) 1, [(1000, .cells (vmap (Rv.mk rk rn rt (some a) rll rlc rta rtl rtc).cells) tVl), (1002, .cells [iv s.k, iv s.n, sv s.t, lV x.list, fV x.tab] tVl), (1004, oZ0), (1006, lOd e x.list), (1007, fOd e x.tab)], [(1000, 1000), (1002, 1104), (1004, 1004), (1006, 1101), (1007, 1102)], rfl, ⟨χ, by kernel_rfl, ⟨Ya, Ya, Ya, Ya, Ya, Ya, Ye⟩, ⟨_, rfl, Yc⟩, ⟨_, rfl, ?_⟩, ⟨_, rfl, Yc⟩, ⟨_, rfl, ?_⟩, ⟨_, rfl, ?_⟩, Ye⟩, fun W0 F N ys w hs => ?_⟩⟩⟩
   ·simp only [ch', e1, h1', aA, a1, a2, a3, a4, a5, Option.getD_some, Option.isSome_some, Nat.blt_eq, true_and, and_true]; and_intros; all_goals exact Kq23'
   ·refine OW.of_eq ?_; simp only [AO.ren, AV.rens, SV', SX']; rfl
   ·refine OW.of_eq ?_; simp only [SW']
   ·refine OW.of_eq ?_; simp only [D6']
   ·obtain ⟨_, hs1⟩ : ∃ u : Unit, St W0 F N [(1000, .cells (vmap (Rv.mk rk rn rt (some a) rll rlc rta rtl rtc).cells) tVl), (1001, .any (frz (PV (e + 1) [] []))), (1002, .cells (rowV encV [] ++ [iv s.k, iv s.n, sv s.t, lV x.list, fV x.tab]) tVl), (1004, oZ0), (1006, lOd e x.list), (1007, fOd e x.tab)] (tms 0 26 (aFv ⟨rk, rn, rt, some a, rll, rlc, rta, rtl, rtc⟩ (xL 1) 1)) ys w :=
     ⟨(), BR' (k := 1001) (fun C => PV.nil (e + 1) C) rfl rfl rfl δ rfl (fun n hn => by simp only [getO, if_neg hn]; rfl) _ _ _ _ _ hs⟩
    obtain ⟨r', hs'⟩ := SP' rfl ⟨i1, i2, i3⟩ hs1 (hvs _); refine ⟨⟨(1, [r']), h1, rfl⟩, BE' h1, ?_⟩; show St _ _ _ (oNx _ _ (PV _ _ (l.take (0 + 1)))) _ _ _; rw [hnx]; exact hs'
  ·obtain ⟨j, rfl⟩ : ∃ m, j = m + 1 := ⟨j - 1, by omega⟩
   have k1 : (0 + (j + 1) * 5).ble (rowV encV R).length = true := by rw [BG' L1', Nat.ble_eq]; omega
   have k2 : ((j + 1 + 1) * 80).ble 140737488355328 = true := by
    have hb : big = 140737488351232 := rfl; rw [Nat.ble_eq]; omega
   have k3 : (j + 1 + 1).ble 9223372036854775807 = true := by rw [Nat.ble_eq]; omega
   have ktk : List.take ((j + 1) * 5) (List.drop 0 (rowV encV R)) = rowV encV R := by rw [List.drop_zero, <- hR, GB' L1', List.take_length]
   have k4 : (List.take ((j + 1) * 5) (List.drop 0 (rowV encV R))).length.beq ((j + 1) * 5) = true := by rw [ktk, BG' L1', hR]; exact Nat.beq_refl _
   refine Yj (f4' W ⟨rk, rn, rt, none, rll, rlc, rta, rtl, rtc⟩ a s (j + 1) (j + 1) (lV x.list) (fV x.tab) (lOd e x.list) (fOd e x.tab) R (PV (e + 1) R (l.take (j + 1))) F) ⟨⟨?_, rfl, .inl ⟨rfl, aFv ⟨rk, rn, rt, some a, rll, rlc, rta, rtl, rtc⟩ (xL (j + 1 + 1)) (j + 1 + 1), [(1000, .cells (vmap (Rv.mk rk rn rt (some a) rll rlc rta rtl rtc).cells) tVl), (1001, .any (frz (PV (e + 1) R (l.take (j + 1))))), (1002, .cells (rowV encV R ++ [iv s.k, iv s.n, sv s.t, lV x.list, fV x.tab]) tVl), (1004, oZ0), (1006, lOd e x.list), (1007, fOd e x.tab)], [(1000, 1000), (1001, 1001), (1002, 1104), (1004, 1004), (1006, 1101), (1007, 1102)], rfl, ⟨χ, by kernel_rfl, ⟨Ya, Ya, Ya, Ya, Ya, Ya, Ye⟩, ⟨_, rfl, Yc⟩, ⟨_, rfl, Yc⟩, ⟨_, rfl, ?_⟩, ⟨_, rfl, Yc⟩, ⟨_, rfl, ?_⟩, ⟨_, rfl, ?_⟩, Ye⟩, fun W0 F N ys w hs => ?_⟩⟩⟩
   ·simp only [ch', e1, h1', aA, a1, a2, a3, a4, a5, k1, k2, k3, k4, Option.getD_some, Option.isSome_some, Nat.blt_eq, true_and, and_true]; and_intros; all_goals exact Kq23'
   ·refine OW.of_eq ?_; rw [ktk]; simp only [AO.ren, GR', A8', AV.rens, SV', SX']; rfl
   ·refine OW.of_eq ?_; simp only [SW']
   ·refine OW.of_eq ?_; simp only [D6']
   ·obtain ⟨r', hs'⟩ := SP' rfl ⟨i1, i2, i3⟩ hs (hvs _)
    refine ⟨⟨(j + 1 + 1, R ++ [r']), h1, by rw [la', hR]; rfl⟩, BE' h1, ?_⟩
    show St _ _ _ (oNx _ _ (PV _ _ (l.take (j + 1 + 1)))) _ _ _; rw [hnx]; exact hs'
 ·have hje : j = l.length := ω
  subst hje
  refine ⟨[], hFvE, [], fun _ _ => noC, fun _ _ => noL, fun F => ?_⟩
  obtain ⟨rk, rn, rt, rla, rll, rlc, rta, rtl, rtc⟩ := r; simp only at hll; subst hll
  cases l with
  | nil =>
   refine Yj (ZR' W ⟨rk, rn, rt, rla, 0, rlc, rta, rtl, rtc⟩ F) ⟨⟨?_, rfl, .inr ⟨rfl, [(1, .ptr 1000 0), (2, .ptr 1004 0), (3, nilS)], oF0 ⟨rk, rn, rt, rla, 0, rlc, rta, rtl, rtc⟩, [(1000, 1000), (1004, 1004)], rfl, ⟨χ, by kernel_rfl, ⟨Ya, Ya, Ya, Ye⟩, ⟨_, rfl, Yc⟩, ⟨_, rfl, Yc⟩, Ye⟩, fun W0 F N ys w hs => ?_⟩⟩⟩
   ·simp only [ch', and_true]; exact A5' rfl
   ·exact BR' (k := 1006) (fun C => trivial) rfl rfl rfl δ rfl (fun n hn => by
     simp only [oEn, oF0, getO]
     by_cases e0 : n = 1000
     ·simp only [if_pos e0]; rfl
     ·by_cases e4 : n = 1004
      ·simp only [if_neg e0, if_pos e4]
      ·simp only [if_neg e0, if_neg e4, if_neg hn]) _ _ _ _ _ hs
  | cons y l =>
   have ht : (y :: l).take (y :: l).length = y :: l := List.take_length; have hf1 : (y :: l).length = l.length + 1 := rfl
   refine Yj (ZQ' W ⟨rk, rn, rt, rla, l.length + 1, rlc, rta, rtl, rtc⟩ (l.length + 1) R (PV d R ((y :: l).take (l.length + 1))) F) ⟨⟨?_, rfl, .inr ⟨rfl, [(1, .ptr 1000 0), (2, .ptr 1004 0), (3, sL 1006 (l.length + 1))], [(1000, .cells (vmap (Rv.mk rk rn rt rla (l.length + 1) rlc rta rtl rtc).cells) tVl), (1001, .any (frz (PV d R ((y :: l).take (l.length + 1))))), (1006, rV R), (1004, oZ0)], [(1000, 1000), (1001, 1001), (1006, 1002), (1004, 1004)], rfl, ⟨χ, by kernel_rfl, ⟨Ya, Ya, Ya, Ye⟩, ⟨_, rfl, Yc⟩, ⟨_, rfl, Yc⟩, ⟨_, rfl, OW.of_eq (by simp only [rV, AO.ren, A8'])⟩, ⟨_, rfl, Yc⟩, Ye⟩, fun W0 F N ys w hs => ?_⟩⟩⟩
   ·simp only [ch', and_true]; exact A5' ltF
   ·rw [<- hf1, ht] at hs
    exact SO' (H' := oEn ⟨rk, rn, rt, rla, (y :: l).length, rlc, rta, rtl, rtc⟩ d (y :: l)) rfl rfl hs 1006 1001 δ rfl rfl rfl rfl (fun n o h1 h2 h3 => by
     simp only [oEn, getO, if_neg h1] at h3; simp only [getO, if_neg h1, if_neg h2]
     exact h3) (fun N1 Di Dk h1 h2 h3 _ => dA' hbig h1 h2 h3) (NO' (A0' rfl (A0' rfl (A0' rfl A4')))) (A0' ⟨Ye, Ye, Ye, Ye, Ye, Ye⟩ (A0' ⟨Ye, Ye, Ye, Ye, Ye, Ye⟩ (A0' (fS' _ _ (y :: l)) A4')))
theorem gFv_ro : ∀ args, RO (gFv args) := by
 intro args; unfold gFv
 repeat' split
 all_goals exact Kq19'
theorem YB' (W : World) (d : Nat) (hV : ∀ v r, VAt W.cell? d v r -> ∃ e, d = e + 1 /\ CvOk W e v r) (f : Tf) (oa : Option Addr) (c : Nat) (ha : FAt W.cell? d oa f) :
  Tri Θ W fFt [slV oa f.length c] [] (fV f) [(1007, fOd d f)] := by
 have hl : ∀ F, B9' W F -> L1OK Θ F (AH' fFt 2) (lFt oa f.length c (fV f) (fOd d f)) := fun F hF =>
  EV' hF (fun _ => RO.ret _) (fun _ _ => g8' W d hV f oa c ha) fun _ => by
   simp only [RT.pick]; exact DF' rfl rfl (A0' Ye (A0' Ye (A0' Ye (A0' Ye A4')))) A4' (A0' (aM' rfl f) A4') (A0' (aN' _ d f) A4')
 refine AR' (con := []) (hints := AF') (lc := [(fFt, 2, AH' fFt 2, lFt oa f.length c (fV f) (fOd d f))]) [1007, 1100, 1101, 1102] rfl (fun F _ => noC) (fun F hF => MD' (hl F hF)) fun F => ?_
 cases f with
 | nil =>
  refine Yj (W3' W oa 0 c nilS dumZ F) ⟨⟨?_, (BC' (vs' := [nilS]) (H' := [(1007, dumZ)]) [(1007, 1100)] rfl rfl (Yb) ⟨⟨_, rfl, Yc⟩, Ye⟩).fits rfl⟩⟩; exact Cq0'
 | cons y f =>
  refine Yj (W3' W oa (f.length + 1) c (sF 1007 (f.length + 1)) (ownF md d (y :: f)) F) ⟨⟨?_, (BC' (vs' := [sF 1007 (f.length + 1)]) (H' := [(1007, ownF md d (y :: f))]) [(1007, 1100)] rfl rfl (Yb) ⟨⟨_, rfl, Yc⟩, Ye⟩).fits rfl⟩⟩; exact Cq0'
theorem d1' {oa : Option Addr} {c : Nat} {f : Tf} (h : Tri Θ W fFt [slV oa f.length c] [] (fV f) [(1007, fOd d f)]) (F : HP) (hF : B9' W F) : C1OK Θ F fFt (cFt oa f.length c (fV f) (fOd d f)) :=
 D7' hF (fun _ => fV f) (fun _ => RO.ret _) (fun _ => rfl) (fun _ _ => h) fun _ => ⟨rfl, rfl, ⟨Ye, Ye⟩, A4', ⟨aM' rfl _, Ye⟩, A0' (aN' _ _ _) A4'⟩
theorem g6' (W : World) (d : Nat) (hV : ∀ v r, VAt W.cell? d v r -> ∃ e, d = e + 1 /\ CvOk W e v r) (v : Tv) (r : Rv) (h : VAt W.cell? (d + 1) v r) : CvOk W d v r := by
 obtain ⟨⟨i1, i2, i3, i4, i5⟩, hl, hf⟩ := h; obtain ⟨vk, vn, vt, l, f⟩ := v; obtain ⟨rk, rn, rt, rla, rll, rlc, rta, rtl, rtc⟩ := r; have i4 : rll = l.length := i4; have i5 : rtl = f.length := i5; subst i4 i5
 have hloop : ∀ F, B9' W F -> L1OK Θ F (AH' fFv 3) (lFv ⟨rk, rn, rt, rla, l.length, rlc, rta, f.length, rtc⟩ (lV l) (lOd d l)) := fun F hF =>
  EV' hF gFv_ro (fun _ _ => g7' W d hV l _ rfl hl) fun _ => by
   simp only [RT.pick]; exact DF' rfl rfl (A0' rfl (A0' rfl (A0' Ye (A0' Ye (A0' Ye (A0' Ye A4')))))) (A0' ⟨Ye, Ye, Ye, Ye, Ye, Ye⟩ (A0' ⟨Ye, Ye, Ye, Ye, Ye, Ye⟩ A4')) (A0' rfl (A0' rfl (A0' (lV_cl rfl _) A4'))) (A0' ⟨Ye, Ye, Ye, Ye, Ye, Ye⟩ (A0' ⟨Ye, Ye, Ye, Ye, Ye, Ye⟩ (A0' (fS' _ _ _) A4')))
 have hcp : ∀ F, B9' W F -> C1OK Θ F fFt (cFt rta f.length rtc (fV f) (fOd d f)) := fun F hF => d1' (YB' W d hV f rta rtc hf) F hF
 unfold CvOk; show Tri Θ W fFv [aggR ⟨rk, rn, rt, rla, l.length, rlc, rta, f.length, rtc⟩] [] (.agg [iv rk, iv rn, sv rt, lV l, fV f]) [(1006, lOd d l), (1007, fOd d f)]
 refine AR' (con := [(fFt, cFt rta f.length rtc (fV f) (fOd d f))]) (hints := AF') (lc := [(fFv, 3, AH' fFv 3, lFv ⟨rk, rn, rt, rla, l.length, rlc, rta, f.length, rtc⟩ (lV l) (lOd d l))]) [1006, 1007, 1100, 1101, 1102, 1103, 1104, 1105] rfl (fun F hF => C7' (hcp F hF)) (fun F hF => MD' (hloop F hF)) fun F => ?_
 cases l with
 | nil =>
  cases f with
  | nil =>
   refine Yj (ZM' W ⟨rk, rn, rt, rla, 0, rlc, rta, 0, rtc⟩ dumZ dumZ F) ⟨⟨?_, (BC' (vs' := [.agg [iv rk, iv rn, sv rt, nilS, nilS]]) (H' := [(1006, dumZ), (1007, dumZ)]) [(1006, 1104), (1007, 1105)] rfl rfl (Yb) ⟨⟨_, rfl, Yc⟩, ⟨_, rfl, Yc⟩, Ye⟩).fits rfl⟩⟩; exact Cq1'
  | cons y f =>
   refine Yj (ZN' W ⟨rk, rn, rt, rla, 0, rlc, rta, f.length + 1, rtc⟩ dumZ (ownF md d (y :: f)) F) ⟨⟨?_, (BC' (vs' := [.agg [iv rk, iv rn, sv rt, nilS, sF 1007 (f.length + 1)]]) (H' := [(1006, dumZ), (1007, (ownF md d (y :: f)))]) [(1006, 1104), (1007, 1105)] rfl rfl (Yb) ⟨⟨_, rfl, Yc⟩, ⟨_, rfl, Yc⟩, Ye⟩).fits rfl⟩⟩; exact Cq1'
 | cons x l =>
  cases f with
  | nil =>
   refine Yj (ZO' W ⟨rk, rn, rt, rla, l.length + 1, rlc, rta, 0, rtc⟩ (ownL md d (x :: l)) dumZ F) ⟨⟨?_, (BC' (vs' := [.agg [iv rk, iv rn, sv rt, sL 1006 (l.length + 1), nilS]]) (H' := [(1006, (ownL md d (x :: l))), (1007, dumZ)]) [(1006, 1104), (1007, 1105)] rfl rfl (Yb) ⟨⟨_, rfl, Yc⟩, ⟨_, rfl, Yc⟩, Ye⟩).fits rfl⟩⟩; exact Cq1'
  | cons y f =>
   refine Yj (ZP' W ⟨rk, rn, rt, rla, l.length + 1, rlc, rta, f.length + 1, rtc⟩ (ownL md d (x :: l)) (ownF md d (y :: f)) F) ⟨⟨?_, (BC' (vs' := [.agg [iv rk, iv rn, sv rt, sL 1006 (l.length + 1), sF 1007 (f.length + 1)]]) (H' := [(1006, (ownL md d (x :: l))), (1007, (ownF md d (y :: f)))]) [(1006, 1104), (1007, 1105)] rfl rfl (Yb) ⟨⟨_, rfl, Yc⟩, ⟨_, rfl, Yc⟩, Ye⟩).fits rfl⟩⟩; exact Cq1'
theorem bY' (W : World) : ∀ (d : Nat) (v : Tv) (r : Rv), VAt W.cell? d v r -> ∃ e, d = e + 1 /\ CvOk W e v r
 | 0, _, _, h => h.elim
 | d + 1, v, r, h => ⟨d, rfl, g6' W d (bY' W d) v r h⟩
theorem b7' (W : World) (d : Nat) (f : Tf) (oa : Option Addr) (c : Nat) (ha : FAt W.cell? d oa f) : Tri Θ W fFt [slV oa f.length c] [] (fV f) [(1007, fOd d f)] := YB' W d (bY' W d) f oa c ha
end Go.Proofs.Ytjjjchmkonnpfaa.Tree
namespace Go.Proofs.Ytjjjchmkonnpfaa.Qb
open Go Go.RowKit Eng Kit Tree
open AO renaming cells -> ce'
open Go.Value renaming slice -> sl'
noncomputable section
structure Kc where
 sq : Int
 gh : Int
 bo : Int
 si : Int
 ex : Δ
 ke : Δ
 fl : Int
 ct : Δ
 ce : Δ
 f : Tf
 dm : Int
 pr : Int
 s1 : Δ
 s2 : Δ
 s3 : Δ
 s4 : Δ
 ts : Int
 s5 : Δ
 s6 : Δ
 s7 : Δ
 xp : Int
 pi : Int
 tr : List Δ
 du : Bool
 re : Bool
 ha : Option Addr
 hc : Nat
 ta : Option Addr
 tc : Nat
def Kc.cells (c : Kc) : List Value := [.int .i64 c.sq, .int .i64 c.gh, .int .i64 c.bo, .int .i64 c.si, .string c.ex, .string c.ke, .int .i64 c.fl, .string c.ct, .string c.ce, .slice c.ha c.f.length c.hc, .int .i64 c.dm, .int .i64 c.pr, .string c.s1, .string c.s2, .string c.s3, .string c.s4, .int .i64 c.ts, .string c.s5, .string c.s6, .string c.s7, .int .i64 c.xp, .int .i64 c.pi, .slice c.ta c.tr.length c.tc, .bool c.du, .bool c.re]
def E1' (c : Kc) (FV TV : AV) : List AV := [iv c.sq, iv c.gh, iv c.bo, iv c.si, sv c.ex, sv c.ke, iv c.fl, sv c.ct, sv c.ce, FV, iv c.dm, iv c.pr, sv c.s1, sv c.s2, sv c.s3, sv c.s4, iv c.ts, sv c.s5, sv c.s6, sv c.s7, iv c.xp, iv c.pi, TV, bv c.du, bv c.re]
def aggN (c : Kc) (FV TV : AV) : AV := .agg (E1' c FV TV)
def aggK (c : Kc) : AV := aggN c (slV c.ha c.f.length c.hc) (slV c.ta c.tr.length c.tc)
abbrev fCd : Nat := 30
abbrev fCl : Nat := 45
abbrev tKc : TypeId := 2 * 41
abbrev tSt : TypeId := 2 * 9
def sS (i n : Nat) : AV := .slice i 0 n 1 (.lo n)
def cCl (oa : Option Addr) (n c : Nat) (TV : AV) (OT : AO) : List AV -> Option (AP AV) := mkC (fun _ => .ret ()) (fun _ => True) (fun _ k => k) (fun _ => [slV oa n c]) (fun _ => []) (fun _ => .leaf .ret [TV] [(1008, OT)])
abbrev k16' : Cnd := (f' (Wk (b' true) j'))
theorem fK' (W : World) (n c : Nat) (F : HP) : wRun [] (AJ' [ht' fCl 1 1]) [] W fCl [slV none n c] [] [1100, 1101, 1102] F = VT.leaf (e') [none,none,none] 1100 (k16'.a k1') := χ
abbrev k17' : Cnd := (f' (Wk (b' false) g'))
theorem fM' (W : World) (a : Addr) (c : Nat) (F : HP) : wRun [] (AJ' [hf' fCl 1 1, (fCl, 3, 2, h0)]) [] W fCl [slV (some a) 0 c] [] [1100, 1101, 1102] F = VT.leaf (AV.slice 1100 0 0 1 (Cp.ex 0)) [some (ce' (rep [s' y0'] 0) 18),none,none] 1101 (k17'.a ((fe' 0).a k1')) := χ
theorem fL' (W : World) (a : Addr) (n c : Nat) (F : HP) : wRun [] (AJ' [hf' fCl 1 1]) [] W fCl [slV (some a) n c] [] [1100, 1101, 1102, 1103] F = VT.leaf (AV.slice 1101 0 (0 + n) 1 (Cp.lo (0 + n))) [some (ce' (rep [s' y0'] 0) 18),some (ce' ([] ++ vmap (BT' W a (n * 1))) 18),none,none] 1102 (k17'.a (((p' (n.ble n = true)).a ((p' (((List.range (n * 1)).all fun j => (W.cell? (a.add j)).isSome) = true)).a ((p' ((vmap (BT' W a (n * 1))).all AV.one = true)).a ((p' (Nat.blt 0 n = true)).a (tt'.a ((p' (((0 + n) * 16).ble 140737488355328 = true)).a ((p' ((0 + n).ble 9223372036854775807 = true)).a (tt'.a (f' (Nat.blt 0 (0 + n) = true)))))))))).a k1')) := χ
abbrev k18' (q0 : Kc) : Cnd := ((p' True).a (f' (VW [AV.v (sl' q0.ta q0.tr.length q0.tc)] [AV.v (sl' q0.ta q0.tr.length q0.tc)])))
abbrev _root_.Go.Proofs.Ytjjjchmkonnpfaa.h19' (z : Cnd) : Cnd := ((fe' true).a ((fe' true).a z))
abbrev k20' (q0 : Kc) : Cnd := ((fe' true).a (((p' True).a (f' (VW [AV.v (sl' q0.ha (List.length q0.f) q0.hc)] [AV.v (sl' q0.ha (List.length q0.f) q0.hc)]))).a ((fe' true).a ((ee' [z' q0.fl,s' q0.ct,s' q0.ce,e',z' q0.dm,z' q0.pr,s' q0.s1,s' q0.s2,s' q0.s3,s' q0.s4,z' q0.ts,s' q0.s5,s' q0.s6,s' q0.s7]).a ((fe' true).a (ee' [z' q0.fl,s' q0.ct,s' q0.ce,e',z' q0.dm,z' q0.pr,s' q0.s1,s' q0.s2,s' q0.s3,s' q0.s4,z' q0.ts,s' q0.s5,s' q0.s6,s' q0.s7]))))))
abbrev k21' (q0 : Kc) : Cnd := (ee' [z' q0.fl,s' q0.ct,s' q0.ce,AV.v (sl' q0.ha (List.length q0.f) q0.hc),z' q0.dm,z' q0.pr,s' q0.s1,s' q0.s2,s' q0.s3,s' q0.s4,z' q0.ts,s' q0.s5,s' q0.s6,s' q0.s7])
theorem ZY' (W : World) (c : Kc) (OF OT : AO) (F : HP) : wRun [(fFt, cFt c.ha c.f.length c.hc nilS OF), (fCl, cCl c.ta c.tr.length c.tc .mt OT)] AF' [] W fCd [aggK c] [] [1100, 1101, 1102, 1103, 1104, 1105, 1106, 1107, 1108, 1109] F = VT.leaf (AV.agg [z' c.sq,z' c.gh,z' c.bo,z' c.si,s' c.ex,s' c.ke,z' c.fl,s' c.ct,s' c.ce,e',z' c.dm,z' c.pr,s' c.s1,s' c.s2,s' c.s3,s' c.s4,z' c.ts,s' c.s5,s' c.s6,s' c.s7,z' c.xp,z' c.pi,AV.mt,b' c.du,b' c.re]) [some (ce' [z' c.sq,z' c.gh,z' c.bo,z' c.si,s' c.ex,s' c.ke,z' c.fl,s' c.ct,s' c.ce,e',z' c.dm,z' c.pr,s' c.s1,s' c.s2,s' c.s3,s' c.s4,z' c.ts,s' c.s5,s' c.s6,s' c.s7,z' c.xp,z' c.pi,AV.mt,b' c.du,b' c.re] 82),some (ce' [z' c.sq,z' c.gh,z' c.bo,z' c.si,s' c.ex,s' c.ke,z' c.fl,s' c.ct,s' c.ce,e',z' c.dm,z' c.pr,s' c.s1,s' c.s2,s' c.s3,s' c.s4,z' c.ts,s' c.s5,s' c.s6,s' c.s7,z' c.xp,z' c.pi,AV.mt,b' c.du,b' c.re] 82),some (ce' [z' c.fl,s' c.ct,s' c.ce,e',z' c.dm,z' c.pr,s' c.s1,s' c.s2,s' c.s3,s' c.s4,z' c.ts,s' c.s5,s' c.s6,s' c.s7] 72),some (ce' [z' c.fl,s' c.ct,s' c.ce,e',z' c.dm,z' c.pr,s' c.s1,s' c.s2,s' c.s3,s' c.s4,z' c.ts,s' c.s5,s' c.s6,s' c.s7] 72),some (AO.ren (sgN (fun k => k) [1007] 1104) OF),some (AO.ren (sgN (fun k => k) [1008] 1105) OT),none,none,none,none] 1106 ((k21' c).a ((k20' c).a (h19' ((k18' c).a (k6'.a ((ee' [z' c.sq,z' c.gh,z' c.bo,z' c.si,s' c.ex,s' c.ke,z' c.fl,s' c.ct,s' c.ce,e',z' c.dm,z' c.pr,s' c.s1,s' c.s2,s' c.s3,s' c.s4,z' c.ts,s' c.s5,s' c.s6,s' c.s7,z' c.xp,z' c.pi,AV.mt,b' c.du,b' c.re]).a (h12' ((p' ([z' c.sq,z' c.gh,z' c.bo,z' c.si,s' c.ex,s' c.ke,z' c.fl,s' c.ct,s' c.ce,e',z' c.dm,z' c.pr,s' c.s1,s' c.s2,s' c.s3,s' c.s4,z' c.ts,s' c.s5,s' c.s6,s' c.s7,z' c.xp,z' c.pi,AV.mt,b' c.du,b' c.re] = [z' c.sq,z' c.gh,z' c.bo,z' c.si,s' c.ex,s' c.ke,z' c.fl,s' c.ct,s' c.ce,e',z' c.dm,z' c.pr,s' c.s1,s' c.s2,s' c.s3,s' c.s4,z' c.ts,s' c.s5,s' c.s6,s' c.s7,z' c.xp,z' c.pi,AV.mt,b' c.du,b' c.re])).a k1')))))))) := χ
theorem ZZ' (W : World) (c : Kc) (OF OT : AO) (F : HP) : wRun [(fFt, cFt c.ha c.f.length c.hc nilS OF), (fCl, cCl c.ta c.tr.length c.tc (sS 1008 c.tr.length) OT)] AF' [] W fCd [aggK c] [] [1100, 1101, 1102, 1103, 1104, 1105, 1106, 1107, 1108, 1109] F = VT.leaf (AV.agg [z' c.sq,z' c.gh,z' c.bo,z' c.si,s' c.ex,s' c.ke,z' c.fl,s' c.ct,s' c.ce,e',z' c.dm,z' c.pr,s' c.s1,s' c.s2,s' c.s3,s' c.s4,z' c.ts,s' c.s5,s' c.s6,s' c.s7,z' c.xp,z' c.pi,AV.slice 1105 0 c.tr.length 1 (Cp.lo c.tr.length),b' c.du,b' c.re]) [some (ce' [z' c.sq,z' c.gh,z' c.bo,z' c.si,s' c.ex,s' c.ke,z' c.fl,s' c.ct,s' c.ce,e',z' c.dm,z' c.pr,s' c.s1,s' c.s2,s' c.s3,s' c.s4,z' c.ts,s' c.s5,s' c.s6,s' c.s7,z' c.xp,z' c.pi,AV.slice 1105 0 c.tr.length 1 (Cp.lo c.tr.length),b' c.du,b' c.re] 82),some (ce' [z' c.sq,z' c.gh,z' c.bo,z' c.si,s' c.ex,s' c.ke,z' c.fl,s' c.ct,s' c.ce,e',z' c.dm,z' c.pr,s' c.s1,s' c.s2,s' c.s3,s' c.s4,z' c.ts,s' c.s5,s' c.s6,s' c.s7,z' c.xp,z' c.pi,AV.slice 1105 0 c.tr.length 1 (Cp.lo c.tr.length),b' c.du,b' c.re] 82),some (ce' [z' c.fl,s' c.ct,s' c.ce,e',z' c.dm,z' c.pr,s' c.s1,s' c.s2,s' c.s3,s' c.s4,z' c.ts,s' c.s5,s' c.s6,s' c.s7] 72),some (ce' [z' c.fl,s' c.ct,s' c.ce,e',z' c.dm,z' c.pr,s' c.s1,s' c.s2,s' c.s3,s' c.s4,z' c.ts,s' c.s5,s' c.s6,s' c.s7] 72),some (AO.ren (sgN (fun k => k) [1007] 1104) OF),some (AO.ren (sgN (fun k => k) [1008] 1105) OT),none,none,none,none] 1106 ((k21' c).a ((k20' c).a (h19' ((k18' c).a (k6'.a ((ee' [z' c.sq,z' c.gh,z' c.bo,z' c.si,s' c.ex,s' c.ke,z' c.fl,s' c.ct,s' c.ce,e',z' c.dm,z' c.pr,s' c.s1,s' c.s2,s' c.s3,s' c.s4,z' c.ts,s' c.s5,s' c.s6,s' c.s7,z' c.xp,z' c.pi,AV.slice 1105 0 c.tr.length 1 (Cp.lo c.tr.length),b' c.du,b' c.re]).a (h12' ((p' ([z' c.sq,z' c.gh,z' c.bo,z' c.si,s' c.ex,s' c.ke,z' c.fl,s' c.ct,s' c.ce,e',z' c.dm,z' c.pr,s' c.s1,s' c.s2,s' c.s3,s' c.s4,z' c.ts,s' c.s5,s' c.s6,s' c.s7,z' c.xp,z' c.pi,AV.slice 1105 0 c.tr.length 1 (Cp.lo c.tr.length),b' c.du,b' c.re] = [z' c.sq,z' c.gh,z' c.bo,z' c.si,s' c.ex,s' c.ke,z' c.fl,s' c.ct,s' c.ce,e',z' c.dm,z' c.pr,s' c.s1,s' c.s2,s' c.s3,s' c.s4,z' c.ts,s' c.s5,s' c.s6,s' c.s7,z' c.xp,z' c.pi,AV.slice 1105 0 c.tr.length 1 (Cp.lo c.tr.length),b' c.du,b' c.re])).a k1')))))))) := χ
abbrev k22' (q0 : Kc) (q1 : Nat) : Cnd := ((fe' true).a (((p' True).a (f' (VW [AV.v (sl' q0.ha (List.length q0.f) q0.hc)] [AV.v (sl' q0.ha (List.length q0.f) q0.hc)]))).a ((fe' true).a ((ee' [z' q0.fl,s' q0.ct,s' q0.ce,AV.slice q1 0 (List.length q0.f) 6 (Cp.lo (List.length q0.f)),z' q0.dm,z' q0.pr,s' q0.s1,s' q0.s2,s' q0.s3,s' q0.s4,z' q0.ts,s' q0.s5,s' q0.s6,s' q0.s7]).a ((fe' true).a (ee' [z' q0.fl,s' q0.ct,s' q0.ce,AV.slice q1 0 (List.length q0.f) 6 (Cp.lo (List.length q0.f)),z' q0.dm,z' q0.pr,s' q0.s1,s' q0.s2,s' q0.s3,s' q0.s4,z' q0.ts,s' q0.s5,s' q0.s6,s' q0.s7]))))))
theorem a0' (W : World) (c : Kc) (OF OT : AO) (F : HP) : wRun [(fFt, cFt c.ha c.f.length c.hc (sF 1007 c.f.length) OF), (fCl, cCl c.ta c.tr.length c.tc .mt OT)] AF' [] W fCd [aggK c] [] [1100, 1101, 1102, 1103, 1104, 1105, 1106, 1107, 1108, 1109] F = VT.leaf (AV.agg [z' c.sq,z' c.gh,z' c.bo,z' c.si,s' c.ex,s' c.ke,z' c.fl,s' c.ct,s' c.ce,AV.slice 1104 0 (List.length c.f) 6 (Cp.lo (List.length c.f)),z' c.dm,z' c.pr,s' c.s1,s' c.s2,s' c.s3,s' c.s4,z' c.ts,s' c.s5,s' c.s6,s' c.s7,z' c.xp,z' c.pi,AV.mt,b' c.du,b' c.re]) [some (ce' [z' c.sq,z' c.gh,z' c.bo,z' c.si,s' c.ex,s' c.ke,z' c.fl,s' c.ct,s' c.ce,AV.slice 1104 0 (List.length c.f) 6 (Cp.lo (List.length c.f)),z' c.dm,z' c.pr,s' c.s1,s' c.s2,s' c.s3,s' c.s4,z' c.ts,s' c.s5,s' c.s6,s' c.s7,z' c.xp,z' c.pi,AV.mt,b' c.du,b' c.re] 82),some (ce' [z' c.sq,z' c.gh,z' c.bo,z' c.si,s' c.ex,s' c.ke,z' c.fl,s' c.ct,s' c.ce,AV.slice 1104 0 (List.length c.f) 6 (Cp.lo (List.length c.f)),z' c.dm,z' c.pr,s' c.s1,s' c.s2,s' c.s3,s' c.s4,z' c.ts,s' c.s5,s' c.s6,s' c.s7,z' c.xp,z' c.pi,AV.mt,b' c.du,b' c.re] 82),some (ce' [z' c.fl,s' c.ct,s' c.ce,AV.slice 1104 0 (List.length c.f) 6 (Cp.lo (List.length c.f)),z' c.dm,z' c.pr,s' c.s1,s' c.s2,s' c.s3,s' c.s4,z' c.ts,s' c.s5,s' c.s6,s' c.s7] 72),some (ce' [z' c.fl,s' c.ct,s' c.ce,AV.slice 1104 0 (List.length c.f) 6 (Cp.lo (List.length c.f)),z' c.dm,z' c.pr,s' c.s1,s' c.s2,s' c.s3,s' c.s4,z' c.ts,s' c.s5,s' c.s6,s' c.s7] 72),some (AO.ren (sgN (fun k => k) [1007] 1104) OF),some (AO.ren (sgN (fun k => k) [1008] 1105) OT),none,none,none,none] 1106 ((k21' c).a ((k22' c 1104).a (h19' ((k18' c).a (k6'.a ((ee' [z' c.sq,z' c.gh,z' c.bo,z' c.si,s' c.ex,s' c.ke,z' c.fl,s' c.ct,s' c.ce,AV.slice 1104 0 (List.length c.f) 6 (Cp.lo (List.length c.f)),z' c.dm,z' c.pr,s' c.s1,s' c.s2,s' c.s3,s' c.s4,z' c.ts,s' c.s5,s' c.s6,s' c.s7,z' c.xp,z' c.pi,AV.mt,b' c.du,b' c.re]).a (h12' ((p' ([z' c.sq,z' c.gh,z' c.bo,z' c.si,s' c.ex,s' c.ke,z' c.fl,s' c.ct,s' c.ce,AV.slice 1104 0 (List.length c.f) 6 (Cp.lo (List.length c.f)),z' c.dm,z' c.pr,s' c.s1,s' c.s2,s' c.s3,s' c.s4,z' c.ts,s' c.s5,s' c.s6,s' c.s7,z' c.xp,z' c.pi,AV.mt,b' c.du,b' c.re] = [z' c.sq,z' c.gh,z' c.bo,z' c.si,s' c.ex,s' c.ke,z' c.fl,s' c.ct,s' c.ce,AV.slice 1104 0 (List.length c.f) 6 (Cp.lo (List.length c.f)),z' c.dm,z' c.pr,s' c.s1,s' c.s2,s' c.s3,s' c.s4,z' c.ts,s' c.s5,s' c.s6,s' c.s7,z' c.xp,z' c.pi,AV.mt,b' c.du,b' c.re])).a k1')))))))) := χ
theorem a1' (W : World) (c : Kc) (OF OT : AO) (F : HP) : wRun [(fFt, cFt c.ha c.f.length c.hc (sF 1007 c.f.length) OF), (fCl, cCl c.ta c.tr.length c.tc (sS 1008 c.tr.length) OT)] AF' [] W fCd [aggK c] [] [1100, 1101, 1102, 1103, 1104, 1105, 1106, 1107, 1108, 1109] F = VT.leaf (AV.agg [z' c.sq,z' c.gh,z' c.bo,z' c.si,s' c.ex,s' c.ke,z' c.fl,s' c.ct,s' c.ce,AV.slice 1104 0 (List.length c.f) 6 (Cp.lo (List.length c.f)),z' c.dm,z' c.pr,s' c.s1,s' c.s2,s' c.s3,s' c.s4,z' c.ts,s' c.s5,s' c.s6,s' c.s7,z' c.xp,z' c.pi,AV.slice 1105 0 c.tr.length 1 (Cp.lo c.tr.length),b' c.du,b' c.re]) [some (ce' [z' c.sq,z' c.gh,z' c.bo,z' c.si,s' c.ex,s' c.ke,z' c.fl,s' c.ct,s' c.ce,AV.slice 1104 0 (List.length c.f) 6 (Cp.lo (List.length c.f)),z' c.dm,z' c.pr,s' c.s1,s' c.s2,s' c.s3,s' c.s4,z' c.ts,s' c.s5,s' c.s6,s' c.s7,z' c.xp,z' c.pi,AV.slice 1105 0 c.tr.length 1 (Cp.lo c.tr.length),b' c.du,b' c.re] 82),some (ce' [z' c.sq,z' c.gh,z' c.bo,z' c.si,s' c.ex,s' c.ke,z' c.fl,s' c.ct,s' c.ce,AV.slice 1104 0 (List.length c.f) 6 (Cp.lo (List.length c.f)),z' c.dm,z' c.pr,s' c.s1,s' c.s2,s' c.s3,s' c.s4,z' c.ts,s' c.s5,s' c.s6,s' c.s7,z' c.xp,z' c.pi,AV.slice 1105 0 c.tr.length 1 (Cp.lo c.tr.length),b' c.du,b' c.re] 82),some (ce' [z' c.fl,s' c.ct,s' c.ce,AV.slice 1104 0 (List.length c.f) 6 (Cp.lo (List.length c.f)),z' c.dm,z' c.pr,s' c.s1,s' c.s2,s' c.s3,s' c.s4,z' c.ts,s' c.s5,s' c.s6,s' c.s7] 72),some (ce' [z' c.fl,s' c.ct,s' c.ce,AV.slice 1104 0 (List.length c.f) 6 (Cp.lo (List.length c.f)),z' c.dm,z' c.pr,s' c.s1,s' c.s2,s' c.s3,s' c.s4,z' c.ts,s' c.s5,s' c.s6,s' c.s7] 72),some (AO.ren (sgN (fun k => k) [1007] 1104) OF),some (AO.ren (sgN (fun k => k) [1008] 1105) OT),none,none,none,none] 1106 ((k21' c).a ((k22' c 1104).a (h19' ((k18' c).a (k6'.a ((ee' [z' c.sq,z' c.gh,z' c.bo,z' c.si,s' c.ex,s' c.ke,z' c.fl,s' c.ct,s' c.ce,AV.slice 1104 0 (List.length c.f) 6 (Cp.lo (List.length c.f)),z' c.dm,z' c.pr,s' c.s1,s' c.s2,s' c.s3,s' c.s4,z' c.ts,s' c.s5,s' c.s6,s' c.s7,z' c.xp,z' c.pi,AV.slice 1105 0 c.tr.length 1 (Cp.lo c.tr.length),b' c.du,b' c.re]).a (h12' ((p' ([z' c.sq,z' c.gh,z' c.bo,z' c.si,s' c.ex,s' c.ke,z' c.fl,s' c.ct,s' c.ce,AV.slice 1104 0 (List.length c.f) 6 (Cp.lo (List.length c.f)),z' c.dm,z' c.pr,s' c.s1,s' c.s2,s' c.s3,s' c.s4,z' c.ts,s' c.s5,s' c.s6,s' c.s7,z' c.xp,z' c.pi,AV.slice 1105 0 c.tr.length 1 (Cp.lo c.tr.length),b' c.du,b' c.re] = [z' c.sq,z' c.gh,z' c.bo,z' c.si,s' c.ex,s' c.ke,z' c.fl,s' c.ct,s' c.ce,AV.slice 1104 0 (List.length c.f) 6 (Cp.lo (List.length c.f)),z' c.dm,z' c.pr,s' c.s1,s' c.s2,s' c.s3,s' c.s4,z' c.ts,s' c.s5,s' c.s6,s' c.s7,z' c.xp,z' c.pi,AV.slice 1105 0 c.tr.length 1 (Cp.lo c.tr.length),b' c.du,b' c.re])).a k1')))))))) := χ
end
def SAt (C : Mem) (oa : Option Addr) (l : List Δ) : Prop := l.length * 16 <= big /\ ∀ i t, l[i]? = some t -> ∃ a, oa = some a /\ C (a.add i) = some (.string t)
def KAt (C : Mem) (d : Nat) (c : Kc) : Prop := FAt C d c.ha c.f /\ SAt C c.ta c.tr
theorem SAt.mono {C C' : Mem} (h : ∀ a v, C a = some v -> C' a = some v) {oa : Option Addr} {l : List Δ} (hl : SAt C oa l) : SAt C' oa l := ⟨hl.1, fun i t ht => by
 obtain ⟨a, h1, h2⟩ := hl.2 i t ht
 exact ⟨a, h1, h _ _ h2⟩⟩
theorem KAt.mono {C C' : Mem} (h : ∀ a v, C a = some v -> C' a = some v) {d : Nat} {c : Kc} (hc : KAt C d c) : KAt C' d c := ⟨FAt.mono h hc.1, hc.2.mono h⟩
def rT (l : List Δ) : AO := .cells (vmap (l.map Value.string)) tSt
def tVk (k : Nat) : List Δ -> AV
 | [] => .mt
 | v :: l => sS k (l.length + 1)
abbrev tV (l : List Δ) : AV := tVk 1008 l
def tOd : List Δ -> AO
 | [] => dumZ
 | v :: l => rT (v :: l)
theorem tV_cl {K : Nat -> Bool} {k : Nat} (h : K k = true) : ∀ l, AV.cl K (tVk k l)
 | [] => trivial
 | _ :: _ => h
theorem rT_cl (K : Nat -> Bool) (l : List Δ) : (rT l).cl K := L3' _ _
theorem tO_cl (K : Nat -> Bool) : ∀ l, (tOd l).cl K
 | [] => trivial
 | v :: l => rT_cl K (v :: l)
theorem bG' (σ : Nat -> Nat) (l : List Δ) : AO.ren σ (rT l) = rT l := by simp only [rT, AO.ren, AB']
theorem DY' (σ : Nat -> Nat) : ∀ l, AO.ren σ (tOd l) = tOd l
 | [] => rfl
 | v :: l => bG' σ (v :: l)
theorem LK' {W : World} {b : Addr} {ns : List Δ} (h : ∀ i x, ns[i]? = some x -> W.cell? (b.add i) = some (.string x)) : ((List.range (ns.length * 1)).all fun j => (W.cell? (b.add j)).isSome) = true /\ BT' W b (ns.length * 1) = ns.map Value.string := by
 rw [Nat.mul_one]
 refine ⟨List.all_eq_true.2 fun j hj => ?_, ?_⟩
 ·have hj := List.mem_range.1 hj; obtain ⟨x, hx⟩ := DD' hj; rw [h j x hx]; rfl
 ·unfold BT'
  refine List.ext_getElem (by simp) fun j h1 h2 => ?_
  have hj : j < ns.length := by simpa using h1
  simp only [List.getElem_map, List.getElem_range]; rw [h j ns[j] (List.getElem?_eq_getElem hj)]; rfl
theorem dT' (ns : List Δ) : (vmap (ns.map Value.string)).all AV.one = true := by
 induction ns with
 | nil => rfl
 | cons a l ih => exact ih
theorem aG' {v : AV} (hv : True) : Goes [v] [] [v] [(1008, dumZ)] := BR' (k := 1008) (fun C => trivial) rfl rfl rfl δ rfl (fun n hn => by simp only [getO, if_neg hn])
theorem XE' (W : World) (oa : Option Addr) (c : Nat) (l : List Δ) (h : SAt W.cell? oa l) : Tri Θ W fCl [slV oa l.length c] [] (tV l) [(1008, tOd l)] := by
 cases l with
 | nil =>
  refine Tri.post (v := .mt) (H' := []) ?_ (aG' trivial)
  cases oa with
  | none =>
   refine AR' (con := []) (hints := AJ' [ht' fCl 1 1]) (lc := []) [1100, 1101, 1102] rfl (fun _ _ => noC) (fun F _ => noL) fun F => ?_
   refine Yj (fK' W 0 c F) ⟨⟨?_, (BC' (vs' := [.mt]) (H' := []) [] rfl rfl (VW.cons b9' VW.nil) trivial).fits rfl⟩⟩; simp only [Cnd.holds, and_true]; exact AM' _
  | some a =>
   refine AR' (con := []) (hints := AJ' [hf' fCl 1 1, (fCl, 3, 2, h0)]) (lc := []) [1100, 1101, 1102] rfl (fun _ _ => noC) (fun F _ => noL) fun F => ?_
   refine Yj (fM' W a c F) ⟨⟨?_, (BC' (vs' := [.mt]) (H' := []) [] rfl rfl (VW.cons C3' VW.nil) trivial).fits rfl⟩⟩; simp only [Cnd.holds, and_true]; exact AM' _
 | cons x l =>
  obtain ⟨a, rfl, _⟩ := h.2 0 x rfl
  have hnm : ∀ i t, (x :: l)[i]? = some t -> W.cell? (a.add i) = some (.string t) := fun i t ht => by
   obtain ⟨b, e, q⟩ := h.2 i t ht; cases e; exact q
  have hb := h.1; have hb' : big = 140737488351232 := rfl
  have b1 : (x :: l).length.ble (x :: l).length = true := by rw [Nat.ble_eq]; exact Yd
  have b2 := (LK' hnm).1
  have b3 : (vmap (BT' W a ((x :: l).length * 1))).all AV.one = true := by rw [(LK' hnm).2]; exact dT' _
  have b5 : ((0 + (x :: l).length) * 16).ble 140737488355328 = true := by rw [Nat.ble_eq]; omega
  have b6 : (0 + (x :: l).length).ble 9223372036854775807 = true := by rw [Nat.ble_eq]; omega
  have b7 : 0 < (x :: l).length := Nat.succ_pos _
  have b8 : 0 < 0 + (x :: l).length := ω
  refine AR' (con := []) (hints := AJ' [hf' fCl 1 1]) (lc := []) [1100, 1101, 1102, 1103] rfl (fun _ _ => noC) (fun F _ => noL) fun F => ?_
  refine Yj (fL' W a (x :: l).length c F) ⟨⟨?_, (BC' (vs' := [sS 1008 (x :: l).length]) (H' := [(1008, rT (x :: l))]) [(1008, 1101)] rfl rfl ?_ ⟨⟨_, rfl, ?_⟩, Ye⟩).fits rfl⟩⟩
  ·simp only [Cnd.holds, Nat.blt_eq, true_and, and_true]; exact ⟨AM' _, b1, b2, b3, b7, b5, b6, b8⟩
  ·rw [Nat.zero_add]; exact Yb
  ·refine OW.of_eq ?_; rw [(LK' hnm).2, bG']; rfl
theorem cCl_ok {W : World} {oa : Option Addr} {c : Nat} {l : List Δ} (h : SAt W.cell? oa l) (F : HP) (hF : B9' W F) : C1OK Θ F fCl (cCl oa l.length c (tV l) (tOd l)) :=
 D7' hF (fun _ => tV l) (fun _ => RO.ret _) (fun _ => rfl) (fun _ _ => XE' W oa c l h) fun _ => ⟨rfl, rfl, ⟨Ye, Ye⟩, A4', ⟨tV_cl rfl _, Ye⟩, A0' (tO_cl _ _) A4'⟩
theorem NF' (W : World) (d : Nat) (c : Kc) (h : KAt W.cell? d c) : Tri Θ W fCd [aggK c] [] (aggN c (fV c.f) (tV c.tr)) [(1007, fOd d c.f), (1008, tOd c.tr)] := by
 have h1 : ∀ F, B9' W F -> C1OK Θ F fFt (cFt c.ha c.f.length c.hc (fV c.f) (fOd d c.f)) := fun F hF => d1' (b7' W d c.f c.ha c.hc h.1) F hF
 have h2 : ∀ F, B9' W F -> C1OK Θ F fCl (cCl c.ta c.tr.length c.tc (tV c.tr) (tOd c.tr)) := fun F hF => cCl_ok h.2 F hF
 refine AR' (con := [(fFt, cFt c.ha c.f.length c.hc (fV c.f) (fOd d c.f)), (fCl, cCl c.ta c.tr.length c.tc (tV c.tr) (tOd c.tr))]) (hints := AF') (lc := []) [1100, 1101, 1102, 1103, 1104, 1105, 1106, 1107, 1108, 1109] rfl (fun F hF => CY' (h1 F hF) (C7' (h2 F hF))) (fun F _ => noL) fun F => ?_
 clear h h1 h2; obtain ⟨sq, gh, bo, si, ex, ke, fl, ct, ce, f, dm, pr, s1, s2, s3, s4, ts, s5, s6, s7, xp, pi, tr, du, re, ha, hc, ta, tc⟩ := c
 cases f with
 | nil =>
  cases tr with
  | nil =>
   refine Yj (ZY' W ⟨sq, gh, bo, si, ex, ke, fl, ct, ce, [], dm, pr, s1, s2, s3, s4, ts, s5, s6, s7, xp, pi, [], du, re, ha, hc, ta, tc⟩ (fOd d []) (tOd []) F) ⟨⟨?_, (BC' (vs' := [aggN ⟨sq, gh, bo, si, ex, ke, fl, ct, ce, [], dm, pr, s1, s2, s3, s4, ts, s5, s6, s7, xp, pi, [], du, re, ha, hc, ta, tc⟩ (fV []) (tV [])]) (H' := [(1007, fOd d []), (1008, tOd [])]) [(1007, 1104), (1008, 1105)] rfl rfl (Yb) ⟨⟨_, rfl, OW.of_eq ((D6' _ d []).trans (D6' _ d []).symm)⟩, ⟨_, rfl, OW.of_eq ((DY' _ []).trans (DY' _ []).symm)⟩, Ye⟩).fits rfl⟩⟩; exact Cq2'
  | cons x tr =>
   refine Yj (ZZ' W ⟨sq, gh, bo, si, ex, ke, fl, ct, ce, [], dm, pr, s1, s2, s3, s4, ts, s5, s6, s7, xp, pi, (x :: tr), du, re, ha, hc, ta, tc⟩ (fOd d []) (tOd (x :: tr)) F) ⟨⟨?_, (BC' (vs' := [aggN ⟨sq, gh, bo, si, ex, ke, fl, ct, ce, [], dm, pr, s1, s2, s3, s4, ts, s5, s6, s7, xp, pi, (x :: tr), du, re, ha, hc, ta, tc⟩ (fV []) (tV (x :: tr))]) (H' := [(1007, fOd d []), (1008, tOd (x :: tr))]) [(1007, 1104), (1008, 1105)] rfl rfl (Yb) ⟨⟨_, rfl, OW.of_eq ((D6' _ d []).trans (D6' _ d []).symm)⟩, ⟨_, rfl, OW.of_eq ((DY' _ (x :: tr)).trans (DY' _ (x :: tr)).symm)⟩, Ye⟩).fits rfl⟩⟩; exact Cq2'
 | cons y f =>
  cases tr with
  | nil =>
   refine Yj (a0' W ⟨sq, gh, bo, si, ex, ke, fl, ct, ce, (y :: f), dm, pr, s1, s2, s3, s4, ts, s5, s6, s7, xp, pi, [], du, re, ha, hc, ta, tc⟩ (fOd d (y :: f)) (tOd []) F) ⟨⟨?_, (BC' (vs' := [aggN ⟨sq, gh, bo, si, ex, ke, fl, ct, ce, (y :: f), dm, pr, s1, s2, s3, s4, ts, s5, s6, s7, xp, pi, [], du, re, ha, hc, ta, tc⟩ (fV (y :: f)) (tV [])]) (H' := [(1007, fOd d (y :: f)), (1008, tOd [])]) [(1007, 1104), (1008, 1105)] rfl rfl (Yb) ⟨⟨_, rfl, OW.of_eq ((D6' _ d (y :: f)).trans (D6' _ d (y :: f)).symm)⟩, ⟨_, rfl, OW.of_eq ((DY' _ []).trans (DY' _ []).symm)⟩, Ye⟩).fits rfl⟩⟩; exact Cq2'
  | cons x tr =>
   refine Yj (a1' W ⟨sq, gh, bo, si, ex, ke, fl, ct, ce, (y :: f), dm, pr, s1, s2, s3, s4, ts, s5, s6, s7, xp, pi, (x :: tr), du, re, ha, hc, ta, tc⟩ (fOd d (y :: f)) (tOd (x :: tr)) F) ⟨⟨?_, (BC' (vs' := [aggN ⟨sq, gh, bo, si, ex, ke, fl, ct, ce, (y :: f), dm, pr, s1, s2, s3, s4, ts, s5, s6, s7, xp, pi, (x :: tr), du, re, ha, hc, ta, tc⟩ (fV (y :: f)) (tV (x :: tr))]) (H' := [(1007, fOd d (y :: f)), (1008, tOd (x :: tr))]) [(1007, 1104), (1008, 1105)] rfl rfl (Yb) ⟨⟨_, rfl, OW.of_eq ((D6' _ d (y :: f)).trans (D6' _ d (y :: f)).symm)⟩, ⟨_, rfl, OW.of_eq ((DY' _ (x :: tr)).trans (DY' _ (x :: tr)).symm)⟩, Ye⟩).fits rfl⟩⟩; exact Cq2'
end Go.Proofs.Ytjjjchmkonnpfaa.Qb
namespace Go.Proofs.Ytjjjchmkonnpfaa.Rk
open Go Go.RowKit Eng Kit
open Int renaming ofNat -> o'
open Go.Value renaming int -> vi'
open AO renaming cells -> ce'
open AV renaming v -> v'
open Go.IntKind renaming i64 -> I'
open Cnd renaming holds -> ch'
open List renaming length_append -> la'
variable {v : AV} {f : FuncId} {A : List AV} {H' : LH} {ks : List Nat}
def enc (x : It) : List Value := [.int .i64 x.a, .int .i64 x.b, .int .i64 x.c]
def It.zero : It := ⟨0, 0, 0⟩
theorem enc_length (x : It) : (enc x).length = 3 := rfl
def itA (x : It) : AV := .agg (vmap (enc x))
def iv (n : Int) : AV := .v (.int .i64 n)
def ahead (x y : It) : Bool := decide (y.a < x.a) || (x.a == y.a && decide (x.b < y.b))
def at' (s : Ps) (i : Nat) : It := s.xs.getD i It.zero
def env0 (con : List (FuncId × (List AV -> Option (AP AV)))) (hints : AY') (lc : List (FuncId × Nat × Code × (List AV -> AP (AX × List AV)))) (F : HP) : Env := envO Θ F (conL con) hints (MG' lc) default
def oRun (con : List (FuncId × (List AV -> Option (AP AV)))) (hints : AY') (lc : List (FuncId × Nat × Code × (List AV -> AP (AX × List AV)))) (f : FuncId) (A : List AV) (H : LH) (ks : List Nat) (F : HP) : VT AV := ((HD' Θ (env0 con hints lc F) 1000 f A).run2 (AN' H) 1100 []).view ks
theorem PL' : Θ.follows .mixedOrders = true := χ
theorem AR' {con : List (FuncId × (List AV -> Option (AP AV)))} {hints : AY'} {lc : List (FuncId × Nat × Code × (List AV -> AP (AX × List AV)))} {H : LH} (ks : List Nat) (hH : AD' 1100 H = true)
  (hcon : ∀ x ∈ con, ∀ F, C1OK Θ F x.1 x.2) (hl : ∀ x ∈ lc, ∀ F, L1OK Θ F x.2.2.1 x.2.2.2) (h : ∀ F, (oRun con hints lc f A H ks F).all fun u os _ => Fits ks [u] os [v] H') : Tri Θ default f A H v H' :=
 MV' ks 1000 PL' hH (fun F _ => IP' rfl fun x hx => hcon x hx F) (fun F _ => GU' rfl fun x hx => hl x hx F) fun F _ => h F
abbrev tIt : TypeId := 2 * 71
abbrev dH' : TypeId := 2 * 85
def pL (s : Ps) : LH := [(0, .cells [.slice 1001 0 s.xs.length 3 (.lo (s.xs.length + s.g.length)), .map 1002] dH'), (1001, .cells (rowV enc (s.xs ++ s.g)) tIt), (1002, .map (mE iv s.m) s.ck)]
def pL0 : LH := [(0, .cells [.v (.slice none 0 0), .map 1002] dH'), (1002, .map [] 0)]
def pH (s : Ps) : Nat -> Nat -> HP := exHP (fun _ : Unit => True) (fun _ => pL s)
def pH0 : Nat -> Nat -> HP := exHP (fun _ : Unit => True) (fun _ => pL0)
def pO (s : Ps) : AO := .own (.pile s) (pH s)
def pO0 : AO := .own .pile0 pH0
def AF' : AY' := fun _ _ _ => none
def AJ' : List (FuncId × Nat × Nat × Hint) -> AY'
 | [], _, _, _ => none
 | x :: l, f, r, o => match Nat.beq f x.1 && (Nat.beq r x.2.1 && Nat.beq o x.2.2.1) with
  | true => some x.2.2.2
  | false => AJ' l f r o
def hv (v : AV) : Hint := ⟨some v, none, [], .no⟩
def ho (k : Nat) (o : AO) : Hint := ⟨none, none, [(k, o)], .no⟩
def h0 : Hint := ⟨none, none, [], .yes⟩
noncomputable section
abbrev h23' (q0 q1 : It) (z : Cnd) : Cnd := ((ee' (z' q0.a)).a ((ee' (z' q1.a)).a z))
abbrev _root_.Go.Proofs.Ytjjjchmkonnpfaa.k24' (q0 : It) : Cnd := (ee' (z' q0.b))
theorem W5' (x y : It) (F : HP) : oRun [] AF' [] 50 [itA x, itA y] [] [] F = VT.ite (decide (x.a > y.a)) (VT.leaf (b' true) [] 1102 (h23' x y k1')) (VT.ite (x.a == y.a) (VT.leaf (b' (decide (x.b < y.b))) [] 1102 (h23' x y (h23' x y ((k24' x).a ((k24' y).a k1'))))) (VT.leaf (b' false) [] 1102 (h23' x y (h23' x y k1')))) := χ
def conA : List (FuncId × (List AV -> Option (AP AV))) := [(50, fun args => match args with
  | [.agg [.v (.int .i64 a), .v (.int .i64 b), .v (.int .i64 c)], .agg [.v (.int .i64 a'), .v (.int .i64 b'), .v (.int .i64 c')]] => some (useC id [itA ⟨a, b, c⟩, itA ⟨a', b', c'⟩] args [] (.leaf .ret [.v (.bool (ahead ⟨a, b, c⟩ ⟨a', b', c'⟩))] []))
  | _ => none)]
abbrev LX' : Nat := 122
abbrev X0' : Nat := 119
def hLess (s : Ps) (i j : Nat) : AY' := AJ' [(X0', 1, 6, hv (itA (at' s i))), (X0', 1, 13, hv (itA (at' s j)))]
abbrev h25' (q0 : Nat) (q1 : Ps) (z : Cnd) : Cnd := ((fe' true).a ((f' (q0.blt q1.xs.length = true)).a (((p' ((List.take 3 (List.drop (0 + q0 * 3) (rowV enc (q1.xs ++ q1.g)))).length.beq 3 = true)).a ((p' (List.take 3 (List.drop (0 + q0 * 3) (rowV enc (q1.xs ++ q1.g))) = [v' (vi' I' ((List.take 3 (List.drop (0 + q0 * 3) (rowV enc (q1.xs ++ q1.g)))).getD 0 (u')).intOf),v' (vi' I' ((List.take 3 (List.drop (0 + q0 * 3) (rowV enc (q1.xs ++ q1.g)))).getD 1 (u')).intOf),v' (vi' I' ((List.take 3 (List.drop (0 + q0 * 3) (rowV enc (q1.xs ++ q1.g)))).getD 2 (u')).intOf)])).a (f' (Wk (AV.agg [v' (vi' I' ((List.take 3 (List.drop (0 + q0 * 3) (rowV enc (q1.xs ++ q1.g)))).getD 0 (u')).intOf),v' (vi' I' ((List.take 3 (List.drop (0 + q0 * 3) (rowV enc (q1.xs ++ q1.g)))).getD 1 (u')).intOf),v' (vi' I' ((List.take 3 (List.drop (0 + q0 * 3) (rowV enc (q1.xs ++ q1.g)))).getD 2 (u')).intOf)]) (AV.agg [v' (vi' I' (at' q1 q0).a),v' (vi' I' (at' q1 q0).b),v' (vi' I' (at' q1 q0).c)]))))).a z)))
theorem ZD' (s : Ps) (i j : Nat) (F : HP) : oRun conA (hLess s i j) [] 119 [.ptr 0 0, iv (o' i), iv (o' j)] (pL s) [0, 1001, 1002] F = VT.leaf (b' (ahead (It.mk (at' s i).a (at' s i).b (at' s i).c) (It.mk (at' s j).a (at' s j).b (at' s j).c))) [some (ce' [AV.slice 1001 0 s.xs.length 3 (Cp.lo (s.xs.length + s.g.length)),AV.map 1002] 170),some (ce' (rowV enc (s.xs ++ s.g)) 142),some (AO.map (mE iv s.m) s.ck)] 1100 (h25' i s (h25' j s ((f' (VW [AV.agg [v' (vi' I' (at' s i).a),v' (vi' I' (at' s i).b),v' (vi' I' (at' s i).c)],AV.agg [v' (vi' I' (at' s j).a),v' (vi' I' (at' s j).b),v' (vi' I' (at' s j).c)]] [AV.agg [v' (vi' I' (at' s i).a),v' (vi' I' (at' s i).b),v' (vi' I' (at' s i).c)],AV.agg [v' (vi' I' (at' s j).a),v' (vi' I' (at' s j).b),v' (vi' I' (at' s j).c)]])).a k1'))) := χ
def TQ' (s : Ps) (i j : Nat) : IMap Int := mset (mset s.m s.ck (at' s j).b i) (EE' s.m s.ck (at' s j).b) (at' s i).b j
def YM' (s : Ps) (i j : Nat) : Nat := EE' (mset s.m s.ck (at' s j).b i) (EE' s.m s.ck (at' s j).b) (at' s i).b
def AE' (s : Ps) (i j : Nat) : Ps := ⟨(s.xs.set i (at' s j)).set j (at' s i), s.g, TQ' s i j, YM' s i j⟩
def aD' (s : Ps) (i j : Nat) : AY' := AJ' [(LX', 0, 16, hv (itA (at' s j))), (LX', 0, 23, hv (itA (at' s i))), (LX', 0, 25, ho 1001 (.cells (rowV enc (s.xs.set i (at' s j) ++ s.g)) tIt)), (LX', 0, 27, ho 1001 (.cells (rowV enc ((AE' s i j).xs ++ s.g)) tIt)),
 (LX', 1, 11, hv (iv (at' s j).b)), (LX', 1, 23, hv (iv (at' s i).b)),
 (LX', 1, 28, ho 1002 (.map (mE iv (mset s.m s.ck (at' s j).b i)) (EE' s.m s.ck (at' s j).b))),
 (LX', 1, 31, ho 1002 (.map (mE iv (TQ' s i j)) (YM' s i j)))]
abbrev k26' (q0 : Nat) (q1 : Ps) : Cnd := (f' (q0.blt q1.xs.length = true))
theorem Z3' (s : Ps) (i j : Nat) (F : HP) : oRun [] (aD' s i j) [] 122 [.ptr 0 0, iv (o' i), iv (o' j)] (pL s) [0, 1001, 1002] F = VT.leaf (AV.tuple []) [some (ce' [AV.slice 1001 0 s.xs.length 3 (Cp.lo (s.xs.length + s.g.length)),AV.map 1002] 170),some (ce' (rowV enc ((s.xs.set i (at' s j)).set j (at' s i) ++ s.g)) 142),some (AO.map (mE iv (TQ' s i j)) (YM' s i j))] 1100 (h19' (h25' j s (h25' i s ((k26' i s).a (((p' ((0 + i * 3 + 3).ble (rowV enc (s.xs ++ s.g)).length = true)).a (f' (OW (ce' (splice (rowV enc (s.xs ++ s.g)) (0 + i * 3) [v' (vi' I' (at' s j).a),v' (vi' I' (at' s j).b),v' (vi' I' (at' s j).c)]) 142) (ce' (rowV enc (s.xs.set i (at' s j) ++ s.g)) 142)))).a ((k26' j s).a (((p' ((0 + j * 3 + 3).ble (rowV enc (s.xs.set i (at' s j) ++ s.g)).length = true)).a (f' (OW (ce' (splice (rowV enc (s.xs.set i (at' s j) ++ s.g)) (0 + j * 3) [v' (vi' I' (at' s i).a),v' (vi' I' (at' s i).b),v' (vi' I' (at' s i).c)]) 142) (ce' (rowV enc ((s.xs.set i (at' s j)).set j (at' s i) ++ s.g)) 142)))).a (h19' ((k26' i s).a (((p' ((0 + i * 3 + 1).blt (rowV enc ((s.xs.set i (at' s j)).set j (at' s i) ++ s.g)).length = true)).a ((p' ((rowV enc ((s.xs.set i (at' s j)).set j (at' s i) ++ s.g)).getD (0 + i * 3 + 1) (u') = v' (vi' I' ((rowV enc ((s.xs.set i (at' s j)).set j (at' s i) ++ s.g)).getD (0 + i * 3 + 1) (u')).intOf))).a (f' (Wk (v' (vi' I' ((rowV enc ((s.xs.set i (at' s j)).set j (at' s i) ++ s.g)).getD (0 + i * 3 + 1) (u')).intOf)) (v' (vi' I' (at' s j).b)))))).a (h19' ((k26' j s).a (((p' ((0 + j * 3 + 1).blt (rowV enc ((s.xs.set i (at' s j)).set j (at' s i) ++ s.g)).length = true)).a ((p' ((rowV enc ((s.xs.set i (at' s j)).set j (at' s i) ++ s.g)).getD (0 + j * 3 + 1) (u') = v' (vi' I' ((rowV enc ((s.xs.set i (at' s j)).set j (at' s i) ++ s.g)).getD (0 + j * 3 + 1) (u')).intOf))).a (f' (Wk (v' (vi' I' ((rowV enc ((s.xs.set i (at' s j)).set j (at' s i) ++ s.g)).getD (0 + j * 3 + 1) (u')).intOf)) (v' (vi' I' (at' s i).b)))))).a (((p' (findKey Try.prog (env0 [] (aD' s i j) [] F) 3 (v' (vi' I' (at' s j).b)) (mE iv s.m) 0 = AP.ret (AO' (v' (vi' I' (at' s j).b)) (mE iv s.m) 0))).a (f' (H7' (v' (vi' I' (at' s j).b)) (mE iv s.m)))).a (((p' ((DS' (G8' (v' (vi' I' (at' s j).b)) (mE iv s.m) s.ck) (ensE (v' (vi' I' (at' s j).b)) (i' 0) (mE iv s.m) s.ck) 0).isSome = true)).a (f' (OW (AO.map (L9' (G8' (v' (vi' I' (at' s j).b)) (mE iv s.m) s.ck) (i' i) (ensE (v' (vi' I' (at' s j).b)) (i' 0) (mE iv s.m) s.ck)) (EJ' (v' (vi' I' (at' s j).b)) (mE iv s.m) s.ck)) (AO.map (mE iv (mset s.m s.ck (at' s j).b ↑i)) (EE' s.m s.ck (at' s j).b))))).a (((p' (findKey Try.prog (env0 [] (aD' s i j) [] F) 3 (v' (vi' I' (at' s i).b)) (mE iv (mset s.m s.ck (at' s j).b ↑i)) 0 = AP.ret (AO' (v' (vi' I' (at' s i).b)) (mE iv (mset s.m s.ck (at' s j).b ↑i)) 0))).a (f' (H7' (v' (vi' I' (at' s i).b)) (mE iv (mset s.m s.ck (at' s j).b ↑i))))).a (((p' ((DS' (G8' (v' (vi' I' (at' s i).b)) (mE iv (mset s.m s.ck (at' s j).b ↑i)) (EE' s.m s.ck (at' s j).b)) (ensE (v' (vi' I' (at' s i).b)) (i' 0) (mE iv (mset s.m s.ck (at' s j).b ↑i)) (EE' s.m s.ck (at' s j).b)) 0).isSome = true)).a (f' (OW (AO.map (L9' (G8' (v' (vi' I' (at' s i).b)) (mE iv (mset s.m s.ck (at' s j).b ↑i)) (EE' s.m s.ck (at' s j).b)) (i' j) (ensE (v' (vi' I' (at' s i).b)) (i' 0) (mE iv (mset s.m s.ck (at' s j).b ↑i)) (EE' s.m s.ck (at' s j).b))) (EJ' (v' (vi' I' (at' s i).b)) (mE iv (mset s.m s.ck (at' s j).b ↑i)) (EE' s.m s.ck (at' s j).b))) (AO.map (mE iv (TQ' s i j)) (YM' s i j))))).a k1'))))))))))))))))) := χ
abbrev fLen : Nat := 118
abbrev CB' : Nat := 121
theorem eQ' (s : Ps) (F : HP) : oRun [] AF' [] 118 [.ptr 0 0] (pL s) [0, 1001, 1002] F = VT.leaf (z' ↑s.xs.length) [some (ce' [AV.slice 1001 0 s.xs.length 3 (Cp.lo (s.xs.length + s.g.length)),AV.map 1002] 170),some (ce' (rowV enc (s.xs ++ s.g)) 142),some (AO.map (mE iv s.m) s.ck)] 1100 (k6'.a k1') := χ
theorem ZE' (F : HP) : oRun [] AF' [] 118 [.ptr 0 0] pL0 [0, 1002] F = VT.leaf (i' 0) [some (ce' [e',AV.map 1002] 170),some (AO.map [] 0)] 1100 (k6'.a k1') := χ
abbrev k27' (q0 : It) : Cnd := (ee' [z' q0.a,z' q0.b,z' q0.c])
theorem Z6' (s : Ps) (x : It) (F : HP) : oRun [] AF' [] 121 [.ptr 0 0, .iface 71 (itA x)] (pL s) [0, 1001, 1002, 1100, 1101, 1102, 1103] F = VT.leaf (AV.tuple []) [some (ce' [AV.slice 1102 0 (s.xs.length + 1) 3 (Cp.lo (s.xs.length + 1)),AV.map 1002] 170),none,some (AO.map (setE (z' x.b) (z' ↑s.xs.length) (mE iv s.m) s.ck) (EJ' (z' x.b) (mE iv s.m) s.ck)),some (ce' [z' x.a,z' x.b,z' x.c] 142),some (ce' [z' x.a,z' x.b,z' x.c] 142),some (ce' (List.take (s.xs.length * 3) (List.drop 0 (rowV enc (s.xs ++ s.g))) ++ [z' x.a,z' x.b,z' x.c]) 142),none] 1103 (h19' ((k24' x).a (k6'.a (((p' (findKey Try.prog (env0 [] AF' [] F) 3 (z' x.b) (mE iv s.m) 0 = AP.ret (AO' (z' x.b) (mE iv s.m) 0))).a (f' (H7' (z' x.b) (mE iv s.m)))).a (k6'.a ((k27' x).a ((tt'.a (tt'.a (tt'.a (tt'.a ((p' ((0 + s.xs.length * 3).ble (rowV enc (s.xs ++ s.g)).length = true)).a ((p' (((s.xs.length + 1) * 24).ble 140737488355328 = true)).a ((p' ((s.xs.length + 1).ble 9223372036854775807 = true)).a (f' ((List.take (s.xs.length * 3) (List.drop 0 (rowV enc (s.xs ++ s.g)))).length.beq (s.xs.length * 3) = true))))))))).a (k6'.a k1')))))))) := χ
abbrev _root_.Go.Proofs.Ytjjjchmkonnpfaa.k28' : Cnd := (tt'.a (tt'.a (tt'.a (tt'.a (ee' true)))))
theorem VT' (x : It) (F : HP) : oRun [] AF' [] 121 [.ptr 0 0, .iface 71 (itA x)] pL0 [0, 1002, 1100, 1101, 1102, 1103] F = VT.leaf (AV.tuple []) [some (ce' [AV.slice 1102 0 1 3 (Cp.lo 1),AV.map 1002] 170),some (AO.map [(z' x.b,i' 0,0)] 1),some (ce' [z' x.a,z' x.b,z' x.c] 142),some (ce' [z' x.a,z' x.b,z' x.c] 142),some (ce' [z' x.a,z' x.b,z' x.c] 142),none] 1103 (h19' ((k24' x).a (k6'.a (((p' (findKey Try.prog (env0 [] AF' [] F) 3 (z' x.b) [] 0 = AP.ret none)).a (f' (H7' (z' x.b) []))).a (k6'.a ((k27' x).a (k28'.a (k6'.a k1')))))))) := χ
abbrev fPop : Nat := 120
def hPop (s : Ps) : AY' := AJ' [(fPop, 1, 5, hv (iv (o' (s.xs.length - 1)))), (fPop, 2, 6, hv (itA (at' s (s.xs.length - 1))))]
theorem eH' (s : Ps) (F : HP) : oRun [] (hPop s) [] 120 [.ptr 0 0] (pL s) [0, 1001, 1002] F = VT.leaf (AV.iface 71 (AV.agg [v' (vi' I' (at' s (s.xs.length - 1)).a),v' (vi' I' (at' s (s.xs.length - 1)).b),v' (vi' I' (at' s (s.xs.length - 1)).c)])) [some (ce' [AV.slice 1001 0 (s.xs.length - 1 - 0) 3 (Cp.lo (s.xs.length + s.g.length - 0)),AV.map 1002] 170),some (ce' (rowV enc (s.xs ++ s.g)) 142),some (AO.map (delE (v' (vi' I' (at' s (s.xs.length - 1)).b)) (mE iv s.m)) s.ck)] 1101 (k6'.a ((f' (Wk (z' (IntKind.i64.wrap (↑s.xs.length - o' 1))) (i' (s.xs.length - 1)))).a (k6'.a ((f' ((s.xs.length - 1).blt s.xs.length = true)).a (((p' ((List.take 3 (List.drop (0 + (s.xs.length - 1) * 3) (rowV enc (s.xs ++ s.g)))).length.beq 3 = true)).a ((p' (List.take 3 (List.drop (0 + (s.xs.length - 1) * 3) (rowV enc (s.xs ++ s.g))) = [v' (vi' I' ((List.take 3 (List.drop (0 + (s.xs.length - 1) * 3) (rowV enc (s.xs ++ s.g)))).getD 0 (u')).intOf),v' (vi' I' ((List.take 3 (List.drop (0 + (s.xs.length - 1) * 3) (rowV enc (s.xs ++ s.g)))).getD 1 (u')).intOf),v' (vi' I' ((List.take 3 (List.drop (0 + (s.xs.length - 1) * 3) (rowV enc (s.xs ++ s.g)))).getD 2 (u')).intOf)])).a (f' (Wk (AV.agg [v' (vi' I' ((List.take 3 (List.drop (0 + (s.xs.length - 1) * 3) (rowV enc (s.xs ++ s.g)))).getD 0 (u')).intOf),v' (vi' I' ((List.take 3 (List.drop (0 + (s.xs.length - 1) * 3) (rowV enc (s.xs ++ s.g)))).getD 1 (u')).intOf),v' (vi' I' ((List.take 3 (List.drop (0 + (s.xs.length - 1) * 3) (rowV enc (s.xs ++ s.g)))).getD 2 (u')).intOf)]) (AV.agg [v' (vi' I' (at' s (s.xs.length - 1)).a),v' (vi' I' (at' s (s.xs.length - 1)).b),v' (vi' I' (at' s (s.xs.length - 1)).c)]))))).a (h19' ((tt'.a ((p' ((s.xs.length - 1).ble (s.xs.length + s.g.length) = true)).a (f' ((s.xs.length + s.g.length).ble (s.xs.length + s.g.length) = true)))).a (h19' ((ee' (v' (vi' I' (at' s (s.xs.length - 1)).b))).a ((f' (findKey Try.prog (env0 [] (hPop s) [] F) 3 (v' (vi' I' (at' s (s.xs.length - 1)).b)) (mE iv s.m) 0 = AP.ret (AO' (v' (vi' I' (at' s (s.xs.length - 1)).b)) (mE iv s.m) 0))).a ((ee' [v' (vi' I' (at' s (s.xs.length - 1)).a),v' (vi' I' (at' s (s.xs.length - 1)).b),v' (vi' I' (at' s (s.xs.length - 1)).c)]).a k1'))))))))))) := χ
end
theorem intT : Θ.underlying 3 = some (.int .i64) := χ
theorem noC : ∀ x ∈ ([] : List (FuncId × (List AV -> Option (AP AV)))), ∀ F, C1OK Θ F x.1 x.2 := fun x hx => by cases hx
theorem noL : ∀ x ∈ ([] : List (FuncId × Nat × Code × (List AV -> AP (AX × List AV)))), ∀ F, L1OK Θ F x.2.2.1 x.2.2.2 := fun x hx => by cases hx
theorem XQ' (s : Ps) (i : Nat) (hi : i < s.xs.length) : (s.xs ++ s.g).getD i It.zero = at' s i := by
 simp [at', List.getD, List.getElem?_append_left hi]
theorem P9' (s : Ps) (i : Nat) (hi : i < s.xs.length) : List.take 3 (List.drop (0 + i * 3) (rowV enc (s.xs ++ s.g))) = vmap (enc (at' s i)) := by
 rw [Nat.zero_add, LF' enc_length _ It.zero i (by rw [la']; omega), XQ' s i hi]
theorem VF' (s : Ps) : (rowV enc (s.xs ++ s.g)).length = (s.xs.length + s.g.length) * 3 := by rw [BG' enc_length, la']
theorem B6' {F : HP} : B9' default F := B9'.nothing F
theorem CK' {os : List (Option AO)} {u : AV} (s : Ps) (l : List (Nat × Nat)) (hk : JC' (pL s) l = true) (hi : injB ((pL s).map (·.1)) (sg l) = true) (hv : VW [u] (AV.rens (sg l) [v])) (hc : AV.cls (fun i => Nat.blt i 1000) [v])
  (ho : IH' ks os l (pL s)) : Fits ks [u] os [v] [(0, pO s)] := by
 refine ⟨[v], pL s, l, rfl, BC' l hk hi hv ho, ?_⟩
 have := Goes.shut (σ := Unit) (R := fun _ => True) (L := fun _ => pL s) (m := .pile s) (H0 := []) (vs := [v]) () trivial rfl ⟨_, _, rfl, rfl⟩ (by
  have e : (fun i => Nat.blt i 1000 || (getO ([] : LH) i).isSome) = fun i => Nat.blt i 1000 := by funext i; simp [getO]
  rw [e]; exact hc) (fun x hx => by cases hx)
 rwa [List.append_nil] at this
theorem CH' {s : Ps} (h : Tri Θ default f A (pL s) v H') : Tri Θ default f A [(0, pO s)] v H' := by
 refine Tri.open (σ := Unit) (R := fun _ => True) (L := fun _ => pL s) (H0 := []) (fun _ => rfl) (fun _ x hx => ?_) (fun _ => ⟨_, rfl⟩) (fun _ _ => by rw [List.append_nil]; exact h); simp only [pL, List.mem_cons, List.not_mem_nil, or_false] at hx
 rcases hx with rfl | rfl | rfl
 ·exact ⟨rfl, rfl, Ye⟩
 ·exact E8' _ _
 ·show clE _ (mE iv s.m)
  have : ∀ m : IMap Int, clE (kH (pL s)) (mE iv m) := by
   intro m
   induction m with
   | nil => exact Ye
   | cons e m ih => exact ⟨Ye, Ye, ih⟩
  exact this s.m
theorem DL' (h : Tri Θ default f A pL0 v H') : Tri Θ default f A [(0, pO0)] v H' := by
 refine Tri.open (σ := Unit) (R := fun _ => True) (L := fun _ => pL0) (H0 := []) (fun _ => rfl) (fun _ x hx => ?_) (fun _ => ⟨_, rfl⟩) (fun _ _ => by rw [List.append_nil]; exact h); simp only [pL0, List.mem_cons, List.not_mem_nil, or_false] at hx
 rcases hx with rfl | rfl
 ·exact ⟨Ye, rfl, Ye⟩
 ·exact Ye
theorem AW' {a b : Int} (h : a = b) : Wk (.v (.int .i64 a)) (.v (.int .i64 b)) := Wk.of_eq (by rw [h])
theorem LI' (σ : Nat -> Nat) (m : IMap Int) : renE σ (mE iv m) = mE iv m := by
 induction m with
 | nil => rfl
 | cons e m ih =>
  show renE σ ((.v (.int .i64 e.1), iv e.2.1, e.2.2) :: mE iv m) = _; rw [renE, ih]; rfl
theorem CI' {os : List (Option AO)} {l : List (Nat × Nat)} (s : Ps) {r m : Nat} (h00 : sg l 0 = 0) (hr : sg l 1001 = r) (hm : sg l 1002 = m) (h0 : getK ks os 0 = some (.cells [.slice r 0 s.xs.length 3 (.lo (s.xs.length + s.g.length)), .map m] dH'))
  (h1 : getK ks os r = some (.cells (rowV enc (s.xs ++ s.g)) tIt)) (h2 : getK ks os m = some (.map (mE iv s.m) s.ck)) : IH' ks os l (pL s) := by
 refine ⟨⟨_, by rw [h00]; exact h0, OW.of_eq ?_⟩, ⟨_, by rw [hr]; exact h1, OW.of_eq ?_⟩, ⟨_, by rw [hm]; exact h2, OW.of_eq ?_⟩, Ye⟩
 ·simp only [AO.ren, AV.rens, AV.ren, hr, hm]
 ·simp only [AO.ren, A8']
 ·simp only [AO.ren, LI']
theorem XW' (x y : It) : Tri Θ default 50 [itA x, itA y] [] (.v (.bool (ahead x y))) [] := by
 refine AR' (con := []) (hints := AF') (lc := []) [] rfl noC noL fun F => ?_
 rw [W5']
 have fin : ∀ b, b = ahead x y -> Fits [] [.v (.bool b)] [] [.v (.bool (ahead x y))] [] := fun b hb => (BC' [] rfl rfl (by subst hb; exact Yb) (show IH' [] [] [] [] from trivial)).fits rfl
 refine ⟨fun h1 => ⟨?_, fin _ ?_⟩, fun h1 => ⟨fun h2 => ⟨?_, fin _ ?_⟩, fun h2 => ⟨?_, fin _ ?_⟩⟩⟩
 ·simp only [ch', and_self]
 ·simp only [ahead, <- gt_iff_lt, h1, Bool.true_or]
 ·simp only [ch', and_self]
 ·simp only [ahead, <- gt_iff_lt, h1, h2, Bool.false_or, Bool.true_and]
 ·simp only [ch', and_self]
 ·simp only [ahead, <- gt_iff_lt, h1, h2, Bool.false_or, Bool.false_and]
theorem gA' : ∀ x ∈ conA, ∀ F, C1OK Θ F x.1 x.2 := by
 intro x hx F; simp only [conA, List.mem_cons, List.not_mem_nil, or_false] at hx; subst hx; intro st W0 N h w args vargs v h' n n' lg lg' c p hp he hc r ha hf; simp only at hp; split at hp
 ·rename_i a b c a' b' c'; cases hp
  have hcl : ClosedC [itA ⟨a, b, c⟩, itA ⟨a', b', c'⟩] [] [.v (.bool (ahead ⟨a, b, c⟩ ⟨a', b', c'⟩))] [] := ⟨rfl, rfl, ⟨⟨Ye, Ye, Ye, Ye⟩, ⟨Ye, Ye, Ye, Ye⟩, Ye⟩, (fun x hx => by cases hx), ⟨Ye, Ye⟩, fun x hx => by cases hx⟩
  exact DT' B6' (XW' ⟨a, b, c⟩ ⟨a', b', c'⟩) rfl hcl he hc r ha hf
 ·cases hp
theorem a8' (s : Ps) (i j : Nat) (hi : i < s.xs.length) (hj : j < s.xs.length) : Tri Θ default X0' [.ptr 0 0, iv (o' i), iv (o' j)] [(0, pO s)] (.v (.bool (ahead (at' s i) (at' s j)))) [(0, pO s)] := by
 refine CH' (AR' (con := conA) (hints := hLess s i j) (lc := []) [0, 1001, 1002] rfl gA' noL fun F => ?_); rw [ZD']; refine ⟨?_, CK' s [(1001, 1001), (1002, 1002)] χ χ (Yb) ⟨Ye, Ye⟩ (CI' s rfl rfl rfl rfl rfl rfl)⟩; simp only [ch', P9' s i hi, P9' s j hj, true_and, and_true, Nat.blt_eq]; exact ⟨hi, ⟨rfl, rfl, Ya⟩, hj, ⟨rfl, rfl, Ya⟩, Yb⟩
theorem P8' (s : Ps) (ys : List It) (i : Nat) (y : It) (hi : i < ys.length) : splice (rowV enc (ys ++ s.g)) (0 + i * 3) (vmap (enc y)) = rowV enc (ys.set i y ++ s.g) := by
 rw [Nat.zero_add, R2' enc_length _ i y (by rw [la']; omega), List.set_append_left _ _ hi]
theorem VD' (s : Ps) (ys : List It) (i : Nat) (hi : i < ys.length) : (rowV enc (ys ++ s.g)).getD (0 + i * 3 + 1) AV.undef = iv (ys.getD i It.zero).b := by
 have h := LF' enc_length (ys ++ s.g) It.zero i (by rw [la']; omega)
 have h2 : ((rowV enc (ys ++ s.g)).drop (i * 3)).take 3 = vmap (enc (ys.getD i It.zero)) := by rw [h]; simp [List.getD, List.getElem?_append_left hi]
 have h3 : (((rowV enc (ys ++ s.g)).drop (i * 3)).take 3)[1]? = (vmap (enc (ys.getD i It.zero)))[1]? := by rw [h2]
 rw [List.getElem?_take_of_lt δ, List.getElem?_drop] at h3; rw [Nat.zero_add, List.getD, h3]; rfl
theorem B4' (s : Ps) (i j : Nat) : (AE' s i j).xs.length = s.xs.length := by simp [AE']
theorem P1' (s : Ps) (i j : Nat) (hi : i < s.xs.length) (hj : j < s.xs.length) : (AE' s i j).xs.getD i It.zero = at' s j := by
 simp only [AE', at', List.getD]
 by_cases h : j = i
 ·subst h; simp [hj]
 ·rw [List.getElem?_set_ne h, List.getElem?_set_self hi]; rfl
theorem P0' (s : Ps) (i j : Nat) (hi : i < s.xs.length) (hj : j < s.xs.length) : (AE' s i j).xs.getD j It.zero = at' s i := by
 simp only [AE', at', List.getD]; rw [List.getElem?_set_self (by simpa using hj)]; rfl
theorem YL' (s : Ps) (i j : Nat) (hi : i < s.xs.length) (hj : j < s.xs.length) (hM : MI s.m s.ck) : Tri Θ default LX' [.ptr 0 0, iv (o' i), iv (o' j)] [(0, pO s)] (.tuple []) [(0, pO (AE' s i j))] := by
 refine CH' (AR' (con := []) (hints := aD' s i j) (lc := []) [0, 1001, 1002] rfl noC noL fun F => ?_); rw [Z3']; have hgl : (AE' s i j).g = s.g := rfl; refine ⟨?_, CK' (AE' s i j) [(1001, 1001), (1002, 1002)] χ χ (Yb) ⟨Ye, Ye⟩ (CI' (AE' s i j) rfl rfl rfl (by rw [B4']; rfl) rfl rfl)⟩; have e1 := P8' s s.xs i (at' s j) hi; have e2 := P8' s (s.xs.set i (at' s j)) j (at' s i) (by simpa using hj)
 have e3 : (rowV enc ((s.xs.set i (at' s j)).set j (at' s i) ++ s.g)).getD (0 + i * 3 + 1) AV.undef = iv (at' s j).b := by rw [VD' s _ i (by simpa using hi)]; exact congrArg (fun x => iv x.b) (P1' s i j hi hj)
 have e4 : (rowV enc ((s.xs.set i (at' s j)).set j (at' s i) ++ s.g)).getD (0 + j * 3 + 1) AV.undef = iv (at' s i).b := by rw [VD' s _ j (by simpa using hj)]; exact congrArg (fun x => iv x.b) (P0' s i j hi hj)
 have l1 : (rowV enc (s.xs ++ s.g)).length = (s.xs.length + s.g.length) * 3 := VF' s
 have l2 : (rowV enc (s.xs.set i (at' s j) ++ s.g)).length = (s.xs.length + s.g.length) * 3 := by rw [BG' enc_length, la', List.length_set]
 have l3 : (rowV enc ((s.xs.set i (at' s j)).set j (at' s i) ++ s.g)).length = (s.xs.length + s.g.length) * 3 := by rw [BG' enc_length, la', List.length_set, List.length_set]
 obtain ⟨m1, m2⟩ := X6' (ev := iv) hM (at' s j).b (.v (.int .i64 (o' 0))); obtain ⟨m3, m4⟩ := X6' (ev := iv) (hM.mset (at' s j).b (i : Int)) (at' s i).b (.v (.int .i64 (o' 0)))
 simp only [ch', P9' s i hi, P9' s j hj, true_and, and_true, Nat.blt_eq, Nat.ble_eq, e3, e4, l1, l2, l3]; and_intros; all_goals first | exact Ya | exact ow_cells e1 | exact ow_cells e2 | exact bJ' (m2 _) (HZ' ..) | exact bJ' (m4 _) (HZ' ..) | exact AS' intT _ _ _ | exact B3' _ _ | exact m1 | exact m3 | omega | rfl
theorem fR' (s : Ps) : Tri Θ default fLen [.ptr 0 0] [(0, pO s)] (iv (o' s.xs.length)) [(0, pO s)] := by
 refine CH' (AR' (con := []) (hints := AF') (lc := []) [0, 1001, 1002] rfl noC noL fun F => ?_); rw [eQ']; exact ⟨by simp only [ch', and_self], CK' s [(1001, 1001), (1002, 1002)] χ χ (Yb) ⟨Ye, Ye⟩ (CI' s rfl rfl rfl rfl rfl rfl)⟩
theorem GI' {os : List (Option AO)} {u : AV} (l : List (Nat × Nat)) (hk : JC' pL0 l = true) (hi : injB (pL0.map (·.1)) (sg l) = true) (hv : VW [u] (AV.rens (sg l) [v])) (hc : AV.cls (fun i => Nat.blt i 1000) [v])
  (ho : IH' ks os l pL0) : Fits ks [u] os [v] [(0, pO0)] := by
 refine ⟨[v], pL0, l, rfl, BC' l hk hi hv ho, ?_⟩
 have := Goes.shut (σ := Unit) (R := fun _ => True) (L := fun _ => pL0) (m := .pile0) (H0 := []) (vs := [v]) () trivial rfl ⟨_, _, rfl, rfl⟩ (by
  have e : (fun i => Nat.blt i 1000 || (getO ([] : LH) i).isSome) = fun i => Nat.blt i 1000 := by funext i; simp [getO]
  rw [e]; exact hc) (fun x hx => by cases hx)
 rwa [List.append_nil] at this
theorem a9' : Tri Θ default fLen [.ptr 0 0] [(0, pO0)] (iv (o' 0)) [(0, pO0)] := by
 refine DL' (AR' (con := []) (hints := AF') (lc := []) [0, 1002] rfl noC noL fun F => ?_); rw [ZE']; exact ⟨by simp only [ch', and_self], GI' [(1002, 1002)] χ χ (Yb) ⟨Ye, Ye⟩ ⟨⟨_, rfl, Yc⟩, ⟨_, rfl, Yc⟩, Ye⟩⟩
def BH' (s : Ps) (x : It) : Ps := ⟨s.xs ++ [x], [], mset s.m s.ck x.b s.xs.length, EE' s.m s.ck x.b⟩
def Room (s : Ps) : Prop := (s.xs.length + 1) * 24 <= 140737488355328
theorem YU' (s : Ps) (x : It) (hR : Room s) : Tri Θ default CB' [.ptr 0 0, .iface 71 (itA x)] [(0, pO s)] (.tuple []) [(0, pO (BH' s x))] := by
 refine CH' (AR' (con := []) (hints := AF') (lc := []) [0, 1001, 1002, 1100, 1101, 1102, 1103] rfl noC noL fun F => ?_); rw [Z6']
 have hx : List.take (s.xs.length * 3) (List.drop 0 (rowV enc (s.xs ++ s.g))) = rowV enc s.xs := by
  rw [List.drop_zero, GB' enc_length]; simp
 have e1 : List.take (s.xs.length * 3) (List.drop 0 (rowV enc (s.xs ++ s.g))) ++ vmap (enc x) = rowV enc ((BH' s x).xs ++ (BH' s x).g) := by
  rw [hx, <- KZ' (enc := enc), <- EA']; simp [BH']
 have e2 := NP' (ev := iv) x.b (s.xs.length : Int) s.m s.ck
 have hlen : (BH' s x).xs.length = s.xs.length + 1 := by simp [BH']
 refine ⟨?_, CK' (BH' s x) [(1001, 1102), (1002, 1002)] χ χ (Yb) ⟨Ye, Ye⟩ (CI' (BH' s x) rfl rfl rfl ?_ ?_ ?_)⟩
 ·have hR' : (s.xs.length + 1) * 24 <= 140737488355328 := hR
  simp only [ch', true_and, and_true, Nat.ble_eq, VF', hx, BG' enc_length, la']; and_intros; all_goals first | rfl | exact AS' intT _ _ _ | exact B3' _ _ | omega | exact Nat.beq_refl _
 ·rw [hlen]; rfl
 ·exact congrArg (fun r => some (ce' r tIt)) e1
 ·show some (AO.map (setE _ _ _ _) (EJ' _ _ _)) = _; rw [HZ']; exact congrArg (fun r => some (AO.map r _)) e2
theorem VP' (x : It) : Tri Θ default CB' [.ptr 0 0, .iface 71 (itA x)] [(0, pO0)] (.tuple []) [(0, pO (BH' ⟨[], [], [], 0⟩ x))] := by
 refine DL' (AR' (con := []) (hints := AF') (lc := []) [0, 1002, 1100, 1101, 1102, 1103] rfl noC noL fun F => ?_); rw [VT']; refine ⟨?_, CK' _ [(1001, 1102), (1002, 1002)] χ χ (Yb) ⟨Ye, Ye⟩ (CI' _ rfl rfl rfl rfl rfl rfl)⟩; simp only [ch', true_and, and_true]
 exact ⟨rfl, fun j v h => by cases h⟩
def popS (s : Ps) : Ps := ⟨s.xs.dropLast, at' s (s.xs.length - 1) :: s.g, mdel s.m (at' s (s.xs.length - 1)).b, s.ck⟩
theorem dO' (s : Ps) (h0 : 0 < s.xs.length) (hb : s.xs.length <= 9223372036854775807) : Tri Θ default fPop [.ptr 0 0] [(0, pO s)] (.iface 71 (itA (at' s (s.xs.length - 1)))) [(0, pO (popS s))] := by
 refine CH' (AR' (con := []) (hints := hPop s) (lc := []) [0, 1001, 1002] rfl noC noL fun F => ?_); rw [eH']
 have hxs : s.xs.dropLast ++ [at' s (s.xs.length - 1)] = s.xs := by
  have hne : s.xs ≠ [] := fun e => by rw [e] at h0; cases h0
  have : at' s (s.xs.length - 1) = s.xs.getLast hne := by
   rw [at', List.getD, List.getElem?_eq_getElem ω, List.getLast_eq_getElem]; rfl
  rw [this, List.dropLast_concat_getLast]
 have hrow : (popS s).xs ++ (popS s).g = s.xs ++ s.g := by
  show s.xs.dropLast ++ (at' s (s.xs.length - 1) :: s.g) = _; rw [<- List.singleton_append, <- List.append_assoc, hxs]
 have hl1 : (popS s).xs.length = s.xs.length - 1 := by simp [popS]
 have hl2 : (popS s).xs.length + (popS s).g.length = s.xs.length + s.g.length := by rw [<- la', hrow, la']
 refine ⟨?_, CK' (popS s) [(1001, 1001), (1002, 1002)] χ χ (Yb) ⟨⟨Ye, Ye, Ye, Ye⟩, Ye⟩ (CI' (popS s) rfl rfl rfl ?_ ?_ ?_)⟩
 ·simp only [ch', true_and, and_true, Nat.ble_eq, Nat.blt_eq, P9' s (s.xs.length - 1) ω]
  have hwr : IntKind.i64.wrap ((s.xs.length : Int) - o' 1) = o' (s.xs.length - 1) := by
   rw [IntWalk.i64_in _ (by simp only [Z0]; omega)]; simp only [Z0]; omega
  and_intros; all_goals first | exact Ya | exact AW' hwr | exact AS' intT _ _ _ | omega | rfl
 ·rw [hl2, hl1]; rfl
 ·rw [hrow]; rfl
 ·show some (AO.map (delE _ _) _) = _; rw [H0']; rfl
end Go.Proofs.Ytjjjchmkonnpfaa.Rk
