/- Parts of the proof, merged. -/
import Derived.Test.YtjjjchmkonnpfaaMem
import Derived.Deep.Slices
import Derived.SizedLaws
import Derived.Test.YtjjjchmkonnpfaaEngKit
import Derived.Test.YtjjjchmkonnpfaaEngXBkq
import Derived.Test.YtjjjchmkonnpfaaEngCon
import Derived.Test.YtjjjchmkonnpfaaEngRow
import Derived.Test.YtjjjchmkonnpfaaEngIMap
import Derived.Test.YtjjjchmkonnpfaaProg
import Derived.KernelRfl
import Derived.IntWalk
noncomputable section
set_option linter.unusedVariables false
set_option linter.unusedSimpArgs false
set_option maxRecDepth 100000
set_option linter.unusedSectionVars false
namespace Go.Proofs.Ytjjjchmkonnpfaa
open Go
theorem ML' {α : Type} {f : α -> List Value} {m : Nat} (hf : ∀ x, (f x).length = m) : ∀ (l : List α) (k j : Nat) (h : k < l.length), j < m -> (l.flatMap f)[k * m + j]? = (f l[k])[j]?
 | [], _, _, h, _ => by simp at h
 | x :: l, 0, j, _, hj => by
  rw [List.flatMap_cons, Nat.zero_mul, Nat.zero_add, List.getElem?_append_left (by rw [hf]; exact hj)]; rfl
 | x :: l, k + 1, j, h, hj => by
  rw [List.flatMap_cons, List.getElem?_append_right (by rw [hf, Nat.add_mul]; omega), hf, show (k + 1) * m + j - m = k * m + j from by rw [Nat.add_mul]; omega]
  exact ML' hf l k j (by simpa using h) hj
open Go.ChangeShapes Go.WideShapes Go.RowKit Go.Deep
variable {t : TypeId}
section
variable {H : Type} {enc : TypeId × Value -> H} {P : Program} {w : World} {base : Nat} {spare : Nat -> Bool} {held : Bool}
def CE' (P : Program) (t : TypeId) (d : DataW H) : Prop := ∀ n ∈ d.weights P t, n <= reachBytes
theorem TD' {ts : List TypeId} {ds : List (DataW H)} (h : (DataW.weightsEach P ts ds).all (· <= reachBytes) = true) {j : Nat} {d : DataW H} (ht : ts[j]? = some t) (hd : ds[j]? = some d) : CE' P t d := fun n hn => by
 simpa using List.all_eq_true.1 h n (DataW.weights_mem_each ht hd n hn)
theorem HO' {e : TypeId} : ∀ {l : List (DataW H)} {d : DataW H}, d ∈ l -> ∀ n ∈ d.weights P e, n ∈ DataW.weightsAll P e l
 | x :: l, d, hd, n, hn => by
  rw [DataW.weightsAll, List.mem_append]
  rcases List.mem_cons.1 hd with rfl | hd
  ·exact .inl hn
  ·exact .inr (HO' hd n hn)
theorem CE'.elem {e : TypeId} {elems sp : List (DataW H)} (hu : P.underlying t = some (.slice e)) (h : CE' P t (.slice elems sp)) {d : DataW H} (hd : d ∈ elems) : CE' P e d := fun n hn => by
 refine h n ?_; simp only [DataW.weights, hu, List.mem_cons, List.mem_append]; exact .inr (.inl (HO' hd n hn))
theorem CE'.len {e : TypeId} {elems sp : List (DataW H)} (hu : P.underlying t = some (.slice e)) (h : CE' P t (.slice elems sp)) : (elems.length + sp.length) * P.bytesOf e <= reachBytes :=
 h _ (by simp only [DataW.weights, hu, List.mem_cons, true_or])
theorem CE'.field {fs : Array Field} {parts : List (DataW H)} (hu : P.underlying t = some (.struct fs)) (h : CE' P t (.agg parts)) {i : Nat} {f : Field} {d : DataW H} (hf : fs[i]? = some f) (hp : parts[i]? = some d) : CE' P f.type d := fun n hn => by
 refine h n ?_; simp only [DataW.weights, hu]; exact DataW.weights_mem_each (j := i) (by simp [hf]) hp n hn
end
end Go.Proofs.Ytjjjchmkonnpfaa
namespace Go.Proofs.Ytjjjchmkonnpfaa.Tree
open Go Go.RowKit Eng Kit
open Int renaming ofNat -> o'
open Go.Value renaming string -> vs'
open Go.Value renaming int -> vi'
open AO renaming cells -> ce'
open AV renaming v -> v'
open AV renaming ptr -> pt'
open Go.IntKind renaming i64 -> I'
open Go.Value renaming slice -> sl'
variable {d n k : Nat} {w W : World} {N : A4'} {y : Value}
inductive Tv where
 | mk (kind num : Int) (text : Δ) (list : List Tv) (tab : List (Δ × Tv))
 deriving Inhabited
abbrev Tf := List (Δ × Tv)
def Tv.kind : Tv -> Int
 | .mk k _ _ _ _ => k
def Tv.num : Tv -> Int
 | .mk _ n _ _ _ => n
def Tv.text : Tv -> Δ
 | .mk _ _ t _ _ => t
def Tv.list : Tv -> List Tv
 | .mk _ _ _ l _ => l
def Tv.tab : Tv -> Tf
 | .mk _ _ _ _ f => f
structure Rv where
 k : Int
 n : Int
 t : Δ
 la : Option Addr
 ll : Nat
 lc : Nat
 ta : Option Addr
 tl : Nat
 tc : Nat
 deriving Inhabited
def Rv.cells (r : Rv) : List Value := [.int .i64 r.k, .int .i64 r.n, .string r.t, .slice r.la r.ll r.lc, .slice r.ta r.tl r.tc]
def aggR (r : Rv) : AV := .agg [iv r.k, iv r.n, sv r.t, slV r.la r.ll r.lc, slV r.ta r.tl r.tc]
abbrev Mem := Addr -> Option Value
def Cells (C : Mem) (a : Addr) (cs : List Value) : Prop := ∀ j u, cs[j]? = some u -> C (a.add j) = some u
def big : Nat := 140737488351232
def LOf (V : Tv -> Rv -> Prop) (C : Mem) (oa : Option Addr) (l : List Tv) : Prop := l.length * 80 <= big /\ ∀ i x, l[i]? = some x -> ∃ a r, oa = some a /\ Cells C (a.add (i * 5)) r.cells /\ V x r
def FOf (V : Tv -> Rv -> Prop) (C : Mem) (oa : Option Addr) (f : Tf) : Prop := f.length * 96 <= big /\ ∀ i nm x, f[i]? = some (nm, x) -> ∃ a r, oa = some a /\ Cells C (a.add (i * 6)) (.string nm :: r.cells) /\ V x r
def VAt (C : Mem) : Nat -> Tv -> Rv -> Prop
 | 0 => fun _ _ => False
 | d + 1 => fun v r => (r.k = v.kind /\ r.n = v.num /\ r.t = v.text /\ r.ll = v.list.length /\ r.tl = v.tab.length) /\ LOf (VAt C d) C r.la v.list /\ FOf (VAt C d) C r.ta v.tab
abbrev LAt (C : Mem) (d : Nat) := LOf (VAt C d) C
abbrev FAt (C : Mem) (d : Nat) := FOf (VAt C d) C
theorem Cells.mono {C C' : Mem} (h : ∀ a v, C a = some v -> C' a = some v) {a : Addr} {cs : List Value} (hc : Cells C a cs) : Cells C' a cs := fun j u hu => h _ _ (hc j u hu)
theorem LOf.mono {V V' : Tv -> Rv -> Prop} (hV : ∀ x r, V x r -> V' x r) {C C' : Mem} (h : ∀ a v, C a = some v -> C' a = some v) {oa : Option Addr} {l : List Tv} (hl : LOf V C oa l) : LOf V' C' oa l :=
 ⟨hl.1, fun i x hx => by
  obtain ⟨a, r, h1, h2, h3⟩ := hl.2 i x hx
  exact ⟨a, r, h1, h2.mono h, hV _ _ h3⟩⟩
theorem FOf.mono {V V' : Tv -> Rv -> Prop} (hV : ∀ x r, V x r -> V' x r) {C C' : Mem} (h : ∀ a v, C a = some v -> C' a = some v) {oa : Option Addr} {f : Tf} (hf : FOf V C oa f) : FOf V' C' oa f :=
 ⟨hf.1, fun i nm x hx => by
  obtain ⟨a, r, h1, h2, h3⟩ := hf.2 i nm x hx
  exact ⟨a, r, h1, h2.mono h, hV _ _ h3⟩⟩
theorem VAt.mono {C C' : Mem} (h : ∀ a v, C a = some v -> C' a = some v) : ∀ {d : Nat} {v : Tv} {r : Rv}, VAt C d v r -> VAt C' d v r
 | 0, _, _, hv => hv.elim
 | d + 1, v, r, hv => ⟨hv.1, hv.2.1.mono (fun x r hx => VAt.mono h hx) h, hv.2.2.mono (fun x r hx => VAt.mono h hx) h⟩
theorem VAt.deep {C : Mem} : ∀ {d : Nat} {v : Tv} {r : Rv}, VAt C d v r -> VAt C (d + 1) v r
 | 0, _, _, hv => hv.elim
 | d + 1, v, r, hv => ⟨hv.1, hv.2.1.mono (fun x r hx => VAt.deep hx) (fun _ _ h => h), hv.2.2.mono (fun x r hx => VAt.deep hx) (fun _ _ h => h)⟩
theorem LAt.mono {C C' : Mem} (h : ∀ a v, C a = some v -> C' a = some v) {oa : Option Addr} {l : List Tv} (hl : LAt C d oa l) : LAt C' d oa l := LOf.mono (fun _ _ hx => VAt.mono h hx) h hl
theorem FAt.mono {C C' : Mem} (h : ∀ a v, C a = some v -> C' a = some v) {oa : Option Addr} {l : Tf} (hl : FAt C d oa l) : FAt C' d oa l := FOf.mono (fun _ _ hx => VAt.mono h hx) h hl
noncomputable section
def CB' (D : Nat -> Prop) (w : World) : Mem := fun a => by classical exact if D a.block then w.cell? a else none
theorem SI' {D : Nat -> Prop} {a : Addr} (h : D a.block) : CB' D w a = w.cell? a := by unfold CB'; rw [if_pos h]
theorem JB' {D : Nat -> Prop} {a : Addr} {v : Value} (h : CB' D w a = some v) : D a.block /\ w.cell? a = some v := by
 unfold CB' at h; split at h
 ·rename_i hd; exact ⟨hd, h⟩
 ·cases h
theorem BQ' {D D' : Nat -> Prop} (h : ∀ b, D b -> D' b) : ∀ a v, CB' D w a = some v -> CB' D' w a = some v := fun a v ha => by
 obtain ⟨h1, h2⟩ := JB' ha; rw [SI' (h _ h1)]; exact h2
theorem ZX' {w' : World} {a : Addr} (h : w'.heap[a.block]? = w.heap[a.block]?) : w'.cell? a = w.cell? a := by unfold World.cell?; rw [h]
theorem VL' {D : Nat -> Prop} {w' : World} (h : ∀ b, D b -> w'.heap[b]? = w.heap[b]?) : CB' D w' = CB' D w := by
 funext a; unfold CB'; split
 ·rename_i hd; exact ZX' (h _ hd)
 ·rfl
def frz (P : Mem -> Prop) : HP where
 on D w := P (CB' D w) /\ ∀ b, D b -> b < w.heap.size
 far {D w w'} hf := fun ⟨h1, h2⟩ => ⟨by rw [VL' hf]; exact h1, fun b hb => by
  have h3 := hf b hb; rw [Array.getElem?_eq_getElem (h2 b hb)] at h3
  exact (Array.getElem?_eq_some_iff.1 h3).1⟩
 lt {D w} := fun ⟨_, h2⟩ => h2
theorem MJ' {W0 : World} {F : HP} {N1 : A4'} {H H' : LH} {D0 : Nat -> Prop} {D : Nat -> Nat -> Prop} (hl : A6' 1100 H = true) (hl' : A6' 1100 H' = true) (r : Rep W0 N1 F (AD' H) w)
  (h1 : F.on D0 w) (h2 : ∀ i o, getO H i = some o -> OR N1 i o (D i) w /\ ∀ b, D i b -> ¬ D0 b) (h3 : ∀ i j o o', getO H i = some o -> getO H j = some o' -> i ≠ j -> ∀ b, D i b -> ¬ D j b)
  (k : Nat) (S : Nat -> Prop) (hkS : ¬ S k) {ok : AO} (hk0 : getO H k = some ok)
  (hn : ∀ n o', n ≠ k -> getO H' n = some o' -> ¬ S n /\ ∃ o, getO H n = some o /\ OR N1 n o' (D n) w)
  (hk : ∀ o', getO H' k = some o' -> OR N1 k o' (fun x => D k x \/ ∃ j, S j /\ (∃ o, getO H j = some o) /\ D j x) w) : Rep W0 N1 F (AD' H') w := by
 classical
 have hf' : ∀ n, (AD' H').find n = getO H' n := A8' (EV' hl')
 refine ⟨r.os, r.tape, r.output, D0, fun n x => if n = k then (D k x \/ ∃ j, S j /\ (∃ o, getO H j = some o) /\ D j x) else D n x, h1, fun n o hno => ?_, fun n m o o' hno hmo hnm b hb hb' => ?_⟩
 ·rw [hf'] at hno
  by_cases e : n = k
  ·subst e; simp only [if_true]
   refine ⟨hk o hno, fun b hb => ?_⟩
   rcases hb with hb | ⟨j, _, ⟨oj, hj⟩, hb⟩
   ·exact (h2 n _ hk0).2 b hb
   ·exact (h2 j _ hj).2 b hb
  ·simp only [if_neg e]; obtain ⟨_, o0, q1, q2⟩ := hn n o e hno; exact ⟨q2, (h2 n _ q1).2⟩
 ·rw [hf'] at hno hmo
  have key : ∀ m o', getO H' m = some o' -> m ≠ k -> ∀ b, (D k b \/ ∃ j, S j /\ (∃ o, getO H j = some o) /\ D j b) -> ¬ D m b := by
   intro m o' hm hmk b hb; obtain ⟨q0, o1, q1, _⟩ := hn m o' hmk hm
   rcases hb with hb | ⟨j, hj, ⟨oj, hjo⟩, hb⟩
   ·exact h3 k m _ _ hk0 q1 (Ne.symm hmk) b hb
   ·exact h3 j m _ _ hjo q1 (fun e => q0 (e ▸ hj)) b hb
  by_cases e : n = k
  ·subst e; simp only [if_true] at hb; have e' : m ≠ n := Ne.symm hnm; simp only [if_neg e'] at hb'; exact key m o' hmo e' b hb hb'
  ·simp only [if_neg e] at hb
   by_cases e' : m = k
   ·subst e'; simp only [if_true] at hb'; exact key n o hno e b hb' hb
   ·simp only [if_neg e'] at hb'; obtain ⟨_, o1, q1, _⟩ := hn n o e hno; obtain ⟨_, o2, q2, _⟩ := hn m o' e' hmo; exact h3 n m _ _ q1 q2 hnm b hb hb'
variable (m : Md)
def ownL (d : Nat) (l : List Tv) : AO := .own m fun b _ => frz fun C => LAt C d (some ⟨b, 0, none⟩) l
def ownF (d : Nat) (f : Tf) : AO := .own m fun b _ => frz fun C => FAt C d (some ⟨b, 0, none⟩) f
variable {m}
theorem LOf.nil {V : Tv -> Rv -> Prop} {C : Mem} (oa : Option Addr) : LOf V C oa [] := ⟨Nat.zero_le _, fun i x h => by simp at h⟩
theorem FOf.nil {V : Tv -> Rv -> Prop} {C : Mem} (oa : Option Addr) : FOf V C oa [] := ⟨Nat.zero_le _, fun i nm x h => by simp at h⟩
theorem IH' {sz : Nat} (h : VR N (.slice k 0 n sz (.lo n)) y) : ∃ l x c, N k = some l /\ y = .slice (some ⟨l.blk, x, none⟩) n c /\ (0 < n -> x = l.off) := by
 simp only [VR] at h; obtain ⟨l, x, c, h1, h2, h3, h4, h5, h6⟩ := h
 refine ⟨l, x, c, h1, h2, fun hn => ?_⟩
 rcases h3 with h3 | h3
 ·rw [h3, Nat.add_zero]
 ·omega
theorem Y2' {l : List Tv} {D : Nat -> Prop} (ho : OR N k (ownL m d l) D w) (hy : VR N (.slice k 0 l.length 5 (.lo l.length)) y) : ∃ la lc, y = .slice la l.length lc /\ LAt (CB' D w) d la l := by
 obtain ⟨lo, x, c, h1, rfl, h3⟩ := IH' hy; obtain ⟨lo', h1', h0, h2⟩ := ho; rw [h1] at h1'; cases h1'; refine ⟨_, _, rfl, ?_⟩
 cases l with
 | nil => exact LOf.nil _
 | cons v l => rw [h3 (Nat.succ_pos _), h0]; exact h2.1
theorem Y3' {l : Tf} {D : Nat -> Prop} (ho : OR N k (ownF m d l) D w) (hy : VR N (.slice k 0 l.length 6 (.lo l.length)) y) : ∃ la lc, y = .slice la l.length lc /\ FAt (CB' D w) d la l := by
 obtain ⟨lo, x, c, h1, rfl, h3⟩ := IH' hy; obtain ⟨lo', h1', h0, h2⟩ := ho; rw [h1] at h1'; cases h1'; refine ⟨_, _, rfl, ?_⟩
 cases l with
 | nil => exact FOf.nil _
 | cons v l => rw [h3 (Nat.succ_pos _), h0]; exact h2.1
def encF (p : Δ × Rv) : List Value := .string p.1 :: p.2.cells
def encV (r : Rv) : List Value := r.cells
def PF (d : Nat) (R : List (Δ × Rv)) (f : Tf) (C : Mem) : Prop := R.length = f.length /\ ∀ (i : Nat) (nm : Δ) (x : Tv), f[i]? = some (nm, x) -> ∃ r, R[i]? = some (nm, r) /\ VAt C d x r
def PV (d : Nat) (R : List Rv) (l : List Tv) (C : Mem) : Prop := R.length = l.length /\ ∀ (i : Nat) (x : Tv), l[i]? = some x -> ∃ r, R[i]? = some r /\ VAt C d x r
theorem PF.mono {R : List (Δ × Rv)} {f : Tf} {C C' : Mem} (h : ∀ a v, C a = some v -> C' a = some v) (hp : PF d R f C) : PF d R f C' := ⟨hp.1, fun i nm x hx => by
 obtain ⟨r, h1, h2⟩ := hp.2 i nm x hx
 exact ⟨r, h1, h2.mono h⟩⟩
theorem PV.mono {R : List Rv} {l : List Tv} {C C' : Mem} (h : ∀ a v, C a = some v -> C' a = some v) (hp : PV d R l C) : PV d R l C' := ⟨hp.1, fun i x hx => by
 obtain ⟨r, h1, h2⟩ := hp.2 i x hx
 exact ⟨r, h1, h2.mono h⟩⟩
theorem PF.add {R : List (Δ × Rv)} {f : Tf} {C : Mem} (hp : PF d R f C) {nm : Δ} {x : Tv} {r : Rv} (hx : VAt C d x r) : PF d (R ++ [(nm, r)]) (f ++ [(nm, x)]) C := by
 refine ⟨by simp [hp.1], fun i n y hy => ?_⟩
 rcases Nat.lt_or_ge i f.length with h | h
 ·rw [List.getElem?_append_left h] at hy; obtain ⟨s, h1, h2⟩ := hp.2 i n y hy
  exact ⟨s, by rw [List.getElem?_append_left (by have := hp.1; omega)]; exact h1, h2⟩
 ·rw [List.getElem?_append_right h] at hy
  have : i - f.length = 0 := by
   cases hk : i - f.length with
   | zero => rfl
   | succ n => rw [hk] at hy; simp at hy
  rw [this] at hy; simp only [List.getElem?_cons_zero, Option.some.injEq, Prod.mk.injEq] at hy; obtain ⟨rfl, rfl⟩ := hy; refine ⟨r, ?_, hx⟩
  rw [List.getElem?_append_right (by have := hp.1; omega), show i - R.length = 0 by have := hp.1; omega]
  rfl
theorem PV.add {R : List Rv} {f : List Tv} {C : Mem} (hp : PV d R f C) {x : Tv} {r : Rv} (hx : VAt C d x r) : PV d (R ++ [r]) (f ++ [x]) C := by
 refine ⟨by simp [hp.1], fun i y hy => ?_⟩
 rcases Nat.lt_or_ge i f.length with h | h
 ·rw [List.getElem?_append_left h] at hy; obtain ⟨s, h1, h2⟩ := hp.2 i y hy
  exact ⟨s, by rw [List.getElem?_append_left (by have := hp.1; omega)]; exact h1, h2⟩
 ·rw [List.getElem?_append_right h] at hy
  have : i - f.length = 0 := by
   cases hk : i - f.length with
   | zero => rfl
   | succ n => rw [hk] at hy; simp at hy
  rw [this] at hy; simp only [List.getElem?_cons_zero, Option.some.injEq] at hy; subst hy; refine ⟨r, ?_, hx⟩
  rw [List.getElem?_append_right (by have := hp.1; omega), show i - R.length = 0 by have := hp.1; omega]
  rfl
end
noncomputable section
abbrev fSm : Nat := 89
abbrev fSv : Nat := 99
def cSv (r r' : Rv) : List AV -> Option (AP AV) := mkC (fun _ => .ret ()) (fun _ => True) (fun _ k => k) (fun _ => [aggR r, aggR r']) (fun _ => []) (fun _ => .leaf .ret [bv true] [])
def cSm (oa ob : Option Addr) (n c c' : Nat) : List AV -> Option (AP AV) := mkC (fun _ => .ret ()) (fun _ => True) (fun _ k => k) (fun _ => [slV oa n c, slV ob n c']) (fun _ => []) (fun _ => .leaf .ret [bv true] [])
def aSm (oa ob : Option Addr) (n c c' i : Nat) : List (Nat × AV) := [(0, slV oa n c), (1, slV ob n c'), (5, iv (o' i))]
def hSm (i : Nat) (nm : Δ) (r r' : Rv) : AO' := AN' [ht' fSm 4 3, (fSm, 6, 4, hv (sv nm)), (fSm, 6, 9, hv (sv nm)), hf' fSm 6 10, (fSm, 6, 16, hv (aggR r)), (fSm, 6, 21, hv (aggR r')), hf' fSm 6 24, (fSm, 5, 1, hv (iv (o' (i + 1))))]
def hSmE : AO' := AN' [hf' fSm 4 3]
abbrev _root_.Go.Proofs.Ytjjjchmkonnpfaa.k1' : Cnd := t'
abbrev _root_.Go.Proofs.Ytjjjchmkonnpfaa.h2' (q0 : Nat) (z : Cnd) : Cnd := ((f' (Wk (b' false) g')).a ((f' (Wk (z' (IntKind.i64.wrap (o' q0 + o' 1))) (i' (q0 + 1)))).a z))
abbrev k3' (q0 q1 : Rv) : Cnd := ((p' True).a (f' (VW [AV.agg [z' q0.k,z' q0.n,s' q0.t,v' (sl' q0.la q0.ll q0.lc),v' (sl' q0.ta q0.tl q0.tc)],AV.agg [z' q1.k,z' q1.n,s' q1.t,v' (sl' q1.la q1.ll q1.lc),v' (sl' q1.ta q1.tl q1.tc)]] [AV.agg [z' q0.k,z' q0.n,s' q0.t,v' (sl' q0.la q0.ll q0.lc),v' (sl' q0.ta q0.tl q0.tc)],AV.agg [z' q1.k,z' q1.n,s' q1.t,v' (sl' q1.la q1.ll q1.lc),v' (sl' q1.ta q1.tl q1.tc)]])))
abbrev k4' (q0 : World) (q1 : Addr) (q2 : Nat) (q3 : Rv) : Cnd := ((p' (([0,1,2,3,4].all fun j => (q0.cell? ((Addr.mk (q1.add (q2 * 6)).block ((q1.add (q2 * 6)).off + 1) none).add j)).isSome) = true)).a ((p' ([v' ((q0.cell? (Addr.mk (q1.add (q2 * 6)).block ((q1.add (q2 * 6)).off + 1) none)).getD (Value.tuple (Array.mk []))),v' ((q0.cell? (Addr.mk (q1.add (q2 * 6)).block ((q1.add (q2 * 6)).off + 1 + 1) none)).getD (Value.tuple (Array.mk []))),v' ((q0.cell? (Addr.mk (q1.add (q2 * 6)).block ((q1.add (q2 * 6)).off + 1 + 2) none)).getD (Value.tuple (Array.mk []))),v' ((q0.cell? (Addr.mk (q1.add (q2 * 6)).block ((q1.add (q2 * 6)).off + 1 + 3) none)).getD (Value.tuple (Array.mk []))),v' ((q0.cell? (Addr.mk (q1.add (q2 * 6)).block ((q1.add (q2 * 6)).off + 1 + 4) none)).getD (Value.tuple (Array.mk [])))] = [v' (vi' I' (v' ((q0.cell? (Addr.mk (q1.add (q2 * 6)).block ((q1.add (q2 * 6)).off + 1) none)).getD (Value.tuple (Array.mk [])))).intOf),v' (vi' I' (v' ((q0.cell? (Addr.mk (q1.add (q2 * 6)).block ((q1.add (q2 * 6)).off + 1 + 1) none)).getD (Value.tuple (Array.mk [])))).intOf),v' (vs' (v' ((q0.cell? (Addr.mk (q1.add (q2 * 6)).block ((q1.add (q2 * 6)).off + 1 + 2) none)).getD (Value.tuple (Array.mk [])))).strOf),v' ((q0.cell? (Addr.mk (q1.add (q2 * 6)).block ((q1.add (q2 * 6)).off + 1 + 3) none)).getD (Value.tuple (Array.mk []))),v' ((q0.cell? (Addr.mk (q1.add (q2 * 6)).block ((q1.add (q2 * 6)).off + 1 + 4) none)).getD (Value.tuple (Array.mk [])))])).a (f' (Wk (AV.agg [v' (vi' I' (v' ((q0.cell? (Addr.mk (q1.add (q2 * 6)).block ((q1.add (q2 * 6)).off + 1) none)).getD (Value.tuple (Array.mk [])))).intOf),v' (vi' I' (v' ((q0.cell? (Addr.mk (q1.add (q2 * 6)).block ((q1.add (q2 * 6)).off + 1 + 1) none)).getD (Value.tuple (Array.mk [])))).intOf),v' (vs' (v' ((q0.cell? (Addr.mk (q1.add (q2 * 6)).block ((q1.add (q2 * 6)).off + 1 + 2) none)).getD (Value.tuple (Array.mk [])))).strOf),v' ((q0.cell? (Addr.mk (q1.add (q2 * 6)).block ((q1.add (q2 * 6)).off + 1 + 3) none)).getD (Value.tuple (Array.mk []))),v' ((q0.cell? (Addr.mk (q1.add (q2 * 6)).block ((q1.add (q2 * 6)).off + 1 + 4) none)).getD (Value.tuple (Array.mk [])))]) (AV.agg [z' q3.k,z' q3.n,s' q3.t,v' (sl' q3.la q3.ll q3.lc),v' (sl' q3.ta q3.tl q3.tc)])))))
abbrev _root_.Go.Proofs.Ytjjjchmkonnpfaa.k5' (q0 q1 : Nat) : Cnd := (f' (q0.blt q1 = true))
abbrev _root_.Go.Proofs.Ytjjjchmkonnpfaa.k6' (q0 : Δ) : Cnd := (f' (Wk (v' (Value.bool !q0.toList == q0.toList)) g'))
abbrev k7' (q0 : World) (q1 : Addr) (q2 : Nat) (q3 : Δ) : Cnd := ((p' ((q0.cell? ((q1.add (q2 * 6)).add 0)).isSome = true)).a ((p' (v' ((q0.cell? ((q1.add (q2 * 6)).add 0)).getD (Value.tuple (Array.mk []))) = v' (vs' (v' ((q0.cell? ((q1.add (q2 * 6)).add 0)).getD (Value.tuple (Array.mk [])))).strOf))).a (f' (Wk (v' (vs' (v' ((q0.cell? ((q1.add (q2 * 6)).add 0)).getD (Value.tuple (Array.mk [])))).strOf)) (s' q3)))))
theorem d9' (W : World) (a b : Addr) (n c c' i : Nat) (nm : Δ) (r r' : Rv) (F : HP) : BI' [(fSv, cSv r r')] (hSm i nm r r') [] W fSm (AB' fSm 4) (tms 0 42 (aSm (some a) (some b) n c c' i)) [] [] [0, 1, 5] F = VT.leaf (AX.normal,[v' (sl' (some a) n c),v' (sl' (some b) n c'),i' (i + 1)],42) [] 1100 ((wb' (decide (o' i < ↑n)) j').a ((k5' i n).a ((k7' W a i nm).a ((k5' i n).a ((k7' W b i nm).a ((k6' nm).a ((k5' i n).a ((k4' W a i r).a ((k5' i n).a ((k4' W b i r').a ((k3' r r').a (h2' i k1')))))))))))) := χ
abbrev _root_.Go.Proofs.Ytjjjchmkonnpfaa.k8' (q0 : Nat) : Cnd := (wb' (decide (o' q0 < ↑q0)) g')
theorem dA' (W : World) (oa ob : Option Addr) (n c c' : Nat) (F : HP) : BI' [] hSmE [] W fSm (AB' fSm 4) (tms 0 42 (aSm oa ob n c c' n)) [] [] [0, 1, 5] F = VT.leaf (AX.exit 0,[v' (sl' oa n c),v' (sl' ob n c'),i' n],42) [] 1100 ((k8' n).a k1') := χ
def lSm (oa ob : Option Addr) (n c c' : Nat) : List AV -> AP (AX × List AV) := mkL (fun _ => .ret ()) (fun _ => True) (fun _ k => k) (fun _ => tms 0 42 (aSm oa ob n c c' 0)) (fun _ => []) (fun _ => .leaf (.exit 0) (tms 0 42 []) [])
abbrev _root_.Go.Proofs.Ytjjjchmkonnpfaa.k9' : Cnd := (p' True)
abbrev _root_.Go.Proofs.Ytjjjchmkonnpfaa.k10' (q0 : Nat) : Cnd := (wb' ((↑q0 : Int) != ↑q0) g')
theorem oSm_eq (W : World) (oa ob : Option Addr) (n c c' : Nat) (F : HP) : wRun [] (AN' [hf' fSm 1 4]) [(fSm, 4, AB' fSm 4, lSm oa ob n c c')] W fSm [slV oa n c, slV ob n c'] [] [] F = VT.leaf (b' true) [] 1100 ((k10' n).a ((p' ((fSm,4,AB' fSm 4,lSm oa ob n c c').snd.snd.fst = (fSm,4,AB' fSm 4,lSm oa ob n c c').snd.snd.fst)).a (k9'.a ((p' (VW (v' (sl' oa n c)::v' (sl' ob n c')::u'::u'::b' false::i' 0::v' (sl' oa n c)::z' ↑n::v' (sl' ob n c')::z' ↑n::g'::ru16 (ru8 (ru4 (u'::u'::u'::[])))) (v' (sl' oa n c)::v' (sl' ob n c')::a'::a'::a'::i' 0::ra16 (ra16 (ra4 ([])))))).a k1')))) := χ
abbrev tVl : TypeId := 2 * 117
def oSv (r r' : Rv) : LH := [(1000, .cells (vmap r.cells) tVl), (1001, .cells (vmap r'.cells) tVl)]
def aSv (i : Nat) : List (Nat × AV) := [(2, .ptr 1000 0), (3, .ptr 1001 0), (5, iv (o' i))]
def hSv (i : Nat) (x x' : Rv) : AO' := AN' [ht' fSv 4 4, (fSv, 6, 4, hv (aggR x)), (fSv, 6, 9, hv (aggR x')), hf' fSv 6 11, (fSv, 5, 1, hv (iv (o' (i + 1))))]
def hSvE : AO' := AN' [hf' fSv 4 4]
abbrev h11' (q0 : Nat) (q1 : Rv) (q2 : World) (q3 : Addr) (q4 : Rv) (z : Cnd) : Cnd := ((f' (q0.blt q1.ll = true)).a (((p' (([0,1,2,3,4].all fun j => (q2.cell? ((q3.add (q0 * 5)).add j)).isSome) = true)).a ((p' ([v' ((q2.cell? ((q3.add (q0 * 5)).add 0)).getD (Value.tuple (Array.mk []))),v' ((q2.cell? (Addr.mk (q3.add (q0 * 5)).block ((q3.add (q0 * 5)).off + 1) none)).getD (Value.tuple (Array.mk []))),v' ((q2.cell? (Addr.mk (q3.add (q0 * 5)).block ((q3.add (q0 * 5)).off + 2) none)).getD (Value.tuple (Array.mk []))),v' ((q2.cell? (Addr.mk (q3.add (q0 * 5)).block ((q3.add (q0 * 5)).off + 3) none)).getD (Value.tuple (Array.mk []))),v' ((q2.cell? (Addr.mk (q3.add (q0 * 5)).block ((q3.add (q0 * 5)).off + 4) none)).getD (Value.tuple (Array.mk [])))] = [v' (vi' I' (v' ((q2.cell? ((q3.add (q0 * 5)).add 0)).getD (Value.tuple (Array.mk [])))).intOf),v' (vi' I' (v' ((q2.cell? (Addr.mk (q3.add (q0 * 5)).block ((q3.add (q0 * 5)).off + 1) none)).getD (Value.tuple (Array.mk [])))).intOf),v' (vs' (v' ((q2.cell? (Addr.mk (q3.add (q0 * 5)).block ((q3.add (q0 * 5)).off + 2) none)).getD (Value.tuple (Array.mk [])))).strOf),v' ((q2.cell? (Addr.mk (q3.add (q0 * 5)).block ((q3.add (q0 * 5)).off + 3) none)).getD (Value.tuple (Array.mk []))),v' ((q2.cell? (Addr.mk (q3.add (q0 * 5)).block ((q3.add (q0 * 5)).off + 4) none)).getD (Value.tuple (Array.mk [])))])).a (f' (Wk (AV.agg [v' (vi' I' (v' ((q2.cell? ((q3.add (q0 * 5)).add 0)).getD (Value.tuple (Array.mk [])))).intOf),v' (vi' I' (v' ((q2.cell? (Addr.mk (q3.add (q0 * 5)).block ((q3.add (q0 * 5)).off + 1) none)).getD (Value.tuple (Array.mk [])))).intOf),v' (vs' (v' ((q2.cell? (Addr.mk (q3.add (q0 * 5)).block ((q3.add (q0 * 5)).off + 2) none)).getD (Value.tuple (Array.mk [])))).strOf),v' ((q2.cell? (Addr.mk (q3.add (q0 * 5)).block ((q3.add (q0 * 5)).off + 3) none)).getD (Value.tuple (Array.mk []))),v' ((q2.cell? (Addr.mk (q3.add (q0 * 5)).block ((q3.add (q0 * 5)).off + 4) none)).getD (Value.tuple (Array.mk [])))]) (AV.agg [z' q4.k,z' q4.n,s' q4.t,v' (sl' q4.la q4.ll q4.lc),v' (sl' q4.ta q4.tl q4.tc)]))))).a z))
abbrev _root_.Go.Proofs.Ytjjjchmkonnpfaa.k12' : Cnd := (fe' true)
theorem d7' (W : World) (r r' x x' : Rv) (a b : Addr) (i : Nat) (F : HP) : BI' [(fSv, cSv x x')] (hSv i x x') [] W fSv (AB' fSv 4) (tms 0 58 (aSv i)) (oSv { r with la := some a } { r' with la := some b }) [1000, 1001] [2, 3, 5] F = VT.leaf (AX.normal,[pt' 1000 0,pt' 1001 0,i' (i + 1)],58) [some (ce' [z' r.k,z' r.n,s' r.t,v' (sl' (some a) r.ll r.lc),v' (sl' r.ta r.tl r.tc)] 234),some (ce' [z' r'.k,z' r'.n,s' r'.t,v' (sl' (some b) r'.ll r'.lc),v' (sl' r'.ta r'.tl r'.tc)] 234)] 1100 (k12'.a ((wb' (decide (o' i < ↑r.ll)) j').a (k12'.a (h11' i r W a x (k12'.a (h11' i r' W b x' ((k3' x x').a (h2' i k1')))))))) := χ
theorem d8' (W : World) (r r' : Rv) (F : HP) : BI' [] hSvE [] W fSv (AB' fSv 4) (tms 0 58 (aSv r.ll)) (oSv r r') [1000, 1001] [2, 3, 5] F = VT.leaf (AX.exit 0,[pt' 1000 0,pt' 1001 0,i' r.ll],58) [some (ce' [z' r.k,z' r.n,s' r.t,v' (sl' r.la r.ll r.lc),v' (sl' r.ta r.tl r.tc)] 234),some (ce' [z' r'.k,z' r'.n,s' r'.t,v' (sl' r'.la r'.ll r'.lc),v' (sl' r'.ta r'.tl r'.tc)] 234)] 1100 (k12'.a ((wb' (decide (o' r.ll < ↑r.ll)) g').a k1')) := χ
def gSv : List AV -> AP (Nat × Nat) := fun tmps => match getL tmps 2 with
 | .ptr a _ => match getL tmps 3 with
  | .ptr b _ => .ret (a, b)
  | _ => .fail "same"
 | _ => .fail "same"
def nmSv (a b : Nat) : Nat -> Nat := fun k => match Nat.beq k 1000 with
 | true => a
 | false => b
def lSv (r r' : Rv) : List AV -> AP (AX × List AV) := mkL gSv (fun _ => True) (fun q => nmSv q.1 q.2) (fun _ => tms 0 58 (aSv 0)) (fun _ => oSv r r') (fun _ => .leaf (.exit 0) (tms 0 58 [(2, .ptr 1000 0), (3, .ptr 1001 0)]) (oSv r r'))
def hSvF : AO' := AN' [hf' fSv 1 4, hf' fSv 1 10, hf' fSv 1 17, hf' fSv 1 26]
abbrev _root_.Go.Proofs.Ytjjjchmkonnpfaa.h13' (z : Cnd) : Cnd := ((fe' true).a ((fe' true).a z))
abbrev k14' (q0 : Rv) : Cnd := (ow' (ce' [z' q0.k,z' q0.n,s' q0.t,v' (sl' q0.la q0.ll q0.lc),v' (sl' q0.ta q0.tl q0.tc)] 234))
abbrev k15' (q0 : Rv) : Cnd := (ee' (s' q0.t))
abbrev k16' (q0 : Rv) : Cnd := (ee' (z' q0.n))
abbrev k17' (q0 : Rv) : Cnd := (ee' (z' q0.k))
theorem oSv_eq (W : World) (r r' : Rv) (F : HP) : wRun [(fSm, cSm r.ta r'.ta r.tl r.tc r'.tc)] hSvF [(fSv, 4, AB' fSv 4, lSv r r')] W fSv [aggR r, aggR r'] [] [] F = VT.leaf (b' true) [] 1104 ((k17' r).a ((k17' r').a ((wb' (r.k != r'.k) g').a ((k16' r).a ((k16' r').a ((wb' (r.n != r'.n) g').a ((k15' r).a ((k15' r').a ((f' (Wk (v' (Value.bool !r.t.toList == r'.t.toList)) g')).a (h13' ((wb' ((↑r.ll : Int) != ↑r'.ll) g').a ((p' ((fSv,4,AB' fSv 4,lSv r r').snd.snd.fst = (fSv,4,AB' fSv 4,lSv r r').snd.snd.fst)).a (k9'.a ((p' (VW (AV.agg [z' r.k,z' r.n,s' r.t,v' (sl' r.la r.ll r.lc),v' (sl' r.ta r.tl r.tc)]::AV.agg [z' r'.k,z' r'.n,s' r'.t,v' (sl' r'.la r'.ll r'.lc),v' (sl' r'.ta r'.tl r'.tc)]::pt' 1100 0::pt' 1101 0::b' false::i' 0::pt' 1100 0::z' r.k::pt' 1101 0::z' r'.k::g'::g'::pt' 1100 1::z' r.n::pt' 1101 1::z' r'.n::g'::g'::g'::pt' 1100 2::s' r.t::pt' 1101 2::s' r'.t::g'::g'::g'::pt' 1100 3::v' (sl' r.la r.ll r.lc)::z' ↑r.ll::pt' 1101 3::v' (sl' r'.la r'.ll r'.lc)::z' ↑r'.ll::g'::g'::ru16 (ru8 ([]))) (a'::a'::pt' 1100 0::pt' 1101 0::a'::i' 0::ra16 (ra16 (ra16 (ra4 ([]))))))).a ((k14' r).a ((k14' r').a (h13' (((Cnd.p True).a (f' (VW [v' (sl' r.ta r.tl r.tc),v' (sl' r'.ta r'.tl r'.tc)] [v' (sl' r.ta r.tl r.tc),v' (sl' r'.ta r.tl r'.tc)]))).a k1')))))))))))))))))) := χ
end
theorem ltFC : decide (o' n < (n : Int)) = false := decide_eq_false (by simp only [Z0]; omega)
theorem ltTC {j : Nat} (h : j < n) : decide (o' j < (n : Int)) = true := decide_eq_true (by simp only [Z0]; omega)
theorem c5 {C : Mem} {A : Addr} {r : Rv} (h : Cells C A r.cells) : C (A.add 0) = some (.int .i64 r.k) /\ C (Addr.mk A.block (A.off + 1) none) = some (.int .i64 r.n) /\ C (Addr.mk A.block (A.off + 2) none) = some (.string r.t) /\ C (Addr.mk A.block (A.off + 3) none) = some (.slice r.la r.ll r.lc) /\ C (Addr.mk A.block (A.off + 4) none) = some (.slice r.ta r.tl r.tc) :=
 ⟨h 0 _ rfl, h 1 _ rfl, h 2 _ rfl, h 3 _ rfl, h 4 _ rfl⟩
theorem all5 {A : Addr} {r : Rv} (h : Cells W.cell? A r.cells) : ([0, 1, 2, 3, 4].all fun j => (W.cell? (A.add j)).isSome) = true := by
 have e0 : W.cell? (A.add 0) = some _ := h 0 _ rfl; have e1 : W.cell? (A.add 1) = some _ := h 1 _ rfl; have e2 : W.cell? (A.add 2) = some _ := h 2 _ rfl; have e3 : W.cell? (A.add 3) = some _ := h 3 _ rfl; have e4 : W.cell? (A.add 4) = some _ := h 4 _ rfl; simp only [List.all_cons, List.all_nil, e0, e1, e2, e3, e4, Bool.and_true, Option.isSome_some]
theorem f9' (A : Addr) (j : Nat) : (Addr.mk A.block (A.off + 1) none).add j = A.add (j + 1) := by
 unfold Addr.add; rw [if_neg (Nat.succ_ne_zero j)]; split
 ·rename_i h; subst h; rfl
 ·show Addr.mk A.block (A.off + 1 + j) none = Addr.mk A.block (A.off + (j + 1)) none; rw [Nat.add_assoc, Nat.add_comm 1 j]
theorem c6 {C : Mem} {A : Addr} {nm : Δ} {r : Rv} (h : Cells C A (.string nm :: r.cells)) : C (A.add 0) = some (.string nm) /\ Cells C (Addr.mk A.block (A.off + 1) none) r.cells :=
 ⟨h 0 _ rfl, fun j u hu => by rw [f9']; exact h (j + 1) u hu⟩
theorem c6b {C : Mem} {A : Addr} {r : Rv} (h : Cells C (Addr.mk A.block (A.off + 1) none) r.cells) : C (Addr.mk A.block (A.off + 1) none) = some (.int .i64 r.k) /\ C (Addr.mk A.block (A.off + 1 + 1) none) = some (.int .i64 r.n) /\ C (Addr.mk A.block (A.off + 1 + 2) none) = some (.string r.t) /\ C (Addr.mk A.block (A.off + 1 + 3) none) = some (.slice r.la r.ll r.lc) /\ C (Addr.mk A.block (A.off + 1 + 4) none) = some (.slice r.ta r.tl r.tc) := c5 h
theorem SU' {r : Rv} {x0 x1 : Int} {x2 : Δ} {x3 x4 : Value} (h0 : x0 = r.k) (h1 : x1 = r.n) (h2 : x2 = r.t) (h3 : x3 = .slice r.la r.ll r.lc) (h4 : x4 = .slice r.ta r.tl r.tc) : Wk (.agg [.v (.int .i64 x0), .v (.int .i64 x1), .v (.string x2), .v x3, .v x4]) (aggR r) := by
 subst h0 h1 h2 h3 h4; exact Ya
theorem b3' {r r' : Rv} (h : Tri Θ W fSv [aggR r, aggR r'] [] (bv true) []) (F : HP) (hF : AP' W F) : C1OK Θ F fSv (cSv r r') :=
 BX' hF (fun _ => bv true) (fun _ => RO.ret _) (fun _ => rfl) (fun _ _ => h) fun _ => ⟨rfl, rfl, ⟨⟨Ye, Ye, Ye, Ye, Ye, Ye⟩, ⟨Ye, Ye, Ye, Ye, Ye, Ye⟩, Ye⟩, A2', ⟨Ye, Ye⟩, A2'⟩
theorem b4' {oa ob : Option Addr} {c c' : Nat} (h : Tri Θ W fSm [slV oa n c, slV ob n c'] [] (bv true) []) (F : HP) (hF : AP' W F) : C1OK Θ F fSm (cSm oa ob n c c') :=
 BX' hF (fun _ => bv true) (fun _ => RO.ret _) (fun _ => rfl) (fun _ _ => h) fun _ => ⟨rfl, rfl, ⟨Ye, Ye, Ye⟩, A2', ⟨Ye, Ye⟩, A2'⟩
theorem BP' {α : Type} {l : List α} {i : Nat} (h : i < l.length) : ∃ x, l[i]? = some x := ⟨_, List.getElem?_eq_getElem h⟩
theorem I4' (h : n * k <= big) (hk : 0 < k) : n <= 140737488351232 := Nat.le_trans (Nat.le_mul_of_pos_right n hk) h
theorem UG' (W : World) (d : Nat) (hV : ∀ v r r', VAt W.cell? d v r -> VAt W.cell? d v r' -> Tri Θ W fSv [aggR r, aggR r'] [] (bv true) []) (f : Tf) (oa ob : Option Addr) (c c' : Nat) (ha : FAt W.cell? d oa f) (hb : FAt W.cell? d ob f) :
  Tri Θ W fSm [slV oa f.length c, slV ob f.length c'] [] (bv true) [] := by
 have hlen := I4' ha.1 δ
 have hloop : LTri Θ W (AB' fSm 4) (tms 0 42 (aSm oa ob f.length c c' 0)) [] (.exit 0) (tms 0 42 []) [] := by
  refine G5' (W := W) (g := fSm) (b := AB' fSm 4) (σ := {j : Nat // j <= f.length}) 42 (fun j => aSm oa ob f.length c c' j.1) (fun j => []) (.exit 0) [] [] (fun j => f.length - j.1) [] [0, 1, 5] (by intro h; cases h) (fun _ => rfl) rfl ?_ ⟨0, Nat.zero_le _⟩; rintro ⟨j, hj⟩; simp only
  by_cases h1 : j < f.length
  ·obtain ⟨⟨nm, x⟩, hx⟩ := BP' h1; obtain ⟨a, r, rfl, q1, q2⟩ := ha.2 j nm x hx; obtain ⟨b, r', rfl, p1, p2⟩ := hb.2 j nm x hx; have hsv := b3' (hV x r r' q2 p2); obtain ⟨a0, ac⟩ := c6 q1; obtain ⟨b0, bc⟩ := c6 p1; have aA := all5 ac; have bA := all5 bc; obtain ⟨a1, a2, a3, a4, a5⟩ := c6b ac; obtain ⟨b1, b2, b3, b4, b5⟩ := c6b bc; have hw := BM' j ω; have e1 : decide (o' j < (f.length : Int)) = true := ltTC h1
   have c1 : (!(nm.toList == nm.toList)) = false := by rw [beq_self_eq_true]; rfl
   refine ⟨[(fSv, cSv r r')], hSm j nm r r', [], fun F hF => CR' (hsv F hF), fun _ _ => noL, fun F => ?_⟩
   refine Yj (d9' W a b f.length c c' j nm r r' F) ⟨⟨?_, rfl, .inl ⟨rfl, ⟨j + 1, h1⟩, BR' h1, [], by kernel_rfl, by kernel_rfl, ⟨Ya, Ya, Ya, Ye⟩, Ye⟩⟩⟩
   simp only [Cnd.holds, e1, h1, a0, b0, aA, bA, a1, a2, a3, a4, a5, b1, b2, b3, b4, b5, Option.getD_some, Option.isSome_some, Nat.blt_eq, true_and, and_true]; and_intros; all_goals first | (with_reducible exact AY' hw) | exact AC' e1 | exact AC' c1 | exact AC' rfl | exact SU' rfl rfl rfl rfl rfl | exact Kb1'
  ·have hje : j = f.length := ω
   subst hje
   refine ⟨[], hSmE, [], fun _ _ => noC, fun _ _ => noL, fun F => ?_⟩
   refine Yj (dA' W oa ob f.length c c' F) ⟨⟨?_, rfl, .inr ⟨rfl, [], by kernel_rfl, by kernel_rfl, Ye, Ye⟩⟩⟩
   simp only [Cnd.holds, and_true]; exact AC' ltFC
 have hl : ∀ F, AP' W F -> L1OK Θ F (AB' fSm 4) (lSm oa ob f.length c c') := fun F hF =>
  E8' hF (fun _ => RO.ret _) (fun _ _ => hloop) fun _ => by
   simp only [RT.pick]; exact D1' rfl rfl (A0' Ye (A0' Ye (A0' Ye A2'))) A2' A2' A2'
 refine AK' (con := []) (hints := AN' [hf' fSm 1 4]) (lc := [(fSm, 4, AB' fSm 4, lSm oa ob f.length c c')]) [] rfl (fun F _ => noC) (fun F hF => L3' (hl F hF)) fun F => ?_
 refine Yj (oSm_eq W oa ob f.length c c' F) ⟨⟨?_, (B2' (vs' := [bv true]) (H' := []) [] rfl rfl (Yb) trivial).fits rfl⟩⟩; exact Cb0'
theorem bT' (W : World) (d : Nat) (hV : ∀ v r r', VAt W.cell? d v r -> VAt W.cell? d v r' -> Tri Θ W fSv [aggR r, aggR r'] [] (bv true) []) (v : Tv) (r r' : Rv) (ha : VAt W.cell? (d + 1) v r) (hb : VAt W.cell? (d + 1) v r') :
  Tri Θ W fSv [aggR r, aggR r'] [] (bv true) [] := by
 obtain ⟨⟨i1, i2, i3, i4, i5⟩, al, af⟩ := ha; obtain ⟨⟨j1, j2, j3, j4, j5⟩, bl, bf⟩ := hb; have hlen := I4' al.1 δ; have hsm := UG' W d hV v.tab r.ta r'.ta r.tc r'.tc af bf; have k1 : r.k = r'.k := i1.trans j1.symm; have k2 : r.n = r'.n := i2.trans j2.symm; have k3 : r.t = r'.t := i3.trans j3.symm; have k4 : r'.ll = r.ll := j4.trans i4.symm; have k5 : r'.tl = r.tl := j5.trans i5.symm; rw [<- i5] at hsm
 have hloop : LTri Θ W (AB' fSv 4) (tms 0 58 (aSv 0)) (oSv r r') (.exit 0) (tms 0 58 [(2, .ptr 1000 0), (3, .ptr 1001 0)]) (oSv r r') := by
  refine G5' (W := W) (g := fSv) (b := AB' fSv 4) (σ := {j : Nat // j <= r.ll}) 58 (fun j => aSv j.1) (fun j => oSv r r') (.exit 0) [(2, .ptr 1000 0), (3, .ptr 1001 0)] (oSv r r') (fun j => r.ll - j.1) [1000, 1001] [2, 3, 5] (by intro h; cases h) (fun _ => rfl) rfl ?_ ⟨0, Nat.zero_le _⟩; rintro ⟨j, hj⟩; simp only
  by_cases h1 : j < r.ll
  ·obtain ⟨x, hx⟩ := BP' (l := v.list) (i := j) ω; obtain ⟨a, s, ea, q1, q2⟩ := al.2 j x hx; obtain ⟨b, s', eb, p1, p2⟩ := bl.2 j x hx; have hsv := b3' (hV x s s' q2 p2); have aA := all5 q1; have bA := all5 p1; obtain ⟨a1, a2, a3, a4, a5⟩ := c5 q1; obtain ⟨b1, b2, b3, b4, b5⟩ := c5 p1; have hw := BM' j ω; have e1 : decide (o' j < (r.ll : Int)) = true := ltTC h1
   have h2 : j < r'.ll := ω
   obtain ⟨rk, rn, rt, rla, rll, rlc, rta, rtl, rtc⟩ := r; obtain ⟨rk', rn', rt', rla', rll', rlc', rta', rtl', rtc'⟩ := r'; simp only at ea eb; subst ea eb
   refine ⟨[(fSv, cSv s s')], hSv j s s', [], fun F hF => CR' (hsv F hF), fun _ _ => noL, fun F => ?_⟩
   refine Yj (d7' W ⟨rk, rn, rt, none, rll, rlc, rta, rtl, rtc⟩ ⟨rk', rn', rt', none, rll', rlc', rta', rtl', rtc'⟩ s s' a b j F) ⟨⟨?_, rfl, .inl ⟨rfl, ⟨j + 1, h1⟩, BR' h1, [(1000, 1000), (1001, 1001)], by kernel_rfl, by kernel_rfl, ⟨Ya, Ya, Ya, Ye⟩, ⟨_, rfl, Yc⟩, ⟨_, rfl, Yc⟩, Ye⟩⟩⟩
   simp only [Cnd.holds, e1, h1, h2, aA, bA, a1, a2, a3, a4, a5, b1, b2, b3, b4, b5, Option.getD_some, Option.isSome_some, Nat.blt_eq, true_and, and_true]; and_intros; all_goals first | (with_reducible exact AY' hw) | exact AC' e1 | exact AC' rfl | exact SU' rfl rfl rfl rfl rfl | exact Kb1'
  ·have hje : j = r.ll := ω
   subst hje
   refine ⟨[], hSvE, [], fun _ _ => noC, fun _ _ => noL, fun F => ?_⟩
   refine Yj (d8' W r r' F) ⟨⟨?_, rfl, .inr ⟨rfl, [(1000, 1000), (1001, 1001)], by kernel_rfl, by kernel_rfl, ⟨Ya, Ya, Ye⟩, ⟨_, rfl, Yc⟩, ⟨_, rfl, Yc⟩, Ye⟩⟩⟩
   simp only [Cnd.holds, and_true, true_and]; exact AC' ltFC
 have gro : ∀ args, RO (gSv args) := by
  intro args; unfold gSv
  repeat' split
  all_goals exact Kb11'
 have ocl : ∀ (K : Nat -> Bool) (r : Rv), (ce' (vmap r.cells) tVl).cl K := fun K r => ⟨Ye, Ye, Ye, Ye, Ye, Ye⟩
 have hl : ∀ F, AP' W F -> L1OK Θ F (AB' fSv 4) (lSv r r') := fun F hF =>
  E8' hF gro (fun _ _ => hloop) fun _ => by
   simp only [RT.pick]; exact D1' rfl rfl (A0' rfl (A0' rfl (A0' Ye A2'))) (A0' (ocl _ _) (A0' (ocl _ _) A2')) (A0' rfl (A0' rfl A2')) (A0' (ocl _ _) (A0' (ocl _ _) A2'))
 refine AK' (con := [(fSm, cSm r.ta r'.ta r.tl r.tc r'.tc)]) (hints := hSvF) (lc := [(fSv, 4, AB' fSv 4, lSv r r')]) [] rfl (fun F hF => CR' (b4' hsm F hF)) (fun F hF => L3' (hl F hF)) fun F => ?_
 refine Yj (oSv_eq W r r' F) ⟨⟨?_, (B2' (vs' := [bv true]) (H' := []) [] rfl rfl (Yb) trivial).fits rfl⟩⟩
 have c1 : (!(r.t.toList == r'.t.toList)) = false := by rw [k3, beq_self_eq_true]; rfl
 have c2 : (r.k != r'.k) = false := by rw [k1]; exact bne_self_eq_false _
 have c3 : (r.n != r'.n) = false := by rw [k2]; exact bne_self_eq_false _
 have c4 : ((r.ll : Int) != (r'.ll : Int)) = false := by rw [k4]; exact bne_self_eq_false _
 simp only [Cnd.holds, k5, Nat.blt_eq, true_and, and_true]; and_intros; all_goals first | exact AC' c1 | exact AC' c2 | exact AC' c3 | exact AC' c4 | exact Kb1'
theorem aD' (W : World) : ∀ (d : Nat) (v : Tv) (r r' : Rv), VAt W.cell? d v r -> VAt W.cell? d v r' -> Tri Θ W fSv [aggR r, aggR r'] [] (bv true) []
 | 0, _, _, _, h, _ => h.elim
 | d + 1, v, r, r', h, h' => bT' W d (aD' W d) v r r' h h'
theorem a8' (W : World) (d : Nat) (f : Tf) (oa ob : Option Addr) (c c' : Nat) (ha : FAt W.cell? d oa f) (hb : FAt W.cell? d ob f) : Tri Θ W fSm [slV oa f.length c, slV ob f.length c'] [] (bv true) [] := UG' W d (aD' W d) f oa ob c c' ha hb
end Go.Proofs.Ytjjjchmkonnpfaa.Tree
namespace Go.Proofs.Ytjjjchmkonnpfaa.Eng
open Go Go.RowKit
section
variable {α : Type} {enc : α -> List Value} {k : Nat}
end
end Go.Proofs.Ytjjjchmkonnpfaa.Eng
namespace Go.Proofs.Ytjjjchmkonnpfaa.Tree
open Go Go.RowKit Eng Kit
open Int renaming ofNat -> o'
open Go.Value renaming string -> vs'
open Go.Value renaming int -> vi'
open AO renaming cells -> ce'
open AV renaming v -> v'
open AV renaming ptr -> pt'
open Go.IntKind renaming i64 -> I'
open Cnd renaming holds -> ch'
open List renaming length_append -> la'
open List renaming mem_cons_self -> ms'
open Go.Value renaming slice -> sl'
variable {w W0 W : World} {N N1 : A4'} {d i k : Nat} {e : TypeId} {H : LH} {vs : List AV} {nm t : Δ} {F : HP} {ys : List Value} {n : Int}
noncomputable section
abbrev fFt : Nat := 58
abbrev fFv : Nat := 67
abbrev tFl : TypeId := 2 * 119
abbrev md : Md := .nothing
abbrev nilS : AV := slV none 0 0
def sF (i n : Nat) : AV := .slice i 0 n 6 (.lo n)
def sL (i n : Nat) : AV := .slice i 0 n 5 (.lo n)
def rF (R : List (Δ × Rv)) : AO := .cells (rowV encF R) tFl
def rV (R : List Rv) : AO := .cells (rowV encV R) tVl
def aggF (nm : Δ) (r : Rv) : AV := .agg [sv nm, iv r.k, iv r.n, sv r.t, slV r.la r.ll r.lc, slV r.ta r.tl r.tc]
def cFv (r : Rv) (LV TV : AV) (OL OT : AO) : List AV -> Option (AP AV) := mkC (fun _ => .ret ()) (fun _ => True) (fun _ k => k) (fun _ => [aggR r]) (fun _ => []) (fun _ => .leaf .ret [.agg [iv r.k, iv r.n, sv r.t, LV, TV]] [(1006, OL), (1007, OT)])
def cFt (oa : Option Addr) (n c : Nat) (FV : AV) (OF : AO) : List AV -> Option (AP AV) := mkC (fun _ => .ret ()) (fun _ => True) (fun _ k => k) (fun _ => [slV oa n c]) (fun _ => []) (fun _ => .leaf .ret [FV] [(1007, OF)])
def aFc (oa : Option Addr) (n c : Nat) (x : AV) (i : Nat) : List (Nat × AV) := [(2, x), (5, slV oa n c), (6, iv (o' n)), (7, iv (o' i))]
def oFc (R : List (Δ × Rv)) (P : Mem -> Prop) : LH := [(1000, rF R), (1001, .any (frz P))]
def hFc (i : Nat) (nm : Δ) (r : Rv) : AO' := AN' [ht' fFt 2 0, (fFt, 3, 1, hv (aggF nm r)), (fFt, 5, 0, hv (iv (o' (i + 1))))]
def hFcE : AO' := AN' [hf' fFt 2 0]
def kFc : List Nat := [1000, 1001, 1006, 1007, 1100, 1101, 1102, 1103, 1104, 1105]
def iFc : List Nat := [2, 5, 6, 7]
abbrev _root_.Go.Proofs.Ytjjjchmkonnpfaa.k18' : Cnd := (f' (Wk (i' 1) (i' 1)))
abbrev k19' (q0 : Rv) : Cnd := ((p' True).a (f' (VW [AV.agg [z' q0.k,z' q0.n,s' q0.t,v' (sl' q0.la q0.ll q0.lc),v' (sl' q0.ta q0.tl q0.tc)]] [AV.agg [z' q0.k,z' q0.n,s' q0.t,v' (sl' q0.la q0.ll q0.lc),v' (sl' q0.ta q0.tl q0.tc)]])))
abbrev k20' (q0 : Rv) : Cnd := (ee' [z' q0.k,z' q0.n,s' q0.t,v' (sl' q0.la q0.ll q0.lc),v' (sl' q0.ta q0.tl q0.tc)])
abbrev k21' (q0 : Δ) : Cnd := (ee' (s' q0))
theorem dW' (W : World) (a : Addr) (n c : Nat) (nm : Δ) (r : Rv) (LV TV : AV) (OL OT : AO) (F : HP) : BI' [(fFv, cFv r LV TV OL OT)] (hFc 0 nm r) [] W fFt (AB' fFt 2) (tms 0 22 (aFc (some a) n c nilS 0)) [] kFc iFc F = VT.leaf (AX.normal,[AV.slice 1104 0 1 6 (Cp.lo 1),v' (sl' (some a) n c),i' n,i' 1],22) [none,none,none,none,some (ce' [s' nm,z' r.k,z' r.n,s' r.t,v' (sl' r.la r.ll r.lc),v' (sl' r.ta r.tl r.tc)] 238),some (AO.ren (sgN (fun k => k) [1006,1007] 1101) OL),some (AO.ren (sgN (fun k => k) [1006,1007] 1101) OT),some (ce' [s' nm,z' r.k,z' r.n,s' r.t,(AV.ren (sgN (fun k => k) [1006,1007] 1101) LV),(AV.ren (sgN (fun k => k) [1006,1007] 1101) TV)] 238),some (ce' [s' nm,z' r.k,z' r.n,s' r.t,(AV.ren (sgN (fun k => k) [1006,1007] 1101) LV),(AV.ren (sgN (fun k => k) [1006,1007] 1101) TV)] 238),none] 1105 ((wb' (decide (o' 0 < o' n)) j').a ((f' (Nat.blt 0 n = true)).a (((p' (([0,1,2,3,4,5].all fun j => (W.cell? ((a.add 0).add j)).isSome) = true)).a ((p' ([v' ((W.cell? ((a.add 0).add 0)).getD (Value.tuple (Array.mk []))),v' ((W.cell? (Addr.mk (a.add 0).block ((a.add 0).off + 1) none)).getD (Value.tuple (Array.mk []))),v' ((W.cell? (Addr.mk (a.add 0).block ((a.add 0).off + 2) none)).getD (Value.tuple (Array.mk []))),v' ((W.cell? (Addr.mk (a.add 0).block ((a.add 0).off + 3) none)).getD (Value.tuple (Array.mk []))),v' ((W.cell? (Addr.mk (a.add 0).block ((a.add 0).off + 4) none)).getD (Value.tuple (Array.mk []))),v' ((W.cell? (Addr.mk (a.add 0).block ((a.add 0).off + 5) none)).getD (Value.tuple (Array.mk [])))] = [v' (vs' (v' ((W.cell? ((a.add 0).add 0)).getD (Value.tuple (Array.mk [])))).strOf),v' (vi' I' (v' ((W.cell? (Addr.mk (a.add 0).block ((a.add 0).off + 1) none)).getD (Value.tuple (Array.mk [])))).intOf),v' (vi' I' (v' ((W.cell? (Addr.mk (a.add 0).block ((a.add 0).off + 2) none)).getD (Value.tuple (Array.mk [])))).intOf),v' (vs' (v' ((W.cell? (Addr.mk (a.add 0).block ((a.add 0).off + 3) none)).getD (Value.tuple (Array.mk [])))).strOf),v' ((W.cell? (Addr.mk (a.add 0).block ((a.add 0).off + 4) none)).getD (Value.tuple (Array.mk []))),v' ((W.cell? (Addr.mk (a.add 0).block ((a.add 0).off + 5) none)).getD (Value.tuple (Array.mk [])))])).a (f' (Wk (AV.agg [v' (vs' (v' ((W.cell? ((a.add 0).add 0)).getD (Value.tuple (Array.mk [])))).strOf),v' (vi' I' (v' ((W.cell? (Addr.mk (a.add 0).block ((a.add 0).off + 1) none)).getD (Value.tuple (Array.mk [])))).intOf),v' (vi' I' (v' ((W.cell? (Addr.mk (a.add 0).block ((a.add 0).off + 2) none)).getD (Value.tuple (Array.mk [])))).intOf),v' (vs' (v' ((W.cell? (Addr.mk (a.add 0).block ((a.add 0).off + 3) none)).getD (Value.tuple (Array.mk [])))).strOf),v' ((W.cell? (Addr.mk (a.add 0).block ((a.add 0).off + 4) none)).getD (Value.tuple (Array.mk []))),v' ((W.cell? (Addr.mk (a.add 0).block ((a.add 0).off + 5) none)).getD (Value.tuple (Array.mk [])))]) (AV.agg [s' nm,z' r.k,z' r.n,s' r.t,v' (sl' r.la r.ll r.lc),v' (sl' r.ta r.tl r.tc)]))))).a (k12'.a ((k21' nm).a ((k20' r).a ((k19' r).a ((tt'.a (tt'.a ((p' ([s' nm,z' r.k,z' r.n,s' r.t,(AV.ren (sgN (fun k => k) [1006,1007] 1101) LV),(AV.ren (sgN (fun k => k) [1006,1007] 1101) TV)].all AV.one = true)).a (tt'.a (ee' true))))).a (k18'.a k1'))))))))) := χ
abbrev _root_.Go.Proofs.Ytjjjchmkonnpfaa.k22' (q0 : Nat) : Cnd := (f' (Wk (z' (IntKind.i64.wrap (o' q0 + o' 1))) (i' (q0 + 1))))
abbrev _root_.Go.Proofs.Ytjjjchmkonnpfaa.h23' (q0 q1 : Nat) (z : Cnd) : Cnd := ((wb' (decide (o' q0 < o' q1)) j').a ((f' (q0.blt q1 = true)).a z))
theorem dV' (W : World) (a : Addr) (n c m i : Nat) (nm : Δ) (r : Rv) (LV TV : AV) (OL OT : AO) (R : List (Δ × Rv)) (P : Mem -> Prop) (F : HP) : BI' [(fFv, cFv r LV TV OL OT)] (hFc i nm r) [] W fFt (AB' fFt 2) (tms 0 22 (aFc (some a) n c (sF 1000 m) i)) (oFc R P) kFc iFc F = VT.leaf (AX.normal,[AV.slice 1104 0 (m + 1) 6 (Cp.lo (m + 1)),v' (sl' (some a) n c),i' n,i' (i + 1)],22) [none,some (AO.any (frz P)),none,none,some (ce' [s' nm,z' r.k,z' r.n,s' r.t,v' (sl' r.la r.ll r.lc),v' (sl' r.ta r.tl r.tc)] 238),some (AO.ren (sgN (fun k => k) [1006,1007] 1101) OL),some (AO.ren (sgN (fun k => k) [1006,1007] 1101) OT),some (ce' [s' nm,z' r.k,z' r.n,s' r.t,(AV.ren (sgN (fun k => k) [1006,1007] 1101) LV),(AV.ren (sgN (fun k => k) [1006,1007] 1101) TV)] 238),some (ce' (List.take (m * 6) (List.drop 0 (rowV encF R)) ++ [s' nm,z' r.k,z' r.n,s' r.t,(AV.ren (sgN (fun k => k) [1006,1007] 1101) LV),(AV.ren (sgN (fun k => k) [1006,1007] 1101) TV)]) 238),none] 1105 (h23' i n (((p' (([0,1,2,3,4,5].all fun j => (W.cell? ((a.add (i * 6)).add j)).isSome) = true)).a ((p' ([v' ((W.cell? ((a.add (i * 6)).add 0)).getD (Value.tuple (Array.mk []))),v' ((W.cell? (Addr.mk (a.add (i * 6)).block ((a.add (i * 6)).off + 1) none)).getD (Value.tuple (Array.mk []))),v' ((W.cell? (Addr.mk (a.add (i * 6)).block ((a.add (i * 6)).off + 2) none)).getD (Value.tuple (Array.mk []))),v' ((W.cell? (Addr.mk (a.add (i * 6)).block ((a.add (i * 6)).off + 3) none)).getD (Value.tuple (Array.mk []))),v' ((W.cell? (Addr.mk (a.add (i * 6)).block ((a.add (i * 6)).off + 4) none)).getD (Value.tuple (Array.mk []))),v' ((W.cell? (Addr.mk (a.add (i * 6)).block ((a.add (i * 6)).off + 5) none)).getD (Value.tuple (Array.mk [])))] = [v' (vs' (v' ((W.cell? ((a.add (i * 6)).add 0)).getD (Value.tuple (Array.mk [])))).strOf),v' (vi' I' (v' ((W.cell? (Addr.mk (a.add (i * 6)).block ((a.add (i * 6)).off + 1) none)).getD (Value.tuple (Array.mk [])))).intOf),v' (vi' I' (v' ((W.cell? (Addr.mk (a.add (i * 6)).block ((a.add (i * 6)).off + 2) none)).getD (Value.tuple (Array.mk [])))).intOf),v' (vs' (v' ((W.cell? (Addr.mk (a.add (i * 6)).block ((a.add (i * 6)).off + 3) none)).getD (Value.tuple (Array.mk [])))).strOf),v' ((W.cell? (Addr.mk (a.add (i * 6)).block ((a.add (i * 6)).off + 4) none)).getD (Value.tuple (Array.mk []))),v' ((W.cell? (Addr.mk (a.add (i * 6)).block ((a.add (i * 6)).off + 5) none)).getD (Value.tuple (Array.mk [])))])).a (f' (Wk (AV.agg [v' (vs' (v' ((W.cell? ((a.add (i * 6)).add 0)).getD (Value.tuple (Array.mk [])))).strOf),v' (vi' I' (v' ((W.cell? (Addr.mk (a.add (i * 6)).block ((a.add (i * 6)).off + 1) none)).getD (Value.tuple (Array.mk [])))).intOf),v' (vi' I' (v' ((W.cell? (Addr.mk (a.add (i * 6)).block ((a.add (i * 6)).off + 2) none)).getD (Value.tuple (Array.mk [])))).intOf),v' (vs' (v' ((W.cell? (Addr.mk (a.add (i * 6)).block ((a.add (i * 6)).off + 3) none)).getD (Value.tuple (Array.mk [])))).strOf),v' ((W.cell? (Addr.mk (a.add (i * 6)).block ((a.add (i * 6)).off + 4) none)).getD (Value.tuple (Array.mk []))),v' ((W.cell? (Addr.mk (a.add (i * 6)).block ((a.add (i * 6)).off + 5) none)).getD (Value.tuple (Array.mk [])))]) (AV.agg [s' nm,z' r.k,z' r.n,s' r.t,v' (sl' r.la r.ll r.lc),v' (sl' r.ta r.tl r.tc)]))))).a (k12'.a ((k21' nm).a ((k20' r).a ((k19' r).a ((tt'.a (tt'.a ((p' ([s' nm,z' r.k,z' r.n,s' r.t,(AV.ren (sgN (fun k => k) [1006,1007] 1101) LV),(AV.ren (sgN (fun k => k) [1006,1007] 1101) TV)].all AV.one = true)).a (tt'.a ((p' ((0 + m * 6).ble (rowV encF R).length = true)).a ((p' (((m + 1) * 96).ble 140737488355328 = true)).a ((p' ((m + 1).ble 9223372036854775807 = true)).a (f' ((List.take (m * 6) (List.drop 0 (rowV encF R))).length.beq (m * 6) = true))))))))).a ((k22' i).a k1')))))))) := χ
theorem YR' (W : World) (oa : Option Addr) (n c : Nat) (F : HP) : BI' [] hFcE [] W fFt (AB' fFt 2) (tms 0 22 (aFc oa n c nilS 0)) [] kFc iFc F = VT.leaf (AX.exit 0,[e',v' (sl' oa n c),i' n,i' 0],22) [none,none,none,none,none,none,none,none,none,none] 1100 ((wb' (decide (o' 0 < o' n)) g').a k1') := χ
abbrev _root_.Go.Proofs.Ytjjjchmkonnpfaa.k24' (q0 : Nat) : Cnd := (wb' (decide (o' q0 < o' q0)) g')
theorem YQ' (W : World) (oa : Option Addr) (n c m : Nat) (R : List (Δ × Rv)) (P : Mem -> Prop) (F : HP) : BI' [] hFcE [] W fFt (AB' fFt 2) (tms 0 22 (aFc oa n c (sF 1000 m) n)) (oFc R P) kFc iFc F = VT.leaf (AX.exit 0,[AV.slice 1000 0 m 6 (Cp.lo m),v' (sl' oa n c),i' n,i' n],22) [some (ce' (rowV encF R) 238),some (AO.any (frz P)),none,none,none,none,none,none,none,none] 1100 ((k24' n).a k1') := χ
end
noncomputable section
def z0 : Rv := ⟨0, 0, ⟨⟨[]⟩⟩, none, 0, 0, none, 0, 0⟩
def oZ0 : AO := .cells (vmap z0.cells) tVl
def aFv (r : Rv) (x : AV) (i : Nat) : List (Nat × AV) := [(1, .ptr 1000 0), (2, .ptr 1004 0), (3, x), (7, slV r.la r.ll r.lc), (8, iv (o' r.ll)), (9, iv (o' i))]
def oFv (r : Rv) (R : List Rv) (P : Mem -> Prop) : LH := [(1000, .cells (vmap r.cells) tVl), (1001, .any (frz P)), (1002, rV R), (1004, oZ0)]
def oF0 (r : Rv) : LH := [(1000, .cells (vmap r.cells) tVl), (1004, oZ0)]
def hFv (i : Nat) (x : Rv) : AO' := AN' [ht' fFv 3 0, (fFv, 4, 1, hv (aggR x)), (fFv, 6, 0, hv (iv (o' (i + 1))))]
def hFvE : AO' := AN' [hf' fFv 3 0]
def kFv : List Nat := [1000, 1001, 1002, 1004, 1006, 1007, 1100, 1101, 1102, 1103, 1104, 1105]
def iFv : List Nat := [1, 2, 3, 7, 8, 9]
abbrev _root_.Go.Proofs.Ytjjjchmkonnpfaa.y0' : Δ := ByteArray.mk (Array.mk [])
theorem dU' (W : World) (r : Rv) (a : Addr) (x : Rv) (LV TV : AV) (OL OT : AO) (F : HP) : BI' [(fFv, cFv x LV TV OL OT)] (hFv 0 x) [] W fFv (AB' fFv 3) (tms 0 26 (aFv { r with la := some a } nilS 0)) (oF0 { r with la := some a }) kFv iFv F = VT.leaf (AX.normal,[pt' 1000 0,pt' 1004 0,AV.slice 1104 0 1 5 (Cp.lo 1),v' (sl' (some a) r.ll r.lc),i' r.ll,i' 1],26) [some (ce' [z' r.k,z' r.n,s' r.t,v' (sl' (some a) r.ll r.lc),v' (sl' r.ta r.tl r.tc)] 234),none,none,some (ce' [i' 0,i' 0,s' y0',e',e'] 234),none,none,some (ce' [z' x.k,z' x.n,s' x.t,v' (sl' x.la x.ll x.lc),v' (sl' x.ta x.tl x.tc)] 234),some (AO.ren (sgN (fun k => k) [1006,1007] 1101) OL),some (AO.ren (sgN (fun k => k) [1006,1007] 1101) OT),some (ce' [z' x.k,z' x.n,s' x.t,(AV.ren (sgN (fun k => k) [1006,1007] 1101) LV),(AV.ren (sgN (fun k => k) [1006,1007] 1101) TV)] 234),some (ce' [z' x.k,z' x.n,s' x.t,(AV.ren (sgN (fun k => k) [1006,1007] 1101) LV),(AV.ren (sgN (fun k => k) [1006,1007] 1101) TV)] 234),none] 1105 ((wb' (decide (o' 0 < o' r.ll)) j').a ((f' (Nat.blt 0 r.ll = true)).a (((p' (([0,1,2,3,4].all fun j => (W.cell? ((a.add 0).add j)).isSome) = true)).a ((p' ([v' ((W.cell? ((a.add 0).add 0)).getD (Value.tuple (Array.mk []))),v' ((W.cell? (Addr.mk (a.add 0).block ((a.add 0).off + 1) none)).getD (Value.tuple (Array.mk []))),v' ((W.cell? (Addr.mk (a.add 0).block ((a.add 0).off + 2) none)).getD (Value.tuple (Array.mk []))),v' ((W.cell? (Addr.mk (a.add 0).block ((a.add 0).off + 3) none)).getD (Value.tuple (Array.mk []))),v' ((W.cell? (Addr.mk (a.add 0).block ((a.add 0).off + 4) none)).getD (Value.tuple (Array.mk [])))] = [v' (vi' I' (v' ((W.cell? ((a.add 0).add 0)).getD (Value.tuple (Array.mk [])))).intOf),v' (vi' I' (v' ((W.cell? (Addr.mk (a.add 0).block ((a.add 0).off + 1) none)).getD (Value.tuple (Array.mk [])))).intOf),v' (vs' (v' ((W.cell? (Addr.mk (a.add 0).block ((a.add 0).off + 2) none)).getD (Value.tuple (Array.mk [])))).strOf),v' ((W.cell? (Addr.mk (a.add 0).block ((a.add 0).off + 3) none)).getD (Value.tuple (Array.mk []))),v' ((W.cell? (Addr.mk (a.add 0).block ((a.add 0).off + 4) none)).getD (Value.tuple (Array.mk [])))])).a (f' (Wk (AV.agg [v' (vi' I' (v' ((W.cell? ((a.add 0).add 0)).getD (Value.tuple (Array.mk [])))).intOf),v' (vi' I' (v' ((W.cell? (Addr.mk (a.add 0).block ((a.add 0).off + 1) none)).getD (Value.tuple (Array.mk [])))).intOf),v' (vs' (v' ((W.cell? (Addr.mk (a.add 0).block ((a.add 0).off + 2) none)).getD (Value.tuple (Array.mk [])))).strOf),v' ((W.cell? (Addr.mk (a.add 0).block ((a.add 0).off + 3) none)).getD (Value.tuple (Array.mk []))),v' ((W.cell? (Addr.mk (a.add 0).block ((a.add 0).off + 4) none)).getD (Value.tuple (Array.mk [])))]) (AV.agg [z' x.k,z' x.n,s' x.t,v' (sl' x.la x.ll x.lc),v' (sl' x.ta x.tl x.tc)]))))).a (k12'.a ((k20' x).a ((k19' x).a ((tt'.a (tt'.a ((p' ([z' x.k,z' x.n,s' x.t,(AV.ren (sgN (fun k => k) [1006,1007] 1101) LV),(AV.ren (sgN (fun k => k) [1006,1007] 1101) TV)].all AV.one = true)).a (tt'.a (ee' true))))).a (k18'.a k1')))))))) := χ
theorem dT' (W : World) (r : Rv) (a : Addr) (x : Rv) (m i : Nat) (LV TV : AV) (OL OT : AO) (R : List Rv) (P : Mem -> Prop) (F : HP) : BI' [(fFv, cFv x LV TV OL OT)] (hFv i x) [] W fFv (AB' fFv 3) (tms 0 26 (aFv { r with la := some a } (sL 1002 m) i)) (oFv { r with la := some a } R P) kFv iFv F = VT.leaf (AX.normal,[pt' 1000 0,pt' 1004 0,AV.slice 1104 0 (m + 1) 5 (Cp.lo (m + 1)),v' (sl' (some a) r.ll r.lc),i' r.ll,i' (i + 1)],26) [some (ce' [z' r.k,z' r.n,s' r.t,v' (sl' (some a) r.ll r.lc),v' (sl' r.ta r.tl r.tc)] 234),some (AO.any (frz P)),none,some (ce' [i' 0,i' 0,s' y0',e',e'] 234),none,none,some (ce' [z' x.k,z' x.n,s' x.t,v' (sl' x.la x.ll x.lc),v' (sl' x.ta x.tl x.tc)] 234),some (AO.ren (sgN (fun k => k) [1006,1007] 1101) OL),some (AO.ren (sgN (fun k => k) [1006,1007] 1101) OT),some (ce' [z' x.k,z' x.n,s' x.t,(AV.ren (sgN (fun k => k) [1006,1007] 1101) LV),(AV.ren (sgN (fun k => k) [1006,1007] 1101) TV)] 234),some (ce' (List.take (m * 5) (List.drop 0 (rowV encV R)) ++ [z' x.k,z' x.n,s' x.t,(AV.ren (sgN (fun k => k) [1006,1007] 1101) LV),(AV.ren (sgN (fun k => k) [1006,1007] 1101) TV)]) 234),none] 1105 ((wb' (decide (o' i < o' r.ll)) j').a (h11' i r W a x (k12'.a ((k20' x).a ((k19' x).a ((tt'.a (tt'.a ((p' ([z' x.k,z' x.n,s' x.t,(AV.ren (sgN (fun k => k) [1006,1007] 1101) LV),(AV.ren (sgN (fun k => k) [1006,1007] 1101) TV)].all AV.one = true)).a (tt'.a ((p' ((0 + m * 5).ble (rowV encV R).length = true)).a ((p' (((m + 1) * 80).ble 140737488355328 = true)).a ((p' ((m + 1).ble 9223372036854775807 = true)).a (f' ((List.take (m * 5) (List.drop 0 (rowV encV R))).length.beq (m * 5) = true))))))))).a ((k22' i).a k1'))))))) := χ
abbrev k25' (q0 : Rv) : Cnd := (wb' (decide (o' q0.ll < o' q0.ll)) g')
theorem YP' (W : World) (r : Rv) (F : HP) : BI' [] hFvE [] W fFv (AB' fFv 3) (tms 0 26 (aFv r nilS r.ll)) (oF0 r) kFv iFv F = VT.leaf (AX.exit 0,[pt' 1000 0,pt' 1004 0,e',v' (sl' r.la r.ll r.lc),i' r.ll,i' r.ll],26) [some (ce' [z' r.k,z' r.n,s' r.t,v' (sl' r.la r.ll r.lc),v' (sl' r.ta r.tl r.tc)] 234),none,none,some (ce' [i' 0,i' 0,s' y0',e',e'] 234),none,none,none,none,none,none,none,none] 1100 ((k25' r).a k1') := χ
theorem YO' (W : World) (r : Rv) (m : Nat) (R : List Rv) (P : Mem -> Prop) (F : HP) : BI' [] hFvE [] W fFv (AB' fFv 3) (tms 0 26 (aFv r (sL 1002 m) r.ll)) (oFv r R P) kFv iFv F = VT.leaf (AX.exit 0,[pt' 1000 0,pt' 1004 0,AV.slice 1002 0 m 5 (Cp.lo m),v' (sl' r.la r.ll r.lc),i' r.ll,i' r.ll],26) [some (ce' [z' r.k,z' r.n,s' r.t,v' (sl' r.la r.ll r.lc),v' (sl' r.ta r.tl r.tc)] 234),some (AO.any (frz P)),some (ce' (rowV encV R) 234),some (ce' [i' 0,i' 0,s' y0',e',e'] 234),none,none,none,none,none,none,none,none] 1100 ((k25' r).a k1') := χ
def lFt (oa : Option Addr) (n c : Nat) (FV : AV) (OF : AO) : List AV -> AP (AX × List AV) := mkL (fun _ => .ret ()) (fun _ => True) (fun _ k => k) (fun _ => tms 0 22 (aFc oa n c nilS 0)) (fun _ => []) (fun _ => .leaf (.exit 0) (tms 0 22 [(2, FV)]) [(1007, OF)])
theorem VE' (W : World) (oa : Option Addr) (n c : Nat) (FV : AV) (OF : AO) (F : HP) : wRun [] AF' [(fFt, 2, AB' fFt 2, lFt oa n c FV OF)] W fFt [slV oa n c] [] [1007, 1100, 1101, 1102] F = VT.leaf ([a',a',getL [a',a',(AV.ren (sgN (fun k => k) [1007] 1100) FV),a',a',a',a',a',a',a',a',a',a',a',a',a',a',a',a',a',a',getL [a',a',(AV.ren (sgN (fun k => k) [1007] 1100) FV),a',a',a',a',a',a',a',a',a',a',a',a',a',a',a',a',a',a',a'] 2] 21,a',a',a',a',a',a',a',a',a',a',a',a',a',a',a',a',a',a',getL [a',a',(AV.ren (sgN (fun k => k) [1007] 1100) FV),a',a',a',a',a',a',a',a',a',a',a',a',a',a',a',a',a',a',a'] 2].getD 2 (u')).plain [none,some (AO.ren (sgN (fun k => k) [1007] 1100) OF),none,none] 1101 ((p' ((fFt,2,AB' fFt 2,lFt oa n c FV OF).snd.snd.fst = (fFt,2,AB' fFt 2,lFt oa n c FV OF).snd.snd.fst)).a (k9'.a ((p' (VW (v' (sl' oa n c)::u'::e'::u'::u'::v' (sl' oa n c)::z' ↑n::i' 0::ru8 (ru4 (u'::u'::[]))) (a'::a'::e'::a'::a'::v' (sl' oa n c)::i' n::i' 0::ra8 (ra4 (a'::a'::[]))))).a k1'))) := χ
def gFv : List AV -> AP (Nat × Nat) := fun tmps => match getL tmps 1 with
 | .ptr a _ => match getL tmps 2 with
  | .ptr b _ => .ret (a, b)
  | _ => .fail "copy value"
 | _ => .fail "copy value"
def nmFv (q : Nat × Nat) : Nat -> Nat := fun k => match Nat.beq k 1000 with
 | true => q.1
 | false => match Nat.beq k 1004 with
  | true => q.2
  | false => k
def lFv (r : Rv) (LV : AV) (OL : AO) : List AV -> AP (AX × List AV) := mkL gFv (fun _ => True) nmFv (fun _ => tms 0 26 (aFv r nilS 0)) (fun _ => oF0 r) (fun _ => .leaf (.exit 0) (tms 0 26 [(1, .ptr 1000 0), (2, .ptr 1004 0), (3, LV)]) [(1000, .cells (vmap r.cells) tVl), (1004, oZ0), (1006, OL)])
abbrev _root_.Go.Proofs.Ytjjjchmkonnpfaa.h26' (z : Cnd) : Cnd := ((fe' true).a (tt'.a z))
abbrev h27' (q0 : Rv) (q1 q2 : Nat) (z : Cnd) : Cnd := ((p' True).a ((p' (VW (AV.agg [z' q0.k,z' q0.n,s' q0.t,v' (sl' q0.la q0.ll q0.lc),v' (sl' q0.ta q0.tl q0.tc)]::pt' q1 0::pt' q2 0::e'::u'::u'::pt' q1 3::v' (sl' q0.la q0.ll q0.lc)::z' ↑q0.ll::i' 0::ru16 ([])) (a'::pt' q1 0::pt' q2 0::e'::a'::a'::a'::v' (sl' q0.la q0.ll q0.lc)::i' q0.ll::i' 0::ra16 ([])))).a ((ow' (ce' [z' q0.k,z' q0.n,s' q0.t,v' (sl' q0.la q0.ll q0.lc),v' (sl' q0.ta q0.tl q0.tc)] 234)).a ((ow' (ce' [i' 0,i' 0,s' y0',e',e'] 234)).a ((fe' true).a (((p' True).a (f' (VW [v' (sl' q0.ta q0.tl q0.tc)] [v' (sl' q0.ta q0.tl q0.tc)]))).a ((fe' true).a ((fe' true).a z))))))))
abbrev k28' (q0 : Rv) (q1 : AO) : Cnd := (p' ((fFv,3,AB' fFv 3,lFv q0 nilS q1).snd.snd.fst = (fFv,3,AB' fFv 3,lFv q0 nilS q1).snd.snd.fst))
theorem YK' (W : World) (r : Rv) (OL OF : AO) (F : HP) : wRun [(fFt, cFt r.ta r.tl r.tc nilS OF)] AF' [(fFv, 3, AB' fFv 3, lFv r nilS OL)] W fFv [aggR r] [] [1006, 1007, 1100, 1101, 1102, 1103, 1104, 1105] F = VT.leaf (AV.agg [z' r.k,z' r.n,s' r.t,e',e']) [none,none,none,none,some (ce' [z' r.k,z' r.n,s' r.t,e',e'] 234),some (ce' [z' r.k,z' r.n,s' r.t,e',e'] 234),some (AO.ren (sgN (nmFv (1100,1101)) [1000,1004,1006] 1102) OL),some (AO.ren (sgN (fun k => k) [1007] 1105) OF)] 1106 (k12'.a ((k28' r OL).a (h27' r 1100 1101 ((ee' [z' r.k,z' r.n,s' r.t,e',e']).a (h26' ((p' ([z' r.k,z' r.n,s' r.t,e',e'] = [z' r.k,z' r.n,s' r.t,e',e'])).a k1')))))) := χ
theorem YL' (W : World) (r : Rv) (OL OF : AO) (F : HP) : wRun [(fFt, cFt r.ta r.tl r.tc (sF 1007 r.tl) OF)] AF' [(fFv, 3, AB' fFv 3, lFv r nilS OL)] W fFv [aggR r] [] [1006, 1007, 1100, 1101, 1102, 1103, 1104, 1105] F = VT.leaf (AV.agg [z' r.k,z' r.n,s' r.t,e',AV.slice 1105 0 r.tl 6 (Cp.lo r.tl)]) [none,none,none,none,some (ce' [z' r.k,z' r.n,s' r.t,e',AV.slice 1105 0 r.tl 6 (Cp.lo r.tl)] 234),some (ce' [z' r.k,z' r.n,s' r.t,e',AV.slice 1105 0 r.tl 6 (Cp.lo r.tl)] 234),some (AO.ren (sgN (nmFv (1100,1101)) [1000,1004,1006] 1102) OL),some (AO.ren (sgN (fun k => k) [1007] 1105) OF)] 1106 (k12'.a ((k28' r OL).a (h27' r 1100 1101 ((ee' [z' r.k,z' r.n,s' r.t,e',AV.slice 1105 0 r.tl 6 (Cp.lo r.tl)]).a (h26' ((p' ([z' r.k,z' r.n,s' r.t,e',AV.slice 1105 0 r.tl 6 (Cp.lo r.tl)] = [z' r.k,z' r.n,s' r.t,e',AV.slice 1105 0 r.tl 6 (Cp.lo r.tl)])).a k1')))))) := χ
abbrev k29' (q0 : Rv) (q1 : Nat) (q2 : AO) : Cnd := (p' ((fFv,3,AB' fFv 3,lFv q0 (sL q1 q0.ll) q2).snd.snd.fst = (fFv,3,AB' fFv 3,lFv q0 (sL q1 q0.ll) q2).snd.snd.fst))
theorem YM' (W : World) (r : Rv) (OL OF : AO) (F : HP) : wRun [(fFt, cFt r.ta r.tl r.tc nilS OF)] AF' [(fFv, 3, AB' fFv 3, lFv r (sL 1006 r.ll) OL)] W fFv [aggR r] [] [1006, 1007, 1100, 1101, 1102, 1103, 1104, 1105] F = VT.leaf (AV.agg [z' r.k,z' r.n,s' r.t,AV.slice 1104 0 r.ll 5 (Cp.lo r.ll),e']) [none,none,none,none,some (ce' [z' r.k,z' r.n,s' r.t,AV.slice 1104 0 r.ll 5 (Cp.lo r.ll),e'] 234),some (ce' [z' r.k,z' r.n,s' r.t,AV.slice 1104 0 r.ll 5 (Cp.lo r.ll),e'] 234),some (AO.ren (sgN (nmFv (1100,1101)) [1000,1004,1006] 1102) OL),some (AO.ren (sgN (fun k => k) [1007] 1105) OF)] 1106 (k12'.a ((k29' r 1006 OL).a (h27' r 1100 1101 ((ee' [z' r.k,z' r.n,s' r.t,AV.slice 1104 0 r.ll 5 (Cp.lo r.ll),e']).a (h26' ((p' ([z' r.k,z' r.n,s' r.t,AV.slice 1104 0 r.ll 5 (Cp.lo r.ll),e'] = [z' r.k,z' r.n,s' r.t,AV.slice 1104 0 r.ll 5 (Cp.lo r.ll),e'])).a k1')))))) := χ
theorem YN' (W : World) (r : Rv) (OL OF : AO) (F : HP) : wRun [(fFt, cFt r.ta r.tl r.tc (sF 1007 r.tl) OF)] AF' [(fFv, 3, AB' fFv 3, lFv r (sL 1006 r.ll) OL)] W fFv [aggR r] [] [1006, 1007, 1100, 1101, 1102, 1103, 1104, 1105] F = VT.leaf (AV.agg [z' r.k,z' r.n,s' r.t,AV.slice 1104 0 r.ll 5 (Cp.lo r.ll),AV.slice 1105 0 r.tl 6 (Cp.lo r.tl)]) [none,none,none,none,some (ce' [z' r.k,z' r.n,s' r.t,AV.slice 1104 0 r.ll 5 (Cp.lo r.ll),AV.slice 1105 0 r.tl 6 (Cp.lo r.tl)] 234),some (ce' [z' r.k,z' r.n,s' r.t,AV.slice 1104 0 r.ll 5 (Cp.lo r.ll),AV.slice 1105 0 r.tl 6 (Cp.lo r.tl)] 234),some (AO.ren (sgN (nmFv (1100,1101)) [1000,1004,1006] 1102) OL),some (AO.ren (sgN (fun k => k) [1007] 1105) OF)] 1106 (k12'.a ((k29' r 1006 OL).a (h27' r 1100 1101 ((ee' [z' r.k,z' r.n,s' r.t,AV.slice 1104 0 r.ll 5 (Cp.lo r.ll),AV.slice 1105 0 r.tl 6 (Cp.lo r.tl)]).a (h26' ((p' ([z' r.k,z' r.n,s' r.t,AV.slice 1104 0 r.ll 5 (Cp.lo r.ll),AV.slice 1105 0 r.tl 6 (Cp.lo r.tl)] = [z' r.k,z' r.n,s' r.t,AV.slice 1104 0 r.ll 5 (Cp.lo r.ll),AV.slice 1105 0 r.tl 6 (Cp.lo r.tl)])).a k1')))))) := χ
end
theorem R6' {a b : List AV} {D : Nat -> Prop} (h : OR N i (.cells (a ++ b) e) D w) : ∃ yb, VRs N b yb /\ ∀ c : List AV, c.length = b.length -> VRs N c yb -> OR N i (.cells (a ++ c) e) D w := by
 obtain ⟨l, arr, fz, h1, h2, h3, h4, h5, h6, h7, h8⟩ := h; obtain ⟨ys, hys⟩ : ∃ ys, (arr.toList.drop l.off).take (a ++ b).length = ys := ⟨_, rfl⟩
 have key : ∀ (a : List AV) (ys : List Value), VRs N (a ++ b) ys -> ∃ yb, VRs N b yb /\ ∀ c : List AV, VRs N c yb -> VRs N (a ++ c) ys := by
  intro a
  induction a with
  | nil => exact fun ys hy => ⟨ys, hy, fun c hc => hc⟩
  | cons x a ih =>
   intro ys hy; obtain ⟨y, r, q1, q2, rfl⟩ := hy; obtain ⟨yb, q3, q4⟩ := ih r q2
   exact ⟨yb, q3, fun c hc => ⟨y, r, q1, q4 c hc, rfl⟩⟩
 rw [hys] at h7; obtain ⟨yb, q3, q4⟩ := key a ys h7
 refine ⟨yb, q3, fun c hc hv => ⟨l, arr, fz, h1, h2, h3, h4, ?_, h6, ?_, h8⟩⟩
 ·rw [la', hc, <- la']; exact h5
 ·rw [la', hc, <- la', hys]; exact q4 c hv
theorem S0' (hl : A6' 1100 H = true) (hs : St W0 F N H vs ys w) (i k : Nat) (S : List Nat) (hik : i ≠ k) (hiS : i ∉ S) (hkS : k ∉ S) {a b : List AV} {ok : AO}
  (hi : getO H i = some (.cells (a ++ b) e)) (hk : getO H k = some ok) (hkl : ∀ N1 D w, OR N1 k ok D w -> ∀ b, D b -> b < w.heap.size) (Q : List Value -> Mem -> Prop)
  (core : ∀ (N1 : A4') (D : Nat -> Nat -> Prop), (∀ n o, getO H n = some o -> OR N1 n o (D n) w) -> ∀ yb, VRs N1 b yb -> ∃ c : List Value, c.length = b.length /\ VRs N1 (vmap c) yb /\ Q c (CB' (fun x => D k x \/ ∃ j, j ∈ S /\ (∃ o, getO H j = some o) /\ D j x) w)) :
  ∃ c, (∃ C, Q c C) /\ ∀ (H' : LH) (Q' : Mem -> Prop), A6' 1100 H' = true -> getO H' i = some (.cells (a ++ vmap c) e) -> getO H' k = some (.any (frz Q')) -> (∀ C, Q c C -> Q' C) -> (∀ n o, n ≠ i -> n ≠ k -> getO H' n = some o -> n ∉ S /\ getO H n = some o) ->
   AV.cls (fun n => Nat.blt n 1000 || (getO H' n).isSome) vs -> (∀ x ∈ H', x.2.cl (fun n => Nat.blt n 1000 || (getO H' n).isSome)) -> St W0 F N H' vs ys w := by
 obtain ⟨N1, g1, g2, r, hvs⟩ := hs; obtain ⟨D0, D, h1, h2, h3⟩ := r.sat; have hf : ∀ n, (AD' H).find n = getO H n := A8' (EV' hl)
 have h2' : ∀ n o, getO H n = some o -> OR N1 n o (D n) w /\ ∀ b, D n b -> ¬ D0 b := fun n o hn => h2 n o (by rw [hf]; exact hn)
 obtain ⟨yb, q1, q2⟩ := R6' (h2' i _ hi).1; obtain ⟨c, c1, c2, c3⟩ := core N1 D (fun n o hn => (h2' n o hn).1) yb q1
 refine ⟨c, ⟨_, c3⟩, fun H' Q' hl' hi' hk' hQ hn hv ho => I1' hl' g1 (MJ' hl hl' r h1 h2' (fun n m o o' hn hm => h3 n m o o' (by rw [hf]; exact hn) (by rw [hf]; exact hm)) k (fun n => n ∈ S) hkS hk (fun n o' hnk hno => ?_) fun o' hko => ?_) hvs hv ho⟩
 ·by_cases hni : n = i
  ·subst hni; rw [hi'] at hno; cases hno; exact ⟨hiS, _, hi, q2 _ (by rw [show (vmap c).length = c.length by simp [vmap]]; exact c1) c2⟩
  ·obtain ⟨a1, a2⟩ := hn n o' hni hnk hno; exact ⟨a1, o', a2, (h2' n o' a2).1⟩
 ·rw [hk'] at hko; cases hko
  refine ⟨hQ _ c3, fun b hb => ?_⟩
  rcases hb with hb | ⟨j, _, ⟨oj, hj⟩, hb⟩
  ·exact (h2' k _ hk).1.lt b hb
  ·exact (h2' j _ hj).1.lt b hb
theorem five {k : Int} {LV TV : AV} {yb : List Value} (h : VRs N [iv k, iv n, sv t, LV, TV] yb) : ∃ yl yt, VR N LV yl /\ VR N TV yt /\ yb = [.int .i64 k, .int .i64 n, .string t, yl, yt] := by
 obtain ⟨y0, r0, a0, h, rfl⟩ := h; obtain ⟨y1, r1, a1, h, rfl⟩ := h; obtain ⟨y2, r2, a2, h, rfl⟩ := h; obtain ⟨y3, r3, a3, h, rfl⟩ := h; obtain ⟨y4, r4, a4, h, rfl⟩ := h; have h : r4 = [] := h; subst h; have a0 : y0 = .int .i64 k := VR_v.1 a0; have a1 : y1 = .int .i64 n := VR_v.1 a1; have a2 : y2 = .string t := VR_v.1 a2; subst a0 a1 a2; exact ⟨y3, y4, a3, a4, rfl⟩
def QV (d : Nat) (v : Tv) (c : List Value) (C : Mem) : Prop := ∃ r : Rv, c = r.cells /\ VAt C (d + 1) v r
theorem J0' {r r' : Rv} (h : r.cells = r'.cells) : r = r' := by
 obtain ⟨a, b, c, d, e, f, g, i, j⟩ := r; obtain ⟨a', b', c', d', e', f', g', i', j'⟩ := r'; simp only [Rv.cells, List.cons.injEq, Value.int.injEq, Value.string.injEq, Value.slice.injEq, true_and, and_true] at h; obtain ⟨rfl, rfl, rfl, ⟨rfl, rfl, rfl⟩, rfl, rfl, rfl⟩ := h; rfl
theorem LR' {cs : List Value} {D : Nat -> Prop} (h : OR N i (.cells (vmap cs) (2 * e)) D w) : ∃ l, N i = some l /\ l.off = 0 /\ ∀ j u, cs[j]? = some u -> CB' D w ⟨l.blk, j, none⟩ = some u := by
 obtain ⟨l, arr, fz, h1, h2, h3, h4, h5, h6, h7, h8⟩ := h; obtain ⟨z, _⟩ := h8 (Nat.mul_mod_right 2 e)
 refine ⟨l, h1, z, fun j u hj => ?_⟩
 rw [SI' ((h2 _).2 rfl)]; have h7 := VRs.of_vmap h7
 have hlen : (vmap cs).length = cs.length := by simp [vmap]
 rw [z, List.drop_zero, hlen] at h7; unfold World.cell?; simp only [h3]; have hj' := (List.getElem?_eq_some_iff.1 hj).1
 have : (arr.toList.take cs.length)[j]? = some u := by rw [h7]; exact hj
 rw [List.getElem?_take_of_lt hj'] at this; simpa using this
theorem aM' {α : Type} {f : α -> List Value} {m : Nat} (hf : ∀ x, (f x).length = m) : ∀ (l : List α) (k j : Nat) (x : α), l[k]? = some x -> j < m -> (l.flatMap f)[k * m + j]? = (f x)[j]?
 | [], k, j, x, h, _ => by simp at h
 | y :: l, 0, j, x, h, hj => by
  simp only [List.getElem?_cons_zero, Option.some.injEq] at h; subst h; rw [List.flatMap_cons, Nat.zero_mul, Nat.zero_add, List.getElem?_append_left (by rw [hf]; exact hj)]
 | y :: l, k + 1, j, x, h, hj => by
  rw [List.getElem?_cons_succ] at h
  rw [List.flatMap_cons, List.getElem?_append_right (by rw [hf, Nat.succ_mul]; omega), hf, show (k + 1) * m + j - m = k * m + j from by rw [Nat.succ_mul]; omega]
  exact aM' hf l k j x h hj
theorem f8' (b n j : Nat) : ((Addr.mk b 0 none).add n).add j = Addr.mk b (n + j) none := by
 unfold Addr.add; split
 ·rename_i hj; subst hj; split
  ·rename_i hn; subst hn; rfl
  ·show Addr.mk b (0 + n) none = _; rw [Nat.zero_add, Nat.add_zero]
 ·split
  ·rename_i hn; subst hn; rfl
  ·show Addr.mk b (0 + n + j) none = _; rw [Nat.zero_add]
theorem UK' {α : Type} {f : α -> List Value} {m : Nat} (hf : ∀ x, (f x).length = m) {R : List α} {D : Nat -> Prop} (h : OR N i (.cells (rowV f R) (2 * e)) D w) :
  ∃ l, N i = some l /\ l.off = 0 /\ ∀ k x, R[k]? = some x -> Cells (CB' D w) ((Addr.mk l.blk 0 none).add (k * m)) (f x) := by
 obtain ⟨l, h1, h2, h3⟩ := LR' (cs := R.flatMap f) h
 refine ⟨l, h1, h2, fun k x hx j u hu => ?_⟩
 rw [f8']; refine h3 _ _ ?_; rw [aM' hf R k j x hx (by rw [<- hf x]; exact (List.getElem?_eq_some_iff.1 hu).1)]; exact hu
theorem RX' {H' : LH} (hl : A6' 1100 H = true) (hl' : A6' 1100 H' = true) (hs : St W0 F N H vs ys w) (i k : Nat) (hik : i ≠ k) {oi o2 : AO} {P : Mem -> Prop}
  (hi : getO H i = some oi) (hk : getO H k = some (.any (frz P))) (hi' : getO H' i = some o2) (hk' : getO H' k = none) (hn : ∀ n o, n ≠ i -> n ≠ k -> getO H' n = some o -> getO H n = some o)
  (core : ∀ N1 Di Dk, OR N1 i oi Di w -> P (CB' Dk w) -> (∀ b, Dk b -> b < w.heap.size) -> (∀ b, Di b -> ¬ Dk b) -> OR N1 i o2 (fun x => Di x \/ Dk x) w)
  (hv : AV.cls (fun n => Nat.blt n 1000 || (getO H' n).isSome) vs) (ho : ∀ x ∈ H', x.2.cl (fun n => Nat.blt n 1000 || (getO H' n).isSome)) : St W0 F N H' vs ys w := by
 obtain ⟨N1, g1, g2, r, hvs⟩ := hs; obtain ⟨D0, D, h1, h2, h3⟩ := r.sat; have hf : ∀ n, (AD' H).find n = getO H n := A8' (EV' hl)
 have h2' : ∀ n o, getO H n = some o -> OR N1 n o (D n) w /\ ∀ b, D n b -> ¬ D0 b := fun n o hn => h2 n o (by rw [hf]; exact hn)
 have h3' : ∀ n m o o', getO H n = some o -> getO H m = some o' -> n ≠ m -> ∀ b, D n b -> ¬ D m b := fun n m o o' hn hm => h3 n m o o' (by rw [hf]; exact hn) (by rw [hf]; exact hm)
 refine I1' hl' g1 (MJ' hl hl' r h1 h2' h3' i (fun n => n = k) hik hi (fun n o' hni hno => ?_) fun o' hio => ?_) hvs hv ho
 ·have hnk : n ≠ k := fun e => by rw [e, hk'] at hno; cases hno
  have := hn n o' hni hnk hno; exact ⟨hnk, o', this, (h2' n o' this).1⟩
 ·rw [hi'] at hio; cases hio; have hkk := (h2' k _ hk).1; have := core N1 (D i) (D k) (h2' i _ hi).1 hkk.1 hkk.2 (h3' i k _ _ hi hk hik)
  have e : (fun x => D i x \/ ∃ j, j = k /\ (∃ o, getO H j = some o) /\ D j x) = fun x => D i x \/ D k x := by
   funext x; refine propext ⟨?_, ?_⟩
   ·rintro (h | ⟨j, rfl, _, h⟩)
    ·exact .inl h
    ·exact .inr h
   ·rintro (h | h)
    ·exact .inl h
    ·exact .inr ⟨k, rfl, ⟨_, hk⟩, h⟩
  rw [e]; exact this
theorem KI' (r : Rv) : (encV r).length = 5 := rfl
theorem KJ' (p : Δ × Rv) : (encF p).length = 6 := rfl
theorem bH' {m : Md} {R : List Rv} {l : List Tv} {Di Dk : Nat -> Prop} (hb : l.length * 80 <= big) (h : OR N1 i (.cells (rowV encV R) (2 * e)) Di w) (hp : PV d R l (CB' Dk w)) (hlt : ∀ b, Dk b -> b < w.heap.size) : OR N1 i (ownL m d l) (fun x => Di x \/ Dk x) w := by
 have hDi := h.lt; obtain ⟨lo, h1, h2, h3⟩ := UK' KI' h
 refine ⟨lo, h1, h2, ⟨hb, fun k x hx => ?_⟩, fun b hb => hb.elim (hDi b) (hlt b)⟩
 obtain ⟨r, q1, q2⟩ := hp.2 k x hx; exact ⟨_, r, rfl, (h3 k r q1).mono (BQ' fun b hb => .inl hb), q2.mono (BQ' fun b hb => .inr hb)⟩
theorem bI' {m : Md} {R : List (Δ × Rv)} {f : Tf} {Di Dk : Nat -> Prop} (hb : f.length * 96 <= big) (h : OR N1 i (.cells (rowV encF R) (2 * e)) Di w) (hp : PF d R f (CB' Dk w)) (hlt : ∀ b, Dk b -> b < w.heap.size) : OR N1 i (ownF m d f) (fun x => Di x \/ Dk x) w := by
 have hDi := h.lt; obtain ⟨lo, h1, h2, h3⟩ := UK' KJ' h
 refine ⟨lo, h1, h2, ⟨hb, fun k nm x hx => ?_⟩, fun b hb => hb.elim (hDi b) (hlt b)⟩
 obtain ⟨r, q1, q2⟩ := hp.2 k nm x hx; exact ⟨_, r, rfl, (h3 k (nm, r) q1).mono (BQ' fun b hb => .inl hb), q2.mono (BQ' fun b hb => .inr hb)⟩
theorem D9' {σ : Nat -> Nat} : ∀ (a b : List AV), AV.rens σ (a ++ b) = AV.rens σ a ++ AV.rens σ b
 | [], b => rfl
 | x :: a, b => by simp only [List.cons_append, AV.rens, D9' a b]
theorem WQ' {K : Nat -> Bool} : ∀ {a b : List AV}, AV.cls K a -> AV.cls K b -> AV.cls K (a ++ b)
 | [], b, _, hb => hb
 | x :: a, b, ha, hb => ⟨ha.1, WQ' ha.2 hb⟩
theorem N6' {m : Nat} {told : List (Nat × AV)} {K : Nat -> Bool} (h : ∀ x ∈ told, AV.cl K x.2) : AV.cls K (tms 0 m told) := LP' h m 0
theorem agg_cl (K : Nat -> Bool) (r : Rv) : AV.cl K (aggR r) := ⟨Ye, Ye, Ye, Ye, Ye, Ye⟩
theorem c6n {C : Mem} {A : Addr} {r : Rv} (h : Cells C A (.string nm :: r.cells)) : C (A.add 0) = some (.string nm) /\ C (Addr.mk A.block (A.off + 1) none) = some (.int .i64 r.k) /\ C (Addr.mk A.block (A.off + 2) none) = some (.int .i64 r.n) /\ C (Addr.mk A.block (A.off + 3) none) = some (.string r.t) /\ C (Addr.mk A.block (A.off + 4) none) = some (.slice r.la r.ll r.lc) /\ C (Addr.mk A.block (A.off + 5) none) = some (.slice r.ta r.tl r.tc) :=
 ⟨h 0 _ rfl, h 1 _ rfl, h 2 _ rfl, h 3 _ rfl, h 4 _ rfl, h 5 _ rfl⟩
theorem all6 {A : Addr} {r : Rv} (h : Cells W.cell? A (.string nm :: r.cells)) : ([0, 1, 2, 3, 4, 5].all fun j => (W.cell? (A.add j)).isSome) = true := by
 have e0 : W.cell? (A.add 0) = some _ := h 0 _ rfl; have e1 : W.cell? (A.add 1) = some _ := h 1 _ rfl; have e2 : W.cell? (A.add 2) = some _ := h 2 _ rfl; have e3 : W.cell? (A.add 3) = some _ := h 3 _ rfl; have e4 : W.cell? (A.add 4) = some _ := h 4 _ rfl; have e5 : W.cell? (A.add 5) = some _ := h 5 _ rfl; simp only [List.all_cons, List.all_nil, e0, e1, e2, e3, e4, e5, Bool.and_true, Option.isSome_some]
theorem X7' {x : Δ} {r : Rv} {x0 x1 : Int} {x2 : Δ} {x3 x4 : Value} (h : x = nm) (h0 : x0 = r.k) (h1 : x1 = r.n) (h2 : x2 = r.t) (h3 : x3 = .slice r.la r.ll r.lc) (h4 : x4 = .slice r.ta r.tl r.tc) : Wk (.agg [.v (.string x), .v (.int .i64 x0), .v (.int .i64 x1), .v (.string x2), .v x3, .v x4]) (aggF nm r) := by
 subst h h0 h1 h2 h3 h4; exact Ya
theorem ltT {j n : Nat} (h : j < n) : decide (o' j < o' n) = true := decide_eq_true (by simp only [Z0]; omega)
theorem ltF {n : Nat} : decide (o' n < o' n) = false := decide_eq_false (by simp only [Z0]; omega)
def dumZ : AO := .any (frz fun _ => True)
def lVk (k : Nat) : List Tv -> AV
 | [] => nilS
 | v :: l => sL k (l.length + 1)
def fVk (k : Nat) : Tf -> AV
 | [] => nilS
 | v :: l => sF k (l.length + 1)
abbrev lV (l : List Tv) : AV := lVk 1006 l
abbrev fV (f : Tf) : AV := fVk 1007 f
def lOd (e : Nat) : List Tv -> AO
 | [] => dumZ
 | v :: l => ownL md e (v :: l)
def fOd (e : Nat) : Tf -> AO
 | [] => dumZ
 | v :: l => ownF md e (v :: l)
theorem S6' (σ : Nat -> Nat) (k : Nat) : ∀ l, AV.ren σ (lVk k l) = lVk (σ k) l
 | [] => rfl
 | _ :: _ => rfl
theorem S8' (σ : Nat -> Nat) (k : Nat) : ∀ l, AV.ren σ (fVk k l) = fVk (σ k) l
 | [] => rfl
 | _ :: _ => rfl
theorem S7' (σ : Nat -> Nat) (e : Nat) : ∀ l, AO.ren σ (lOd e l) = lOd e l
 | [] => rfl
 | _ :: _ => rfl
theorem BC' (σ : Nat -> Nat) (e : Nat) : ∀ l, AO.ren σ (fOd e l) = fOd e l
 | [] => rfl
 | _ :: _ => rfl
theorem lV_cl {K : Nat -> Bool} (h : K k = true) : ∀ l, AV.cl K (lVk k l)
 | [] => trivial
 | _ :: _ => h
theorem W9' {K : Nat -> Bool} (h : K k = true) : ∀ l, AV.cl K (fVk k l)
 | [] => trivial
 | _ :: _ => h
theorem eD' (K : Nat -> Bool) (e : Nat) : ∀ l, (lOd e l).cl K
 | [] => trivial
 | _ :: _ => trivial
theorem WA' (K : Nat -> Bool) (e : Nat) : ∀ l, (fOd e l).cl K
 | [] => trivial
 | _ :: _ => trivial
theorem VH' {y : Value} (h : VR N nilS y) : y = .slice none 0 0 := VR_v.1 h
theorem lV_raw {e : Nat} {D : Nat -> Prop} : ∀ {l : List Tv} {y : Value}, OR N k (lOd e l) D w -> VR N (lVk k l) y -> ∃ la lc, y = .slice la l.length lc /\ LAt (CB' D w) e la l
 | [], y, _, h => ⟨none, 0, VH' h, LOf.nil _⟩
 | v :: l, y, ho, h => Y2' (l := v :: l) ho h
theorem aZ' {e : Nat} {D : Nat -> Prop} : ∀ {l : Tf} {y : Value}, OR N k (fOd e l) D w -> VR N (fVk k l) y -> ∃ la lc, y = .slice la l.length lc /\ FAt (CB' D w) e la l
 | [], y, _, h => ⟨none, 0, VH' h, FOf.nil _⟩
 | v :: l, y, ho, h => Y3' (l := v :: l) ho h
def CvOk (W : World) (e : Nat) (v : Tv) (r : Rv) : Prop := Tri Θ W fFv [aggR r] [] (.agg [iv r.k, iv r.n, sv r.t, lV v.list, fV v.tab]) [(1006, lOd e v.list), (1007, fOd e v.tab)]
theorem b7' {e : Nat} {v : Tv} {r : Rv} (h : CvOk W e v r) (F : HP) (hF : AP' W F) : C1OK Θ F fFv (cFv r (lV v.list) (fV v.tab) (lOd e v.list) (fOd e v.tab)) :=
 BX' hF (fun _ => .agg [iv r.k, iv r.n, sv r.t, lV v.list, fV v.tab]) (fun _ => RO.ret _) (fun _ => rfl) (fun _ _ => h) fun _ => ⟨rfl, rfl, ⟨agg_cl _ _, Ye⟩, A2', ⟨⟨Ye, Ye, Ye, lV_cl rfl _, W9' rfl _, Ye⟩, Ye⟩, A0' (eD' _ _ _) (A0' (WA' _ _ _) A2')⟩
theorem PF.nil (d : Nat) (C : Mem) : PF d [] [] C := ⟨rfl, fun i nm x h => by simp at h⟩
theorem PV.nil (d : Nat) (C : Mem) : PV d [] [] C := ⟨rfl, fun i x h => by simp at h⟩
theorem D8' {α : Type} {f : List α} {j : Nat} {x : α} (h : f[j]? = some x) : f.take (j + 1) = f.take j ++ [x] := by
 rw [List.take_add_one, h]; rfl
theorem eS' {D : Nat -> Nat -> Prop} {v : Tv} {x : Rv} {k1 k2 : Nat} {DD : Nat -> Prop} (hx : x.k = v.kind /\ x.n = v.num /\ x.t = v.text)
  (hD : ∀ n o, getO H n = some o -> OR N1 n o (D n) w) (h1 : getO H k1 = some (lOd d v.list)) (h2 : getO H k2 = some (fOd d v.tab)) (hD1 : ∀ b, D k1 b -> DD b) (hD2 : ∀ b, D k2 b -> DD b) :
  ∀ yb, VRs N1 [iv x.k, iv x.n, sv x.t, lVk k1 v.list, fVk k2 v.tab] yb -> ∃ c : List Value, c.length = 5 /\ VRs N1 (vmap c) yb /\ QV d v c (CB' DD w) := by
 intro yb hy; obtain ⟨yl, yt, a1, a2, rfl⟩ := five hy; obtain ⟨la, lc, rfl, b1⟩ := lV_raw (hD k1 _ h1) a1; obtain ⟨ta, tc, rfl, b2⟩ := aZ' (hD k2 _ h2) a2; refine ⟨_, rfl, VRs.vmap _, ⟨x.k, x.n, x.t, la, v.list.length, lc, ta, v.tab.length, tc⟩, rfl, ⟨hx.1, hx.2.1, hx.2.2, rfl, rfl⟩, b1.mono (BQ' hD1), b2.mono (BQ' hD2)⟩
theorem WO' {D : Nat -> Nat -> Prop} {v : Tv} {x : Rv} {k1 k2 : Nat} {DD : Nat -> Prop} {Q : Mem -> Prop} (hx : x.k = v.kind /\ x.n = v.num /\ x.t = v.text)
  (hD : ∀ n o, getO H n = some o -> OR N1 n o (D n) w) (h1 : getO H k1 = some (lOd d v.list)) (h2 : getO H k2 = some (fOd d v.tab)) (hD1 : ∀ b, D k1 b -> DD b) (hD2 : ∀ b, D k2 b -> DD b) (hQ : Q (CB' DD w)) :
  ∀ yb, VRs N1 [iv x.k, iv x.n, sv x.t, lVk k1 v.list, fVk k2 v.tab] yb -> ∃ c : List Value, c.length = 5 /\ VRs N1 (vmap c) yb /\ (Q (CB' DD w) /\ QV d v c (CB' DD w)) := fun yb hy => by
 obtain ⟨c, c1, c2, c3⟩ := eS' hx hD h1 h2 hD1 hD2 yb hy; exact ⟨c, c1, c2, hQ, c3⟩
theorem RZ' {e : Nat} (hde : d = e + 1) {R : List (Δ × Rv)} {f0 : Tf} {v : Tv} {r : Rv} (hx : r.k = v.kind /\ r.n = v.num /\ r.t = v.text)
  (hs : St W0 F N [(1000, .cells ((rowV encF R ++ [sv nm]) ++ [iv r.k, iv r.n, sv r.t, lV v.list, fV v.tab]) tFl), (1001, .any (frz (PF d R f0))), (1006, lOd e v.list), (1007, fOd e v.tab)] vs ys w) (hv : ∀ R P, AV.cls (fun n => Nat.blt n 1000 || (getO (oFc R P) n).isSome) vs) :
  ∃ r', St W0 F N (oFc (R ++ [(nm, r')]) (PF d (R ++ [(nm, r')]) (f0 ++ [(nm, v)]))) vs ys w := by
 subst hde
 obtain ⟨c, hc⟩ := S0' rfl hs 1000 1001 [1006, 1007] δ δ δ (a := rowV encF R ++ [sv nm]) (b := [iv r.k, iv r.n, sv r.t, lV v.list, fV v.tab]) (e := tFl) rfl rfl (fun N1 D w h => h.lt)
  (fun c C => PF (e + 1) R f0 C /\ QV e v c C) (fun N1 D hD yb hy => by
   have hP : PF (e + 1) R f0 (CB' (D 1001) w) := (hD 1001 _ rfl).1
   exact WO' hx hD (k1 := 1006) (k2 := 1007) (Q := PF (e + 1) R f0) rfl rfl (fun b hb => .inr ⟨1006, ms', ⟨_, rfl⟩, hb⟩) (fun b hb => .inr ⟨1007, List.mem_cons_of_mem _ ms', ⟨_, rfl⟩, hb⟩) (hP.mono (BQ' fun b hb => .inl hb)) yb hy)
 obtain ⟨⟨C0, _, r', rfl, _⟩, hc⟩ := hc; refine ⟨r', hc _ _ rfl ?_ rfl (fun C ⟨h1, r2, h2, h3⟩ => ?_) (fun n o h1 h2 h3 => ?_) (hv _ _) (A0' ?_ (A0' Ye A2'))⟩
 ·show some (ce' (rowV encF (R ++ [(nm, r')])) tFl) = some _; rw [DS', KB', List.append_assoc]; rfl
 ·rw [<- J0' h2] at h3; exact h1.add h3
 ·simp only [oFc, getO, if_neg h1, if_neg h2] at h3; cases h3
 ·exact DP' _ _
theorem CC' {H' : LH} {P : Mem -> Prop} (hP : ∀ C, P C) (hl : A6' 1100 H = true) (hl' : A6' 1100 H' = true) (hk : getO H' k = some (.any (frz P))) (hk1 : 1000 <= k) (hk0 : getO H k = none) (hr : ∀ n, n ≠ k -> getO H' n = getO H n) : Goes vs H vs H' := by
 intro W0 F N ys w ⟨N1, g1, g2, r, hvs⟩; have hf : ∀ n, (AD' H).find n = getO H n := A8' (EV' hl); have hf' : ∀ n, (AD' H').find n = getO H' n := A8' (EV' hl'); obtain ⟨D0, D, h1, h2, h3⟩ := r.sat
 refine ⟨N1, g1, fun n hn hg => ?_, ⟨r.os, r.tape, r.output, D0, fun n x => if n = k then False else D n x, h1, fun n o hno => ?_, fun n m o o' hn hm hnm x hx hx' => ?_⟩, hvs⟩
 ·by_cases e : n = k
  ·rw [e, hk] at hg; cases hg
  ·rw [hr n e] at hg; exact g2 n hn hg
 ·rw [hf'] at hno
  by_cases e : n = k
  ·subst e; rw [hk] at hno; cases hno; simp only [if_true]
   exact ⟨⟨hP _, fun b hb => hb.elim⟩, fun b hb => hb.elim⟩
  ·simp only [if_neg e]; exact h2 n o (by rw [hf, <- hr n e]; exact hno)
 ·rw [hf'] at hn hm
  by_cases e : n = k
  ·simp only [if_pos e] at hx
  ·by_cases e' : m = k
   ·simp only [if_pos e'] at hx'
   ·simp only [if_neg e] at hx; simp only [if_neg e'] at hx'; exact h3 n m o o' (by rw [hf, <- hr n e]; exact hn) (by rw [hf, <- hr m e']; exact hm) hnm x hx hx'
def xF : Nat -> AV
 | 0 => nilS
 | j + 1 => sF 1000 (j + 1)
def hFs (d : Nat) (f : Tf) (R : List (Δ × Rv)) : Nat -> LH
 | 0 => []
 | j + 1 => oFc R (PF d R (f.take (j + 1)))
theorem S4' {k : Int} {σ : Nat -> Nat} (l : List Tv) (f : Tf) : [v' (vs' nm), v' (vi' I' k), v' (vi' I' n), v' (vs' t), AV.ren σ (lV l), AV.ren σ (fV f)].all AV.one = true := by cases l <;> cases f <;> rfl
theorem eR' (W : World) (d : Nat) (hV : ∀ v r, VAt W.cell? d v r -> ∃ e, d = e + 1 /\ CvOk W e v r) (f : Tf) (oa : Option Addr) (c : Nat) (ha : FAt W.cell? d oa f) :
  LTri Θ W (AB' fFt 2) (tms 0 22 (aFc oa f.length c nilS 0)) [] (.exit 0) (tms 0 22 [(2, fV f)]) [(1007, fOd d f)] := by
 have hlen := I4' ha.1 δ; have hbig := ha.1
 refine EU' (W := W) (g := fFt) (b := AB' fFt 2) (σ := {z : Nat × List (Δ × Rv) // z.1 <= f.length /\ z.2.length = z.1}) 22 (fun z => aFc oa f.length c (xF z.1.1) z.1.1) (fun z => hFs d f z.1.2 z.1.1) (.exit 0) [(2, fV f)] [(1007, fOd d f)] (fun z => f.length - z.1.1) kFc iFc (by intro h; cases h) (fun z => by
  obtain ⟨⟨i, R⟩, _⟩ := z
  cases i <;> rfl) ?_ ⟨(0, []), Nat.zero_le _, rfl⟩
 rintro ⟨⟨j, R⟩, hj, hR⟩; simp only at hj hR ⊢
 by_cases h1 : j < f.length
 ·obtain ⟨⟨nm, x⟩, hx⟩ := BP' h1; obtain ⟨a, r, rfl, q1, q2⟩ := ha.2 j nm x hx; obtain ⟨e, rfl, hcv⟩ := hV x r q2; obtain ⟨a0, a1, a2, a3, a4, a5⟩ := c6n q1; have aA := all6 q1; obtain ⟨⟨i1, i2, i3, i4, i5⟩, _, _⟩ := q2; have hw := BM' j ω; have e1 : decide (o' j < o' f.length) = true := ltT h1; have hnx := D8' hx
  have hvs : ∀ i (R1 : List (Δ × Rv)) P, AV.cls (fun n => Nat.blt n 1000 || (getO (oFc R1 P) n).isSome) (tms 0 22 (aFc (some a) f.length c (xF (j + 1)) i)) := fun i R1 P => N6' (A0' rfl (A0' Ye (A0' Ye (A0' Ye A2'))))
  refine ⟨[(fFv, cFv r (lV x.list) (fV x.tab) (lOd e x.list) (fOd e x.tab))], hFc j nm r, [], fun F hF => CR' (b7' hcv F hF), fun _ _ => noL, fun F => ?_⟩
  rcases Nat.eq_zero_or_pos j with rfl | hpos
  ·have hR0 : R = [] := List.length_eq_zero_iff.1 hR; subst hR0
   refine Yj (dW' W a f.length c nm r (lV x.list) (fV x.tab) (lOd e x.list) (fOd e x.tab) F) ⟨⟨?_, rfl, .inl ⟨rfl, aFc (some a) f.length c (xF 1) 1, [(1000, .cells [sv nm, iv r.k, iv r.n, sv r.t, lV x.list, fV x.tab] tFl), (1006, lOd e x.list), (1007, fOd e x.tab)], [(1000, 1104), (1006, 1101), (1007, 1102)], rfl, ⟨χ, by kernel_rfl, ⟨Ya, Ya, Ya, Ya, Ye⟩, ⟨_, rfl, ?_⟩, ⟨_, rfl, ?_⟩, ⟨_, rfl, ?_⟩, Ye⟩, fun W0 F N ys w hs => ?_⟩⟩⟩
   ·simp only [ch', e1, h1, a0, aA, a1, a2, a3, a4, a5, Option.getD_some, Option.isSome_some, Nat.blt_eq, true_and, and_true]; and_intros; all_goals exact Kb13'
   ·refine OW.of_eq ?_; simp only [AO.ren, AV.rens, S6', S8']; rfl
   ·refine OW.of_eq ?_; simp only [S7']
   ·refine OW.of_eq ?_; simp only [BC']
   ·obtain ⟨_, hs1⟩ : ∃ u : Unit, St W0 F N [(1000, .cells ((rowV encF [] ++ [sv nm]) ++ [iv r.k, iv r.n, sv r.t, lV x.list, fV x.tab]) tFl), (1001, .any (frz (PF (e + 1) [] []))), (1006, lOd e x.list), (1007, fOd e x.tab)] (tms 0 22 (aFc (some a) f.length c (xF 1) 1)) ys w :=
     ⟨(), CC' (k := 1001) (fun C => PF.nil (e + 1) C) rfl rfl rfl δ rfl (fun n hn => by simp only [getO, if_neg hn]; rfl) _ _ _ _ _ hs⟩
    obtain ⟨r', hs'⟩ := RZ' rfl ⟨i1, i2, i3⟩ hs1 (hvs _); refine ⟨⟨(1, [(nm, r')]), h1, rfl⟩, BR' h1, ?_⟩; show St _ _ _ (oFc _ (PF _ _ (f.take (0 + 1)))) _ _ _; rw [hnx]; exact hs'
  ·obtain ⟨j, rfl⟩ : ∃ m, j = m + 1 := ⟨j - 1, by omega⟩
   have k1 : (0 + (j + 1) * 6).ble (rowV encF R).length = true := by rw [B9' KJ', Nat.ble_eq]; omega
   have k2 : ((j + 1 + 1) * 96).ble 140737488355328 = true := by
    have hb : big = 140737488351232 := rfl; rw [Nat.ble_eq]; omega
   have k3 : (j + 1 + 1).ble 9223372036854775807 = true := by rw [Nat.ble_eq]; omega
   have ktk : List.take ((j + 1) * 6) (List.drop 0 (rowV encF R)) = rowV encF R := by rw [List.drop_zero, <- hR, EQ' KJ', List.take_length]
   have k4 : (List.take ((j + 1) * 6) (List.drop 0 (rowV encF R))).length.beq ((j + 1) * 6) = true := by rw [ktk, B9' KJ', hR]; exact Nat.beq_refl _
   refine Yj (dV' W a f.length c (j + 1) (j + 1) nm r (lV x.list) (fV x.tab) (lOd e x.list) (fOd e x.tab) R (PF (e + 1) R (f.take (j + 1))) F) ⟨⟨?_, rfl, .inl ⟨rfl, aFc (some a) f.length c (xF (j + 1 + 1)) (j + 1 + 1), [(1000, .cells ((rowV encF R ++ [sv nm]) ++ [iv r.k, iv r.n, sv r.t, lV x.list, fV x.tab]) tFl), (1001, .any (frz (PF (e + 1) R (f.take (j + 1))))), (1006, lOd e x.list), (1007, fOd e x.tab)], [(1000, 1104), (1001, 1001), (1006, 1101), (1007, 1102)], rfl, ⟨χ, by kernel_rfl, ⟨Ya, Ya, Ya, Ya, Ye⟩, ⟨_, rfl, ?_⟩, ⟨_, rfl, Yc⟩, ⟨_, rfl, ?_⟩, ⟨_, rfl, ?_⟩, Ye⟩, fun W0 F N ys w hs => ?_⟩⟩⟩
   ·simp only [ch', e1, h1, a0, aA, a1, a2, a3, a4, a5, k1, k2, k3, k4, Option.getD_some, Option.isSome_some, Nat.blt_eq, true_and, and_true]; and_intros; all_goals exact Kb13'
   ·refine OW.of_eq ?_; rw [ktk]; simp only [AO.ren, D9', BG', List.append_assoc, AV.rens, S6', S8']; rfl
   ·refine OW.of_eq ?_; simp only [S7']
   ·refine OW.of_eq ?_; simp only [BC']
   ·obtain ⟨r', hs'⟩ := RZ' rfl ⟨i1, i2, i3⟩ hs (hvs _)
    refine ⟨⟨(j + 1 + 1, R ++ [(nm, r')]), h1, by rw [la', hR]; rfl⟩, BR' h1, ?_⟩
    show St _ _ _ (oFc _ (PF _ _ (f.take (j + 1 + 1)))) _ _ _; rw [hnx]; exact hs'
 ·have hje : j = f.length := ω
  subst hje
  refine ⟨[], hFcE, [], fun _ _ => noC, fun _ _ => noL, fun F => ?_⟩
  cases f with
  | nil =>
   refine Yj (YR' W oa 0 c F) ⟨⟨?_, rfl, .inr ⟨rfl, [(2, nilS)], [], [], rfl, ⟨χ, by kernel_rfl, ⟨Ya, Ye⟩, Ye⟩, fun W0 F N ys w hs => ?_⟩⟩⟩
   ·simp only [ch', and_true]; exact AC' rfl
   ·exact CC' (k := 1007) (fun C => trivial) rfl rfl rfl δ rfl (fun n hn => by simp only [getO, if_neg hn]) _ _ _ _ _ hs
  | cons y f =>
   have ht : (y :: f).take (y :: f).length = y :: f := List.take_length; have hf1 : (y :: f).length = f.length + 1 := rfl
   refine Yj (YQ' W oa (f.length + 1) c (f.length + 1) R (PF d R ((y :: f).take (f.length + 1))) F) ⟨⟨?_, rfl, .inr ⟨rfl, [(2, sF 1007 (f.length + 1))], [(1007, rF R), (1001, .any (frz (PF d R ((y :: f).take (f.length + 1)))))], [(1007, 1000), (1001, 1001)], rfl, ⟨χ, by kernel_rfl, ⟨Ya, Ye⟩, ⟨_, rfl, OW.of_eq (by simp only [rF, AO.ren, BG'])⟩, ⟨_, rfl, Yc⟩, Ye⟩, fun W0 F N ys w hs => ?_⟩⟩⟩
   ·simp only [ch', and_true]; exact AC' ltF
   ·rw [<- hf1, ht] at hs; exact RX' (H' := [(1007, ownF md d (y :: f))]) rfl rfl hs 1007 1001 δ rfl rfl rfl rfl (fun n o h1 h2 h3 => by simp only [getO, if_neg h1] at h3; cases h3) (fun N1 Di Dk h1 h2 h3 _ => bI' hbig h1 h2 h3) (N6' (A0' rfl A2')) (A0' Ye A2')
def oNx (r : Rv) (R : List Rv) (P : Mem -> Prop) : LH := [(1000, .cells (vmap r.cells) tVl), (1001, .any (frz P)), (1002, rV R), (1004, oZ0)]
theorem oNx_cl (r : Rv) (R : List Rv) (P : Mem -> Prop) (K : Nat -> Bool) : ∀ x ∈ oNx r R P, x.2.cl K :=
 A0' ⟨Ye, Ye, Ye, Ye, Ye, Ye⟩ (A0' Ye (A0' (DP' _ _) (A0' ⟨Ye, Ye, Ye, Ye, Ye, Ye⟩ A2')))
theorem RY' {e : Nat} (hde : d = e + 1) {r0 : Rv} {R : List Rv} {l0 : List Tv} {v : Tv} {r : Rv} (hx : r.k = v.kind /\ r.n = v.num /\ r.t = v.text)
  (hs : St W0 F N [(1000, .cells (vmap r0.cells) tVl), (1001, .any (frz (PV d R l0))), (1002, .cells (rowV encV R ++ [iv r.k, iv r.n, sv r.t, lV v.list, fV v.tab]) tVl), (1004, oZ0), (1006, lOd e v.list), (1007, fOd e v.tab)] vs ys w) (hv : ∀ R P, AV.cls (fun n => Nat.blt n 1000 || (getO (oNx r0 R P) n).isSome) vs) :
  ∃ r', St W0 F N (oNx r0 (R ++ [r']) (PV d (R ++ [r']) (l0 ++ [v]))) vs ys w := by
 subst hde
 obtain ⟨c, hc⟩ := S0' rfl hs 1002 1001 [1006, 1007] δ δ δ (a := rowV encV R) (b := [iv r.k, iv r.n, sv r.t, lV v.list, fV v.tab]) (e := tVl) rfl rfl (fun N1 D w h => h.lt)
  (fun c C => PV (e + 1) R l0 C /\ QV e v c C) (fun N1 D hD yb hy => by
   have hP : PV (e + 1) R l0 (CB' (D 1001) w) := (hD 1001 _ rfl).1
   exact WO' hx hD (k1 := 1006) (k2 := 1007) (Q := PV (e + 1) R l0) rfl rfl (fun b hb => .inr ⟨1006, ms', ⟨_, rfl⟩, hb⟩) (fun b hb => .inr ⟨1007, List.mem_cons_of_mem _ ms', ⟨_, rfl⟩, hb⟩) (hP.mono (BQ' fun b hb => .inl hb)) yb hy)
 obtain ⟨⟨C0, _, r', rfl, _⟩, hc⟩ := hc; refine ⟨r', hc _ _ rfl ?_ rfl (fun C ⟨h1, r2, h2, h3⟩ => ?_) (fun n o h1 h2 h3 => ?_) (hv _ _) (oNx_cl _ _ _ _)⟩
 ·show some (ce' (rowV encV (R ++ [r'])) tVl) = some _; rw [DS', KB']; rfl
 ·rw [<- J0' h2] at h3; exact h1.add h3
 ·simp only [oNx, getO] at h3
  by_cases e0 : n = 1000
  ·subst e0; exact ⟨δ, by rw [if_pos rfl] at h3; exact h3⟩
  ·rw [if_neg e0, if_neg h2, if_neg h1] at h3
   by_cases e4 : n = 1004
   ·subst e4; exact ⟨δ, by rw [if_pos rfl] at h3; exact h3⟩
   ·rw [if_neg e4] at h3; cases h3
def xL : Nat -> AV
 | 0 => nilS
 | j + 1 => sL 1002 (j + 1)
def hVs (r : Rv) (d : Nat) (l : List Tv) (R : List Rv) : Nat -> LH
 | 0 => oF0 r
 | j + 1 => oFv r R (PV d R (l.take (j + 1)))
theorem S5' {k : Int} {σ : Nat -> Nat} (l : List Tv) (f : Tf) : [v' (vi' I' k), v' (vi' I' n), v' (vs' t), AV.ren σ (lV l), AV.ren σ (fV f)].all AV.one = true := by cases l <;> cases f <;> rfl
def oEn (r : Rv) (d : Nat) (l : List Tv) : LH := [(1000, .cells (vmap r.cells) tVl), (1004, oZ0), (1006, lOd d l)]
theorem eP' (W : World) (d : Nat) (hV : ∀ v r, VAt W.cell? d v r -> ∃ e, d = e + 1 /\ CvOk W e v r) (l : List Tv) (r : Rv) (hll : r.ll = l.length) (ha : LAt W.cell? d r.la l) :
  LTri Θ W (AB' fFv 3) (tms 0 26 (aFv r nilS 0)) (oF0 r) (.exit 0) (tms 0 26 [(1, .ptr 1000 0), (2, .ptr 1004 0), (3, lV l)]) (oEn r d l) := by
 have hlen := I4' ha.1 δ; have hbig := ha.1
 refine EU' (W := W) (g := fFv) (b := AB' fFv 3) (σ := {z : Nat × List Rv // z.1 <= l.length /\ z.2.length = z.1}) 26 (fun z => aFv r (xL z.1.1) z.1.1) (fun z => hVs r d l z.1.2 z.1.1) (.exit 0) [(1, .ptr 1000 0), (2, .ptr 1004 0), (3, lV l)] (oEn r d l) (fun z => l.length - z.1.1) kFv iFv (by intro h; cases h) (fun z => by
  obtain ⟨⟨i, R⟩, _⟩ := z
  cases i <;> rfl) ?_ ⟨(0, []), Nat.zero_le _, rfl⟩
 rintro ⟨⟨j, R⟩, hj, hR⟩; simp only at hj hR ⊢
 by_cases h1 : j < l.length
 ·obtain ⟨x, hx⟩ := BP' h1; obtain ⟨a, s, ea, q1, q2⟩ := ha.2 j x hx; obtain ⟨e, rfl, hcv⟩ := hV x s q2; have aA := all5 q1; obtain ⟨a1, a2, a3, a4, a5⟩ := c5 q1; obtain ⟨⟨i1, i2, i3, i4, i5⟩, _, _⟩ := q2; have hw := BM' j ω
  have h1' : j < r.ll := ω
  have e1 : decide (o' j < o' r.ll) = true := ltT h1'; obtain ⟨rk, rn, rt, rla, rll, rlc, rta, rtl, rtc⟩ := r; simp only at ea hll; subst ea; have hnx := D8' hx
  have hvs : ∀ i (R1 : List Rv) P, AV.cls (fun n => Nat.blt n 1000 || (getO (oNx ⟨rk, rn, rt, some a, rll, rlc, rta, rtl, rtc⟩ R1 P) n).isSome) (tms 0 26 (aFv ⟨rk, rn, rt, some a, rll, rlc, rta, rtl, rtc⟩ (xL (j + 1)) i)) := fun i R1 P => N6' (A0' rfl (A0' rfl (A0' rfl (A0' Ye (A0' Ye (A0' Ye A2'))))))
  refine ⟨[(fFv, cFv s (lV x.list) (fV x.tab) (lOd e x.list) (fOd e x.tab))], hFv j s, [], fun F hF => CR' (b7' hcv F hF), fun _ _ => noL, fun F => ?_⟩
  rcases Nat.eq_zero_or_pos j with rfl | hpos
  ·have hR0 : R = [] := List.length_eq_zero_iff.1 hR; subst hR0
   refine Yj (dU' W ⟨rk, rn, rt, none, rll, rlc, rta, rtl, rtc⟩ a s (lV x.list) (fV x.tab) (lOd e x.list) (fOd e x.tab) F) ⟨⟨?_, rfl, .inl ⟨rfl, aFv ⟨rk, rn, rt, some a, rll, rlc, rta, rtl, rtc⟩ (xL 1) 1, [(1000, .cells (vmap (Rv.mk rk rn rt (some a) rll rlc rta rtl rtc).cells) tVl), (1002, .cells [iv s.k, iv s.n, sv s.t, lV x.list, fV x.tab] tVl), (1004, oZ0), (1006, lOd e x.list), (1007, fOd e x.tab)], [(1000, 1000), (1002, 1104), (1004, 1004), (1006, 1101), (1007, 1102)], rfl, ⟨χ, by kernel_rfl, ⟨Ya, Ya, Ya, Ya, Ya, Ya, Ye⟩, ⟨_, rfl, Yc⟩, ⟨_, rfl, ?_⟩, ⟨_, rfl, Yc⟩, ⟨_, rfl, ?_⟩, ⟨_, rfl, ?_⟩, Ye⟩, fun W0 F N ys w hs => ?_⟩⟩⟩
   ·simp only [ch', e1, h1', aA, a1, a2, a3, a4, a5, Option.getD_some, Option.isSome_some, Nat.blt_eq, true_and, and_true]; and_intros; all_goals exact Kb14'
   ·refine OW.of_eq ?_; simp only [AO.ren, AV.rens, S6', S8']; rfl
   ·refine OW.of_eq ?_; simp only [S7']
   ·refine OW.of_eq ?_; simp only [BC']
   ·obtain ⟨_, hs1⟩ : ∃ u : Unit, St W0 F N [(1000, .cells (vmap (Rv.mk rk rn rt (some a) rll rlc rta rtl rtc).cells) tVl), (1001, .any (frz (PV (e + 1) [] []))), (1002, .cells (rowV encV [] ++ [iv s.k, iv s.n, sv s.t, lV x.list, fV x.tab]) tVl), (1004, oZ0), (1006, lOd e x.list), (1007, fOd e x.tab)] (tms 0 26 (aFv ⟨rk, rn, rt, some a, rll, rlc, rta, rtl, rtc⟩ (xL 1) 1)) ys w :=
     ⟨(), CC' (k := 1001) (fun C => PV.nil (e + 1) C) rfl rfl rfl δ rfl (fun n hn => by simp only [getO, if_neg hn]; rfl) _ _ _ _ _ hs⟩
    obtain ⟨r', hs'⟩ := RY' rfl ⟨i1, i2, i3⟩ hs1 (hvs _); refine ⟨⟨(1, [r']), h1, rfl⟩, BR' h1, ?_⟩; show St _ _ _ (oNx _ _ (PV _ _ (l.take (0 + 1)))) _ _ _; rw [hnx]; exact hs'
  ·obtain ⟨j, rfl⟩ : ∃ m, j = m + 1 := ⟨j - 1, by omega⟩
   have k1 : (0 + (j + 1) * 5).ble (rowV encV R).length = true := by rw [B9' KI', Nat.ble_eq]; omega
   have k2 : ((j + 1 + 1) * 80).ble 140737488355328 = true := by
    have hb : big = 140737488351232 := rfl; rw [Nat.ble_eq]; omega
   have k3 : (j + 1 + 1).ble 9223372036854775807 = true := by rw [Nat.ble_eq]; omega
   have ktk : List.take ((j + 1) * 5) (List.drop 0 (rowV encV R)) = rowV encV R := by rw [List.drop_zero, <- hR, EQ' KI', List.take_length]
   have k4 : (List.take ((j + 1) * 5) (List.drop 0 (rowV encV R))).length.beq ((j + 1) * 5) = true := by rw [ktk, B9' KI', hR]; exact Nat.beq_refl _
   refine Yj (dT' W ⟨rk, rn, rt, none, rll, rlc, rta, rtl, rtc⟩ a s (j + 1) (j + 1) (lV x.list) (fV x.tab) (lOd e x.list) (fOd e x.tab) R (PV (e + 1) R (l.take (j + 1))) F) ⟨⟨?_, rfl, .inl ⟨rfl, aFv ⟨rk, rn, rt, some a, rll, rlc, rta, rtl, rtc⟩ (xL (j + 1 + 1)) (j + 1 + 1), [(1000, .cells (vmap (Rv.mk rk rn rt (some a) rll rlc rta rtl rtc).cells) tVl), (1001, .any (frz (PV (e + 1) R (l.take (j + 1))))), (1002, .cells (rowV encV R ++ [iv s.k, iv s.n, sv s.t, lV x.list, fV x.tab]) tVl), (1004, oZ0), (1006, lOd e x.list), (1007, fOd e x.tab)], [(1000, 1000), (1001, 1001), (1002, 1104), (1004, 1004), (1006, 1101), (1007, 1102)], rfl, ⟨χ, by kernel_rfl, ⟨Ya, Ya, Ya, Ya, Ya, Ya, Ye⟩, ⟨_, rfl, Yc⟩, ⟨_, rfl, Yc⟩, ⟨_, rfl, ?_⟩, ⟨_, rfl, Yc⟩, ⟨_, rfl, ?_⟩, ⟨_, rfl, ?_⟩, Ye⟩, fun W0 F N ys w hs => ?_⟩⟩⟩
   ·simp only [ch', e1, h1', aA, a1, a2, a3, a4, a5, k1, k2, k3, k4, Option.getD_some, Option.isSome_some, Nat.blt_eq, true_and, and_true]; and_intros; all_goals exact Kb14'
   ·refine OW.of_eq ?_; rw [ktk]; simp only [AO.ren, D9', BG', AV.rens, S6', S8']; rfl
   ·refine OW.of_eq ?_; simp only [S7']
   ·refine OW.of_eq ?_; simp only [BC']
   ·obtain ⟨r', hs'⟩ := RY' rfl ⟨i1, i2, i3⟩ hs (hvs _)
    refine ⟨⟨(j + 1 + 1, R ++ [r']), h1, by rw [la', hR]; rfl⟩, BR' h1, ?_⟩
    show St _ _ _ (oNx _ _ (PV _ _ (l.take (j + 1 + 1)))) _ _ _; rw [hnx]; exact hs'
 ·have hje : j = l.length := ω
  subst hje
  refine ⟨[], hFvE, [], fun _ _ => noC, fun _ _ => noL, fun F => ?_⟩
  obtain ⟨rk, rn, rt, rla, rll, rlc, rta, rtl, rtc⟩ := r; simp only at hll; subst hll
  cases l with
  | nil =>
   refine Yj (YP' W ⟨rk, rn, rt, rla, 0, rlc, rta, rtl, rtc⟩ F) ⟨⟨?_, rfl, .inr ⟨rfl, [(1, .ptr 1000 0), (2, .ptr 1004 0), (3, nilS)], oF0 ⟨rk, rn, rt, rla, 0, rlc, rta, rtl, rtc⟩, [(1000, 1000), (1004, 1004)], rfl, ⟨χ, by kernel_rfl, ⟨Ya, Ya, Ya, Ye⟩, ⟨_, rfl, Yc⟩, ⟨_, rfl, Yc⟩, Ye⟩, fun W0 F N ys w hs => ?_⟩⟩⟩
   ·simp only [ch', and_true]; exact AC' rfl
   ·exact CC' (k := 1006) (fun C => trivial) rfl rfl rfl δ rfl (fun n hn => by
     simp only [oEn, oF0, getO]
     by_cases e0 : n = 1000
     ·simp only [if_pos e0]; rfl
     ·by_cases e4 : n = 1004
      ·simp only [if_neg e0, if_pos e4]
      ·simp only [if_neg e0, if_neg e4, if_neg hn]) _ _ _ _ _ hs
  | cons y l =>
   have ht : (y :: l).take (y :: l).length = y :: l := List.take_length; have hf1 : (y :: l).length = l.length + 1 := rfl
   refine Yj (YO' W ⟨rk, rn, rt, rla, l.length + 1, rlc, rta, rtl, rtc⟩ (l.length + 1) R (PV d R ((y :: l).take (l.length + 1))) F) ⟨⟨?_, rfl, .inr ⟨rfl, [(1, .ptr 1000 0), (2, .ptr 1004 0), (3, sL 1006 (l.length + 1))], [(1000, .cells (vmap (Rv.mk rk rn rt rla (l.length + 1) rlc rta rtl rtc).cells) tVl), (1001, .any (frz (PV d R ((y :: l).take (l.length + 1))))), (1006, rV R), (1004, oZ0)], [(1000, 1000), (1001, 1001), (1006, 1002), (1004, 1004)], rfl, ⟨χ, by kernel_rfl, ⟨Ya, Ya, Ya, Ye⟩, ⟨_, rfl, Yc⟩, ⟨_, rfl, Yc⟩, ⟨_, rfl, OW.of_eq (by simp only [rV, AO.ren, BG'])⟩, ⟨_, rfl, Yc⟩, Ye⟩, fun W0 F N ys w hs => ?_⟩⟩⟩
   ·simp only [ch', and_true]; exact AC' ltF
   ·rw [<- hf1, ht] at hs
    exact RX' (H' := oEn ⟨rk, rn, rt, rla, (y :: l).length, rlc, rta, rtl, rtc⟩ d (y :: l)) rfl rfl hs 1006 1001 δ rfl rfl rfl rfl (fun n o h1 h2 h3 => by
     simp only [oEn, getO, if_neg h1] at h3; simp only [getO, if_neg h1, if_neg h2]
     exact h3) (fun N1 Di Dk h1 h2 h3 _ => bH' hbig h1 h2 h3) (N6' (A0' rfl (A0' rfl (A0' rfl A2')))) (A0' ⟨Ye, Ye, Ye, Ye, Ye, Ye⟩ (A0' ⟨Ye, Ye, Ye, Ye, Ye, Ye⟩ (A0' (eD' _ _ (y :: l)) A2')))
theorem gFv_ro : ∀ args, RO (gFv args) := by
 intro args; unfold gFv
 repeat' split
 all_goals exact Kb11'
theorem XK' (W : World) (d : Nat) (hV : ∀ v r, VAt W.cell? d v r -> ∃ e, d = e + 1 /\ CvOk W e v r) (f : Tf) (oa : Option Addr) (c : Nat) (ha : FAt W.cell? d oa f) :
  Tri Θ W fFt [slV oa f.length c] [] (fV f) [(1007, fOd d f)] := by
 have hl : ∀ F, AP' W F -> L1OK Θ F (AB' fFt 2) (lFt oa f.length c (fV f) (fOd d f)) := fun F hF =>
  E8' hF (fun _ => RO.ret _) (fun _ _ => eR' W d hV f oa c ha) fun _ => by
   simp only [RT.pick]; exact D1' rfl rfl (A0' Ye (A0' Ye (A0' Ye (A0' Ye A2')))) A2' (A0' (W9' rfl f) A2') (A0' (WA' _ d f) A2')
 refine AK' (con := []) (hints := AF') (lc := [(fFt, 2, AB' fFt 2, lFt oa f.length c (fV f) (fOd d f))]) [1007, 1100, 1101, 1102] rfl (fun F _ => noC) (fun F hF => L3' (hl F hF)) fun F => ?_
 cases f with
 | nil =>
  refine Yj (VE' W oa 0 c nilS dumZ F) ⟨⟨?_, (B2' (vs' := [nilS]) (H' := [(1007, dumZ)]) [(1007, 1100)] rfl rfl (Yb) ⟨⟨_, rfl, Yc⟩, Ye⟩).fits rfl⟩⟩; exact Cb1'
 | cons y f =>
  refine Yj (VE' W oa (f.length + 1) c (sF 1007 (f.length + 1)) (ownF md d (y :: f)) F) ⟨⟨?_, (B2' (vs' := [sF 1007 (f.length + 1)]) (H' := [(1007, ownF md d (y :: f))]) [(1007, 1100)] rfl rfl (Yb) ⟨⟨_, rfl, Yc⟩, Ye⟩).fits rfl⟩⟩; exact Cb1'
theorem b8' {oa : Option Addr} {c : Nat} {f : Tf} (h : Tri Θ W fFt [slV oa f.length c] [] (fV f) [(1007, fOd d f)]) (F : HP) (hF : AP' W F) : C1OK Θ F fFt (cFt oa f.length c (fV f) (fOd d f)) :=
 BX' hF (fun _ => fV f) (fun _ => RO.ret _) (fun _ => rfl) (fun _ _ => h) fun _ => ⟨rfl, rfl, ⟨Ye, Ye⟩, A2', ⟨W9' rfl _, Ye⟩, A0' (WA' _ _ _) A2'⟩
theorem eO' (W : World) (d : Nat) (hV : ∀ v r, VAt W.cell? d v r -> ∃ e, d = e + 1 /\ CvOk W e v r) (v : Tv) (r : Rv) (h : VAt W.cell? (d + 1) v r) : CvOk W d v r := by
 obtain ⟨⟨i1, i2, i3, i4, i5⟩, hl, hf⟩ := h; obtain ⟨vk, vn, vt, l, f⟩ := v; obtain ⟨rk, rn, rt, rla, rll, rlc, rta, rtl, rtc⟩ := r; have i4 : rll = l.length := i4; have i5 : rtl = f.length := i5; subst i4 i5
 have hloop : ∀ F, AP' W F -> L1OK Θ F (AB' fFv 3) (lFv ⟨rk, rn, rt, rla, l.length, rlc, rta, f.length, rtc⟩ (lV l) (lOd d l)) := fun F hF =>
  E8' hF gFv_ro (fun _ _ => eP' W d hV l _ rfl hl) fun _ => by
   simp only [RT.pick]; exact D1' rfl rfl (A0' rfl (A0' rfl (A0' Ye (A0' Ye (A0' Ye (A0' Ye A2')))))) (A0' ⟨Ye, Ye, Ye, Ye, Ye, Ye⟩ (A0' ⟨Ye, Ye, Ye, Ye, Ye, Ye⟩ A2')) (A0' rfl (A0' rfl (A0' (lV_cl rfl _) A2'))) (A0' ⟨Ye, Ye, Ye, Ye, Ye, Ye⟩ (A0' ⟨Ye, Ye, Ye, Ye, Ye, Ye⟩ (A0' (eD' _ _ _) A2')))
 have hcp : ∀ F, AP' W F -> C1OK Θ F fFt (cFt rta f.length rtc (fV f) (fOd d f)) := fun F hF => b8' (XK' W d hV f rta rtc hf) F hF
 unfold CvOk; show Tri Θ W fFv [aggR ⟨rk, rn, rt, rla, l.length, rlc, rta, f.length, rtc⟩] [] (.agg [iv rk, iv rn, sv rt, lV l, fV f]) [(1006, lOd d l), (1007, fOd d f)]
 refine AK' (con := [(fFt, cFt rta f.length rtc (fV f) (fOd d f))]) (hints := AF') (lc := [(fFv, 3, AB' fFv 3, lFv ⟨rk, rn, rt, rla, l.length, rlc, rta, f.length, rtc⟩ (lV l) (lOd d l))]) [1006, 1007, 1100, 1101, 1102, 1103, 1104, 1105] rfl (fun F hF => CR' (hcp F hF)) (fun F hF => L3' (hloop F hF)) fun F => ?_
 cases l with
 | nil =>
  cases f with
  | nil =>
   refine Yj (YK' W ⟨rk, rn, rt, rla, 0, rlc, rta, 0, rtc⟩ dumZ dumZ F) ⟨⟨?_, (B2' (vs' := [.agg [iv rk, iv rn, sv rt, nilS, nilS]]) (H' := [(1006, dumZ), (1007, dumZ)]) [(1006, 1104), (1007, 1105)] rfl rfl (Yb) ⟨⟨_, rfl, Yc⟩, ⟨_, rfl, Yc⟩, Ye⟩).fits rfl⟩⟩; exact Cb2'
  | cons y f =>
   refine Yj (YL' W ⟨rk, rn, rt, rla, 0, rlc, rta, f.length + 1, rtc⟩ dumZ (ownF md d (y :: f)) F) ⟨⟨?_, (B2' (vs' := [.agg [iv rk, iv rn, sv rt, nilS, sF 1007 (f.length + 1)]]) (H' := [(1006, dumZ), (1007, (ownF md d (y :: f)))]) [(1006, 1104), (1007, 1105)] rfl rfl (Yb) ⟨⟨_, rfl, Yc⟩, ⟨_, rfl, Yc⟩, Ye⟩).fits rfl⟩⟩; exact Cb2'
 | cons x l =>
  cases f with
  | nil =>
   refine Yj (YM' W ⟨rk, rn, rt, rla, l.length + 1, rlc, rta, 0, rtc⟩ (ownL md d (x :: l)) dumZ F) ⟨⟨?_, (B2' (vs' := [.agg [iv rk, iv rn, sv rt, sL 1006 (l.length + 1), nilS]]) (H' := [(1006, (ownL md d (x :: l))), (1007, dumZ)]) [(1006, 1104), (1007, 1105)] rfl rfl (Yb) ⟨⟨_, rfl, Yc⟩, ⟨_, rfl, Yc⟩, Ye⟩).fits rfl⟩⟩; exact Cb2'
  | cons y f =>
   refine Yj (YN' W ⟨rk, rn, rt, rla, l.length + 1, rlc, rta, f.length + 1, rtc⟩ (ownL md d (x :: l)) (ownF md d (y :: f)) F) ⟨⟨?_, (B2' (vs' := [.agg [iv rk, iv rn, sv rt, sL 1006 (l.length + 1), sF 1007 (f.length + 1)]]) (H' := [(1006, (ownL md d (x :: l))), (1007, (ownF md d (y :: f)))]) [(1006, 1104), (1007, 1105)] rfl rfl (Yb) ⟨⟨_, rfl, Yc⟩, ⟨_, rfl, Yc⟩, Ye⟩).fits rfl⟩⟩; exact Cb2'
theorem b1' (W : World) : ∀ (d : Nat) (v : Tv) (r : Rv), VAt W.cell? d v r -> ∃ e, d = e + 1 /\ CvOk W e v r
 | 0, _, _, h => h.elim
 | d + 1, v, r, h => ⟨d, rfl, eO' W d (b1' W d) v r h⟩
theorem a9' (W : World) (d : Nat) (f : Tf) (oa : Option Addr) (c : Nat) (ha : FAt W.cell? d oa f) : Tri Θ W fFt [slV oa f.length c] [] (fV f) [(1007, fOd d f)] := XK' W d (b1' W d) f oa c ha
end Go.Proofs.Ytjjjchmkonnpfaa.Tree
namespace Go.Proofs.Ytjjjchmkonnpfaa.Qb
open Go Go.RowKit Eng Kit Tree
open AO renaming cells -> ce'
open Go.Value renaming slice -> sl'
noncomputable section
structure Kc where
 sq : Int
 gh : Int
 bo : Int
 si : Int
 ex : Δ
 ke : Δ
 fl : Int
 ct : Δ
 ce : Δ
 f : Tf
 dm : Int
 pr : Int
 s1 : Δ
 s2 : Δ
 s3 : Δ
 s4 : Δ
 ts : Int
 s5 : Δ
 s6 : Δ
 s7 : Δ
 xp : Int
 pi : Int
 tr : List Δ
 du : Bool
 re : Bool
 ha : Option Addr
 hc : Nat
 ta : Option Addr
 tc : Nat
def Kc.cells (c : Kc) : List Value := [.int .i64 c.sq, .int .i64 c.gh, .int .i64 c.bo, .int .i64 c.si, .string c.ex, .string c.ke, .int .i64 c.fl, .string c.ct, .string c.ce, .slice c.ha c.f.length c.hc, .int .i64 c.dm, .int .i64 c.pr, .string c.s1, .string c.s2, .string c.s3, .string c.s4, .int .i64 c.ts, .string c.s5, .string c.s6, .string c.s7, .int .i64 c.xp, .int .i64 c.pi, .slice c.ta c.tr.length c.tc, .bool c.du, .bool c.re]
def C0' (c : Kc) (FV TV : AV) : List AV := [iv c.sq, iv c.gh, iv c.bo, iv c.si, sv c.ex, sv c.ke, iv c.fl, sv c.ct, sv c.ce, FV, iv c.dm, iv c.pr, sv c.s1, sv c.s2, sv c.s3, sv c.s4, iv c.ts, sv c.s5, sv c.s6, sv c.s7, iv c.xp, iv c.pi, TV, bv c.du, bv c.re]
def aggN (c : Kc) (FV TV : AV) : AV := .agg (C0' c FV TV)
def aggK (c : Kc) : AV := aggN c (slV c.ha c.f.length c.hc) (slV c.ta c.tr.length c.tc)
abbrev fCd : Nat := 30
abbrev fCl : Nat := 45
abbrev tKc : TypeId := 2 * 41
abbrev tSt : TypeId := 2 * 9
def sS (i n : Nat) : AV := .slice i 0 n 1 (.lo n)
def cCl (oa : Option Addr) (n c : Nat) (TV : AV) (OT : AO) : List AV -> Option (AP AV) := mkC (fun _ => .ret ()) (fun _ => True) (fun _ k => k) (fun _ => [slV oa n c]) (fun _ => []) (fun _ => .leaf .ret [TV] [(1008, OT)])
abbrev k30' : Cnd := (f' (Wk (b' true) j'))
theorem dY' (W : World) (n c : Nat) (F : HP) : wRun [] (AN' [ht' fCl 1 1]) [] W fCl [slV none n c] [] [1100, 1101, 1102] F = VT.leaf (e') [none,none,none] 1100 (k30'.a k1') := χ
abbrev k31' : Cnd := (f' (Wk (b' false) g'))
theorem e3' (W : World) (a : Addr) (c : Nat) (F : HP) : wRun [] (AN' [hf' fCl 1 1, (fCl, 3, 2, h0)]) [] W fCl [slV (some a) 0 c] [] [1100, 1101, 1102] F = VT.leaf (AV.slice 1100 0 0 1 (Cp.ex 0)) [some (ce' (rep [s' y0'] 0) 18),none,none] 1101 (k31'.a ((fe' 0).a k1')) := χ
theorem dZ' (W : World) (a : Addr) (n c : Nat) (F : HP) : wRun [] (AN' [hf' fCl 1 1]) [] W fCl [slV (some a) n c] [] [1100, 1101, 1102, 1103] F = VT.leaf (AV.slice 1101 0 (0 + n) 1 (Cp.lo (0 + n))) [some (ce' (rep [s' y0'] 0) 18),some (ce' ([] ++ vmap (BS' W a (n * 1))) 18),none,none] 1102 (k31'.a (((p' (n.ble n = true)).a ((p' (((List.range (n * 1)).all fun j => (W.cell? (a.add j)).isSome) = true)).a ((p' ((vmap (BS' W a (n * 1))).all AV.one = true)).a ((p' (Nat.blt 0 n = true)).a (tt'.a ((p' (((0 + n) * 16).ble 140737488355328 = true)).a ((p' ((0 + n).ble 9223372036854775807 = true)).a (tt'.a (f' (Nat.blt 0 (0 + n) = true)))))))))).a k1')) := χ
abbrev k32' (q0 : Kc) : Cnd := ((p' True).a (f' (VW [AV.v (sl' q0.ta q0.tr.length q0.tc)] [AV.v (sl' q0.ta q0.tr.length q0.tc)])))
abbrev k33' (q0 : Kc) : Cnd := ((fe' true).a (((p' True).a (f' (VW [AV.v (sl' q0.ha (List.length q0.f) q0.hc)] [AV.v (sl' q0.ha (List.length q0.f) q0.hc)]))).a ((fe' true).a ((ee' [z' q0.fl,s' q0.ct,s' q0.ce,e',z' q0.dm,z' q0.pr,s' q0.s1,s' q0.s2,s' q0.s3,s' q0.s4,z' q0.ts,s' q0.s5,s' q0.s6,s' q0.s7]).a ((fe' true).a (ee' [z' q0.fl,s' q0.ct,s' q0.ce,e',z' q0.dm,z' q0.pr,s' q0.s1,s' q0.s2,s' q0.s3,s' q0.s4,z' q0.ts,s' q0.s5,s' q0.s6,s' q0.s7]))))))
abbrev k34' (q0 : Kc) : Cnd := (ee' [z' q0.fl,s' q0.ct,s' q0.ce,AV.v (sl' q0.ha (List.length q0.f) q0.hc),z' q0.dm,z' q0.pr,s' q0.s1,s' q0.s2,s' q0.s3,s' q0.s4,z' q0.ts,s' q0.s5,s' q0.s6,s' q0.s7])
theorem YT' (W : World) (c : Kc) (OF OT : AO) (F : HP) : wRun [(fFt, cFt c.ha c.f.length c.hc nilS OF), (fCl, cCl c.ta c.tr.length c.tc .mt OT)] AF' [] W fCd [aggK c] [] [1100, 1101, 1102, 1103, 1104, 1105, 1106, 1107, 1108, 1109] F = VT.leaf (AV.agg [z' c.sq,z' c.gh,z' c.bo,z' c.si,s' c.ex,s' c.ke,z' c.fl,s' c.ct,s' c.ce,e',z' c.dm,z' c.pr,s' c.s1,s' c.s2,s' c.s3,s' c.s4,z' c.ts,s' c.s5,s' c.s6,s' c.s7,z' c.xp,z' c.pi,AV.mt,b' c.du,b' c.re]) [some (ce' [z' c.sq,z' c.gh,z' c.bo,z' c.si,s' c.ex,s' c.ke,z' c.fl,s' c.ct,s' c.ce,e',z' c.dm,z' c.pr,s' c.s1,s' c.s2,s' c.s3,s' c.s4,z' c.ts,s' c.s5,s' c.s6,s' c.s7,z' c.xp,z' c.pi,AV.mt,b' c.du,b' c.re] 82),some (ce' [z' c.sq,z' c.gh,z' c.bo,z' c.si,s' c.ex,s' c.ke,z' c.fl,s' c.ct,s' c.ce,e',z' c.dm,z' c.pr,s' c.s1,s' c.s2,s' c.s3,s' c.s4,z' c.ts,s' c.s5,s' c.s6,s' c.s7,z' c.xp,z' c.pi,AV.mt,b' c.du,b' c.re] 82),some (ce' [z' c.fl,s' c.ct,s' c.ce,e',z' c.dm,z' c.pr,s' c.s1,s' c.s2,s' c.s3,s' c.s4,z' c.ts,s' c.s5,s' c.s6,s' c.s7] 72),some (ce' [z' c.fl,s' c.ct,s' c.ce,e',z' c.dm,z' c.pr,s' c.s1,s' c.s2,s' c.s3,s' c.s4,z' c.ts,s' c.s5,s' c.s6,s' c.s7] 72),some (AO.ren (sgN (fun k => k) [1007] 1104) OF),some (AO.ren (sgN (fun k => k) [1008] 1105) OT),none,none,none,none] 1106 ((k34' c).a ((k33' c).a (h13' ((k32' c).a (k12'.a ((ee' [z' c.sq,z' c.gh,z' c.bo,z' c.si,s' c.ex,s' c.ke,z' c.fl,s' c.ct,s' c.ce,e',z' c.dm,z' c.pr,s' c.s1,s' c.s2,s' c.s3,s' c.s4,z' c.ts,s' c.s5,s' c.s6,s' c.s7,z' c.xp,z' c.pi,AV.mt,b' c.du,b' c.re]).a (h26' ((p' ([z' c.sq,z' c.gh,z' c.bo,z' c.si,s' c.ex,s' c.ke,z' c.fl,s' c.ct,s' c.ce,e',z' c.dm,z' c.pr,s' c.s1,s' c.s2,s' c.s3,s' c.s4,z' c.ts,s' c.s5,s' c.s6,s' c.s7,z' c.xp,z' c.pi,AV.mt,b' c.du,b' c.re] = [z' c.sq,z' c.gh,z' c.bo,z' c.si,s' c.ex,s' c.ke,z' c.fl,s' c.ct,s' c.ce,e',z' c.dm,z' c.pr,s' c.s1,s' c.s2,s' c.s3,s' c.s4,z' c.ts,s' c.s5,s' c.s6,s' c.s7,z' c.xp,z' c.pi,AV.mt,b' c.du,b' c.re])).a k1')))))))) := χ
theorem YU' (W : World) (c : Kc) (OF OT : AO) (F : HP) : wRun [(fFt, cFt c.ha c.f.length c.hc nilS OF), (fCl, cCl c.ta c.tr.length c.tc (sS 1008 c.tr.length) OT)] AF' [] W fCd [aggK c] [] [1100, 1101, 1102, 1103, 1104, 1105, 1106, 1107, 1108, 1109] F = VT.leaf (AV.agg [z' c.sq,z' c.gh,z' c.bo,z' c.si,s' c.ex,s' c.ke,z' c.fl,s' c.ct,s' c.ce,e',z' c.dm,z' c.pr,s' c.s1,s' c.s2,s' c.s3,s' c.s4,z' c.ts,s' c.s5,s' c.s6,s' c.s7,z' c.xp,z' c.pi,AV.slice 1105 0 c.tr.length 1 (Cp.lo c.tr.length),b' c.du,b' c.re]) [some (ce' [z' c.sq,z' c.gh,z' c.bo,z' c.si,s' c.ex,s' c.ke,z' c.fl,s' c.ct,s' c.ce,e',z' c.dm,z' c.pr,s' c.s1,s' c.s2,s' c.s3,s' c.s4,z' c.ts,s' c.s5,s' c.s6,s' c.s7,z' c.xp,z' c.pi,AV.slice 1105 0 c.tr.length 1 (Cp.lo c.tr.length),b' c.du,b' c.re] 82),some (ce' [z' c.sq,z' c.gh,z' c.bo,z' c.si,s' c.ex,s' c.ke,z' c.fl,s' c.ct,s' c.ce,e',z' c.dm,z' c.pr,s' c.s1,s' c.s2,s' c.s3,s' c.s4,z' c.ts,s' c.s5,s' c.s6,s' c.s7,z' c.xp,z' c.pi,AV.slice 1105 0 c.tr.length 1 (Cp.lo c.tr.length),b' c.du,b' c.re] 82),some (ce' [z' c.fl,s' c.ct,s' c.ce,e',z' c.dm,z' c.pr,s' c.s1,s' c.s2,s' c.s3,s' c.s4,z' c.ts,s' c.s5,s' c.s6,s' c.s7] 72),some (ce' [z' c.fl,s' c.ct,s' c.ce,e',z' c.dm,z' c.pr,s' c.s1,s' c.s2,s' c.s3,s' c.s4,z' c.ts,s' c.s5,s' c.s6,s' c.s7] 72),some (AO.ren (sgN (fun k => k) [1007] 1104) OF),some (AO.ren (sgN (fun k => k) [1008] 1105) OT),none,none,none,none] 1106 ((k34' c).a ((k33' c).a (h13' ((k32' c).a (k12'.a ((ee' [z' c.sq,z' c.gh,z' c.bo,z' c.si,s' c.ex,s' c.ke,z' c.fl,s' c.ct,s' c.ce,e',z' c.dm,z' c.pr,s' c.s1,s' c.s2,s' c.s3,s' c.s4,z' c.ts,s' c.s5,s' c.s6,s' c.s7,z' c.xp,z' c.pi,AV.slice 1105 0 c.tr.length 1 (Cp.lo c.tr.length),b' c.du,b' c.re]).a (h26' ((p' ([z' c.sq,z' c.gh,z' c.bo,z' c.si,s' c.ex,s' c.ke,z' c.fl,s' c.ct,s' c.ce,e',z' c.dm,z' c.pr,s' c.s1,s' c.s2,s' c.s3,s' c.s4,z' c.ts,s' c.s5,s' c.s6,s' c.s7,z' c.xp,z' c.pi,AV.slice 1105 0 c.tr.length 1 (Cp.lo c.tr.length),b' c.du,b' c.re] = [z' c.sq,z' c.gh,z' c.bo,z' c.si,s' c.ex,s' c.ke,z' c.fl,s' c.ct,s' c.ce,e',z' c.dm,z' c.pr,s' c.s1,s' c.s2,s' c.s3,s' c.s4,z' c.ts,s' c.s5,s' c.s6,s' c.s7,z' c.xp,z' c.pi,AV.slice 1105 0 c.tr.length 1 (Cp.lo c.tr.length),b' c.du,b' c.re])).a k1')))))))) := χ
abbrev k35' (q0 : Kc) (q1 : Nat) : Cnd := ((fe' true).a (((p' True).a (f' (VW [AV.v (sl' q0.ha (List.length q0.f) q0.hc)] [AV.v (sl' q0.ha (List.length q0.f) q0.hc)]))).a ((fe' true).a ((ee' [z' q0.fl,s' q0.ct,s' q0.ce,AV.slice q1 0 (List.length q0.f) 6 (Cp.lo (List.length q0.f)),z' q0.dm,z' q0.pr,s' q0.s1,s' q0.s2,s' q0.s3,s' q0.s4,z' q0.ts,s' q0.s5,s' q0.s6,s' q0.s7]).a ((fe' true).a (ee' [z' q0.fl,s' q0.ct,s' q0.ce,AV.slice q1 0 (List.length q0.f) 6 (Cp.lo (List.length q0.f)),z' q0.dm,z' q0.pr,s' q0.s1,s' q0.s2,s' q0.s3,s' q0.s4,z' q0.ts,s' q0.s5,s' q0.s6,s' q0.s7]))))))
theorem YV' (W : World) (c : Kc) (OF OT : AO) (F : HP) : wRun [(fFt, cFt c.ha c.f.length c.hc (sF 1007 c.f.length) OF), (fCl, cCl c.ta c.tr.length c.tc .mt OT)] AF' [] W fCd [aggK c] [] [1100, 1101, 1102, 1103, 1104, 1105, 1106, 1107, 1108, 1109] F = VT.leaf (AV.agg [z' c.sq,z' c.gh,z' c.bo,z' c.si,s' c.ex,s' c.ke,z' c.fl,s' c.ct,s' c.ce,AV.slice 1104 0 (List.length c.f) 6 (Cp.lo (List.length c.f)),z' c.dm,z' c.pr,s' c.s1,s' c.s2,s' c.s3,s' c.s4,z' c.ts,s' c.s5,s' c.s6,s' c.s7,z' c.xp,z' c.pi,AV.mt,b' c.du,b' c.re]) [some (ce' [z' c.sq,z' c.gh,z' c.bo,z' c.si,s' c.ex,s' c.ke,z' c.fl,s' c.ct,s' c.ce,AV.slice 1104 0 (List.length c.f) 6 (Cp.lo (List.length c.f)),z' c.dm,z' c.pr,s' c.s1,s' c.s2,s' c.s3,s' c.s4,z' c.ts,s' c.s5,s' c.s6,s' c.s7,z' c.xp,z' c.pi,AV.mt,b' c.du,b' c.re] 82),some (ce' [z' c.sq,z' c.gh,z' c.bo,z' c.si,s' c.ex,s' c.ke,z' c.fl,s' c.ct,s' c.ce,AV.slice 1104 0 (List.length c.f) 6 (Cp.lo (List.length c.f)),z' c.dm,z' c.pr,s' c.s1,s' c.s2,s' c.s3,s' c.s4,z' c.ts,s' c.s5,s' c.s6,s' c.s7,z' c.xp,z' c.pi,AV.mt,b' c.du,b' c.re] 82),some (ce' [z' c.fl,s' c.ct,s' c.ce,AV.slice 1104 0 (List.length c.f) 6 (Cp.lo (List.length c.f)),z' c.dm,z' c.pr,s' c.s1,s' c.s2,s' c.s3,s' c.s4,z' c.ts,s' c.s5,s' c.s6,s' c.s7] 72),some (ce' [z' c.fl,s' c.ct,s' c.ce,AV.slice 1104 0 (List.length c.f) 6 (Cp.lo (List.length c.f)),z' c.dm,z' c.pr,s' c.s1,s' c.s2,s' c.s3,s' c.s4,z' c.ts,s' c.s5,s' c.s6,s' c.s7] 72),some (AO.ren (sgN (fun k => k) [1007] 1104) OF),some (AO.ren (sgN (fun k => k) [1008] 1105) OT),none,none,none,none] 1106 ((k34' c).a ((k35' c 1104).a (h13' ((k32' c).a (k12'.a ((ee' [z' c.sq,z' c.gh,z' c.bo,z' c.si,s' c.ex,s' c.ke,z' c.fl,s' c.ct,s' c.ce,AV.slice 1104 0 (List.length c.f) 6 (Cp.lo (List.length c.f)),z' c.dm,z' c.pr,s' c.s1,s' c.s2,s' c.s3,s' c.s4,z' c.ts,s' c.s5,s' c.s6,s' c.s7,z' c.xp,z' c.pi,AV.mt,b' c.du,b' c.re]).a (h26' ((p' ([z' c.sq,z' c.gh,z' c.bo,z' c.si,s' c.ex,s' c.ke,z' c.fl,s' c.ct,s' c.ce,AV.slice 1104 0 (List.length c.f) 6 (Cp.lo (List.length c.f)),z' c.dm,z' c.pr,s' c.s1,s' c.s2,s' c.s3,s' c.s4,z' c.ts,s' c.s5,s' c.s6,s' c.s7,z' c.xp,z' c.pi,AV.mt,b' c.du,b' c.re] = [z' c.sq,z' c.gh,z' c.bo,z' c.si,s' c.ex,s' c.ke,z' c.fl,s' c.ct,s' c.ce,AV.slice 1104 0 (List.length c.f) 6 (Cp.lo (List.length c.f)),z' c.dm,z' c.pr,s' c.s1,s' c.s2,s' c.s3,s' c.s4,z' c.ts,s' c.s5,s' c.s6,s' c.s7,z' c.xp,z' c.pi,AV.mt,b' c.du,b' c.re])).a k1')))))))) := χ
theorem YW' (W : World) (c : Kc) (OF OT : AO) (F : HP) : wRun [(fFt, cFt c.ha c.f.length c.hc (sF 1007 c.f.length) OF), (fCl, cCl c.ta c.tr.length c.tc (sS 1008 c.tr.length) OT)] AF' [] W fCd [aggK c] [] [1100, 1101, 1102, 1103, 1104, 1105, 1106, 1107, 1108, 1109] F = VT.leaf (AV.agg [z' c.sq,z' c.gh,z' c.bo,z' c.si,s' c.ex,s' c.ke,z' c.fl,s' c.ct,s' c.ce,AV.slice 1104 0 (List.length c.f) 6 (Cp.lo (List.length c.f)),z' c.dm,z' c.pr,s' c.s1,s' c.s2,s' c.s3,s' c.s4,z' c.ts,s' c.s5,s' c.s6,s' c.s7,z' c.xp,z' c.pi,AV.slice 1105 0 c.tr.length 1 (Cp.lo c.tr.length),b' c.du,b' c.re]) [some (ce' [z' c.sq,z' c.gh,z' c.bo,z' c.si,s' c.ex,s' c.ke,z' c.fl,s' c.ct,s' c.ce,AV.slice 1104 0 (List.length c.f) 6 (Cp.lo (List.length c.f)),z' c.dm,z' c.pr,s' c.s1,s' c.s2,s' c.s3,s' c.s4,z' c.ts,s' c.s5,s' c.s6,s' c.s7,z' c.xp,z' c.pi,AV.slice 1105 0 c.tr.length 1 (Cp.lo c.tr.length),b' c.du,b' c.re] 82),some (ce' [z' c.sq,z' c.gh,z' c.bo,z' c.si,s' c.ex,s' c.ke,z' c.fl,s' c.ct,s' c.ce,AV.slice 1104 0 (List.length c.f) 6 (Cp.lo (List.length c.f)),z' c.dm,z' c.pr,s' c.s1,s' c.s2,s' c.s3,s' c.s4,z' c.ts,s' c.s5,s' c.s6,s' c.s7,z' c.xp,z' c.pi,AV.slice 1105 0 c.tr.length 1 (Cp.lo c.tr.length),b' c.du,b' c.re] 82),some (ce' [z' c.fl,s' c.ct,s' c.ce,AV.slice 1104 0 (List.length c.f) 6 (Cp.lo (List.length c.f)),z' c.dm,z' c.pr,s' c.s1,s' c.s2,s' c.s3,s' c.s4,z' c.ts,s' c.s5,s' c.s6,s' c.s7] 72),some (ce' [z' c.fl,s' c.ct,s' c.ce,AV.slice 1104 0 (List.length c.f) 6 (Cp.lo (List.length c.f)),z' c.dm,z' c.pr,s' c.s1,s' c.s2,s' c.s3,s' c.s4,z' c.ts,s' c.s5,s' c.s6,s' c.s7] 72),some (AO.ren (sgN (fun k => k) [1007] 1104) OF),some (AO.ren (sgN (fun k => k) [1008] 1105) OT),none,none,none,none] 1106 ((k34' c).a ((k35' c 1104).a (h13' ((k32' c).a (k12'.a ((ee' [z' c.sq,z' c.gh,z' c.bo,z' c.si,s' c.ex,s' c.ke,z' c.fl,s' c.ct,s' c.ce,AV.slice 1104 0 (List.length c.f) 6 (Cp.lo (List.length c.f)),z' c.dm,z' c.pr,s' c.s1,s' c.s2,s' c.s3,s' c.s4,z' c.ts,s' c.s5,s' c.s6,s' c.s7,z' c.xp,z' c.pi,AV.slice 1105 0 c.tr.length 1 (Cp.lo c.tr.length),b' c.du,b' c.re]).a (h26' ((p' ([z' c.sq,z' c.gh,z' c.bo,z' c.si,s' c.ex,s' c.ke,z' c.fl,s' c.ct,s' c.ce,AV.slice 1104 0 (List.length c.f) 6 (Cp.lo (List.length c.f)),z' c.dm,z' c.pr,s' c.s1,s' c.s2,s' c.s3,s' c.s4,z' c.ts,s' c.s5,s' c.s6,s' c.s7,z' c.xp,z' c.pi,AV.slice 1105 0 c.tr.length 1 (Cp.lo c.tr.length),b' c.du,b' c.re] = [z' c.sq,z' c.gh,z' c.bo,z' c.si,s' c.ex,s' c.ke,z' c.fl,s' c.ct,s' c.ce,AV.slice 1104 0 (List.length c.f) 6 (Cp.lo (List.length c.f)),z' c.dm,z' c.pr,s' c.s1,s' c.s2,s' c.s3,s' c.s4,z' c.ts,s' c.s5,s' c.s6,s' c.s7,z' c.xp,z' c.pi,AV.slice 1105 0 c.tr.length 1 (Cp.lo c.tr.length),b' c.du,b' c.re])).a k1')))))))) := χ
end
def SAt (C : Mem) (oa : Option Addr) (l : List Δ) : Prop := l.length * 16 <= big /\ ∀ i t, l[i]? = some t -> ∃ a, oa = some a /\ C (a.add i) = some (.string t)
def KAt (C : Mem) (d : Nat) (c : Kc) : Prop := FAt C d c.ha c.f /\ SAt C c.ta c.tr
theorem SAt.mono {C C' : Mem} (h : ∀ a v, C a = some v -> C' a = some v) {oa : Option Addr} {l : List Δ} (hl : SAt C oa l) : SAt C' oa l := ⟨hl.1, fun i t ht => by
 obtain ⟨a, h1, h2⟩ := hl.2 i t ht
 exact ⟨a, h1, h _ _ h2⟩⟩
theorem KAt.mono {C C' : Mem} (h : ∀ a v, C a = some v -> C' a = some v) {d : Nat} {c : Kc} (hc : KAt C d c) : KAt C' d c := ⟨FAt.mono h hc.1, hc.2.mono h⟩
def rT (l : List Δ) : AO := .cells (vmap (l.map Value.string)) tSt
def tVk (k : Nat) : List Δ -> AV
 | [] => .mt
 | v :: l => sS k (l.length + 1)
abbrev tV (l : List Δ) : AV := tVk 1008 l
def tOd : List Δ -> AO
 | [] => dumZ
 | v :: l => rT (v :: l)
theorem bQ' {K : Nat -> Bool} {k : Nat} (h : K k = true) : ∀ l, AV.cl K (tVk k l)
 | [] => trivial
 | _ :: _ => h
theorem rT_cl (K : Nat -> Bool) (l : List Δ) : (rT l).cl K := HF' _ _
theorem bR' (K : Nat -> Bool) : ∀ l, (tOd l).cl K
 | [] => trivial
 | v :: l => rT_cl K (v :: l)
theorem aK' (σ : Nat -> Nat) (l : List Δ) : AO.ren σ (rT l) = rT l := by simp only [rT, AO.ren, BN']
theorem BL' (σ : Nat -> Nat) : ∀ l, AO.ren σ (tOd l) = tOd l
 | [] => rfl
 | v :: l => aK' σ (v :: l)
theorem L4' {W : World} {b : Addr} {ns : List Δ} (h : ∀ i x, ns[i]? = some x -> W.cell? (b.add i) = some (.string x)) : ((List.range (ns.length * 1)).all fun j => (W.cell? (b.add j)).isSome) = true /\ BS' W b (ns.length * 1) = ns.map Value.string := by
 rw [Nat.mul_one]
 refine ⟨List.all_eq_true.2 fun j hj => ?_, ?_⟩
 ·have hj := List.mem_range.1 hj; obtain ⟨x, hx⟩ := BP' hj; rw [h j x hx]; rfl
 ·unfold BS'
  refine List.ext_getElem (by simp) fun j h1 h2 => ?_
  have hj : j < ns.length := by simpa using h1
  simp only [List.getElem_map, List.getElem_range]; rw [h j ns[j] (List.getElem?_eq_getElem hj)]; rfl
theorem d4' (ns : List Δ) : (vmap (ns.map Value.string)).all AV.one = true := by
 induction ns with
 | nil => rfl
 | cons a l ih => exact ih
theorem ZI' {v : AV} (hv : True) : Goes [v] [] [v] [(1008, dumZ)] := CC' (k := 1008) (fun C => trivial) rfl rfl rfl δ rfl (fun n hn => by simp only [getO, if_neg hn])
theorem WU' (W : World) (oa : Option Addr) (c : Nat) (l : List Δ) (h : SAt W.cell? oa l) : Tri Θ W fCl [slV oa l.length c] [] (tV l) [(1008, tOd l)] := by
 cases l with
 | nil =>
  refine Tri.post (v := .mt) (H' := []) ?_ (ZI' trivial)
  cases oa with
  | none =>
   refine AK' (con := []) (hints := AN' [ht' fCl 1 1]) (lc := []) [1100, 1101, 1102] rfl (fun _ _ => noC) (fun F _ => noL) fun F => ?_
   refine Yj (dY' W 0 c F) ⟨⟨?_, (B2' (vs' := [.mt]) (H' := []) [] rfl rfl (VW.cons aB' VW.nil) trivial).fits rfl⟩⟩; simp only [Cnd.holds, and_true]; exact AV' _
  | some a =>
   refine AK' (con := []) (hints := AN' [hf' fCl 1 1, (fCl, 3, 2, h0)]) (lc := []) [1100, 1101, 1102] rfl (fun _ _ => noC) (fun F _ => noL) fun F => ?_
   refine Yj (e3' W a c F) ⟨⟨?_, (B2' (vs' := [.mt]) (H' := []) [] rfl rfl (VW.cons wk_mt VW.nil) trivial).fits rfl⟩⟩; simp only [Cnd.holds, and_true]; exact AV' _
 | cons x l =>
  obtain ⟨a, rfl, _⟩ := h.2 0 x rfl
  have hnm : ∀ i t, (x :: l)[i]? = some t -> W.cell? (a.add i) = some (.string t) := fun i t ht => by
   obtain ⟨b, e, q⟩ := h.2 i t ht; cases e; exact q
  have hb := h.1; have hb' : big = 140737488351232 := rfl
  have b1 : (x :: l).length.ble (x :: l).length = true := by rw [Nat.ble_eq]; exact Yd
  have b2 := (L4' hnm).1
  have b3 : (vmap (BS' W a ((x :: l).length * 1))).all AV.one = true := by rw [(L4' hnm).2]; exact d4' _
  have b5 : ((0 + (x :: l).length) * 16).ble 140737488355328 = true := by rw [Nat.ble_eq]; omega
  have b6 : (0 + (x :: l).length).ble 9223372036854775807 = true := by rw [Nat.ble_eq]; omega
  have b7 : 0 < (x :: l).length := Nat.succ_pos _
  have b8 : 0 < 0 + (x :: l).length := ω
  refine AK' (con := []) (hints := AN' [hf' fCl 1 1]) (lc := []) [1100, 1101, 1102, 1103] rfl (fun _ _ => noC) (fun F _ => noL) fun F => ?_
  refine Yj (dZ' W a (x :: l).length c F) ⟨⟨?_, (B2' (vs' := [sS 1008 (x :: l).length]) (H' := [(1008, rT (x :: l))]) [(1008, 1101)] rfl rfl ?_ ⟨⟨_, rfl, ?_⟩, Ye⟩).fits rfl⟩⟩
  ·simp only [Cnd.holds, Nat.blt_eq, true_and, and_true]; exact ⟨AV' _, b1, b2, b3, b7, b5, b6, b8⟩
  ·rw [Nat.zero_add]; exact Yb
  ·refine OW.of_eq ?_; rw [(L4' hnm).2, aK']; rfl
theorem cCl_ok {W : World} {oa : Option Addr} {c : Nat} {l : List Δ} (h : SAt W.cell? oa l) (F : HP) (hF : AP' W F) : C1OK Θ F fCl (cCl oa l.length c (tV l) (tOd l)) :=
 BX' hF (fun _ => tV l) (fun _ => RO.ret _) (fun _ => rfl) (fun _ _ => WU' W oa c l h) fun _ => ⟨rfl, rfl, ⟨Ye, Ye⟩, A2', ⟨bQ' rfl _, Ye⟩, A0' (bR' _ _) A2'⟩
theorem MU' (W : World) (d : Nat) (c : Kc) (h : KAt W.cell? d c) : Tri Θ W fCd [aggK c] [] (aggN c (fV c.f) (tV c.tr)) [(1007, fOd d c.f), (1008, tOd c.tr)] := by
 have h1 : ∀ F, AP' W F -> C1OK Θ F fFt (cFt c.ha c.f.length c.hc (fV c.f) (fOd d c.f)) := fun F hF => b8' (a9' W d c.f c.ha c.hc h.1) F hF
 have h2 : ∀ F, AP' W F -> C1OK Θ F fCl (cCl c.ta c.tr.length c.tc (tV c.tr) (tOd c.tr)) := fun F hF => cCl_ok h.2 F hF
 refine AK' (con := [(fFt, cFt c.ha c.f.length c.hc (fV c.f) (fOd d c.f)), (fCl, cCl c.ta c.tr.length c.tc (tV c.tr) (tOd c.tr))]) (hints := AF') (lc := []) [1100, 1101, 1102, 1103, 1104, 1105, 1106, 1107, 1108, 1109] rfl (fun F hF => CP' (h1 F hF) (CR' (h2 F hF))) (fun F _ => noL) fun F => ?_
 clear h h1 h2; obtain ⟨sq, gh, bo, si, ex, ke, fl, ct, ce, f, dm, pr, s1, s2, s3, s4, ts, s5, s6, s7, xp, pi, tr, du, re, ha, hc, ta, tc⟩ := c
 cases f with
 | nil =>
  cases tr with
  | nil =>
   refine Yj (YT' W ⟨sq, gh, bo, si, ex, ke, fl, ct, ce, [], dm, pr, s1, s2, s3, s4, ts, s5, s6, s7, xp, pi, [], du, re, ha, hc, ta, tc⟩ (fOd d []) (tOd []) F) ⟨⟨?_, (B2' (vs' := [aggN ⟨sq, gh, bo, si, ex, ke, fl, ct, ce, [], dm, pr, s1, s2, s3, s4, ts, s5, s6, s7, xp, pi, [], du, re, ha, hc, ta, tc⟩ (fV []) (tV [])]) (H' := [(1007, fOd d []), (1008, tOd [])]) [(1007, 1104), (1008, 1105)] rfl rfl (Yb) ⟨⟨_, rfl, OW.of_eq ((BC' _ d []).trans (BC' _ d []).symm)⟩, ⟨_, rfl, OW.of_eq ((BL' _ []).trans (BL' _ []).symm)⟩, Ye⟩).fits rfl⟩⟩; exact Cb3'
  | cons x tr =>
   refine Yj (YU' W ⟨sq, gh, bo, si, ex, ke, fl, ct, ce, [], dm, pr, s1, s2, s3, s4, ts, s5, s6, s7, xp, pi, (x :: tr), du, re, ha, hc, ta, tc⟩ (fOd d []) (tOd (x :: tr)) F) ⟨⟨?_, (B2' (vs' := [aggN ⟨sq, gh, bo, si, ex, ke, fl, ct, ce, [], dm, pr, s1, s2, s3, s4, ts, s5, s6, s7, xp, pi, (x :: tr), du, re, ha, hc, ta, tc⟩ (fV []) (tV (x :: tr))]) (H' := [(1007, fOd d []), (1008, tOd (x :: tr))]) [(1007, 1104), (1008, 1105)] rfl rfl (Yb) ⟨⟨_, rfl, OW.of_eq ((BC' _ d []).trans (BC' _ d []).symm)⟩, ⟨_, rfl, OW.of_eq ((BL' _ (x :: tr)).trans (BL' _ (x :: tr)).symm)⟩, Ye⟩).fits rfl⟩⟩; exact Cb3'
 | cons y f =>
  cases tr with
  | nil =>
   refine Yj (YV' W ⟨sq, gh, bo, si, ex, ke, fl, ct, ce, (y :: f), dm, pr, s1, s2, s3, s4, ts, s5, s6, s7, xp, pi, [], du, re, ha, hc, ta, tc⟩ (fOd d (y :: f)) (tOd []) F) ⟨⟨?_, (B2' (vs' := [aggN ⟨sq, gh, bo, si, ex, ke, fl, ct, ce, (y :: f), dm, pr, s1, s2, s3, s4, ts, s5, s6, s7, xp, pi, [], du, re, ha, hc, ta, tc⟩ (fV (y :: f)) (tV [])]) (H' := [(1007, fOd d (y :: f)), (1008, tOd [])]) [(1007, 1104), (1008, 1105)] rfl rfl (Yb) ⟨⟨_, rfl, OW.of_eq ((BC' _ d (y :: f)).trans (BC' _ d (y :: f)).symm)⟩, ⟨_, rfl, OW.of_eq ((BL' _ []).trans (BL' _ []).symm)⟩, Ye⟩).fits rfl⟩⟩; exact Cb3'
  | cons x tr =>
   refine Yj (YW' W ⟨sq, gh, bo, si, ex, ke, fl, ct, ce, (y :: f), dm, pr, s1, s2, s3, s4, ts, s5, s6, s7, xp, pi, (x :: tr), du, re, ha, hc, ta, tc⟩ (fOd d (y :: f)) (tOd (x :: tr)) F) ⟨⟨?_, (B2' (vs' := [aggN ⟨sq, gh, bo, si, ex, ke, fl, ct, ce, (y :: f), dm, pr, s1, s2, s3, s4, ts, s5, s6, s7, xp, pi, (x :: tr), du, re, ha, hc, ta, tc⟩ (fV (y :: f)) (tV (x :: tr))]) (H' := [(1007, fOd d (y :: f)), (1008, tOd (x :: tr))]) [(1007, 1104), (1008, 1105)] rfl rfl (Yb) ⟨⟨_, rfl, OW.of_eq ((BC' _ d (y :: f)).trans (BC' _ d (y :: f)).symm)⟩, ⟨_, rfl, OW.of_eq ((BL' _ (x :: tr)).trans (BL' _ (x :: tr)).symm)⟩, Ye⟩).fits rfl⟩⟩; exact Cb3'
end Go.Proofs.Ytjjjchmkonnpfaa.Qb
namespace Go.Proofs.Ytjjjchmkonnpfaa.Rk
open Go Go.RowKit Eng Kit
open Int renaming ofNat -> o'
open Go.Value renaming int -> vi'
open AO renaming cells -> ce'
open AV renaming v -> v'
open Go.IntKind renaming i64 -> I'
open Cnd renaming holds -> ch'
open List renaming length_append -> la'
variable {v : AV} {f : FuncId} {A : List AV} {H' : LH} {ks : List Nat}
def enc (x : It) : List Value := [.int .i64 x.a, .int .i64 x.b, .int .i64 x.c]
def It.zero : It := ⟨0, 0, 0⟩
theorem enc_length (x : It) : (enc x).length = 3 := rfl
def itA (x : It) : AV := .agg (vmap (enc x))
def iv (n : Int) : AV := .v (.int .i64 n)
def ahead (x y : It) : Bool := decide (y.a < x.a) || (x.a == y.a && decide (x.b < y.b))
def at' (s : Ps) (i : Nat) : It := s.xs.getD i It.zero
def env0 (con : List (FuncId × (List AV -> Option (AP AV)))) (hints : AO') (lc : List (FuncId × Nat × Code × (List AV -> AP (AX × List AV)))) (F : HP) : Env := envO Θ F (conL con) hints (K4' lc) default
def oRun (con : List (FuncId × (List AV -> Option (AP AV)))) (hints : AO') (lc : List (FuncId × Nat × Code × (List AV -> AP (AX × List AV)))) (f : FuncId) (A : List AV) (H : LH) (ks : List Nat) (F : HP) : VT AV := ((GP' Θ (env0 con hints lc F) 1000 f A).run2 (AD' H) 1100 []).view ks
theorem M2' : Θ.follows .mixedOrders = true := χ
theorem AK' {con : List (FuncId × (List AV -> Option (AP AV)))} {hints : AO'} {lc : List (FuncId × Nat × Code × (List AV -> AP (AX × List AV)))} {H : LH} (ks : List Nat) (hH : A6' 1100 H = true)
  (hcon : ∀ x ∈ con, ∀ F, C1OK Θ F x.1 x.2) (hl : ∀ x ∈ lc, ∀ F, L1OK Θ F x.2.2.1 x.2.2.2) (h : ∀ F, (oRun con hints lc f A H ks F).all fun u os _ => Fits ks [u] os [v] H') : Tri Θ default f A H v H' :=
 MG' ks 1000 M2' hH (fun F _ => GA' rfl fun x hx => hcon x hx F) (fun F _ => DL' rfl fun x hx => hl x hx F) fun F _ => h F
abbrev tIt : TypeId := 2 * 71
abbrev bS' : TypeId := 2 * 85
def pL (s : Ps) : LH := [(0, .cells [.slice 1001 0 s.xs.length 3 (.lo (s.xs.length + s.g.length)), .map 1002] bS'), (1001, .cells (rowV enc (s.xs ++ s.g)) tIt), (1002, .map (mE iv s.m) s.ck)]
def pL0 : LH := [(0, .cells [.v (.slice none 0 0), .map 1002] bS'), (1002, .map [] 0)]
def pH (s : Ps) : Nat -> Nat -> HP := exHP (fun _ : Unit => True) (fun _ => pL s)
def pH0 : Nat -> Nat -> HP := exHP (fun _ : Unit => True) (fun _ => pL0)
def pO (s : Ps) : AO := .own (.pile s) (pH s)
def pO0 : AO := .own .pile0 pH0
def AF' : AO' := fun _ _ _ => none
def AN' : List (FuncId × Nat × Nat × Hint) -> AO'
 | [], _, _, _ => none
 | x :: l, f, r, o => match Nat.beq f x.1 && (Nat.beq r x.2.1 && Nat.beq o x.2.2.1) with
  | true => some x.2.2.2
  | false => AN' l f r o
def hv (v : AV) : Hint := ⟨some v, none, [], .no⟩
def ho (k : Nat) (o : AO) : Hint := ⟨none, none, [(k, o)], .no⟩
def h0 : Hint := ⟨none, none, [], .yes⟩
noncomputable section
abbrev h36' (q0 q1 : It) (z : Cnd) : Cnd := ((ee' (z' q0.a)).a ((ee' (z' q1.a)).a z))
abbrev k37' (q0 : It) : Cnd := (ee' (z' q0.b))
theorem VG' (x y : It) (F : HP) : oRun [] AF' [] 50 [itA x, itA y] [] [] F = VT.ite (decide (x.a > y.a)) (VT.leaf (b' true) [] 1102 (h36' x y k1')) (VT.ite (x.a == y.a) (VT.leaf (b' (decide (x.b < y.b))) [] 1102 (h36' x y (h36' x y ((k37' x).a ((k37' y).a k1'))))) (VT.leaf (b' false) [] 1102 (h36' x y (h36' x y k1')))) := χ
def conA : List (FuncId × (List AV -> Option (AP AV))) := [(50, fun args => match args with
  | [.agg [.v (.int .i64 a), .v (.int .i64 b), .v (.int .i64 c)], .agg [.v (.int .i64 a'), .v (.int .i64 b'), .v (.int .i64 c')]] => some (useC id [itA ⟨a, b, c⟩, itA ⟨a', b', c'⟩] args [] (.leaf .ret [.v (.bool (ahead ⟨a, b, c⟩ ⟨a', b', c'⟩))] []))
  | _ => none)]
abbrev LL' : Nat := 122
abbrev WB' : Nat := 119
def hLess (s : Ps) (i j : Nat) : AO' := AN' [(WB', 1, 6, hv (itA (at' s i))), (WB', 1, 13, hv (itA (at' s j)))]
abbrev h38' (q0 : Nat) (q1 : Ps) (z : Cnd) : Cnd := ((fe' true).a ((f' (q0.blt q1.xs.length = true)).a (((p' ((List.take 3 (List.drop (0 + q0 * 3) (rowV enc (q1.xs ++ q1.g)))).length.beq 3 = true)).a ((p' (List.take 3 (List.drop (0 + q0 * 3) (rowV enc (q1.xs ++ q1.g))) = [v' (vi' I' ((List.take 3 (List.drop (0 + q0 * 3) (rowV enc (q1.xs ++ q1.g)))).getD 0 (u')).intOf),v' (vi' I' ((List.take 3 (List.drop (0 + q0 * 3) (rowV enc (q1.xs ++ q1.g)))).getD 1 (u')).intOf),v' (vi' I' ((List.take 3 (List.drop (0 + q0 * 3) (rowV enc (q1.xs ++ q1.g)))).getD 2 (u')).intOf)])).a (f' (Wk (AV.agg [v' (vi' I' ((List.take 3 (List.drop (0 + q0 * 3) (rowV enc (q1.xs ++ q1.g)))).getD 0 (u')).intOf),v' (vi' I' ((List.take 3 (List.drop (0 + q0 * 3) (rowV enc (q1.xs ++ q1.g)))).getD 1 (u')).intOf),v' (vi' I' ((List.take 3 (List.drop (0 + q0 * 3) (rowV enc (q1.xs ++ q1.g)))).getD 2 (u')).intOf)]) (AV.agg [v' (vi' I' (at' q1 q0).a),v' (vi' I' (at' q1 q0).b),v' (vi' I' (at' q1 q0).c)]))))).a z)))
theorem YE' (s : Ps) (i j : Nat) (F : HP) : oRun conA (hLess s i j) [] 119 [.ptr 0 0, iv (o' i), iv (o' j)] (pL s) [0, 1001, 1002] F = VT.leaf (b' (ahead (It.mk (at' s i).a (at' s i).b (at' s i).c) (It.mk (at' s j).a (at' s j).b (at' s j).c))) [some (ce' [AV.slice 1001 0 s.xs.length 3 (Cp.lo (s.xs.length + s.g.length)),AV.map 1002] 170),some (ce' (rowV enc (s.xs ++ s.g)) 142),some (AO.map (mE iv s.m) s.ck)] 1100 (h38' i s (h38' j s ((f' (VW [AV.agg [v' (vi' I' (at' s i).a),v' (vi' I' (at' s i).b),v' (vi' I' (at' s i).c)],AV.agg [v' (vi' I' (at' s j).a),v' (vi' I' (at' s j).b),v' (vi' I' (at' s j).c)]] [AV.agg [v' (vi' I' (at' s i).a),v' (vi' I' (at' s i).b),v' (vi' I' (at' s i).c)],AV.agg [v' (vi' I' (at' s j).a),v' (vi' I' (at' s j).b),v' (vi' I' (at' s j).c)]])).a k1'))) := χ
def T2' (s : Ps) (i j : Nat) : IMap Int := mset (mset s.m s.ck (at' s j).b i) (DY' s.m s.ck (at' s j).b) (at' s i).b j
def XS' (s : Ps) (i j : Nat) : Nat := DY' (mset s.m s.ck (at' s j).b i) (DY' s.m s.ck (at' s j).b) (at' s i).b
def AL' (s : Ps) (i j : Nat) : Ps := ⟨(s.xs.set i (at' s j)).set j (at' s i), s.g, T2' s i j, XS' s i j⟩
def ZG' (s : Ps) (i j : Nat) : AO' := AN' [(LL', 0, 16, hv (itA (at' s j))), (LL', 0, 23, hv (itA (at' s i))), (LL', 0, 25, ho 1001 (.cells (rowV enc (s.xs.set i (at' s j) ++ s.g)) tIt)), (LL', 0, 27, ho 1001 (.cells (rowV enc ((AL' s i j).xs ++ s.g)) tIt)),
 (LL', 1, 11, hv (iv (at' s j).b)), (LL', 1, 23, hv (iv (at' s i).b)),
 (LL', 1, 28, ho 1002 (.map (mE iv (mset s.m s.ck (at' s j).b i)) (DY' s.m s.ck (at' s j).b))),
 (LL', 1, 31, ho 1002 (.map (mE iv (T2' s i j)) (XS' s i j)))]
abbrev k39' (q0 : Nat) (q1 : Ps) : Cnd := (f' (q0.blt q1.xs.length = true))
theorem Y8' (s : Ps) (i j : Nat) (F : HP) : oRun [] (ZG' s i j) [] 122 [.ptr 0 0, iv (o' i), iv (o' j)] (pL s) [0, 1001, 1002] F = VT.leaf (AV.tuple []) [some (ce' [AV.slice 1001 0 s.xs.length 3 (Cp.lo (s.xs.length + s.g.length)),AV.map 1002] 170),some (ce' (rowV enc ((s.xs.set i (at' s j)).set j (at' s i) ++ s.g)) 142),some (AO.map (mE iv (T2' s i j)) (XS' s i j))] 1100 (h13' (h38' j s (h38' i s ((k39' i s).a (((p' ((0 + i * 3 + 3).ble (rowV enc (s.xs ++ s.g)).length = true)).a (f' (OW (ce' (splice (rowV enc (s.xs ++ s.g)) (0 + i * 3) [v' (vi' I' (at' s j).a),v' (vi' I' (at' s j).b),v' (vi' I' (at' s j).c)]) 142) (ce' (rowV enc (s.xs.set i (at' s j) ++ s.g)) 142)))).a ((k39' j s).a (((p' ((0 + j * 3 + 3).ble (rowV enc (s.xs.set i (at' s j) ++ s.g)).length = true)).a (f' (OW (ce' (splice (rowV enc (s.xs.set i (at' s j) ++ s.g)) (0 + j * 3) [v' (vi' I' (at' s i).a),v' (vi' I' (at' s i).b),v' (vi' I' (at' s i).c)]) 142) (ce' (rowV enc ((s.xs.set i (at' s j)).set j (at' s i) ++ s.g)) 142)))).a (h13' ((k39' i s).a (((p' ((0 + i * 3 + 1).blt (rowV enc ((s.xs.set i (at' s j)).set j (at' s i) ++ s.g)).length = true)).a ((p' ((rowV enc ((s.xs.set i (at' s j)).set j (at' s i) ++ s.g)).getD (0 + i * 3 + 1) (u') = v' (vi' I' ((rowV enc ((s.xs.set i (at' s j)).set j (at' s i) ++ s.g)).getD (0 + i * 3 + 1) (u')).intOf))).a (f' (Wk (v' (vi' I' ((rowV enc ((s.xs.set i (at' s j)).set j (at' s i) ++ s.g)).getD (0 + i * 3 + 1) (u')).intOf)) (v' (vi' I' (at' s j).b)))))).a (h13' ((k39' j s).a (((p' ((0 + j * 3 + 1).blt (rowV enc ((s.xs.set i (at' s j)).set j (at' s i) ++ s.g)).length = true)).a ((p' ((rowV enc ((s.xs.set i (at' s j)).set j (at' s i) ++ s.g)).getD (0 + j * 3 + 1) (u') = v' (vi' I' ((rowV enc ((s.xs.set i (at' s j)).set j (at' s i) ++ s.g)).getD (0 + j * 3 + 1) (u')).intOf))).a (f' (Wk (v' (vi' I' ((rowV enc ((s.xs.set i (at' s j)).set j (at' s i) ++ s.g)).getD (0 + j * 3 + 1) (u')).intOf)) (v' (vi' I' (at' s i).b)))))).a (((p' (findKey Try.prog (env0 [] (ZG' s i j) [] F) 3 (v' (vi' I' (at' s j).b)) (mE iv s.m) 0 = AP.ret (AR' (v' (vi' I' (at' s j).b)) (mE iv s.m) 0))).a (f' (GI' (v' (vi' I' (at' s j).b)) (mE iv s.m)))).a (((p' ((DC' (EL' (v' (vi' I' (at' s j).b)) (mE iv s.m) s.ck) (ensE (v' (vi' I' (at' s j).b)) (i' 0) (mE iv s.m) s.ck) 0).isSome = true)).a (f' (OW (AO.map (KQ' (EL' (v' (vi' I' (at' s j).b)) (mE iv s.m) s.ck) (i' i) (ensE (v' (vi' I' (at' s j).b)) (i' 0) (mE iv s.m) s.ck)) (E1' (v' (vi' I' (at' s j).b)) (mE iv s.m) s.ck)) (AO.map (mE iv (mset s.m s.ck (at' s j).b ↑i)) (DY' s.m s.ck (at' s j).b))))).a (((p' (findKey Try.prog (env0 [] (ZG' s i j) [] F) 3 (v' (vi' I' (at' s i).b)) (mE iv (mset s.m s.ck (at' s j).b ↑i)) 0 = AP.ret (AR' (v' (vi' I' (at' s i).b)) (mE iv (mset s.m s.ck (at' s j).b ↑i)) 0))).a (f' (GI' (v' (vi' I' (at' s i).b)) (mE iv (mset s.m s.ck (at' s j).b ↑i))))).a (((p' ((DC' (EL' (v' (vi' I' (at' s i).b)) (mE iv (mset s.m s.ck (at' s j).b ↑i)) (DY' s.m s.ck (at' s j).b)) (ensE (v' (vi' I' (at' s i).b)) (i' 0) (mE iv (mset s.m s.ck (at' s j).b ↑i)) (DY' s.m s.ck (at' s j).b)) 0).isSome = true)).a (f' (OW (AO.map (KQ' (EL' (v' (vi' I' (at' s i).b)) (mE iv (mset s.m s.ck (at' s j).b ↑i)) (DY' s.m s.ck (at' s j).b)) (i' j) (ensE (v' (vi' I' (at' s i).b)) (i' 0) (mE iv (mset s.m s.ck (at' s j).b ↑i)) (DY' s.m s.ck (at' s j).b))) (E1' (v' (vi' I' (at' s i).b)) (mE iv (mset s.m s.ck (at' s j).b ↑i)) (DY' s.m s.ck (at' s j).b))) (AO.map (mE iv (T2' s i j)) (XS' s i j))))).a k1'))))))))))))))))) := χ
abbrev fLen : Nat := 118
abbrev CI' : Nat := 121
theorem dS' (s : Ps) (F : HP) : oRun [] AF' [] 118 [.ptr 0 0] (pL s) [0, 1001, 1002] F = VT.leaf (z' ↑s.xs.length) [some (ce' [AV.slice 1001 0 s.xs.length 3 (Cp.lo (s.xs.length + s.g.length)),AV.map 1002] 170),some (ce' (rowV enc (s.xs ++ s.g)) 142),some (AO.map (mE iv s.m) s.ck)] 1100 (k12'.a k1') := χ
theorem YF' (F : HP) : oRun [] AF' [] 118 [.ptr 0 0] pL0 [0, 1002] F = VT.leaf (i' 0) [some (ce' [e',AV.map 1002] 170),some (AO.map [] 0)] 1100 (k12'.a k1') := χ
abbrev k40' (q0 : It) : Cnd := (ee' [z' q0.a,z' q0.b,z' q0.c])
theorem YA' (s : Ps) (x : It) (F : HP) : oRun [] AF' [] 121 [.ptr 0 0, .iface 71 (itA x)] (pL s) [0, 1001, 1002, 1100, 1101, 1102, 1103] F = VT.leaf (AV.tuple []) [some (ce' [AV.slice 1102 0 (s.xs.length + 1) 3 (Cp.lo (s.xs.length + 1)),AV.map 1002] 170),none,some (AO.map (setE (z' x.b) (z' ↑s.xs.length) (mE iv s.m) s.ck) (E1' (z' x.b) (mE iv s.m) s.ck)),some (ce' [z' x.a,z' x.b,z' x.c] 142),some (ce' [z' x.a,z' x.b,z' x.c] 142),some (ce' (List.take (s.xs.length * 3) (List.drop 0 (rowV enc (s.xs ++ s.g))) ++ [z' x.a,z' x.b,z' x.c]) 142),none] 1103 (h13' ((k37' x).a (k12'.a (((p' (findKey Try.prog (env0 [] AF' [] F) 3 (z' x.b) (mE iv s.m) 0 = AP.ret (AR' (z' x.b) (mE iv s.m) 0))).a (f' (GI' (z' x.b) (mE iv s.m)))).a (k12'.a ((k40' x).a ((tt'.a (tt'.a (tt'.a (tt'.a ((p' ((0 + s.xs.length * 3).ble (rowV enc (s.xs ++ s.g)).length = true)).a ((p' (((s.xs.length + 1) * 24).ble 140737488355328 = true)).a ((p' ((s.xs.length + 1).ble 9223372036854775807 = true)).a (f' ((List.take (s.xs.length * 3) (List.drop 0 (rowV enc (s.xs ++ s.g)))).length.beq (s.xs.length * 3) = true))))))))).a (k12'.a k1')))))))) := χ
theorem V5' (x : It) (F : HP) : oRun [] AF' [] 121 [.ptr 0 0, .iface 71 (itA x)] pL0 [0, 1002, 1100, 1101, 1102, 1103] F = VT.leaf (AV.tuple []) [some (ce' [AV.slice 1102 0 1 3 (Cp.lo 1),AV.map 1002] 170),some (AO.map [(z' x.b,i' 0,0)] 1),some (ce' [z' x.a,z' x.b,z' x.c] 142),some (ce' [z' x.a,z' x.b,z' x.c] 142),some (ce' [z' x.a,z' x.b,z' x.c] 142),none] 1103 (h13' ((k37' x).a (k12'.a (((p' (findKey Try.prog (env0 [] AF' [] F) 3 (z' x.b) [] 0 = AP.ret none)).a (f' (GI' (z' x.b) []))).a (k12'.a ((k40' x).a ((tt'.a (tt'.a (tt'.a (tt'.a (ee' true))))).a (k12'.a k1')))))))) := χ
abbrev fPop : Nat := 120
def hPop (s : Ps) : AO' := AN' [(fPop, 1, 5, hv (iv (o' (s.xs.length - 1)))), (fPop, 2, 6, hv (itA (at' s (s.xs.length - 1))))]
theorem dM' (s : Ps) (F : HP) : oRun [] (hPop s) [] 120 [.ptr 0 0] (pL s) [0, 1001, 1002] F = VT.leaf (AV.iface 71 (AV.agg [v' (vi' I' (at' s (s.xs.length - 1)).a),v' (vi' I' (at' s (s.xs.length - 1)).b),v' (vi' I' (at' s (s.xs.length - 1)).c)])) [some (ce' [AV.slice 1001 0 (s.xs.length - 1 - 0) 3 (Cp.lo (s.xs.length + s.g.length - 0)),AV.map 1002] 170),some (ce' (rowV enc (s.xs ++ s.g)) 142),some (AO.map (delE (v' (vi' I' (at' s (s.xs.length - 1)).b)) (mE iv s.m)) s.ck)] 1101 (k12'.a ((f' (Wk (z' (IntKind.i64.wrap (↑s.xs.length - o' 1))) (i' (s.xs.length - 1)))).a (k12'.a ((f' ((s.xs.length - 1).blt s.xs.length = true)).a (((p' ((List.take 3 (List.drop (0 + (s.xs.length - 1) * 3) (rowV enc (s.xs ++ s.g)))).length.beq 3 = true)).a ((p' (List.take 3 (List.drop (0 + (s.xs.length - 1) * 3) (rowV enc (s.xs ++ s.g))) = [v' (vi' I' ((List.take 3 (List.drop (0 + (s.xs.length - 1) * 3) (rowV enc (s.xs ++ s.g)))).getD 0 (u')).intOf),v' (vi' I' ((List.take 3 (List.drop (0 + (s.xs.length - 1) * 3) (rowV enc (s.xs ++ s.g)))).getD 1 (u')).intOf),v' (vi' I' ((List.take 3 (List.drop (0 + (s.xs.length - 1) * 3) (rowV enc (s.xs ++ s.g)))).getD 2 (u')).intOf)])).a (f' (Wk (AV.agg [v' (vi' I' ((List.take 3 (List.drop (0 + (s.xs.length - 1) * 3) (rowV enc (s.xs ++ s.g)))).getD 0 (u')).intOf),v' (vi' I' ((List.take 3 (List.drop (0 + (s.xs.length - 1) * 3) (rowV enc (s.xs ++ s.g)))).getD 1 (u')).intOf),v' (vi' I' ((List.take 3 (List.drop (0 + (s.xs.length - 1) * 3) (rowV enc (s.xs ++ s.g)))).getD 2 (u')).intOf)]) (AV.agg [v' (vi' I' (at' s (s.xs.length - 1)).a),v' (vi' I' (at' s (s.xs.length - 1)).b),v' (vi' I' (at' s (s.xs.length - 1)).c)]))))).a (h13' ((tt'.a ((p' ((s.xs.length - 1).ble (s.xs.length + s.g.length) = true)).a (f' ((s.xs.length + s.g.length).ble (s.xs.length + s.g.length) = true)))).a (h13' ((ee' (v' (vi' I' (at' s (s.xs.length - 1)).b))).a ((f' (findKey Try.prog (env0 [] (hPop s) [] F) 3 (v' (vi' I' (at' s (s.xs.length - 1)).b)) (mE iv s.m) 0 = AP.ret (AR' (v' (vi' I' (at' s (s.xs.length - 1)).b)) (mE iv s.m) 0))).a ((ee' [v' (vi' I' (at' s (s.xs.length - 1)).a),v' (vi' I' (at' s (s.xs.length - 1)).b),v' (vi' I' (at' s (s.xs.length - 1)).c)]).a k1'))))))))))) := χ
end
theorem intT : Θ.underlying 3 = some (.int .i64) := χ
theorem noC : ∀ x ∈ ([] : List (FuncId × (List AV -> Option (AP AV)))), ∀ F, C1OK Θ F x.1 x.2 := fun x hx => by cases hx
theorem noL : ∀ x ∈ ([] : List (FuncId × Nat × Code × (List AV -> AP (AX × List AV)))), ∀ F, L1OK Θ F x.2.2.1 x.2.2.2 := fun x hx => by cases hx
theorem X0' (s : Ps) (i : Nat) (hi : i < s.xs.length) : (s.xs ++ s.g).getD i It.zero = at' s i := by
 simp [at', List.getD, List.getElem?_append_left hi]
theorem OO' (s : Ps) (i : Nat) (hi : i < s.xs.length) : List.take 3 (List.drop (0 + i * 3) (rowV enc (s.xs ++ s.g))) = vmap (enc (at' s i)) := by
 rw [Nat.zero_add, KU' enc_length _ It.zero i (by rw [la']; omega), X0' s i hi]
theorem UL' (s : Ps) : (rowV enc (s.xs ++ s.g)).length = (s.xs.length + s.g.length) * 3 := by rw [B9' enc_length, la']
theorem B8' {F : HP} : AP' default F := AP'.nothing F
theorem CN' {os : List (Option AO)} {u : AV} (s : Ps) (l : List (Nat × Nat)) (hk : IQ' (pL s) l = true) (hi : injB ((pL s).map (·.1)) (sg l) = true) (hv : VW [u] (AV.rens (sg l) [v])) (hc : AV.cls (fun i => Nat.blt i 1000) [v])
  (ho : HW' ks os l (pL s)) : Fits ks [u] os [v] [(0, pO s)] := by
 refine ⟨[v], pL s, l, rfl, B2' l hk hi hv ho, ?_⟩
 have := Goes.shut (σ := Unit) (R := fun _ => True) (L := fun _ => pL s) (m := .pile s) (H0 := []) (vs := [v]) () trivial rfl ⟨_, _, rfl, rfl⟩ (by
  have e : (fun i => Nat.blt i 1000 || (getO ([] : LH) i).isSome) = fun i => Nat.blt i 1000 := by funext i; simp [getO]
  rw [e]; exact hc) (fun x hx => by cases hx)
 rwa [List.append_nil] at this
theorem CK' {s : Ps} (h : Tri Θ default f A (pL s) v H') : Tri Θ default f A [(0, pO s)] v H' := by
 refine Tri.open (σ := Unit) (R := fun _ => True) (L := fun _ => pL s) (H0 := []) (fun _ => rfl) (fun _ x hx => ?_) (fun _ => ⟨_, rfl⟩) (fun _ _ => by rw [List.append_nil]; exact h); simp only [pL, List.mem_cons, List.not_mem_nil, or_false] at hx
 rcases hx with rfl | rfl | rfl
 ·exact ⟨rfl, rfl, Ye⟩
 ·exact DP' _ _
 ·show clE _ (mE iv s.m)
  have : ∀ m : IMap Int, clE (kH (pL s)) (mE iv m) := by
   intro m
   induction m with
   | nil => exact Ye
   | cons e m ih => exact ⟨Ye, Ye, ih⟩
  exact this s.m
theorem DQ' (h : Tri Θ default f A pL0 v H') : Tri Θ default f A [(0, pO0)] v H' := by
 refine Tri.open (σ := Unit) (R := fun _ => True) (L := fun _ => pL0) (H0 := []) (fun _ => rfl) (fun _ x hx => ?_) (fun _ => ⟨_, rfl⟩) (fun _ _ => by rw [List.append_nil]; exact h); simp only [pL0, List.mem_cons, List.not_mem_nil, or_false] at hx
 rcases hx with rfl | rfl
 ·exact ⟨Ye, rfl, Ye⟩
 ·exact Ye
theorem AY' {a b : Int} (h : a = b) : Wk (.v (.int .i64 a)) (.v (.int .i64 b)) := Wk.of_eq (by rw [h])
theorem NG' (σ : Nat -> Nat) (m : IMap Int) : renE σ (mE iv m) = mE iv m := by
 induction m with
 | nil => rfl
 | cons e m ih =>
  show renE σ ((.v (.int .i64 e.1), iv e.2.1, e.2.2) :: mE iv m) = _; rw [renE, ih]; rfl
theorem CL' {os : List (Option AO)} {l : List (Nat × Nat)} (s : Ps) {r m : Nat} (h00 : sg l 0 = 0) (hr : sg l 1001 = r) (hm : sg l 1002 = m) (h0 : getK ks os 0 = some (.cells [.slice r 0 s.xs.length 3 (.lo (s.xs.length + s.g.length)), .map m] bS'))
  (h1 : getK ks os r = some (.cells (rowV enc (s.xs ++ s.g)) tIt)) (h2 : getK ks os m = some (.map (mE iv s.m) s.ck)) : HW' ks os l (pL s) := by
 refine ⟨⟨_, by rw [h00]; exact h0, OW.of_eq ?_⟩, ⟨_, by rw [hr]; exact h1, OW.of_eq ?_⟩, ⟨_, by rw [hm]; exact h2, OW.of_eq ?_⟩, Ye⟩
 ·simp only [AO.ren, AV.rens, AV.ren, hr, hm]
 ·simp only [AO.ren, BG']
 ·simp only [AO.ren, NG']
theorem X6' (x y : It) : Tri Θ default 50 [itA x, itA y] [] (.v (.bool (ahead x y))) [] := by
 refine AK' (con := []) (hints := AF') (lc := []) [] rfl noC noL fun F => ?_
 rw [VG']
 have fin : ∀ b, b = ahead x y -> Fits [] [.v (.bool b)] [] [.v (.bool (ahead x y))] [] := fun b hb => (B2' [] rfl rfl (by subst hb; exact Yb) (show HW' [] [] [] [] from trivial)).fits rfl
 refine ⟨fun h1 => ⟨?_, fin _ ?_⟩, fun h1 => ⟨fun h2 => ⟨?_, fin _ ?_⟩, fun h2 => ⟨?_, fin _ ?_⟩⟩⟩
 ·simp only [ch', and_self]
 ·simp only [ahead, <- gt_iff_lt, h1, Bool.true_or]
 ·simp only [ch', and_self]
 ·simp only [ahead, <- gt_iff_lt, h1, h2, Bool.false_or, Bool.true_and]
 ·simp only [ch', and_self]
 ·simp only [ahead, <- gt_iff_lt, h1, h2, Bool.false_or, Bool.false_and]
theorem eT' : ∀ x ∈ conA, ∀ F, C1OK Θ F x.1 x.2 := by
 intro x hx F; simp only [conA, List.mem_cons, List.not_mem_nil, or_false] at hx; subst hx; intro st W0 N h w args vargs v h' n n' lg lg' c p hp he hc r ha hf; simp only at hp; split at hp
 ·rename_i a b c a' b' c'; cases hp
  have hcl : ClosedC [itA ⟨a, b, c⟩, itA ⟨a', b', c'⟩] [] [.v (.bool (ahead ⟨a, b, c⟩ ⟨a', b', c'⟩))] [] := ⟨rfl, rfl, ⟨⟨Ye, Ye, Ye, Ye⟩, ⟨Ye, Ye, Ye, Ye⟩, Ye⟩, (fun x hx => by cases hx), ⟨Ye, Ye⟩, fun x hx => by cases hx⟩
  exact DR' B8' (X6' ⟨a, b, c⟩ ⟨a', b', c'⟩) rfl hcl he hc r ha hf
 ·cases hp
theorem ZA' (s : Ps) (i j : Nat) (hi : i < s.xs.length) (hj : j < s.xs.length) : Tri Θ default WB' [.ptr 0 0, iv (o' i), iv (o' j)] [(0, pO s)] (.v (.bool (ahead (at' s i) (at' s j)))) [(0, pO s)] := by
 refine CK' (AK' (con := conA) (hints := hLess s i j) (lc := []) [0, 1001, 1002] rfl eT' noL fun F => ?_); rw [YE']; refine ⟨?_, CN' s [(1001, 1001), (1002, 1002)] χ χ (Yb) ⟨Ye, Ye⟩ (CL' s rfl rfl rfl rfl rfl rfl)⟩; simp only [ch', OO' s i hi, OO' s j hj, true_and, and_true, Nat.blt_eq]; exact ⟨hi, ⟨rfl, rfl, Ya⟩, hj, ⟨rfl, rfl, Ya⟩, Yb⟩
theorem ON' (s : Ps) (ys : List It) (i : Nat) (y : It) (hi : i < ys.length) : splice (rowV enc (ys ++ s.g)) (0 + i * 3) (vmap (enc y)) = rowV enc (ys.set i y ++ s.g) := by
 rw [Nat.zero_add, QD' enc_length _ i y (by rw [la']; omega), List.set_append_left _ _ hi]
theorem UJ' (s : Ps) (ys : List It) (i : Nat) (hi : i < ys.length) : (rowV enc (ys ++ s.g)).getD (0 + i * 3 + 1) AV.undef = iv (ys.getD i It.zero).b := by
 have h := KU' enc_length (ys ++ s.g) It.zero i (by rw [la']; omega)
 have h2 : ((rowV enc (ys ++ s.g)).drop (i * 3)).take 3 = vmap (enc (ys.getD i It.zero)) := by rw [h]; simp [List.getD, List.getElem?_append_left hi]
 have h3 : (((rowV enc (ys ++ s.g)).drop (i * 3)).take 3)[1]? = (vmap (enc (ys.getD i It.zero)))[1]? := by rw [h2]
 rw [List.getElem?_take_of_lt δ, List.getElem?_drop] at h3; rw [Nat.zero_add, List.getD, h3]; rfl
theorem B3' (s : Ps) (i j : Nat) : (AL' s i j).xs.length = s.xs.length := by simp [AL']
theorem OI' (s : Ps) (i j : Nat) (hi : i < s.xs.length) (hj : j < s.xs.length) : (AL' s i j).xs.getD i It.zero = at' s j := by
 simp only [AL', at', List.getD]
 by_cases h : j = i
 ·subst h; simp [hj]
 ·rw [List.getElem?_set_ne h, List.getElem?_set_self hi]; rfl
theorem OH' (s : Ps) (i j : Nat) (hi : i < s.xs.length) (hj : j < s.xs.length) : (AL' s i j).xs.getD j It.zero = at' s i := by
 simp only [AL', at', List.getD]; rw [List.getElem?_set_self (by simpa using hj)]; rfl
theorem XR' (s : Ps) (i j : Nat) (hi : i < s.xs.length) (hj : j < s.xs.length) (hM : MI s.m s.ck) : Tri Θ default LL' [.ptr 0 0, iv (o' i), iv (o' j)] [(0, pO s)] (.tuple []) [(0, pO (AL' s i j))] := by
 refine CK' (AK' (con := []) (hints := ZG' s i j) (lc := []) [0, 1001, 1002] rfl noC noL fun F => ?_); rw [Y8']; have hgl : (AL' s i j).g = s.g := rfl; refine ⟨?_, CN' (AL' s i j) [(1001, 1001), (1002, 1002)] χ χ (Yb) ⟨Ye, Ye⟩ (CL' (AL' s i j) rfl rfl rfl (by rw [B3']; rfl) rfl rfl)⟩; have e1 := ON' s s.xs i (at' s j) hi; have e2 := ON' s (s.xs.set i (at' s j)) j (at' s i) (by simpa using hj)
 have e3 : (rowV enc ((s.xs.set i (at' s j)).set j (at' s i) ++ s.g)).getD (0 + i * 3 + 1) AV.undef = iv (at' s j).b := by rw [UJ' s _ i (by simpa using hi)]; exact congrArg (fun x => iv x.b) (OI' s i j hi hj)
 have e4 : (rowV enc ((s.xs.set i (at' s j)).set j (at' s i) ++ s.g)).getD (0 + j * 3 + 1) AV.undef = iv (at' s i).b := by rw [UJ' s _ j (by simpa using hj)]; exact congrArg (fun x => iv x.b) (OH' s i j hi hj)
 have l1 : (rowV enc (s.xs ++ s.g)).length = (s.xs.length + s.g.length) * 3 := UL' s
 have l2 : (rowV enc (s.xs.set i (at' s j) ++ s.g)).length = (s.xs.length + s.g.length) * 3 := by rw [B9' enc_length, la', List.length_set]
 have l3 : (rowV enc ((s.xs.set i (at' s j)).set j (at' s i) ++ s.g)).length = (s.xs.length + s.g.length) * 3 := by rw [B9' enc_length, la', List.length_set, List.length_set]
 obtain ⟨m1, m2⟩ := WI' (ev := iv) hM (at' s j).b (.v (.int .i64 (o' 0))); obtain ⟨m3, m4⟩ := WI' (ev := iv) (hM.mset (at' s j).b (i : Int)) (at' s i).b (.v (.int .i64 (o' 0)))
 simp only [ch', OO' s i hi, OO' s j hj, true_and, and_true, Nat.blt_eq, Nat.ble_eq, e3, e4, l1, l2, l3]; and_intros; all_goals first | exact Ya | exact NH' e1 | exact NH' e2 | exact aN' (m2 _) (HG' ..) | exact aN' (m4 _) (HG' ..) | exact AS' intT _ _ _ | exact B4' _ _ | exact m1 | exact m3 | omega | rfl
theorem eC' (s : Ps) : Tri Θ default fLen [.ptr 0 0] [(0, pO s)] (iv (o' s.xs.length)) [(0, pO s)] := by
 refine CK' (AK' (con := []) (hints := AF') (lc := []) [0, 1001, 1002] rfl noC noL fun F => ?_); rw [dS']; exact ⟨by simp only [ch', and_self], CN' s [(1001, 1001), (1002, 1002)] χ χ (Yb) ⟨Ye, Ye⟩ (CL' s rfl rfl rfl rfl rfl rfl)⟩
theorem HB' {os : List (Option AO)} {u : AV} (l : List (Nat × Nat)) (hk : IQ' pL0 l = true) (hi : injB (pL0.map (·.1)) (sg l) = true) (hv : VW [u] (AV.rens (sg l) [v])) (hc : AV.cls (fun i => Nat.blt i 1000) [v])
  (ho : HW' ks os l pL0) : Fits ks [u] os [v] [(0, pO0)] := by
 refine ⟨[v], pL0, l, rfl, B2' l hk hi hv ho, ?_⟩
 have := Goes.shut (σ := Unit) (R := fun _ => True) (L := fun _ => pL0) (m := .pile0) (H0 := []) (vs := [v]) () trivial rfl ⟨_, _, rfl, rfl⟩ (by
  have e : (fun i => Nat.blt i 1000 || (getO ([] : LH) i).isSome) = fun i => Nat.blt i 1000 := by funext i; simp [getO]
  rw [e]; exact hc) (fun x hx => by cases hx)
 rwa [List.append_nil] at this
theorem ZB' : Tri Θ default fLen [.ptr 0 0] [(0, pO0)] (iv (o' 0)) [(0, pO0)] := by
 refine DQ' (AK' (con := []) (hints := AF') (lc := []) [0, 1002] rfl noC noL fun F => ?_); rw [YF']; exact ⟨by simp only [ch', and_self], HB' [(1002, 1002)] χ χ (Yb) ⟨Ye, Ye⟩ ⟨⟨_, rfl, Yc⟩, ⟨_, rfl, Yc⟩, Ye⟩⟩
def BA' (s : Ps) (x : It) : Ps := ⟨s.xs ++ [x], [], mset s.m s.ck x.b s.xs.length, DY' s.m s.ck x.b⟩
def Room (s : Ps) : Prop := (s.xs.length + 1) * 24 <= 140737488355328
theorem Y1' (s : Ps) (x : It) (hR : Room s) : Tri Θ default CI' [.ptr 0 0, .iface 71 (itA x)] [(0, pO s)] (.tuple []) [(0, pO (BA' s x))] := by
 refine CK' (AK' (con := []) (hints := AF') (lc := []) [0, 1001, 1002, 1100, 1101, 1102, 1103] rfl noC noL fun F => ?_); rw [YA']
 have hx : List.take (s.xs.length * 3) (List.drop 0 (rowV enc (s.xs ++ s.g))) = rowV enc s.xs := by
  rw [List.drop_zero, EQ' enc_length]; simp
 have e1 : List.take (s.xs.length * 3) (List.drop 0 (rowV enc (s.xs ++ s.g))) ++ vmap (enc x) = rowV enc ((BA' s x).xs ++ (BA' s x).g) := by
  rw [hx, <- KB' (enc := enc), <- DS']; simp [BA']
 have e2 := N8' (ev := iv) x.b (s.xs.length : Int) s.m s.ck
 have hlen : (BA' s x).xs.length = s.xs.length + 1 := by simp [BA']
 refine ⟨?_, CN' (BA' s x) [(1001, 1102), (1002, 1002)] χ χ (Yb) ⟨Ye, Ye⟩ (CL' (BA' s x) rfl rfl rfl ?_ ?_ ?_)⟩
 ·have hR' : (s.xs.length + 1) * 24 <= 140737488355328 := hR
  simp only [ch', true_and, and_true, Nat.ble_eq, UL', hx, B9' enc_length, la']; and_intros; all_goals first | rfl | exact AS' intT _ _ _ | exact B4' _ _ | omega | exact Nat.beq_refl _
 ·rw [hlen]; rfl
 ·exact congrArg (fun r => some (ce' r tIt)) e1
 ·show some (AO.map (setE _ _ _ _) (E1' _ _ _)) = _; rw [HG']; exact congrArg (fun r => some (AO.map r _)) e2
theorem UU' (x : It) : Tri Θ default CI' [.ptr 0 0, .iface 71 (itA x)] [(0, pO0)] (.tuple []) [(0, pO (BA' ⟨[], [], [], 0⟩ x))] := by
 refine DQ' (AK' (con := []) (hints := AF') (lc := []) [0, 1002, 1100, 1101, 1102, 1103] rfl noC noL fun F => ?_); rw [V5']; refine ⟨?_, CN' _ [(1001, 1102), (1002, 1002)] χ χ (Yb) ⟨Ye, Ye⟩ (CL' _ rfl rfl rfl rfl rfl rfl)⟩; simp only [ch', true_and, and_true]
 exact ⟨rfl, fun j v h => by cases h⟩
def popS (s : Ps) : Ps := ⟨s.xs.dropLast, at' s (s.xs.length - 1) :: s.g, mdel s.m (at' s (s.xs.length - 1)).b, s.ck⟩
theorem d0' (s : Ps) (h0 : 0 < s.xs.length) (hb : s.xs.length <= 9223372036854775807) : Tri Θ default fPop [.ptr 0 0] [(0, pO s)] (.iface 71 (itA (at' s (s.xs.length - 1)))) [(0, pO (popS s))] := by
 refine CK' (AK' (con := []) (hints := hPop s) (lc := []) [0, 1001, 1002] rfl noC noL fun F => ?_); rw [dM']
 have hxs : s.xs.dropLast ++ [at' s (s.xs.length - 1)] = s.xs := by
  have hne : s.xs ≠ [] := fun e => by rw [e] at h0; cases h0
  have : at' s (s.xs.length - 1) = s.xs.getLast hne := by
   rw [at', List.getD, List.getElem?_eq_getElem ω, List.getLast_eq_getElem]; rfl
  rw [this, List.dropLast_concat_getLast]
 have hrow : (popS s).xs ++ (popS s).g = s.xs ++ s.g := by
  show s.xs.dropLast ++ (at' s (s.xs.length - 1) :: s.g) = _; rw [<- List.singleton_append, <- List.append_assoc, hxs]
 have hl1 : (popS s).xs.length = s.xs.length - 1 := by simp [popS]
 have hl2 : (popS s).xs.length + (popS s).g.length = s.xs.length + s.g.length := by rw [<- la', hrow, la']
 refine ⟨?_, CN' (popS s) [(1001, 1001), (1002, 1002)] χ χ (Yb) ⟨⟨Ye, Ye, Ye, Ye⟩, Ye⟩ (CL' (popS s) rfl rfl rfl ?_ ?_ ?_)⟩
 ·simp only [ch', true_and, and_true, Nat.ble_eq, Nat.blt_eq, OO' s (s.xs.length - 1) ω]
  have hwr : IntKind.i64.wrap ((s.xs.length : Int) - o' 1) = o' (s.xs.length - 1) := by
   rw [IntWalk.i64_in _ (by simp only [Z0]; omega)]; simp only [Z0]; omega
  and_intros; all_goals first | exact Ya | exact AY' hwr | exact AS' intT _ _ _ | omega | rfl
 ·rw [hl2, hl1]; rfl
 ·rw [hrow]; rfl
 ·show some (AO.map (delE _ _) _) = _; rw [NP']; rfl
end Go.Proofs.Ytjjjchmkonnpfaa.Rk
