/- Parts of the proof, merged. -/
import Derived.Test.YtfledabgdcnkfaaMem
import Derived.Test.YtfledabgdcnkfaaPd1
import Derived.Deep.Slices
import Derived.SizedLaws
import Derived.Test.YtfledabgdcnkfaaRows
import Derived.Test.YtfledabgdcnkfaaPd5
import Derived.ProofKit
import Derived.OpenShut
import Derived.Deep.Fields
/- A slice of structs that comes in, whatever its struct: its cells, read as a list of plain records. -/
set_option linter.unusedVariables false
set_option linter.unusedSimpArgs false
namespace Go.Proofs.Ytfledabgdcnkfaa
open Go.ChangeShapes Go.WideShapes Go.RowKit Go.Deep
section
variable {H : Type} {enc : TypeId × Value → H} {P : Program} {w : World} {base : Nat} {spare : Nat → Bool} {held : Bool}
def Light (P : Program) (t : TypeId) (d : DataW H) : Prop := ∀ n ∈ d.weights P t, n ≤ reachBytes
theorem light_args {ts : List TypeId} {ds : List (DataW H)} (h : (DataW.weightsEach P ts ds).all (· ≤ reachBytes) = true) {j : Nat} {t : TypeId} {d : DataW H} (ht : ts[j]? = some t) (hd : ds[j]? = some d) : Light P t d := fun n hn => by
  simpa using List.all_eq_true.1 h n (DataW.weights_mem_each ht hd n hn)
theorem weightsAll_mem {e : TypeId} : ∀ {l : List (DataW H)} {d : DataW H}, d ∈ l → ∀ n ∈ d.weights P e, n ∈ DataW.weightsAll P e l
  | x :: l, d, hd, n, hn => by
    rw [DataW.weightsAll, List.mem_append]
    rcases List.mem_cons.1 hd with rfl | hd
    · exact .inl hn
    · exact .inr (weightsAll_mem hd n hn)
theorem Light.elem {t e : TypeId} {elems sp : List (DataW H)} (hu : P.underlying t = some (.slice e)) (h : Light P t (.slice elems sp)) {d : DataW H} (hd : d ∈ elems) : Light P e d := fun n hn => by
  refine h n ?_
  simp only [DataW.weights, hu, List.mem_cons, List.mem_append]
  exact .inr (.inl (weightsAll_mem hd n hn))
theorem Light.len {t e : TypeId} {elems sp : List (DataW H)} (hu : P.underlying t = some (.slice e)) (h : Light P t (.slice elems sp)) : (elems.length + sp.length) * P.bytesOf e ≤ reachBytes :=
  h _ (by simp only [DataW.weights, hu, List.mem_cons, true_or])
theorem Light.field {t : TypeId} {fs : Array Field} {parts : List (DataW H)} (hu : P.underlying t = some (.struct fs)) (h : Light P t (.agg parts)) {i : Nat} {f : Field} {d : DataW H} (hf : fs[i]? = some f) (hp : parts[i]? = some d) : Light P f.type d := fun n hn => by
  refine h n ?_
  simp only [DataW.weights, hu]
  exact DataW.weights_mem_each (j := i) (by simp [hf]) hp n hn
end
end Go.Proofs.Ytfledabgdcnkfaa

/- A table of arguments that comes in, as a tree. -/
set_option linter.unusedVariables false
set_option linter.unusedSimpArgs false
set_option maxRecDepth 100000
namespace Go.Proofs.Ytfledabgdcnkfaa.Tree
open Go.ChangeShapes Go.WideShapes Go.RowKit Go.Deep Go Go.Proofs.Ytfledabgdcnkfaa.Eng Go.Proofs.Ytfledabgdcnkfaa.Kit
section
variable {H : Type} {encD : TypeId × Value → H} {w : World} {base : Nat} {spare : Nat → Bool} {held : Bool}
theorem open_elems {P : Program} {t e : TypeId} {size : Nat} (hC : P.cellsOf e = size) (ht : P.underlying t = some (.slice e)) {fuel : Nat} {cs : List Value} {x : DataW H × List MemPlace} (h : DataW.trod encD P w base spare held fuel t cs = some x) (hL : Light P t x.1) :
    ∃ oa len c, cs = [.slice oa len c] ∧ len * P.bytesOf e ≤ reachBytes ∧ ∃ D : Nat → DataW H, (∀ i, i < len → SizeOf.sizeOf (D i) < SizeOf.sizeOf x.1 ∧ Light P e (D i)) ∧
      ∀ i, i < len → ∃ a cs' n Pl, oa = some a ∧ cs'.length = size ∧ Tree.Cells w.cell? (a.add (i * size)) cs' ∧ DataW.trod encD P w base spare held n e cs' = some (D i, Pl) := by
  rcases open_slice ht h with ⟨rfl, rfl⟩ | ⟨a, len, cap, m, n, D, Pl, rfl, hb, hl, hm, hmm, rfl, hi⟩
  · exact ⟨none, 0, 0, rfl, by simp, fun _ => .nil, (fun i h => by omega), fun i h => by omega⟩
  · have hlm : len ≤ m := by rw [hmm]; split <;> omega
    have hlb := Light.len ht hL
    refine ⟨some a, len, cap, rfl, Nat.le_trans (Nat.mul_le_mul_right _ (by simp)) hlb, D, fun i hil => ?_, fun i hil => ?_⟩
    · have hmem : D i ∈ (List.range len).map D := List.mem_map.2 ⟨i, List.mem_range.2 hil, rfl⟩
      refine ⟨?_, hL.elem ht hmem⟩
      have h1 := List.sizeOf_lt_of_mem hmem
      show SizeOf.sizeOf (D i) < SizeOf.sizeOf (DataW.slice ((List.range len).map D) ((List.range (m - len)).map fun j => D (len + j)))
      simp only [DataW.slice.sizeOf_spec]
      omega
    · obtain ⟨cs', hc, ht'⟩ := hi i (by omega)
      obtain ⟨_, hcl, hat⟩ := World.cells?_some hc
      rw [hC] at hcl hat
      refine ⟨a, cs', n, Pl i, rfl, hcl, fun j u hu => ?_, ht'⟩
      have hj : j < size := by rw [← hcl]; exact (List.getElem?_eq_some_iff.1 hu).1
      rw [← hu, ← hat j hj]
theorem exist_list {α : Type} {n : Nat} {P : Nat → α → Prop} (h : ∀ i, i < n → ∃ x, P i x) : ∃ l : List α, l.length = n ∧ ∀ i x, l[i]? = some x → P i x := by
  have h' : ∀ i : Fin n, ∃ x, P i.1 x := fun i => h i.1 i.2
  obtain ⟨g, hg⟩ := Classical.axiomOfChoice h'
  refine ⟨List.ofFn g, by simp, fun i x hx => ?_⟩
  rw [List.getElem?_ofFn] at hx
  split at hx
  · rename_i hlt; cases hx; exact hg ⟨i, hlt⟩
  · cases hx
mutual
/-- A value that is read. -/
theorem open_val : ∀ (k : Nat) {fuel : Nat} {cs : List Value} {x : DataW H × List MemPlace}, SizeOf.sizeOf x.1 ≤ k → DataW.trod encD Try.prog w base spare held fuel 54 cs = some x → Light Try.prog 54 x.1 → ∃ v r, cs = r.cells ∧ VAt w.cell? k v r
  | 0, fuel, cs, x, hk, h, hL => by
    obtain ⟨ys, n, _, rfl, hlen, hyl, hf⟩ := DataW.trod_struct Try.underlying54 h
    have : SizeOf.sizeOf (DataW.agg (ys.map (·.1))) ≤ 0 := hk
    simp only [DataW.agg.sizeOf_spec] at this
    omega
  | k + 1, fuel, cs, x, hk, h, hL => by
    obtain ⟨ys, n, _, rfl, hlen, hyl, hf⟩ := DataW.trod_struct Try.underlying54 h
    have zI : Try.prog.cellsOf 3 = 1 := by kernel_rfl
    have zJ : Try.prog.cellsOf 2 = 1 := by kernel_rfl
    have zS : Try.prog.cellsOf 9 = 1 := by kernel_rfl
    have zL : Try.prog.cellsOf 52 = 1 := by kernel_rfl
    have zT : Try.prog.cellsOf 27 = 1 := by kernel_rfl
    match cs, hlen.trans (by kernel_rfl : Try.prog.cellsOf 54 = 5) with
    | [c0, c1, c2, c3, c4], _ =>
      match ys, hyl with
      | [y0, y1, y2, y3, y4], _ =>
        have hs : SizeOf.sizeOf (DataW.agg [y0.1, y1.1, y2.1, y3.1, y4.1]) ≤ k + 1 := hk
        simp only [DataW.agg.sizeOf_spec, List.cons.sizeOf_spec, List.nil.sizeOf_spec] at hs
        obtain ⟨a0, e0, x0, b0⟩ := DataW.trod_int Try.underlying3 (by simpa [zI, zJ, zS, zL, zT] using hf 0 _ rfl : DataW.trod encD Try.prog w base spare held n 3 [c0] = some y0)
        obtain rfl := (List.cons.inj e0).1
        obtain ⟨a1, e1, x1, b1⟩ := DataW.trod_int Try.underlying2 (by simpa [zI, zJ, zS, zL, zT] using hf 1 _ rfl : DataW.trod encD Try.prog w base spare held n 2 [c1] = some y1)
        obtain rfl := (List.cons.inj e1).1
        obtain ⟨a2, e2, x2, b2⟩ := DataW.trod_string Try.underlying9 (by simpa [zI, zJ, zS, zL, zT] using hf 2 _ rfl : DataW.trod encD Try.prog w base spare held n 9 [c2] = some y2)
        obtain rfl := (List.cons.inj e2).1
        have l3 : Light Try.prog 52 y3.1 := Light.field Try.underlying54 hL (i := 3) rfl rfl
        have l4 : Light Try.prog 27 y4.1 := Light.field Try.underlying54 hL (i := 4) rfl rfl
        obtain ⟨la, ll, lc, e3, lb, DL, hd1, hd2⟩ := open_elems (size := 5) (by kernel_rfl) Try.underlying52 (by simpa [zI, zJ, zS, zL, zT] using hf 3 _ rfl : DataW.trod encD Try.prog w base spare held n 52 [c3] = some y3) l3
        obtain rfl := (List.cons.inj e3).1
        obtain ⟨ta, tl, tc, e4, tb, DT, ht1, ht2⟩ := open_elems (size := 6) (by kernel_rfl) Try.underlying27 (by simpa [zI, zJ, zS, zL, zT] using hf 4 _ rfl : DataW.trod encD Try.prog w base spare held n 27 [c4] = some y4) l4
        obtain rfl := (List.cons.inj e4).1
        have bV : Try.prog.bytesOf 54 = 80 := by kernel_rfl
        have bF : Try.prog.bytesOf 56 = 96 := by kernel_rfl
        rw [bV] at lb
        rw [bF] at tb
        obtain ⟨l, hl1, hl2⟩ := exist_list (n := ll) (P := fun i x => ∃ a r, la = some a ∧ Tree.Cells w.cell? (a.add (i * 5)) r.cells ∧ VAt w.cell? k x r) fun i hi => by
          obtain ⟨a, cs', n', Pl, q1, q2, q3, q4⟩ := hd2 i hi
          obtain ⟨v, r, rfl, q5⟩ := open_val k (by have := (hd1 i hi).1; show SizeOf.sizeOf (DL i) ≤ k; omega) q4 (hd1 i hi).2
          exact ⟨v, a, r, q1, q3, q5⟩
        obtain ⟨f, hf1, hf2⟩ := exist_list (n := tl) (P := fun i (p : ByteArray × Tv) => ∃ a r, ta = some a ∧ Tree.Cells w.cell? (a.add (i * 6)) (.string p.1 :: r.cells) ∧ VAt w.cell? k p.2 r) fun i hi => by
          obtain ⟨a, cs', n', Pl, q1, q2, q3, q4⟩ := ht2 i hi
          obtain ⟨nm, v, r, rfl, q5⟩ := open_fld k (by have := (ht1 i hi).1; show SizeOf.sizeOf (DT i) ≤ k; omega) q4 (ht1 i hi).2
          exact ⟨(nm, v), a, r, q1, q3, q5⟩
        subst hl1 hf1
        exact ⟨.mk a0 a1 a2 l f, ⟨a0, a1, a2, la, l.length, lc, ta, f.length, tc⟩, rfl, ⟨rfl, rfl, rfl, rfl, rfl⟩, ⟨lb, hl2⟩, tb, fun i nm x hx => hf2 i (nm, x) hx⟩
/-- .. and a field. -/
theorem open_fld : ∀ (k : Nat) {fuel : Nat} {cs : List Value} {x : DataW H × List MemPlace}, SizeOf.sizeOf x.1 ≤ k → DataW.trod encD Try.prog w base spare held fuel 56 cs = some x → Light Try.prog 56 x.1 → ∃ nm v r, cs = .string nm :: r.cells ∧ VAt w.cell? k v r
  | 0, fuel, cs, x, hk, h, hL => by
    obtain ⟨ys, n, _, rfl, hlen, hyl, hf⟩ := DataW.trod_struct Try.underlying56 h
    have : SizeOf.sizeOf (DataW.agg (ys.map (·.1))) ≤ 0 := hk
    simp only [DataW.agg.sizeOf_spec] at this
    omega
  | k + 1, fuel, cs, x, hk, h, hL => by
    obtain ⟨ys, n, _, rfl, hlen, hyl, hf⟩ := DataW.trod_struct Try.underlying56 h
    have zS : Try.prog.cellsOf 9 = 1 := by kernel_rfl
    have zV : Try.prog.cellsOf 54 = 5 := by kernel_rfl
    match cs, hlen.trans (by kernel_rfl : Try.prog.cellsOf 56 = 6) with
    | [c0, c1, c2, c3, c4, c5], _ =>
      match ys, hyl with
      | [y0, y1], _ =>
        have hs : SizeOf.sizeOf (DataW.agg [y0.1, y1.1]) ≤ k + 1 := hk
        simp only [DataW.agg.sizeOf_spec, List.cons.sizeOf_spec, List.nil.sizeOf_spec] at hs
        obtain ⟨a0, e0, x0, b0⟩ := DataW.trod_string Try.underlying9 (by simpa [zS, zV] using hf 0 _ rfl : DataW.trod encD Try.prog w base spare held n 9 [c0] = some y0)
        obtain rfl := (List.cons.inj e0).1
        have l1 : Light Try.prog 54 y1.1 := Light.field Try.underlying56 hL (i := 1) rfl rfl
        obtain ⟨v, r, e1, q5⟩ := open_val k (by omega) (by simpa [zS, zV] using hf 1 _ rfl : DataW.trod encD Try.prog w base spare held n 54 [c1, c2, c3, c4, c5] = some y1) l1
        exact ⟨a0, v, r, by rw [e1], q5.deep⟩
end
theorem open_tab {fuel : Nat} {A : Option Addr} {len cap : Nat} {x : DataW H × List MemPlace} (h : DataW.trod encD Try.prog w base spare held fuel 27 [.slice A len cap] = some x) (hL : Light Try.prog 27 x.1) : ∃ (d : Nat) (f : Tf), f.length = len ∧ FAt w.cell? d A f := by
  obtain ⟨ta, tl, tc, e4, tb, DT, ht1, ht2⟩ := open_elems (size := 6) (by kernel_rfl) Try.underlying27 h hL
  simp only [List.cons.injEq, Value.slice.injEq, and_true] at e4
  obtain ⟨rfl, rfl, rfl⟩ := e4
  have bF : Try.prog.bytesOf 56 = 96 := by kernel_rfl
  rw [bF] at tb
  obtain ⟨f, hf1, hf2⟩ := exist_list (n := len) (P := fun i (p : ByteArray × Tv) => ∃ a r, A = some a ∧ Tree.Cells w.cell? (a.add (i * 6)) (.string p.1 :: r.cells) ∧ VAt w.cell? (SizeOf.sizeOf x.1) p.2 r) fun i hi => by
    obtain ⟨a, cs', n', Pl, q1, q2, q3, q4⟩ := ht2 i hi
    obtain ⟨nm, v, r, rfl, q5⟩ := open_fld (SizeOf.sizeOf x.1) (by have := (ht1 i hi).1; show SizeOf.sizeOf (DT i) ≤ _; omega) q4 (ht1 i hi).2
    exact ⟨(nm, v), a, r, q1, q3, q5⟩
  subst hf1
  exact ⟨_, f, rfl, tb, fun i nm x hx => hf2 i (nm, x) hx⟩
end
end Go.Proofs.Ytfledabgdcnkfaa.Tree

