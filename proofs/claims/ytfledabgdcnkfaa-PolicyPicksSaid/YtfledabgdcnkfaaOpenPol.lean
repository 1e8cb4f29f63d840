/- What a slice of Policies that comes in is. -/
import Derived.Test.YtfledabgdcnkfaaRows
import Derived.Test.YtfledabgdcnkfaaOpenSlice
import Derived.Test.YtfledabgdcnkfaaOpenConf
import Derived.ProofKit
import Derived.OpenShut
set_option linter.unusedVariables false
set_option linter.unusedSimpArgs false
namespace Go.Proofs.Ytfledabgdcnkfaa
open Go.ChangeShapes Go.WideShapes Go.RowKit Go.Deep
namespace Pol
structure Asked where
  vhost : ByteArray
  name : ByteArray
  sort : ByteArray
def Asked.cells (p : Asked) : List Value := [.string p.vhost, .string p.name, .string p.sort]
section
variable {H : Type} {enc : TypeId × Value → H} {w : World} {base : Nat} {spare : Nat → Bool} {held : Bool}
theorem cells_pol {fuel : Nat} {cs : List Value} {x : DataW H × List MemPlace} (h : DataW.trod enc Try.prog w base spare held fuel 40 cs = some x) (hL : Light Try.prog 40 x.1) : ∃ p : Pol, cs = p.cells ∧ p.pat.size ≤ 140737488351232 := by
  obtain ⟨ys, n, _, rfl, hlen, hyl, hf⟩ := DataW.trod_struct Try.underlying40 h
  have zI : Try.prog.cellsOf 3 = 1 := by kernel_rfl
  have zS : Try.prog.cellsOf 9 = 1 := by kernel_rfl
  have zB : Try.prog.cellsOf 4 = 1 := by kernel_rfl
  have zC : Try.prog.cellsOf 25 = 10 := by kernel_rfl
  match cs, hlen.trans (by kernel_rfl : Try.prog.cellsOf 40 = 15) with
  | [c0, c1, c2, c3, c4, c5, c6, c7, c8, c9, c10, c11, c12, c13, c14], _ =>
    match ys, hyl with
    | [y0, y1, y2, y3, y4, y5], _ =>
      obtain ⟨a0, e0, x0, b0⟩ := DataW.trod_string Try.underlying9 (by simpa [zI, zS, zB, zC] using hf 0 _ rfl : DataW.trod enc Try.prog w base spare held n 9 [c0] = some y0)
      obtain rfl := (List.cons.inj e0).1
      have s0 : a0.size ≤ 140737488351232 := by
        have hl := Light.field Try.underlying40 hL (i := 0) rfl (d := y0.1) rfl
        rw [x0] at hl
        simpa [reachBytes] using Light.str hl
      obtain ⟨a1, e1, x1, b1⟩ := DataW.trod_string Try.underlying9 (by simpa [zI, zS, zB, zC] using hf 1 _ rfl : DataW.trod enc Try.prog w base spare held n 9 [c1] = some y1)
      obtain rfl := (List.cons.inj e1).1
      have s1 : a1.size ≤ 140737488351232 := by
        have hl := Light.field Try.underlying40 hL (i := 1) rfl (d := y1.1) rfl
        rw [x1] at hl
        simpa [reachBytes] using Light.str hl
      obtain ⟨a2, e2, x2, b2⟩ := DataW.trod_string Try.underlying9 (by simpa [zI, zS, zB, zC] using hf 2 _ rfl : DataW.trod enc Try.prog w base spare held n 9 [c2] = some y2)
      obtain rfl := (List.cons.inj e2).1
      have s2 : a2.size ≤ 140737488351232 := by
        have hl := Light.field Try.underlying40 hL (i := 2) rfl (d := y2.1) rfl
        rw [x2] at hl
        simpa [reachBytes] using Light.str hl
      obtain ⟨a3, e3, x3, b3⟩ := DataW.trod_string Try.underlying9 (by simpa [zI, zS, zB, zC] using hf 3 _ rfl : DataW.trod enc Try.prog w base spare held n 9 [c3] = some y3)
      obtain rfl := (List.cons.inj e3).1
      have s3 : a3.size ≤ 140737488351232 := by
        have hl := Light.field Try.underlying40 hL (i := 3) rfl (d := y3.1) rfl
        rw [x3] at hl
        simpa [reachBytes] using Light.str hl
      obtain ⟨a4, e4, x4, b4⟩ := DataW.trod_int Try.underlying3 (by simpa [zI, zS, zB, zC] using hf 4 _ rfl : DataW.trod enc Try.prog w base spare held n 3 [c4] = some y4)
      obtain rfl := (List.cons.inj e4).1
      obtain ⟨cf, hcf⟩ := cells_conf (by simpa [zI, zS, zB, zC] using hf 5 _ rfl : DataW.trod enc Try.prog w base spare held n 25 [c5, c6, c7, c8, c9, c10, c11, c12, c13, c14] = some y5)
      refine ⟨⟨a0, a1, a2, a3, a4, cf⟩, ?_, s2⟩
      rw [hcf]
      rfl
theorem cells_asked {fuel : Nat} {cs : List Value} {x : DataW H × List MemPlace} (h : DataW.trod enc Try.prog w base spare held fuel 38 cs = some x) (hL : Light Try.prog 38 x.1) : ∃ p : Asked, cs = p.cells ∧ p.vhost.size ≤ 140737488351232 ∧ p.name.size ≤ 140737488351232 ∧ p.sort.size ≤ 140737488351232 := by
  obtain ⟨ys, n, _, rfl, hlen, hyl, hf⟩ := DataW.trod_struct Try.underlying38 h
  have zI : Try.prog.cellsOf 3 = 1 := by kernel_rfl
  have zS : Try.prog.cellsOf 9 = 1 := by kernel_rfl
  have zB : Try.prog.cellsOf 4 = 1 := by kernel_rfl
  match cs, hlen.trans (by kernel_rfl : Try.prog.cellsOf 38 = 3) with
  | [c0, c1, c2], _ =>
    match ys, hyl with
    | [y0, y1, y2], _ =>
      obtain ⟨a0, e0, x0, b0⟩ := DataW.trod_string Try.underlying9 (by simpa [zI, zS, zB] using hf 0 _ rfl : DataW.trod enc Try.prog w base spare held n 9 [c0] = some y0)
      obtain rfl := (List.cons.inj e0).1
      have s0 : a0.size ≤ 140737488351232 := by
        have hl := Light.field Try.underlying38 hL (i := 0) rfl (d := y0.1) rfl
        rw [x0] at hl
        simpa [reachBytes] using Light.str hl
      obtain ⟨a1, e1, x1, b1⟩ := DataW.trod_string Try.underlying9 (by simpa [zI, zS, zB] using hf 1 _ rfl : DataW.trod enc Try.prog w base spare held n 9 [c1] = some y1)
      obtain rfl := (List.cons.inj e1).1
      have s1 : a1.size ≤ 140737488351232 := by
        have hl := Light.field Try.underlying38 hL (i := 1) rfl (d := y1.1) rfl
        rw [x1] at hl
        simpa [reachBytes] using Light.str hl
      obtain ⟨a2, e2, x2, b2⟩ := DataW.trod_string Try.underlying9 (by simpa [zI, zS, zB] using hf 2 _ rfl : DataW.trod enc Try.prog w base spare held n 9 [c2] = some y2)
      obtain rfl := (List.cons.inj e2).1
      have s2 : a2.size ≤ 140737488351232 := by
        have hl := Light.field Try.underlying38 hL (i := 2) rfl (d := y2.1) rfl
        rw [x2] at hl
        simpa [reachBytes] using Light.str hl
      exact ⟨⟨a0, a1, a2⟩, rfl, s0, s1, s2⟩
theorem slice_cap {P : Program} {t e : TypeId} (ht : P.underlying t = some (.slice e)) {fuel : Nat} {A : Option Addr} {len cap : Nat} {x : DataW H × List MemPlace} (h : DataW.trod enc P w base spare held fuel t [.slice A len cap] = some x) : len ≤ cap := by
  rcases open_slice ht h with ⟨hcs, _⟩ | ⟨a, len', cap', m, n, D, Pl, hcs, hb, hl, _⟩
  · simp only [List.cons.injEq, Value.slice.injEq, and_true] at hcs
    obtain ⟨rfl, rfl, rfl⟩ := hcs
    exact Nat.le_refl _
  · simp only [List.cons.injEq, Value.slice.injEq, and_true] at hcs
    obtain ⟨rfl, rfl, rfl⟩ := hcs
    exact hl
end
end Pol
end Go.Proofs.Ytfledabgdcnkfaa
