/- What a slice of Permissions that comes in is. -/
import Derived.Test.YtfledabgdcnkfaaRows
import Derived.Test.YtfledabgdcnkfaaOpenSlice
import Derived.ProofKit
import Derived.OpenShut
set_option linter.unusedVariables false
set_option linter.unusedSimpArgs false
namespace Go.Proofs.Ytfledabgdcnkfaa
open Go.ChangeShapes Go.WideShapes Go.RowKit Go.Deep
namespace Pol
structure Ask where
  user : ByteArray
  vhost : ByteArray
  name : ByteArray
  way : Int
def Ask.cells (p : Ask) : List Value := [.string p.user, .string p.vhost, .string p.name, .int .i64 p.way]
section
variable {H : Type} {enc : TypeId × Value → H} {w : World} {base : Nat} {spare : Nat → Bool} {held : Bool}
theorem cells_perm {fuel : Nat} {cs : List Value} {x : DataW H × List MemPlace} (h : DataW.trod enc Try.prog w base spare held fuel 58 cs = some x) (hL : Light Try.prog 58 x.1) : ∃ p : Perm, cs = p.cells ∧ p.user.size ≤ 140737488351232 ∧ p.vhost.size ≤ 140737488351232 ∧ p.conf.size ≤ 140737488351232 ∧ p.write.size ≤ 140737488351232 ∧ p.read.size ≤ 140737488351232 := by
  obtain ⟨ys, n, _, rfl, hlen, hyl, hf⟩ := DataW.trod_struct Try.underlying58 h
  have zI : Try.prog.cellsOf 3 = 1 := by kernel_rfl
  have zS : Try.prog.cellsOf 9 = 1 := by kernel_rfl
  have zB : Try.prog.cellsOf 4 = 1 := by kernel_rfl
  match cs, hlen.trans (by kernel_rfl : Try.prog.cellsOf 58 = 5) with
  | [c0, c1, c2, c3, c4], _ =>
    match ys, hyl with
    | [y0, y1, y2, y3, y4], _ =>
      obtain ⟨a0, e0, x0, b0⟩ := DataW.trod_string Try.underlying9 (by simpa [zI, zS, zB] using hf 0 _ rfl : DataW.trod enc Try.prog w base spare held n 9 [c0] = some y0)
      obtain rfl := (List.cons.inj e0).1
      have s0 : a0.size ≤ 140737488351232 := by
        have hl := Light.field Try.underlying58 hL (i := 0) rfl (d := y0.1) rfl
        rw [x0] at hl
        simpa [reachBytes] using Light.str hl
      obtain ⟨a1, e1, x1, b1⟩ := DataW.trod_string Try.underlying9 (by simpa [zI, zS, zB] using hf 1 _ rfl : DataW.trod enc Try.prog w base spare held n 9 [c1] = some y1)
      obtain rfl := (List.cons.inj e1).1
      have s1 : a1.size ≤ 140737488351232 := by
        have hl := Light.field Try.underlying58 hL (i := 1) rfl (d := y1.1) rfl
        rw [x1] at hl
        simpa [reachBytes] using Light.str hl
      obtain ⟨a2, e2, x2, b2⟩ := DataW.trod_string Try.underlying9 (by simpa [zI, zS, zB] using hf 2 _ rfl : DataW.trod enc Try.prog w base spare held n 9 [c2] = some y2)
      obtain rfl := (List.cons.inj e2).1
      have s2 : a2.size ≤ 140737488351232 := by
        have hl := Light.field Try.underlying58 hL (i := 2) rfl (d := y2.1) rfl
        rw [x2] at hl
        simpa [reachBytes] using Light.str hl
      obtain ⟨a3, e3, x3, b3⟩ := DataW.trod_string Try.underlying9 (by simpa [zI, zS, zB] using hf 3 _ rfl : DataW.trod enc Try.prog w base spare held n 9 [c3] = some y3)
      obtain rfl := (List.cons.inj e3).1
      have s3 : a3.size ≤ 140737488351232 := by
        have hl := Light.field Try.underlying58 hL (i := 3) rfl (d := y3.1) rfl
        rw [x3] at hl
        simpa [reachBytes] using Light.str hl
      obtain ⟨a4, e4, x4, b4⟩ := DataW.trod_string Try.underlying9 (by simpa [zI, zS, zB] using hf 4 _ rfl : DataW.trod enc Try.prog w base spare held n 9 [c4] = some y4)
      obtain rfl := (List.cons.inj e4).1
      have s4 : a4.size ≤ 140737488351232 := by
        have hl := Light.field Try.underlying58 hL (i := 4) rfl (d := y4.1) rfl
        rw [x4] at hl
        simpa [reachBytes] using Light.str hl
      exact ⟨⟨a0, a1, a2, a3, a4⟩, rfl, s0, s1, s2, s3, s4⟩
theorem cells_ask {fuel : Nat} {cs : List Value} {x : DataW H × List MemPlace} (h : DataW.trod enc Try.prog w base spare held fuel 48 cs = some x) (hL : Light Try.prog 48 x.1) : ∃ p : Ask, cs = p.cells ∧ p.user.size ≤ 140737488351232 ∧ p.vhost.size ≤ 140737488351232 ∧ p.name.size ≤ 140737488351232 := by
  obtain ⟨ys, n, _, rfl, hlen, hyl, hf⟩ := DataW.trod_struct Try.underlying48 h
  have zI : Try.prog.cellsOf 3 = 1 := by kernel_rfl
  have zS : Try.prog.cellsOf 9 = 1 := by kernel_rfl
  have zB : Try.prog.cellsOf 4 = 1 := by kernel_rfl
  match cs, hlen.trans (by kernel_rfl : Try.prog.cellsOf 48 = 4) with
  | [c0, c1, c2, c3], _ =>
    match ys, hyl with
    | [y0, y1, y2, y3], _ =>
      obtain ⟨a0, e0, x0, b0⟩ := DataW.trod_string Try.underlying9 (by simpa [zI, zS, zB] using hf 0 _ rfl : DataW.trod enc Try.prog w base spare held n 9 [c0] = some y0)
      obtain rfl := (List.cons.inj e0).1
      have s0 : a0.size ≤ 140737488351232 := by
        have hl := Light.field Try.underlying48 hL (i := 0) rfl (d := y0.1) rfl
        rw [x0] at hl
        simpa [reachBytes] using Light.str hl
      obtain ⟨a1, e1, x1, b1⟩ := DataW.trod_string Try.underlying9 (by simpa [zI, zS, zB] using hf 1 _ rfl : DataW.trod enc Try.prog w base spare held n 9 [c1] = some y1)
      obtain rfl := (List.cons.inj e1).1
      have s1 : a1.size ≤ 140737488351232 := by
        have hl := Light.field Try.underlying48 hL (i := 1) rfl (d := y1.1) rfl
        rw [x1] at hl
        simpa [reachBytes] using Light.str hl
      obtain ⟨a2, e2, x2, b2⟩ := DataW.trod_string Try.underlying9 (by simpa [zI, zS, zB] using hf 2 _ rfl : DataW.trod enc Try.prog w base spare held n 9 [c2] = some y2)
      obtain rfl := (List.cons.inj e2).1
      have s2 : a2.size ≤ 140737488351232 := by
        have hl := Light.field Try.underlying48 hL (i := 2) rfl (d := y2.1) rfl
        rw [x2] at hl
        simpa [reachBytes] using Light.str hl
      obtain ⟨a3, e3, x3, b3⟩ := DataW.trod_int Try.underlying3 (by simpa [zI, zS, zB] using hf 3 _ rfl : DataW.trod enc Try.prog w base spare held n 3 [c3] = some y3)
      obtain rfl := (List.cons.inj e3).1
      exact ⟨⟨a0, a1, a2, a3⟩, rfl, s0, s1, s2⟩
end
end Pol
end Go.Proofs.Ytfledabgdcnkfaa
