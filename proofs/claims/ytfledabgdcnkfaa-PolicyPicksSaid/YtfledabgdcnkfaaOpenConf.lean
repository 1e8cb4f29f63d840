/- What a Conf that comes in is. -/
import Derived.Test.YtfledabgdcnkfaaRows
import Derived.Test.YtfledabgdcnkfaaPolPlain
import Derived.ProofKit
import Derived.OpenShut
import Derived.Deep.Fields
import Derived.ChangeSame
set_option linter.unusedVariables false
set_option linter.unusedSimpArgs false
namespace Go.Proofs.Ytfledabgdcnkfaa
open Go.ChangeShapes Go.WideShapes Go.RowKit Go.Deep
namespace Pol
section
variable {H : Type} {enc : TypeId × Value → H} {w : World} {base : Nat} {spare : Nat → Bool} {held : Bool}
theorem cells_conf {fuel : Nat} {cs : List Value} {x : DataW H × List MemPlace} (h : DataW.trod enc Try.prog w base spare held fuel 25 cs = some x) : ∃ c : Conf, cs = c.cells := by
  obtain ⟨ys, n, _, hx, hlen, hyl, hf⟩ := DataW.trod_struct Try.underlying25 h
  have zI : Try.prog.cellsOf 3 = 1 := by kernel_rfl
  have zS : Try.prog.cellsOf 9 = 1 := by kernel_rfl
  have zB : Try.prog.cellsOf 4 = 1 := by kernel_rfl
  match cs, hlen.trans (by kernel_rfl : Try.prog.cellsOf 25 = 10) with
  | [c0, c1, c2, c3, c4, c5, c6, c7, c8, c9], _ =>
    match ys, hyl with
    | [y0, y1, y2, y3, y4, y5, y6, y7, y8, y9], _ =>
      obtain ⟨a0, e0, _, _⟩ := DataW.trod_int Try.underlying3 (by simpa [zI, zS, zB] using hf 0 _ rfl : DataW.trod enc Try.prog w base spare held n 3 [c0] = some y0)
      obtain rfl := (List.cons.inj e0).1
      obtain ⟨a1, e1, _, _⟩ := DataW.trod_int Try.underlying3 (by simpa [zI, zS, zB] using hf 1 _ rfl : DataW.trod enc Try.prog w base spare held n 3 [c1] = some y1)
      obtain rfl := (List.cons.inj e1).1
      obtain ⟨a2, e2, _, _⟩ := DataW.trod_int Try.underlying3 (by simpa [zI, zS, zB] using hf 2 _ rfl : DataW.trod enc Try.prog w base spare held n 3 [c2] = some y2)
      obtain rfl := (List.cons.inj e2).1
      obtain ⟨a3, e3, _, _⟩ := DataW.trod_int Try.underlying3 (by simpa [zI, zS, zB] using hf 3 _ rfl : DataW.trod enc Try.prog w base spare held n 3 [c3] = some y3)
      obtain rfl := (List.cons.inj e3).1
      obtain ⟨a4, e4, _, _⟩ := DataW.trod_string Try.underlying9 (by simpa [zI, zS, zB] using hf 4 _ rfl : DataW.trod enc Try.prog w base spare held n 9 [c4] = some y4)
      obtain rfl := (List.cons.inj e4).1
      obtain ⟨a5, e5, _, _⟩ := DataW.trod_string Try.underlying9 (by simpa [zI, zS, zB] using hf 5 _ rfl : DataW.trod enc Try.prog w base spare held n 9 [c5] = some y5)
      obtain rfl := (List.cons.inj e5).1
      obtain ⟨a6, e6, _, _⟩ := DataW.trod_string Try.underlying9 (by simpa [zI, zS, zB] using hf 6 _ rfl : DataW.trod enc Try.prog w base spare held n 9 [c6] = some y6)
      obtain rfl := (List.cons.inj e6).1
      obtain ⟨a7, e7, _⟩ := DataW.trod_bool Try.underlying4 (by simpa [zI, zS, zB] using hf 7 _ rfl : DataW.trod enc Try.prog w base spare held n 4 [c7] = some y7)
      obtain rfl := (List.cons.inj e7).1
      obtain ⟨a8, e8, _⟩ := DataW.trod_bool Try.underlying4 (by simpa [zI, zS, zB] using hf 8 _ rfl : DataW.trod enc Try.prog w base spare held n 4 [c8] = some y8)
      obtain rfl := (List.cons.inj e8).1
      obtain ⟨a9, e9, _⟩ := DataW.trod_bool Try.underlying4 (by simpa [zI, zS, zB] using hf 9 _ rfl : DataW.trod enc Try.prog w base spare held n 4 [c9] = some y9)
      obtain rfl := (List.cons.inj e9).1
      exact ⟨⟨a0, a1, a2, a3, a4, a5, a6, a7, a8, a9⟩, rfl⟩
theorem open_conf {r : Reach} {b0 : Nat} {v : Value} {d : DataW H} {p : List MemPlace} (hv : Value.okWide Try.prog w r b0 25 v) (h : DataW.Trod enc Try.prog w base spare held 25 v d p) :
    ∃ c : Conf, v = .agg c.cells.toArray := by
  obtain ⟨cs, rfl, hsz⟩ := okWide_struct Try.underlying25 hv
  obtain ⟨fuel, hf⟩ := h
  obtain ⟨c, hc⟩ := cells_conf hf
  refine ⟨c, ?_⟩
  rw [← hc]
  rfl
end
end Pol
end Go.Proofs.Ytfledabgdcnkfaa
