/- What a slice of items that comes in is. -/
import Derived.Test.YtcpijmlaglcblaaRows
import Derived.Test.YtcpijmlaglcblaaOpenSl
import Derived.Test.YtcpijmlaglcblaaRkLaw3
import Derived.ProofKit
import Derived.OpenShut
import Derived.Deep.Fields
set_option linter.unusedVariables false
set_option linter.unusedSimpArgs false
namespace Go.Proofs.Ytcpijmlaglcblaa
open Go.ChangeShapes Go.WideShapes Go.RowKit Go.Deep
namespace Rk
open Go.Proofs.Ytcpijmlaglcblaa.Eng
section
variable {H : Type} {encD : TypeId × Value → H} {w : World} {base : Nat} {spare : Nat → Bool} {held : Bool}
theorem cells_item {fuel : Nat} {cs : List Value} {x : DataW H × List MemPlace} (h : DataW.trod encD Try.prog w base spare held fuel 27 cs = some x) : ∃ p : It, cs = enc p ∧ True := by
  obtain ⟨ys, n, _, rfl, hlen, hyl, hf⟩ := DataW.trod_struct Try.underlying27 h
  have zI : Try.prog.cellsOf 3 = 1 := by kernel_rfl
  match cs, hlen.trans (by kernel_rfl : Try.prog.cellsOf 27 = 3) with
  | [c0, c1, c2], _ =>
    match ys, hyl with
    | [y0, y1, y2], _ =>
      obtain ⟨a0, e0, x0, b0⟩ := DataW.trod_int Try.underlying3 (by simpa [zI] using hf 0 _ rfl : DataW.trod encD Try.prog w base spare held n 3 [c0] = some y0)
      obtain rfl := (List.cons.inj e0).1
      obtain ⟨a1, e1, x1, b1⟩ := DataW.trod_int Try.underlying3 (by simpa [zI] using hf 1 _ rfl : DataW.trod encD Try.prog w base spare held n 3 [c1] = some y1)
      obtain rfl := (List.cons.inj e1).1
      obtain ⟨a2, e2, x2, b2⟩ := DataW.trod_int Try.underlying3 (by simpa [zI] using hf 2 _ rfl : DataW.trod encD Try.prog w base spare held n 3 [c2] = some y2)
      obtain rfl := (List.cons.inj e2).1
      exact ⟨⟨a0, a1, a2⟩, rfl, trivial⟩
end
theorem in_of_rd {W : World} {A : Option Addr} {items : List It} (h : Rd W A items.length 3 (items.flatMap enc)) (hb : items.length * 24 ≤ 140737488355328) : In W A items := by
  refine ⟨fun hne => h.here (by cases items with | nil => exact absurd rfl hne | cons x l => simp), fun a ha k hk => ?_, hb⟩
  have hc : ∀ j (v : Value), j < 3 → (enc (items.getD k It.zero))[j]? = some v → W.cell? ((a.add (k * 3)).add j) = some v := by
    intro j v hj hv
    rw [add_add']
    refine h.cells a ha _ _ ?_
    rw [pieces_get enc_length items k j hk hj, ← hv]
    congr 2
    simp [List.getD, List.getElem?_eq_getElem hk]
  exact ⟨hc 0 _ (by decide) rfl, hc 1 _ (by decide) rfl, hc 2 _ (by decide) rfl⟩
/-- The law at a world. -/
theorem drains_calls (W : World) (A : Option Addr) (cap : Nat) (items : List It) (h : Rd W A items.length 3 (items.flatMap enc)) (hb : items.length * 24 ≤ 140737488355328) :
    Calls Try.prog fDrains #[.slice A items.length cap] W fun e w' => e = .returned (.bool true) ∧ Below W.heap.size W w' := by
  have hF : OldOK W (HP.old W) := by
    intro D w' hF a v hv
    have hF' : (HP.old W).on D w' := hF
    have hlt : a.block < W.heap.size := by
      simp only [World.cell?] at hv
      cases hg : W.heap[a.block]? with
      | none => rw [hg] at hv; cases hv
      | some o => exact (Array.getElem?_eq_some_iff.1 hg).1
    simp only [World.cell?, hF'.2 _ hlt] at hv ⊢
    exact hv
  refine (drains_tri W A items cap (in_of_rd h hb) W (HP.old W) (fun _ => none) W #[.slice A items.length cap] hF (fun _ _ _ => rfl) (rep_nil W) (VRs_cons.2 ⟨VR_v.2 rfl, VRs_nil⟩)).mono ?_
  rintro e w' ⟨y, rfl, N', _, _, r, hv⟩
  have hy : y = .bool true := VR_v.1 (VRs_cons.1 hv).1
  subst hy
  exact ⟨rfl, r.old_below⟩
end Rk
end Go.Proofs.Ytcpijmlaglcblaa
