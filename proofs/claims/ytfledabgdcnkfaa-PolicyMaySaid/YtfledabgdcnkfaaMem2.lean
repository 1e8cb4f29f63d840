/- More laws on operations. No program. -/
import Derived.Test.YtfledabgdcnkfaaMem
set_option linter.unusedVariables false
set_option linter.unusedSimpArgs false
namespace Go.Proofs.Ytfledabgdcnkfaa
open Go.RowKit
section
variable {P : Program} {w : World} {ops : Array Oper} {rest : List Oper} {o : Oper} {a : Act} {Q : Exit → Act → World → Prop}
variable {dst : Option Tmp} {type : TypeId} {pos : String} {after : Array Edge} {guard : Option (Nat × Bool)}
theorem wpl_convert (t u : TypeId) (x : Operand) (hg : Region.wanted ⟨dst, .convert t u x, type, pos, after, guard⟩ (yielded ops a.tmps) = true) (h : ∀ K : Act → World → Prop, (∀ a w, wpList P ops Q rest a w → K a w) → Oper.wp P ⟨dst, .convert t u x, type, pos, after, guard⟩ a w K Q) :
    wpList P ops Q (⟨dst, .convert t u x, type, pos, after, guard⟩ :: rest) a w := wpList_wp hg h
end
theorem Sat.old_belowL {W w w' : World} {t : List HP} (hs : Sat W (HP.old W :: t) w) (hh : w'.heap = w.heap) (ho : w'.os = w.os) (ht : w'.tape = w.tape) (hu : w'.output = w.output) : Below W.heap.size W w' :=
  (hs.like hh ho ht hu).old_below
/-- A string's bytes as a new slice. -/
theorem wp_bytes_of {P : Program} {W0 w : World} {l : List HP} {o : Oper} {a : Act} {K : Act → World → Prop} {Q : Exit → Act → World → Prop} (hs : Sat W0 l w) (src dst e : TypeId) (x : Operand) (ho : o.op = .convert src dst x)
    (h1 : P.underlying src = some .string) (h2 : P.underlying dst = some (.slice e)) (h3 : P.underlying e = some (.int .u8)) (s : ByteArray) (hx : a.eval x = .string s)
    (h : ∀ B cap w', Sat W0 l w' → Below w.heap.size w w' → K (a.put o.dst (.slice (some ⟨B, 0, none⟩) s.size cap)) w') : o.wp P a w K Q := by
  unfold Oper.wp execOp
  simp only [ho, hx, Sem.run_bind, Sem.run_pure, Result.andThen_ok, run_bytes_of_string w src dst e s h1 h2 h3]
  have hb : Below w.heap.size w (w.drew.alloc (.cells (bytesRow s (grownCap w s.size 0 e)) e ((bytesRow s (grownCap w s.size 0 e)).size, (bytesRow s (grownCap w s.size 0 e)).size + 1))) := ((Below.refl _ _).drew).alloc (Nat.le_refl _) _
  exact h _ _ _ (hs.below hb) hb

end Go.Proofs.Ytfledabgdcnkfaa
