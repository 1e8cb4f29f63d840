/- Many blocks of one kind as one object; one of them taken out, put back. No program. -/
import Derived.Test.YtnnojnlejlokhaaGreatDoorEngCon
set_option linter.unusedVariables false
set_option linter.unusedSimpArgs false
namespace Go.Proofs.YtnnojnlejlokhaaGreatDoor.Eng
open Go Go.RowKit
theorem D7' {H : LH} (h : AA' 1100 H = true) : AA' T.limit H = true := BN' δ h
theorem Goes.trans {vs vs' vs'' : List AV} {H H' H'' : LH} (h : Goes vs H vs' H') (h' : Goes vs' H' vs'' H'') : Goes vs H vs'' H'' := fun W0 F N ys w hs => h' _ _ _ _ _ (h _ _ _ _ _ hs)
def LW : LH -> LH -> Prop
 | [], [] => True
 | x :: H, y :: H' => x.1 = y.1 /\ OW x.2 y.2 /\ LW H H'
 | _, _ => False
theorem LW.get : ∀ {H H' : LH}, LW H H' -> ∀ n, (getO H n = none /\ getO H' n = none) \/ ∃ o o', getO H n = some o /\ getO H' n = some o' /\ OW o o'
 | [], [], _, n => .inl ⟨rfl, rfl⟩
 | x :: H, y :: H', h, n => by
  obtain ⟨h1, h2, h3⟩ := h; simp only [getO, <- h1]
  by_cases hx : n = x.1
  ·exact .inr ⟨x.2, y.2, if_pos hx, if_pos hx, h2⟩
  ·simp only [if_neg hx]; exact LW.get h3 n
end Go.Proofs.YtnnojnlejlokhaaGreatDoor.Eng
