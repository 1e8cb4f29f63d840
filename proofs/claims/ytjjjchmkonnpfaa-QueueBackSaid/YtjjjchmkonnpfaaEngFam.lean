/- Many blocks of one kind as one object; one of them taken out, put back. No program. -/
import Derived.Test.YtjjjchmkonnpfaaEngCon
set_option linter.unusedVariables false
set_option linter.unusedSimpArgs false
namespace Go.Proofs.Ytjjjchmkonnpfaa.Eng
open Go Go.RowKit
def memAt (w : World) (e : TypeId) (p : Nat × List Value) : Prop := ∃ arr, w.heap[p.1]? = some (.cells arr e (0, 0)) /\ p.2.length <= arr.size /\ arr.toList.take p.2.length = p.2
def ZN' (e : TypeId) (l : List (Nat × List Value)) (D : Nat -> Prop) (w : World) : Prop := (∀ x, D x ↔ ∃ p ∈ l, p.1 = x) /\ (l.map (·.1)).Nodup /\ ∀ p ∈ l, memAt w e p
def eL' (e : TypeId) (l : List (Nat × List Value)) : HP where
 on D w := ZN' e l D w
 far {D w w'} hf := fun (h : ZN' e l D w) => show ZN' e l D w' from ⟨h.1, h.2.1, fun p hp => by
  obtain ⟨arr, h1, h2⟩ := h.2.2 p hp
  exact ⟨arr, (hf _ ((h.1 _).2 ⟨p, hp, rfl⟩)).trans h1, h2⟩⟩
 lt {D w} := fun (h : ZN' e l D w) b hb => by
  obtain ⟨p, hp, rfl⟩ := (h.1 b).1 hb; obtain ⟨arr, h1, _⟩ := h.2.2 p hp; exact (Array.getElem?_eq_some_iff.1 h1).1
theorem eL'.perm {e : TypeId} {l l' : List (Nat × List Value)} (hp : l.Perm l') {D : Nat -> Prop} {w : World} (h : (eL' e l).on D w) : (eL' e l').on D w :=
 ⟨fun x => (h.1 x).trans ⟨fun ⟨p, h1, h2⟩ => ⟨p, hp.subset h1, h2⟩, fun ⟨p, h1, h2⟩ => ⟨p, hp.symm.subset h1, h2⟩⟩, (hp.map _).nodup_iff.1 h.2.1, fun p h1 => h.2.2 p (hp.symm.subset h1)⟩
theorem EV' {H : LH} (h : A6' 1100 H = true) : A6' T.limit H = true := B6' δ h
theorem Goes.trans {vs vs' vs'' : List AV} {H H' H'' : LH} (h : Goes vs H vs' H') (h' : Goes vs' H' vs'' H'') : Goes vs H vs'' H'' := fun W0 F N ys w hs => h' _ _ _ _ _ (h _ _ _ _ _ hs)
def LW : LH -> LH -> Prop
 | [], [] => True
 | x :: H, y :: H' => x.1 = y.1 /\ OW x.2 y.2 /\ LW H H'
 | _, _ => False
theorem LW.get : ∀ {H H' : LH}, LW H H' -> ∀ n, (getO H n = none /\ getO H' n = none) \/ ∃ o o', getO H n = some o /\ getO H' n = some o' /\ OW o o'
 | [], [], _, n => .inl ⟨rfl, rfl⟩
 | x :: H, y :: H', h, n => by
  obtain ⟨h1, h2, h3⟩ := h; simp only [getO, <- h1]
  by_cases hx : n = x.1
  ·exact .inr ⟨x.2, y.2, if_pos hx, if_pos hx, h2⟩
  ·simp only [if_neg hx]; exact LW.get h3 n
end Go.Proofs.Ytjjjchmkonnpfaa.Eng
