/- What lies where: a list of parts of memory that share no block. No program. -/
import Derived.WalkKit
import Derived.Lib.Hide
import Derived.WalkLawsBesides
import Derived.BigQuiet
import Derived.Deep.QuietTactic
import Derived.WalkSpells
import Derived.Deep.Draws
set_option linter.unusedVariables false
set_option linter.unusedSimpArgs false
namespace Go.Proofs.YtnnojnlejlokhaaGreatDoor
open Go.RowKit
variable {W : World}
structure HP where
 on : (Nat -> Prop) -> World -> Prop
 far : ∀ {D w w'}, (∀ b, D b -> w'.heap[b]? = w.heap[b]?) -> on D w -> on D w'
 lt : ∀ {D w}, on D w -> ∀ b, D b -> b < w.heap.size
namespace HP
def pts (b : Nat) (o : Obj) : HP where
 on D w := (∀ x, D x ↔ x = b) /\ w.heap[b]? = some o
 far h := fun ⟨h1, h2⟩ => ⟨h1, (h b ((h1 b).2 rfl)).trans h2⟩
 lt := fun ⟨h1, h2⟩ b hb => by
  have := (h1 b).1 hb; subst this; exact (Array.getElem?_eq_some_iff.1 h2).1
def old (W : World) : HP where
 on D w := (∀ x, D x ↔ x < W.heap.size) /\ ∀ b, b < W.heap.size -> w.heap[b]? = W.heap[b]?
 far h := fun ⟨h1, h2⟩ => ⟨h1, fun b hb => (h b ((h1 b).2 hb)).trans (h2 b hb)⟩
 lt := fun {D w} ⟨h1, h2⟩ b hb => by
  have hb' := (h1 b).1 hb; have := h2 b hb'; rw [Array.getElem?_eq_getElem hb'] at this; exact (Array.getElem?_eq_some_iff.1 this).1
def row (e : TypeId) (size : Nat) (v : Value) (n : Nat) (xs : List Value) : HP where
 on D w := (∀ x, D x ↔ v.ownBlock = some x) /\ w.ownsRow 0 e size v n xs
 far {D w w'} h := fun ⟨h1, h2⟩ => ⟨h1, h2.1, by
  rcases h2.2 with h3 | ⟨g, cap, cur, rfl, hb, hg, r⟩
  ·exact .inl h3
  ·exact .inr ⟨g, cap, cur, rfl, hb, (h g ((h1 g).2 rfl)).trans hg, r⟩⟩
 lt {D w} := fun ⟨h1, h2⟩ b hb => (h2.lt b ((h1 b).1 hb)).2
def pure (p : Prop) : HP where
 on D _ := (∀ x, ¬ D x) /\ p
 far _ h := h
 lt h b hb := absurd hb (h.1 b)
def ex {α : Type} (f : α -> HP) : HP where
 on D w := ∃ x, (f x).on D w
 far h := fun ⟨x, hx⟩ => ⟨x, (f x).far h hx⟩
 lt := fun ⟨x, hx⟩ => (f x).lt hx
end HP
def SatD : List HP -> (Nat -> Prop) -> World -> Prop
 | [], D, _ => ∀ b, ¬ D b
 | h :: t, D, w => ∃ D1 D2, (∀ b, D b ↔ D1 b \/ D2 b) /\ (∀ b, D1 b -> ¬ D2 b) /\ h.on D1 w /\ SatD t D2 w
theorem SatD.far : ∀ {l : List HP} {D : Nat -> Prop} {w w' : World}, (∀ b, D b -> w'.heap[b]? = w.heap[b]?) -> SatD l D w -> SatD l D w'
 | [], _, _, _, _, h => h
 | h :: _, _, _, _, hf, ⟨D1, D2, h1, h2, h3, h4⟩ =>
  ⟨D1, D2, h1, h2, h.far (fun b hb => hf b ((h1 b).2 (.inl hb))) h3, SatD.far (fun b hb => hf b ((h1 b).2 (.inr hb))) h4⟩
theorem SatD.lt : ∀ {l : List HP} {D : Nat -> Prop} {w : World}, SatD l D w -> ∀ b, D b -> b < w.heap.size
 | [], _, _, h, b, hb => absurd hb (h b)
 | h :: _, _, _, ⟨_, _, h1, _, h3, h4⟩, b, hb => by
  rcases (h1 b).1 hb with hb | hb
  ·exact h.lt h3 b hb
  ·exact SatD.lt h4 b hb
def HP.all (l : List HP) : HP where
 on D w := SatD l D w
 far := SatD.far
 lt := SatD.lt
structure Sat (W0 : World) (l : List HP) (w : World) : Prop where
 os : w.os = W0.os
 tape : w.tape = W0.tape
 output : w.output = W0.output
 sat : ∃ D, SatD l D w
namespace Sat
variable {W0 w w' : World} {l t : List HP} {h h' : HP}
theorem refl (W : World) : Sat W [HP.old W] W :=
 ⟨rfl, rfl, rfl, fun b => b < W.heap.size, fun b => b < W.heap.size, fun _ => False, fun b => by simp, fun _ _ h => h, ⟨fun _ => Iff.rfl, fun _ _ => rfl⟩, fun _ h => h⟩
theorem like (hs : Sat W0 l w) (hh : w'.heap = w.heap) (ho : w'.os = w.os) (ht : w'.tape = w.tape) (hu : w'.output = w.output) : Sat W0 l w' :=
 ⟨ho.trans hs.os, ht.trans hs.tape, hu.trans hs.output, hs.sat.imp fun _ hD => SatD.far (fun b _ => by rw [hh]) hD⟩
theorem drop (hs : Sat W0 (h :: t) w) : Sat W0 t w :=
 let ⟨_, _, D2, _, _, _, h4⟩ := hs.sat
 ⟨hs.os, hs.tape, hs.output, D2, h4⟩
theorem swap {h1 h2 : HP} (hs : Sat W0 (h1 :: h2 :: t) w) : Sat W0 (h2 :: h1 :: t) w := by
 obtain ⟨D, D1, D2, e1, d1, o1, D3, D4, e2, d2, o2, h4⟩ := hs.sat
 refine ⟨hs.os, hs.tape, hs.output, D, D3, (fun b => D1 b \/ D4 b), fun b => ?_, fun b hb => ?_, o2, D1, D4, fun _ => Iff.rfl, fun b hb h => d1 b hb ((e2 b).2 (.inr h)), o1, h4⟩
 ·rw [e1, e2]
  constructor
  ·rintro (h | h | h)
   ·exact .inr (.inl h)
   ·exact .inl h
   ·exact .inr (.inr h)
  ·rintro (h | h | h)
   ·exact .inr (.inl h)
   ·exact .inl h
   ·exact .inr (.inr h)
 ·rintro (h | h)
  ·exact d1 b h ((e2 b).2 (.inl hb))
  ·exact d2 b hb h
end Sat
def pick : Nat -> List HP -> List HP
 | 0, l => l
 | _ + 1, [] => []
 | k + 1, x :: l => match pick k l with
  | y :: r => y :: x :: r
  | [] => [x]
theorem NT' : ∀ (k : Nat) (l : List HP) (D : Nat -> Prop) (w : World), SatD l D w -> SatD (pick k l) D w
 | 0, _, _, _, h => h
 | _ + 1, [], _, _, h => h
 | k + 1, x :: l, D, w, ⟨D1, D2, e1, d1, o1, h4⟩ => by
  have ih := NT' k l D2 w h4; simp only [pick]
  cases hp : pick k l with
  | nil => rw [hp] at ih; exact ⟨D1, D2, e1, d1, o1, ih⟩
  | cons y r =>
   rw [hp] at ih; obtain ⟨D3, D4, e2, d2, o2, h5⟩ := ih
   refine ⟨D3, (fun b => D1 b \/ D4 b), fun b => ?_, fun b hb => ?_, o2, D1, D4, fun _ => Iff.rfl, fun b hb h => d1 b hb ((e2 b).2 (.inr h)), o1, h5⟩
   ·rw [e1, e2]
    constructor
    ·rintro (h | h | h)
     ·exact .inr (.inl h)
     ·exact .inl h
     ·exact .inr (.inr h)
    ·rintro (h | h | h)
     ·exact .inr (.inl h)
     ·exact .inl h
     ·exact .inr (.inr h)
   ·rintro (h | h)
    ·exact d1 b h ((e2 b).2 (.inl hb))
    ·exact d2 b hb h
namespace Sat
variable {W0 w w' : World} {l t : List HP} {h h' : HP}
theorem pick (hs : Sat W0 l w) (k : Nat) : Sat W0 (YtnnojnlejlokhaaGreatDoor.pick k l) w :=
 ⟨hs.os, hs.tape, hs.output, hs.sat.imp fun D hD => NT' k l D w hD⟩
theorem turn (hs : Sat W0 (h :: t) w) (ho : w'.os = w.os) (ht : w'.tape = w.tape) (hu : w'.output = w.output)
  (hh : ∀ D, h.on D w -> (∀ b, b < w.heap.size -> ¬ D b -> w'.heap[b]? = w.heap[b]?) /\ ∃ D', h'.on D' w' /\ ∀ b, D' b -> D b \/ w.heap.size <= b) : Sat W0 (h' :: t) w' := by
 obtain ⟨D, D1, D2, e, d, o, h4⟩ := hs.sat; obtain ⟨hk, D', o', hD'⟩ := hh D1 o; have hlt := SatD.lt h4
 refine ⟨ho.trans hs.os, ht.trans hs.tape, hu.trans hs.output, _, D', D2, fun _ => Iff.rfl, fun b hb hb2 => ?_, o', SatD.far (fun b hb => hk b (hlt b hb) (fun h1 => d b h1 hb)) h4⟩
 rcases hD' b hb with h1 | h1
 ·exact d b h1 hb2
 ·have := hlt b hb2; omega
theorem new (hs : Sat W0 t w) (hb : Below w.heap.size w w') (hn : ∃ D, h.on D w' /\ ∀ b, D b -> w.heap.size <= b) : Sat W0 (h :: t) w' := by
 obtain ⟨D, h4⟩ := hs.sat; obtain ⟨D', o', hD'⟩ := hn; have hlt := SatD.lt h4
 exact ⟨hb.os.trans hs.os, hb.tape.trans hs.tape, hb.output.trans hs.output, _, D', D, fun _ => Iff.rfl, fun b h1 h2 => by have := hD' b h1; have := hlt b h2; omega,
  o', SatD.far (fun b hb' => hb.block b (hlt b hb')) h4⟩
theorem below (hs : Sat W0 t w) (hb : Below w.heap.size w w') : Sat W0 t w' := by
 obtain ⟨D, h4⟩ := hs.sat; have hlt := SatD.lt h4; exact ⟨hb.os.trans hs.os, hb.tape.trans hs.tape, hb.output.trans hs.output, D, SatD.far (fun b hb' => hb.block b (hlt b hb')) h4⟩
theorem drew (hs : Sat W0 t w) : Sat W0 t w.drew := hs.below (Below.refl _ _).drew
theorem alloc (hs : Sat W0 t w) (o : Obj) : Sat W0 t (w.alloc o) := hs.below ((Below.refl _ _).alloc (Nat.le_refl _) o)
theorem old_below (hs : Sat W (HP.old W :: t) w) : Below W.heap.size W w := by
 obtain ⟨D, D1, D2, e, d, ⟨o1, o2⟩, h4⟩ := hs.sat
 refine ⟨hs.os, hs.tape, hs.output, ?_, fun k hk => o2 k hk⟩
 by_cases h0 : W.heap.size = 0
 ·omega
 ·have := (HP.old W).lt (D := fun b => b < W.heap.size) (w := w) ⟨fun _ => Iff.rfl, o2⟩ (W.heap.size - 1) (by show _ < _; omega)
  omega
theorem old_block (hs : Sat W0 (HP.old W :: t) w) {b : Nat} (hb : b < W.heap.size) : w.heap[b]? = W.heap[b]? :=
 let ⟨_, _, _, _, _, ⟨_, o2⟩, _⟩ := hs.sat
 o2 b hb
theorem old_cell (hs : Sat W0 (HP.old W :: t) w) {a : Addr} {v : Value} (h : W.cell? a = some v) : w.cell? a = some v :=
 (World.cell?_of_block (hs.old_block (World.block_lt_of_cell? W a h))).trans h
end Sat
end Go.Proofs.YtnnojnlejlokhaaGreatDoor
