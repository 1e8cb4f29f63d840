/- Variables and structs in memory, said of parts that lie side by side. No program. -/
import Derived.Test.YtnnojnlejlokhaaGreatDoorSatOps
import Derived.Test.YtnnojnlejlokhaaGreatDoorRegion
set_option linter.unusedVariables false
set_option linter.unusedSimpArgs false
namespace Go.Proofs.YtnnojnlejlokhaaGreatDoor
open Go.RowKit
variable {b : Nat} {t : TypeId}
theorem Sat.mem {W0 w : World} {l : List HP} (hs : Sat W0 l w) {h : HP} (k : Nat) (hk : l[k]? = some h) : ∃ D, h.on D w := by
 obtain ⟨D, hD⟩ := hs.sat
 induction l generalizing k D with
 | nil => simp at hk
 | cons x l ih =>
  obtain ⟨D1, D2, _, _, o1, h4⟩ := hD
  cases k with
  | zero => simp at hk; subst hk; exact ⟨D1, o1⟩
  | succ k => exact ih ⟨hs.os, hs.tape, hs.output, D2, h4⟩ k (by simpa using hk) D2 h4
theorem Sat.block {W0 w : World} {l : List HP} (hs : Sat W0 l w) (k : Nat) {o : Obj} (hk : l[k]? = some (HP.pts b o)) : w.heap[b]? = some o :=
 let ⟨_, _, h⟩ := hs.mem k hk
 h
theorem R4' : ∀ (l : List HP) (k : Nat) (h h' : HP) (D : Nat -> Prop) (w w' : World), l[k]? = some h -> SatD l D w ->
  (∀ D1, h.on D1 w -> (∀ b, b < w.heap.size -> ¬ D1 b -> w'.heap[b]? = w.heap[b]?) /\ h'.on D1 w') -> SatD (l.set k h') D w'
 | [], k, _, _, _, _, _, hk, _, _ => by simp at hk
 | x :: l, 0, h, h', D, w, w', hk, ⟨D1, D2, e, d, o1, h4⟩, hh => by
  simp at hk; subst hk; obtain ⟨h1, h2⟩ := hh D1 o1; have hlt := SatD.lt h4; exact ⟨D1, D2, e, d, h2, SatD.far (fun b hb => h1 b (hlt b hb) (fun hd => d b hd hb)) h4⟩
 | x :: l, k + 1, h, h', D, w, w', hk, ⟨D1, D2, e, d, o1, h4⟩, hh => by
  have ih := R4' l k h h' D2 w w' (by simpa using hk) h4 hh
  -- the part that changes lies in D2
  have hin : ∃ D3, (∀ b, D3 b -> D2 b) /\ h.on D3 w := by
   clear ih hh
   have hk' : l[k]? = some h := by simpa using hk
   clear hk e d o1
   induction l generalizing k D2 with
   | nil => simp at hk'
   | cons y l ih =>
    obtain ⟨D5, D6, e', _, o2, h5⟩ := h4
    cases k with
    | zero => simp at hk'; subst hk'; exact ⟨D5, fun b hb => (e' b).2 (.inl hb), o2⟩
    | succ k =>
     obtain ⟨D3, h6, h7⟩ := ih k D6 h5 (by simpa using hk')
     exact ⟨D3, fun b hb => (e' b).2 (.inr (h6 b hb)), h7⟩
  obtain ⟨D3, h6, h7⟩ := hin; obtain ⟨h8, _⟩ := hh D3 h7; exact ⟨D1, D2, e, d, x.far (fun b hb => h8 b (x.lt o1 b hb) (fun h9 => d b hb (h6 b h9))) o1, ih⟩
theorem Sat.set {W0 w w' : World} {l : List HP} {h h' : HP} (hs : Sat W0 l w) (k : Nat) (hk : l[k]? = some h) (ho : w'.os = w.os) (ht : w'.tape = w.tape) (hu : w'.output = w.output)
  (hh : ∀ D1, h.on D1 w -> (∀ b, b < w.heap.size -> ¬ D1 b -> w'.heap[b]? = w.heap[b]?) /\ h'.on D1 w') : Sat W0 (l.set k h') w' :=
 ⟨ho.trans hs.os, ht.trans hs.tape, hu.trans hs.output, hs.sat.imp fun D hD => R4' l k h h' D w w' hk hD hh⟩
theorem Sat.store {W0 w : World} {l : List HP} (hs : Sat W0 l w) (k : Nat) {c : Array Value} {e : TypeId} (hk : l[k]? = some (HP.pts b (.cells c e (0, 0)))) (j : Nat) (v : Value) :
  Sat W0 (l.set k (HP.pts b (.cells (c.setIfInBounds j v) e (0, 0)))) (w.setCell ⟨b, j, none⟩ v) :=
 hs.set k hk rfl rfl rfl fun D1 ⟨h1, h2⟩ => ⟨fun x hx hD => Below.heap_setCell _ _ _ _ (fun e => hD ((h1 x).2 e)), h1, by
  simp only [World.setCell, Array.getElem?_modify, if_pos, h2]; rfl⟩
def TI (P : Program) (t : TypeId) (z : Value) (size bytes : Nat) : Prop := (P.info? t).map (fun i => (i.zero, i.size, i.bytes)) = some (some z, size, bytes)
theorem TI.parts {P : Program} {z : Value} {size bytes : Nat} (h : TI P t z size bytes) : ∃ i, P.info? t = some i /\ i.zero = some z /\ i.size = size /\ i.bytes = bytes := info_parts h
def R3' (P : Program) (t : TypeId) : Bool := match P.underlying t with
 | some (.struct _) | some (.array ..) | none => false
 | _ => true
def I9' (P : Program) (t : TypeId) : Bool := match P.underlying t with
 | some (.struct _) | some (.array ..) => true
 | _ => false
section
variable {P : Program} {W0 w : World} {l : List HP} {o : Oper} {a : Act} {K : Act -> World -> Prop} {Q : Exit -> Act -> World -> Prop}
theorem DP' (h : R3' P t = true) (w : World) : (isAgg t).run P w = .ok false w := by
 unfold R3' at h
 cases hu : P.underlying t with
 | none => simp [hu] at h
 | some d =>
  unfold isAgg; rw [Sem.run_bind, run_underlying hu w]
  cases d <;> simp_all
theorem D9' (h : I9' P t = true) (w : World) : (isAgg t).run P w = .ok true w := by
 unfold I9' at h
 cases hu : P.underlying t with
 | none => simp [hu] at h
 | some d =>
  unfold isAgg; rw [Sem.run_bind, run_underlying hu w]
  cases d <;> simp_all
end
theorem YC' (a : Addr) (i j : Nat) : (a.add i).add j = a.add (i + j) := by
 unfold Addr.add
 by_cases hi : i = 0 <;> by_cases hj : j = 0 <;> simp [hi, hj, Nat.add_assoc]
structure Rd (w : World) (A : Option Addr) (n size : Nat) (xs : List Value) : Prop where
 len : xs.length = n * size
 here : 0 < n -> ∃ ad, A = some ad
 cells : ∀ ad, A = some ad -> ∀ j u, xs[j]? = some u -> w.cell? (ad.add j) = some u
section
variable {w w' : World} {A : Option Addr} {n size : Nat} {xs : List Value}
theorem Rd.keep (h : Rd w A n size xs) (hk : ∀ p u, w.cell? p = some u -> w'.cell? p = some u) : Rd w' A n size xs :=
 ⟨h.len, h.here, fun ad he j u hu => hk _ _ (h.cells ad he j u hu)⟩
theorem Rd.below (h : Rd w A n size xs) (hb : Below w.heap.size w w') : Rd w' A n size xs :=
 h.keep fun p _ hu => (hb.cell (World.block_lt_of_cell? w p hu)).trans hu
theorem Rd.sat {W0 : World} {t : List HP} (h : Rd w A n size xs) (hs : Sat W0 (HP.old w :: t) w') : Rd w' A n size xs := h.keep fun _ _ hu => hs.old_cell hu
theorem Rd.nil (c : Nat) : Rd w none 0 c [] := ⟨by simp, fun h => absurd h (by omega), fun ad he => by cases he⟩
theorem Rd.lit (w : World) (e : TypeId) {n size : Nat} {xs : List Value} (hl : xs.length = n * size) : Rd (w.alloc (.cells xs.toArray e)) (some ⟨w.heap.size, 0, none⟩) n size xs :=
 ⟨hl, fun _ => ⟨_, rfl⟩, fun ad he j u hu => by
  have : ad = ⟨w.heap.size, 0, none⟩ := by injection he with he; exact he.symm
  subst this
  rw [show (⟨w.heap.size, 0, none⟩ : Addr).add j = ⟨w.heap.size, j, none⟩ from by unfold Addr.add; split <;> simp_all, cell_of_row _ _ j _ e (0, 0) (heap_alloc_new w _)]
  simpa using hu⟩
end
section
variable {P : Program} {w : World} {o : Oper} {a : Act} {K : Act -> World -> Prop} {Q : Exit -> Act -> World -> Prop}
end
section
variable {P : Program} {w : World}
end
section
variable {P : Program} {w : World} {fn : Func} {tmps : Array Value}
end
section
variable {P : Program} {w : World} {ops : Array Oper} {rest : List Oper} {o : Oper} {a : Act} {Q : Exit -> Act -> World -> Prop}
variable {dst : Option Tmp} {type : TypeId} {pos : String} {after : Array Edge} {guard : Option (Nat × Bool)}
end
theorem Sat.cell {W0 w : World} {l : List HP} (hs : Sat W0 l w) (k : Nat) {c : Array Value} {e : TypeId} {f : Nat × Nat} (hk : l[k]? = some (HP.pts b (.cells c e f))) (j : Nat) {v : Value} (hv : c[j]? = some v) : w.cell? ⟨b, j, none⟩ = some v :=
 (cell_of_row w b j c e f (hs.block k hk)).trans hv
end Go.Proofs.YtnnojnlejlokhaaGreatDoor
