/- Reading a run backwards; cells that are written. No program. -/
import Derived.Test.YtnnojnlejlokhaaGreatDoorEngRep
import Derived.Test.YtnnojnlejlokhaaGreatDoorMem
import Derived.Deep.Upon
set_option linter.unusedVariables false
set_option linter.unusedSimpArgs false
namespace Go.Proofs.YtnnojnlejlokhaaGreatDoor.Eng
open Go Go.RowKit
variable {t : TypeId} {k m n1 : Nat} {E : Env} {sb : Bool} {P : Program}
section
variable {st : Bool} {α : Type} {h h' : T} {n n' : Nat} {lg lg' : Log} {r : α} {c : Cnd}
theorem BK' {β : Type} {why : String} {o : Option β} {f : β -> AP α} (he : (AP.opt why o >>= f).run st h n lg = .ok r h' n' lg' c) :
  ∃ a, o = some a /\ (f a).run st h n lg = .ok r h' n' lg' c := by
 cases o with
 | some a => exact ⟨a, rfl, he⟩
 | none => cases he
theorem MI' {why : String} {o : Option α} (he : (AP.opt why o).run st h n lg = .ok r h' n' lg' c) : o = some r /\ h' = h /\ n' = n := by
 cases o with
 | some a => cases he; exact ⟨rfl, rfl, rfl⟩
 | none => cases he
theorem A8' {b : Bool} {why : String} {f : Unit -> AP α} (he : (AJ' b why >>= f).run st h n lg = .ok r h' n' lg' c) :
  b = true /\ (f ()).run st h n lg = .ok r h' n' lg' c := by
 cases b with
 | true => exact ⟨rfl, he⟩
 | false => cases he
theorem A7' {a : α} (he : (pure a : AP α).run st h n lg = .ok r h' n' lg' c) : r = a /\ h' = h /\ n' = n := by cases he; exact ⟨rfl, rfl, rfl⟩
theorem AB' {a : α} (he : (AP.ret a : AP α).run st h n lg = .ok r h' n' lg' c) : r = a /\ h' = h /\ n' = n := by cases he; exact ⟨rfl, rfl, rfl⟩
theorem A4' {why : String} (he : (AP.fail why : AP α).run st h n lg = .ok r h' n' lg' c) : False := by cases he
theorem B3' {f : Nat -> AP α} (he : (E.size t >>= f).run st h n lg = .ok r h' n' lg' c) : ∃ i, E.info t = some i /\ (f i.size).run st h n lg = .ok r h' n' lg' c := by
 unfold Env.size at he
 cases hi : E.info t with
 | some i => rw [hi] at he; exact ⟨i, rfl, he⟩
 | none => rw [hi] at he; cases he
theorem OF' {f : Nat -> AP α} (he : (E.bytes t >>= f).run st h n lg = .ok r h' n' lg' c) : ∃ i, E.info t = some i /\ (f i.bytes).run st h n lg = .ok r h' n' lg' c := by
 unfold Env.bytes at he
 cases hi : E.info t with
 | some i => rw [hi] at he; exact ⟨i, rfl, he⟩
 | none => rw [hi] at he; cases he
theorem CI' {f : Value -> AP α} (he : (E.zero t >>= f).run st h n lg = .ok r h' n' lg' c) : ∃ i z, E.info t = some i /\ i.zero = some z /\ (f z).run st h n lg = .ok r h' n' lg' c := by
 unfold Env.zero at he
 cases hi : E.info t with
 | some i =>
  rw [hi] at he; have he2 : (AP.opt "zero" i.zero >>= f).run st h n lg = .ok r h' n' lg' c := he
  cases hz : i.zero with
  | some z => rw [hz] at he2; exact ⟨i, z, rfl, hz, he2⟩
  | none => rw [hz] at he2; cases he2
 | none => rw [hi] at he; cases he
theorem AN' {f : TypeDesc -> AP α} (he : (E.desc t >>= f).run st h n lg = .ok r h' n' lg' c) : ∃ d, E.under t = some d /\ (f d).run st h n lg = .ok r h' n' lg' c := by
 unfold Env.desc at he
 cases hi : E.under t with
 | some i => rw [hi] at he; exact ⟨i, rfl, he⟩
 | none => rw [hi] at he; cases he
def HZ' : TypeDesc -> Bool
 | .struct _ | .array _ _ => true
 | _ => false
theorem MJ' {f : Bool -> AP α} (he : (E.agg t >>= f).run st h n lg = .ok r h' n' lg' c) : ∃ d, E.under t = some d /\ (f (HZ' d)).run st h n lg = .ok r h' n' lg' c := by
 unfold Env.agg Env.desc at he
 cases hi : E.under t with
 | some i => rw [hi] at he; exact ⟨i, rfl, by cases i <;> exact he⟩
 | none => rw [hi] at he; cases he
theorem BL' {i : Nat} {f : List AV × TypeId -> AP α} (he : (BR' i >>= f).run st h n lg = .ok r h' n' lg' c) :
  ∃ cs e, h.find i = some (.cells cs e) /\ (f (cs, e)).run st h n ((i, false) :: lg) = .ok r h' n' lg' c := by
 obtain ⟨o, ho, he⟩ := BM' (k := fun o => AP.bind (match o with | .cells cs e => .ret (cs, e) | _ => .fail "cells expected") f) he
 cases o with
 | cells cs e => exact ⟨cs, e, ho, he⟩
 | _ => cases he
theorem CJ' {i : Nat} {f : List (AV × AV × Nat) × Nat -> AP α} (he : (D1' i >>= f).run st h n lg = .ok r h' n' lg' c) :
  ∃ es k, h.find i = some (.map es k) /\ (f (es, k)).run st h n ((i, false) :: lg) = .ok r h' n' lg' c := by
 obtain ⟨o, ho, he⟩ := BM' (k := fun o => AP.bind (match o with | .map es k => .ret (es, k) | _ => .fail "map expected") f) he
 cases o with
 | map es k => exact ⟨es, k, ho, he⟩
 | _ => cases he
theorem CZ' {x : AV} {f : Nat -> AP α} (he : (L8' x >>= f).run st h n lg = .ok r h' n' lg' c) : ∃ k m, x = .v (.int k (Int.ofNat m)) /\ (f m).run st h n lg = .ok r h' n' lg' c := by
 unfold L8' at he; unfold asInt at he; split at he
 ·rename_i k m
  cases m with
  | ofNat m => exact ⟨k, m, rfl, he⟩
  | negSucc m => cases he
 ·cases he
theorem AI' {b : Bool} {why : String} {f : Unit -> AP α} (he : (BH' sb b why >>= f).run st h n lg = .ok r h' n' lg' c) (hc : c.holds) :
  b = true /\ ∃ c' : Cnd, (f ()).run st h n lg = .ok r h' n' lg' c' /\ c'.holds := by
 cases sb with
 | true =>
  obtain ⟨h1, h2⟩ := A8' he; exact ⟨h1, c, h2, hc⟩
 | false =>
  obtain ⟨c', h1, rfl⟩ := AG' (k := AP.bind (.ret ()) f) he; rw [Cnd.and_iff] at hc; exact ⟨hc.1, c', h1, hc.2⟩
theorem UP' {l : List AV} {r : List AV} (he : (span sb l k m).run st h n lg = .ok r h' n' lg' c) (hc : c.holds) : ((l.drop k).take m).length = m /\ r = (l.drop k).take m /\ h' = h /\ n' = n := by
 have he2 : (BH' sb (Nat.beq ((l.drop k).take m).length m) "no such cells" >>= fun _ => (pure ((l.drop k).take m) : AP (List AV))).run st h n lg = .ok r h' n' lg' c := he
 obtain ⟨hb, c', he2, _⟩ := AI' he2 hc; obtain ⟨rfl, rfl, rfl⟩ := A7' he2; exact ⟨Nat.eq_of_beq_eq_true hb, rfl, rfl, rfl⟩
theorem GJ' {l : List AV} {f : List AV -> AP α} (he : (span sb l k m >>= f).run st h n lg = .ok r h' n' lg' c) (hc : c.holds) :
  ((l.drop k).take m).length = m /\ ∃ c' : Cnd, (f ((l.drop k).take m)).run st h n lg = .ok r h' n' lg' c' /\ c'.holds := by
 have he2 : (BH' sb (Nat.beq ((l.drop k).take m).length m) "no such cells" >>= fun _ => f ((l.drop k).take m)).run st h n lg = .ok r h' n' lg' c := by
  cases sb with
  | true =>
   cases hb : Nat.beq ((l.drop k).take m).length m with
   | true =>
    have he3 : ((AJ' (Nat.beq ((l.drop k).take m).length m) "no such cells" >>= fun _ => (pure ((l.drop k).take m) : AP (List AV))) >>= f).run st h n lg = .ok r h' n' lg' c := he
    rw [hb] at he3; exact he3
   | false =>
    have he3 : ((AJ' (Nat.beq ((l.drop k).take m).length m) "no such cells" >>= fun _ => (pure ((l.drop k).take m) : AP (List AV))) >>= f).run st h n lg = .ok r h' n' lg' c := he
    rw [hb] at he3; cases he3
  | false => exact he
 obtain ⟨hb, c', he2, hc'⟩ := AI' he2 hc; exact ⟨Nat.eq_of_beq_eq_true hb, c', he2, hc'⟩
theorem KI' {l : List AV} {r : AV} (he : (slot sb l k).run st h n lg = .ok r h' n' lg' c) (hc : c.holds) : l[k]? = some r /\ h' = h /\ n' = n := by
 cases sb with
 | true => exact MI' he
 | false =>
  obtain ⟨c', h1, rfl⟩ := AG' (k := AP.ret (l.getD k AV.undef)) he; rw [Cnd.and_iff] at hc; obtain ⟨rfl, rfl, rfl⟩ := AB' h1
  have hk : k < l.length := by have h0 := hc.1; simpa [Cnd.holds, Nat.blt_eq] using h0
  exact ⟨by simp [List.getD, List.getElem?_eq_getElem hk], rfl, rfl⟩
end
def ZZ' (o2 : AO) (k : AV) (es : List (AV × AV × Nat)) : Prop := ∀ (N : A9') (D : Nat -> Prop) (w : World), OR N 2 o2 D w ->
 ∀ v, v ∈ k :: es.map (·.1) -> ∃ b arr e, v = .v (.pointer (some ⟨b, 0, none⟩)) /\ w.heap[b]? = some (.cells arr e (0, 0))
def VV' (o o' : AO) (N : A9') (D : Nat -> Prop) (w w' : World) : Prop := w'.os = w.os /\ w'.tape = w.tape /\ w'.output = w.output /\ (∀ b, b < w.heap.size -> ¬ D b -> w'.heap[b]? = w.heap[b]?) /\ ∃ D', OR N 2 o' D' w' /\ ∀ b, D' b -> D b \/ w.heap.size <= b
def L2' (P : Program) (o : AO) : Fc -> Prop
 | .load t a y => ∀ (N : A9') (D : Nat -> Prop) (w : World), OR N 2 o D w -> (Instr.loadAt t (.pointer (some a))).run P w = .ok y w
 | .look t m k y => ∀ (N : A9') (D : Nat -> Prop) (w : World), OR N 2 o D w -> (Instr.lookup t (.map (some m)) k false).run P w = .ok y w
 | .len t m y => ∀ (N : A9') (D : Nat -> Prop) (w : World), OR N 2 o D w -> ∀ ty, (Builtin.len_ #[t] ty #[.map (some m)]).run P w = .ok y w
 | .upd t m k x o' => ∀ (N : A9') (D : Nat -> Prop) (w : World), OR N 2 o D w -> ∃ w', (Instr.mapUpdate t (.map (some m)) k x).run P w = .ok () w' /\ VV' o o' N D w w'
 | .del t m k o' => ∀ (N : A9') (D : Nat -> Prop) (w : World) (tk ty : TypeId), OR N 2 o D w -> ∃ w', (Builtin.delete_ #[t, tk] ty #[.map (some m), k]).run P w = .ok (.tuple #[]) w' /\ VV' o o' N D w w'
structure EnvOk (P : Program) (E : Env) : Prop where
 wk : ∀ v u, E.wk v u -> Wk v u
 ow : ∀ o o', E.ow o o' -> OW o o'
 gd : ∀ a k es, E.gd a k es -> ZZ' a k es
 fc : ∀ o f, E.fc o f -> L2' P o f
 info : ∀ t i, E.info t = some i -> P.info? t = some i
 fn : ∀ f d, E.fn f = some d -> P.funcs[f]? = some d
 old : ∀ D w, E.F.on D w -> ∀ a v, E.W.cell? a = some v -> w.cell? a = some v
 laid : ∀ D w, E.F.on D w -> ∀ g vs, E.laid g = some vs -> ∀ j v, vs[j]? = some v -> w.cell? ⟨g, j, none⟩ = some v
 clone : ∀ f, E.clone f = true -> ∀ t b es k w, w.heap[b]? = some (.map es k) -> (callFunc f #[.iface t (.map (some b))]).run P w = .ok (.value (.iface t (.map (some w.heap.size)))) (w.alloc (.map es k))
 same : ∀ f, E.same f = true -> ∀ v w, (callFunc f #[v]).run P w = .ok (.value v) w
theorem EnvOk.under (hE : EnvOk P E) {d : TypeDesc} (h : E.under t = some d) : P.underlying t = some d := by
 unfold Env.under at h; unfold Program.underlying
 cases hi : E.info t with
 | none => rw [hi] at h; cases h
 | some i =>
  rw [hE.info _ _ hi]; rw [hi] at h; obtain ⟨desc⟩ := i
  cases desc with
  | named s u =>
   simp only at h ⊢
   cases hu : E.info u with
   | none => simp [hu] at h
   | some j => rw [hu] at h; rw [hE.info _ _ hu]; exact h
  | _ => exact h
theorem N3' {d : TypeDesc} (h : P.underlying t = some d) (hd : HZ' d = true) : I9' P t = true := by
 unfold I9'; rw [h]; cases d <;> simp_all [HZ']
theorem S6' {d : TypeDesc} (h : P.underlying t = some d) (hd : HZ' d = false) : R3' P t = true := by
 unfold R3'; rw [h]; cases d <;> simp_all [HZ']
section
variable {N : A9'} {i : Nat} {cs : List AV} {e : TypeId} {D : Nat -> Prop} {w : World}
structure Row (N : A9') (i : Nat) (cs : List AV) (e : TypeId) (l : Loc) (arr : Array Value) (fz : Nat × Nat) (w : World) : Prop where
 name : N i = some l
 heap : w.heap[l.blk]? = some (.cells arr (e / 2) fz)
 fits : l.off + l.room <= arr.size
 len : cs.length <= l.room
 free : fz = (0, 0) \/ arr.size <= fz.1
 vals : VRs N cs ((arr.toList.drop l.off).take cs.length)
 plain : e % 2 = 0 -> l.off = 0 /\ fz = (0, 0)
theorem OR.row (h : OR N i (.cells cs e) D w) : ∃ l arr fz, Row N i cs e l arr fz w /\ ∀ x, D x ↔ x = l.blk := by
 obtain ⟨l, arr, fz, h1, h2, h3, h4, h5, h6, h7, h8⟩ := h; exact ⟨l, arr, fz, ⟨h1, h3, h4, h5, h6, h7, h8⟩, h2⟩
theorem Row.or {l : Loc} {arr : Array Value} {fz : Nat × Nat} (h : Row N i cs e l arr fz w) : OR N i (.cells cs e) (fun x => x = l.blk) w :=
 ⟨l, arr, fz, h.name, fun _ => Iff.rfl, h.heap, h.fits, h.len, h.free, h.vals, h.plain⟩
variable {l : Loc} {arr : Array Value} {fz : Nat × Nat}
theorem Row.cell (h : Row N i cs e l arr fz w) (j : Nat) : w.cell? ⟨l.blk, l.off + j, none⟩ = (arr.toList.drop l.off)[j]? := by
 rw [cell_of_row w l.blk _ arr (e / 2) fz h.heap]; simp
theorem Row.span (h : Row N i cs e l arr fz w) (hk : ((cs.drop k).take m).length = m) :
  ∃ vs, VRs N ((cs.drop k).take m) vs /\ vs.length = m /\ ∀ j u, vs[j]? = some u -> w.cell? ⟨l.blk, l.off + k + j, none⟩ = some u := by
 have hv := (h.vals.drop k).take m
 refine ⟨_, hv, by rw [<- hv.len, hk], fun j u hu => ?_⟩
 rw [show l.off + k + j = l.off + (k + j) from ω, h.cell]
 simp only [List.getElem?_take, List.getElem?_drop] at hu ⊢; split at hu
 ·split at hu
  ·rename_i h1 h2; exact hu
  ·cases hu
 ·cases hu
theorem Row.slot (h : Row N i cs e l arr fz w) {x : AV} (hk : cs[k]? = some x) : ∃ y, VR N x y /\ w.cell? ⟨l.blk, l.off + k, none⟩ = some y := by
 obtain ⟨y, hy, hv⟩ := h.vals.get hk; refine ⟨y, hv, ?_⟩; rw [h.cell]; rw [List.getElem?_take] at hy; split at hy
 ·exact hy
 ·cases hy
theorem Row.there (h : Row N i cs e l arr fz w) (hk : k < l.room) : (w.cell? ⟨l.blk, l.off + k, none⟩).isSome = true := by
 have := h.fits; rw [cell_of_row w l.blk _ arr (e / 2) fz h.heap]; simp; omega
theorem Row.unfrozen (h : Row N i cs e l arr fz w) (hk : k < l.room) : w.frozen? ⟨l.blk, l.off + k, none⟩ = false := by
 have := h.fits
 have hf : ¬ (fz.1 <= l.off + k /\ l.off + k < fz.2) := by
  rcases h.free with h0 | h0
  ·rw [h0]; omega
  ·omega
 obtain ⟨lo, hi⟩ := fz; simp only [World.frozen?, h.heap]; simp only at hf; rw [Bool.eq_false_iff]; intro hh; simp at hh; exact hf hh
end
theorem C3' (b : Nat) : ∀ (vs : List Value) (o : Nat) (w : World) (x : Nat), x ≠ b -> (w.setCells b o vs).heap[x]? = w.heap[x]?
 | [], _, _, _, _ => rfl
 | v :: r, o, w, x, hx => by
  rw [World.setCells, C3' b r _ _ x hx]; exact Below.heap_setCell _ _ _ _ hx
theorem HP' (b : Nat) (e : TypeId) (fz : Nat × Nat) : ∀ (vs : List Value) (o : Nat) (w : World) (arr : Array Value), w.heap[b]? = some (.cells arr e fz) ->
  ∃ arr', (w.setCells b o vs).heap[b]? = some (.cells arr' e fz) /\ arr'.size = arr.size /\ ∀ j, j < arr.size -> arr'[j]? = if o <= j /\ j < o + vs.length then vs[j - o]? else arr[j]?
 | [], o, w, arr, h => ⟨arr, h, rfl, fun j hj => by rw [if_neg (by simp only [List.length_nil]; omega)]⟩
 | v :: r, o, w, arr, h => by
  have h1 : (w.setCell ⟨b, o, none⟩ v).heap[b]? = some (.cells (arr.setIfInBounds o v) e fz) := by
   simp only [World.setCell, Array.getElem?_modify, if_pos, h]; rfl
  obtain ⟨arr', h2, h3, h4⟩ := HP' b e fz r (o + 1) _ _ h1
  refine ⟨arr', h2, by rw [h3]; simp, fun j hj => ?_⟩
  rw [h4 j (by simpa using hj)]; simp only [List.length_cons]
  by_cases hjo : j = o
  ·subst hjo; rw [if_neg ω, if_pos ω]; simp [hj]
  ·rw [Array.getElem?_setIfInBounds_ne (Ne.symm hjo)]
   by_cases hr : o + 1 <= j /\ j < o + 1 + r.length
   ·rw [if_pos hr, if_pos ω, show j - o = (j - (o + 1)) + 1 from ω, List.getElem?_cons_succ]
   ·rw [if_neg hr, if_neg ω]
theorem CS' (b : Nat) : ∀ (vs : List Value) (o : Nat) (w : World), (w.setCells b o vs).os = w.os /\ (w.setCells b o vs).tape = w.tape /\ (w.setCells b o vs).output = w.output /\ (w.setCells b o vs).heap.size = w.heap.size
 | [], _, _ => ⟨rfl, rfl, rfl, rfl⟩
 | v :: r, o, w => by
  obtain ⟨h1, h2, h3, h4⟩ := CS' b r (o + 1) (w.setCell ⟨b, o, none⟩ v); exact ⟨h1, h2, h3, h4.trans (by simp [World.setCell])⟩
section
variable {N : A9'} {i : Nat} {cs : List AV} {e : TypeId} {w : World} {l : Loc} {arr : Array Value} {fz : Nat × Nat}
theorem CA' (cs r : List AV) (k : Nat) (hk : k <= cs.length) : (splice cs k r).length = max cs.length (k + r.length) := by
 simp [splice]; omega
theorem Row.write (h : Row N i cs e l arr fz w) {r : List AV} {vs : List Value} (hk : k <= cs.length) (hr : k + r.length <= l.room) (hv : VRs N r vs) :
  ∃ arr', Row N i (splice cs k r) e l arr' fz (w.setCells l.blk (l.off + k) vs) /\ arr'.size = arr.size := by
 obtain ⟨arr', h1, h2, h3⟩ := HP' l.blk (e / 2) fz vs (l.off + k) w arr h.heap; have hlen := hv.len; have hfits := h.fits; have hcl := h.len
 refine ⟨arr', ⟨h.name, h1, by rw [h2]; exact h.fits, by rw [CA' _ _ _ hk]; omega, by rw [h2]; exact h.free, ?_, h.plain⟩, h2⟩
 refine NB'.2 ⟨?_, fun j x y hx hy => ?_⟩
 ·have hal : arr'.toList.length = arr.size := h2; rw [CA' _ _ _ hk, List.length_take, List.length_drop, hal]; omega
 ·have hj : j < (splice cs k r).length := (List.getElem?_eq_some_iff.1 hx).1; rw [CA' _ _ _ hk] at hj; rw [List.getElem?_take, if_pos (by rw [CA' _ _ _ hk]; exact hj), List.getElem?_drop, Array.getElem?_toList, h3 _ ω] at hy; simp only [splice, List.getElem?_append, List.length_append, List.length_take] at hx
  by_cases hin : k <= j /\ j < k + r.length
  ·rw [if_pos ω, show l.off + j - (l.off + k) = j - k from ω] at hy
   rw [if_pos ω, if_neg ω, show j - min k cs.length = j - k from ω] at hx
   exact (NB'.1 hv).2 _ _ _ hx hy
  ·rw [if_neg ω] at hy
   have hx' : cs[j]? = some x := by
    by_cases hjk : j < k
    ·rw [if_pos ω, if_pos ω, List.getElem?_take, if_pos hjk] at hx; exact hx
    ·rw [if_neg ω, List.getElem?_drop] at hx; rw [<- hx]; congr 1; omega
   obtain ⟨y', hy', hv'⟩ := h.vals.get hx'; have hjc : j < cs.length := (List.getElem?_eq_some_iff.1 hx').1; rw [List.getElem?_take, if_pos hjc, List.getElem?_drop, Array.getElem?_toList, hy] at hy'; cases hy'; exact hv'
end
def BW' (N : A9') (n n' : Nat) : Prop := ∀ i, n <= i -> i < n' -> N i = none
def Ext (N N' : A9') (n n' : Nat) : Prop := ∀ i, ¬ (n <= i /\ i < n') -> N' i = N i
theorem Ext.refl (N : A9') (n n' : Nat) : Ext N N n n' := fun _ _ => rfl
theorem Ext.le {N N' : A9'} {n n' : Nat} (h : Ext N N' n n') (hf : BW' N n n') : N.le N' := fun i l hi => by
 rw [h i (fun ⟨h1, h2⟩ => by rw [hf i h1 h2] at hi; cases hi)]; exact hi
theorem Ext.put {N : A9'} {n : Nat} {l : Loc} : Ext N (N.put n l) n (n + 1) := fun i hi => A9'.put_ne ω
theorem Ext.trans {N N1 N' : A9'} {n n' : Nat} (h1 : Ext N N1 n n1) (h2 : Ext N1 N' n1 n') (hle1 : n <= n1) (hle2 : n1 <= n') : Ext N N' n n' := fun i hi => by
 rw [h2 i ω, h1 i ω]
theorem BW'.left {N : A9'} {n n' : Nat} (h : BW' N n n') (hle : n1 <= n') : BW' N n n1 := fun i h1 h2 => h i h1 ω
theorem BW'.right {N N1 : A9'} {n n' : Nat} (h : BW' N n n') (h1 : Ext N N1 n n1) (hle : n <= n1) : BW' N1 n1 n' := fun i h2 h3 => by
 rw [h1 i ω]; exact h i ω h3
end Go.Proofs.YtnnojnlejlokhaaGreatDoor.Eng
