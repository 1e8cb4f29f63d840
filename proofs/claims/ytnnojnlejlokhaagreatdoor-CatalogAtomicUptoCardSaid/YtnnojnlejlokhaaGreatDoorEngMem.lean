/- The engine's operations on memory do what the model does. No program. -/
import Derived.Test.YtnnojnlejlokhaaGreatDoorEngSim
set_option linter.unusedVariables false
set_option linter.unusedSimpArgs false
namespace Go.Proofs.YtnnojnlejlokhaaGreatDoor.Eng
open Go Go.RowKit
variable {t e : TypeId} {x a : AV} {v z : Value} {cs : List AV} {vs : List Value}
section
variable {P : Program} {E : Env} {W0 w : World} {N : A9'} {F : HP} {st : Bool} {h h' : T} {n n' : Nat} {lg lg' : Log} {c : Cnd}
theorem D4' (b o k : Nat) : (⟨b, o, none⟩ : Addr).add k = ⟨b, o + k, none⟩ := by unfold Addr.add; split <;> simp_all
theorem SI' (hE : EnvOk P E) {off : Nat} (hv : VRs N cs vs) (he : (Eng.part E t cs off).run st h n lg = .ok a h' n' lg' c) (hc : c.holds) :
  ∃ y, (Go.part t vs.toArray off).run P w = .ok y w /\ VR N a y /\ h' = h /\ n' = n := by
 unfold Eng.part at he; obtain ⟨d, hd, he⟩ := MJ' he; have hu := hE.under hd
 cases hag : HZ' d with
 | true =>
  simp only [hag] at he; obtain ⟨i, hi, he⟩ := B3' he; obtain ⟨hl, _, he, _⟩ := GJ' he hc; obtain ⟨rfl, rfl, rfl⟩ := A7' he; refine ⟨.agg (vs.toArray.extract off (off + i.size)), ?_, ?_, rfl, rfl⟩
  ·simp [Go.part, Sem.run_bind, D9' (N3' hu hag), sizeOf, typeInfo, hE.info _ _ hi]
  ·simp only [VR]; refine ⟨(vs.drop off).take i.size, (hv.drop off).take i.size, ?_⟩
   congr 1
   apply Array.ext'; simp [List.extract_eq_take_drop]
 | false =>
  simp only [hag] at he; obtain ⟨hs, rfl, rfl⟩ := KI' he hc; obtain ⟨y, hy, hva⟩ := hv.get hs; refine ⟨y, ?_, hva, rfl, rfl⟩
  have : vs.toArray[off]? = some y := by simpa using hy
  simp [Go.part, Sem.run_bind, DP' (S6' hu hag), this]
theorem old_cell (hE : EnvOk P E) (r : Rep W0 N E.F h w) {a : Addr} (hv : E.W.cell? a = some v) : w.cell? a = some v := by
 obtain ⟨D0, D, h1, _, _⟩ := r.sat; exact hE.old D0 w h1 a v hv
theorem LB' (hE : EnvOk P E) (r : Rep W0 N E.F h w) {a : Addr} (he : (MX' E t a).run st h n lg = .ok x h' n' lg' c) (hc : c.holds) :
  ∃ y, (Instr.loadAt t (.pointer (some a))).run P w = .ok y w /\ VR N x y /\ h' = h /\ n' = n := by
 unfold MX' at he
 cases hst : E.strict with
 | true =>
  rw [hst] at he; obtain ⟨b, off, spot⟩ := a; simp only at he; split at he
  ·rename_i vs hvs; obtain ⟨D0, D, hF, _, _⟩ := r.sat; have hcell := hE.laid D0 w hF b vs hvs; unfold Eng.part at he; obtain ⟨d, hd, he⟩ := MJ' he; have hu := hE.under hd
   cases hag : HZ' d with
   | true =>
    simp only [hag] at he; obtain ⟨i, hi, he⟩ := B3' he; obtain ⟨hl', _, he, _⟩ := GJ' he hc; obtain ⟨rfl, rfl, rfl⟩ := A7' he; have hv := ((VRs.vmap (N := N) vs).drop off).take i.size; have hvl := hv.len
    refine ⟨.agg ((vs.drop off).take i.size).toArray, ?_, by simp only [VR]; exact ⟨_, hv, rfl⟩, rfl, rfl⟩
    have hlc := run_loadCells_list (P := P) w ⟨b, off, none⟩ ((vs.drop off).take i.size) (fun j u hu => by
     rw [D4']; rw [List.getElem?_take] at hu; split at hu
     ·rw [List.getElem?_drop] at hu; exact hcell _ _ hu
     ·cases hu)
    rw [<- hvl, hl'] at hlc; simp [Instr.loadAt, Instr.sureAddr, loadVar, Sem.run_bind, D9' (N3' hu hag), sizeOf, typeInfo, hE.info _ _ hi, hlc]
   | false =>
    simp only [hag] at he; obtain ⟨hs, rfl, rfl⟩ := KI' he hc; obtain ⟨y, hy, hva⟩ := (VRs.vmap (N := N) vs).get hs; refine ⟨y, ?_, hva, rfl, rfl⟩; simp [Instr.loadAt, Instr.sureAddr, loadVar, Sem.run_bind, DP' (S6' hu hag), hcell _ _ hy]
  ·cases he
 | false =>
  rw [hst] at he; obtain ⟨d, hd, he1⟩ := MJ' he; clear he; have hu := hE.under hd
  cases hag : HZ' d with
  | true =>
   simp only [hag] at he1; obtain ⟨i, hi, he2⟩ := B3' he1; obtain ⟨c', he3, rfl⟩ := AG' he2; rw [Cnd.and_iff] at hc; obtain ⟨rfl, rfl, rfl⟩ := AB' he3
   have hall : ∀ j, j < i.size -> (E.W.cell? (a.add j)).isSome = true := fun j hj => by
    have h0 : ((List.range i.size).all fun j => (E.W.cell? (a.add j)).isSome) = true := hc.1; exact List.all_eq_true.1 h0 j (List.mem_range.2 hj)
   refine ⟨.agg (AM' E.W a i.size).toArray, ?_, by simp only [VR]; exact ⟨_, VRs.vmap _, rfl⟩, rfl, rfl⟩
   have hl : (AM' E.W a i.size).length = i.size := by simp [AM']
   have hlc := run_loadCells_list (P := P) w a (AM' E.W a i.size) (fun j u hu => by
    have hj : j < i.size := by rw [<- hl]; exact (List.getElem?_eq_some_iff.1 hu).1
    obtain ⟨v, hv⟩ := Option.isSome_iff_exists.1 (hall j hj)
    have : u = v := by
     simp only [AM', List.getElem?_map, List.getElem?_range hj, Option.map_some, hv, Option.getD_some, Option.some.injEq] at hu; exact hu.symm
    subst this
    exact old_cell hE r hv)
   rw [hl] at hlc; simp [Instr.loadAt, Instr.sureAddr, loadVar, Sem.run_bind, D9' (N3' hu hag), sizeOf, typeInfo, hE.info _ _ hi, hlc]
  | false =>
   simp only [hag] at he1; obtain ⟨c', he3, rfl⟩ := AG' he1; rw [Cnd.and_iff] at hc; obtain ⟨rfl, rfl, rfl⟩ := AB' he3; have h1 : (E.W.cell? a).isSome = true := hc.1; obtain ⟨v, hv⟩ := Option.isSome_iff_exists.1 h1; refine ⟨v, ?_, VR_v.2 (by rw [hv]; rfl), rfl, rfl⟩; simp [Instr.loadAt, Instr.sureAddr, loadVar, Sem.run_bind, DP' (S6' hu hag), old_cell hE r hv]
theorem J8' (hE : EnvOk P E) (r : Rep W0 N E.F h w) (hx : VR N x v) (he : (LW' E t x).run st h n lg = .ok a h' n' lg' c) (hc : c.holds) :
  ∃ y, (Instr.loadAt t v).run P w = .ok y w /\ VR N a y /\ h' = h /\ n' = n := by
 cases x with
 | ptr i off =>
  simp only [VR] at hx; obtain ⟨l, hl, rfl⟩ := hx; unfold LW' at he; obtain ⟨cs, e, hf, he⟩ := BL' he; obtain ⟨D, hO⟩ := r.obj hf; obtain ⟨l', arr, fz, row, _⟩ := hO.row; obtain rfl : l' = l := Option.some.inj (row.name.symm.trans hl); unfold Eng.part at he; obtain ⟨d, hd, he⟩ := MJ' he; have hu := hE.under hd
  cases hag : HZ' d with
  | true =>
   simp only [hag] at he; obtain ⟨i, hi, he⟩ := B3' he; obtain ⟨hl', _, he, _⟩ := GJ' he hc; obtain ⟨rfl, rfl, rfl⟩ := A7' he; obtain ⟨vs, hv, hvl, hc⟩ := row.span hl'
   refine ⟨.agg vs.toArray, ?_, by simp only [VR]; exact ⟨vs, hv, rfl⟩, rfl, rfl⟩
   have hlc := run_loadCells_list (P := P) w ⟨l'.blk, l'.off + off, none⟩ vs (fun j u hu => by rw [D4']; exact hc j u hu); rw [hvl] at hlc; simp [Instr.loadAt, Instr.sureAddr, loadVar, Sem.run_bind, D9' (N3' hu hag), sizeOf, typeInfo, hE.info _ _ hi, hlc]
  | false =>
   simp only [hag] at he; obtain ⟨hs, rfl, rfl⟩ := KI' he hc; obtain ⟨y, hva, hy⟩ := row.slot hs; refine ⟨y, ?_, hva, rfl, rfl⟩; simp [Instr.loadAt, Instr.sureAddr, loadVar, Sem.run_bind, DP' (S6' hu hag), hy]
 | v z =>
  rw [VR_v] at hx; subst hx
  cases v with
  | pointer o =>
   cases o with
   | some ad => exact LB' hE r he hc
   | none => exact (A4' he).elim
  | _ => exact (A4' he).elim
 | _ => exact (A4' he).elim
theorem bool?_VR {x : AV} {y : Value} {b : Bool} (hb : x.bool? = some b) (h : VR N x y) : y = .bool b := by
 unfold AV.bool? at hb; split at hb
 ·cases hb; exact VR_v.1 h
 ·cases hb; exact EF'.1 h
 ·cases hb
theorem OR' {y : Value} (hx : VR N x y) (he : (eta z x).run st h n lg = .ok a h' n' lg' c) (hc : c.holds) : VR N a y /\ h' = h /\ n' = n := by
 have key : ∀ {p : Prop} {b : AV}, (AP.need p (.ret b)).run st h n lg = .ok a h' n' lg' c -> (p -> VR N b y) -> VR N a y /\ h' = h /\ n' = n := by
  intro p b he hp; obtain ⟨c', h1, rfl⟩ := AG' he; rw [Cnd.and_iff] at hc; obtain ⟨rfl, rfl, rfl⟩ := AB' h1; exact ⟨hp hc.1, rfl, rfl⟩
 unfold eta at he; split at he
 ·exact key he fun hp => by rw [<- hp]; exact hx
 ·exact key he fun hp => VR_v.2 (bool?_VR hp hx)
 ·exact key he fun hp => by rw [<- hp]; exact hx
 ·obtain ⟨rfl, rfl, rfl⟩ := AB' he; exact ⟨hx, rfl, rfl⟩
theorem IQ' {y : Value} (hx : VR N x y) (he : (etaA z x).run st h n lg = .ok a h' n' lg' c) (hc : c.holds) : VR N a y /\ h' = h /\ n' = n := by
 unfold etaA at he; split at he
 ·split at he
  ·rename_i cs; obtain ⟨c', he2, rfl⟩ := AG' he; rw [Cnd.and_iff] at hc; obtain ⟨rfl, rfl, rfl⟩ := AB' he2; have hcs : cs = _ := hc.1; exact ⟨by rw [<- hcs]; exact hx, rfl, rfl⟩
  ·obtain ⟨rfl, rfl, rfl⟩ := AB' he; exact ⟨hx, rfl, rfl⟩
 ·exact OR' hx he hc
theorem HF' (hE : EnvOk P E) (r : Rep W0 N E.F h w) (hx : VR N x v) (he : (MY' E t x).run st h n lg = .ok a h' n' lg' c) (hc : c.holds) :
  ∃ y, (Instr.loadAt t v).run P w = .ok y w /\ VR N a y /\ h' = h /\ n' = n := by
 unfold MY' at he
 cases hst : E.strict with
 | true => rw [hst] at he; exact J8' hE r hx he hc
 | false =>
  rw [hst] at he; obtain ⟨b, g1, n1, lg1, c1, c2, e1, e2, k1⟩ := run_bind _ _ he; obtain ⟨y, hl, hv, rfl, rfl⟩ := J8' hE r hx e1 (k1 hc).1; split at e2
  ·obtain ⟨hv2, rfl, rfl⟩ := IQ' hv e2 (k1 hc).2; exact ⟨y, hl, hv2, rfl, rfl⟩
  ·obtain ⟨rfl, rfl, rfl⟩ := AB' e2; exact ⟨y, hl, hv, rfl, rfl⟩
theorem VK' {E : Env} {st : Bool} {h h' : T} {n n' : Nat} {lg lg' : Log} {c : Cnd} (he : (MY' E t x).run st h n lg = .ok a h' n' lg' c) : ∃ a' h' n' lg' c', (LW' E t x).run st h n lg = .ok a' h' n' lg' c' := by
 unfold MY' at he
 cases hst : E.strict with
 | true => rw [hst] at he; exact ⟨_, _, _, _, _, he⟩
 | false =>
  rw [hst] at he; obtain ⟨b, g1, n1, lg1, c1, c2, e1, e2, k1⟩ := run_bind _ _ he; exact ⟨_, _, _, _, _, e1⟩
theorem P1' (hE : EnvOk P E) (r : Rep W0 N F h w) {y : AV} {vx vy : Value} (hx : VR N x vx) (hy : VR N y vy) {u : Unit} (he : (VF' E t x y).run st h n lg = .ok u h' n' lg' c) (hc : c.holds) :
  ∃ w', (Instr.storeAt t vx vy).run P w = .ok () w' /\ Rep W0 N F h' w' /\ n' = n := by
 cases x with
 | ptr i off =>
  simp only [VR] at hx; obtain ⟨l, hl, rfl⟩ := hx; unfold VF' at he; obtain ⟨cs, e, hf, he⟩ := BL' he; obtain ⟨hkn, he⟩ := A8' he; obtain ⟨ti, hi, he⟩ := B3' he; obtain ⟨h1, he⟩ := A8' he; obtain ⟨h2, _, he, hc⟩ := AI' he hc; obtain ⟨h3, he⟩ := A8' he; have h1 := Nat.eq_of_beq_eq_true h1; have h2 := Nat.le_of_ble_eq_true h2; obtain ⟨o0, ho0, he⟩ := B2' he; obtain ⟨_, rfl, rfl⟩ := AB' he; have hvc := hy.cells hkn; have hlen := hvc.len; have hO := r.obj hf; obtain ⟨D, hO⟩ := hO; obtain ⟨l', arr, fz, row, _⟩ := hO.row; obtain rfl : l' = l := Option.some.inj (row.name.symm.trans hl); have hcl := row.len; refine ⟨w.setCells l'.blk (l'.off + off) vy.cells.toList, ?_, ?_, rfl⟩
  ·have hst := run_storeCells_cells (P := P) l'.blk (l'.off + off) vy.cells.toList 0 w (fun j hj => by
     rw [show l'.off + off + 0 + j = l'.off + (off + j) from ω]; exact row.there (by rw [<- hlen] at hj; omega)) (fun j hj => by
     rw [show l'.off + off + 0 + j = l'.off + (off + j) from ω]; exact row.unfrozen (by rw [<- hlen] at hj; omega)) (hvc.ones h3)
   have hsz : vy.cells.size = ti.size := by rw [<- h1, hlen]; simp
   simp only [Nat.add_zero] at hst; simp [Instr.storeAt, Instr.sureAddr, storeVar, Sem.run_bind, sizeOf, typeInfo, hE.info _ _ hi, hsz, hst]
  ·obtain ⟨a1, a2, a3, a4⟩ := CS' l'.blk vy.cells.toList (l'.off + off) w
   refine r.turn hf a1 a2 a3 fun D hD => ?_
   obtain ⟨l2, arr2, fz2, row2, hD2⟩ := hD.row; obtain rfl : l2 = l' := Option.some.inj (row2.name.symm.trans hl); obtain ⟨arr3, row3, _⟩ := row2.write (k := off) (r := y.cells) (vs := vy.cells.toList) ω ω hvc
   exact ⟨fun b hb hd => C3' _ _ _ _ _ (fun e => hd ((hD2 b).2 e)), _, row3.or, fun b hb => .inl ((hD2 b).2 hb)⟩
 | _ => exact (A4' he).elim
theorem DI' (r : Rep W0 N F h w) (hn : n < T.limit) (hfr : N n = none) (hv : VRs N cs vs) (rest : List Value) :
  Rep W0 (N.put n ⟨w.heap.size, 0, (vs ++ rest).length⟩) F (T.set T.depth h n (.leaf (.cells cs (2 * e)))) (w.alloc (.cells (vs ++ rest).toArray e)) := by
 have hle := A9'.put_le (l := ⟨w.heap.size, 0, (vs ++ rest).length⟩) hfr
 refine r.new hn hle ((Below.refl _ _).alloc (Nat.le_refl _) _) ⟨fun x => x = w.heap.size, ?_, fun b hb => ω⟩
 refine ⟨⟨w.heap.size, 0, (vs ++ rest).length⟩, (vs ++ rest).toArray, (0, 0), A9'.put_same, fun _ => Iff.rfl, (by rw [Nat.mul_div_cancel_left _ (by decide : 0 < 2)]; exact heap_alloc_new w _), by simp, by rw [hv.len]; simp, .inl rfl, ?_, fun _ => ⟨rfl, rfl⟩⟩
 have : ((vs ++ rest).toArray.toList.drop 0).take cs.length = vs := by simp [hv.len]
 rw [this]; exact hv.mono hle
theorem PC' (hE : EnvOk P E) (r : Rep W0 N F h w) {an : AN} (hfr : BW' N n n')
  (he : (do let z <- E.zero e; anew (.cells (vmap z.cells.toList) (2 * e)) fun i => .ptr i 0).run st h n lg = .ok an h' n' lg' c) :
  ∃ w' N' y a, (Instr.alloc e true (.tuple #[])).run P w = .ok y w' /\ Rep W0 N' F h' w' /\ Ext N N' n n' /\ an = .value a /\ VR N' a y := by
 obtain ⟨i, z, hi, hz, he⟩ := CI' he; obtain ⟨hn, he⟩ := BX' he; obtain ⟨rfl, rfl, rfl⟩ := AB' he; have := DI' (e := e) (n := n) r hn (hfr n (Nat.le_refl _) ω) (VRs.vmap z.cells.toList) []; rw [List.append_nil] at this
 refine ⟨_, _, .pointer (some ⟨w.heap.size, 0, none⟩), _, ?_, this, Ext.put, rfl, by simp only [VR]; exact ⟨_, A9'.put_same, rfl⟩⟩
 simp [Instr.alloc, zeroValue, typeInfo, hE.info _ _ hi, hz, newVar, newRow]
theorem T3' (r : Rep W0 N F h w) {an : AN} (hx : VR N x v) (hfr : BW' N n n')
  (hkn : x.known = true) (he : (anew (.cells x.cells (2 * e)) fun i => .ptr i 0).run st h n lg = .ok an h' n' lg' c) :
  ∃ w' N' y a, (Instr.box e v).run P w = .ok y w' /\ Rep W0 N' F h' w' /\ Ext N N' n n' /\ an = .value a /\ VR N' a y := by
 obtain ⟨hn, he⟩ := BX' he; obtain ⟨rfl, rfl, rfl⟩ := AB' he; have := DI' (e := e) (n := n) r hn (hfr n (Nat.le_refl _) ω) (hx.cells hkn) []; rw [List.append_nil] at this
 refine ⟨_, _, .pointer (some ⟨w.heap.size, 0, none⟩), _, ?_, this, Ext.put, rfl, by simp only [VR]; exact ⟨_, A9'.put_same, rfl⟩⟩
 simp [Instr.box, newVar, newRow]
theorem VRs.splice {r : List AV} {ws : List Value} (h1 : VRs N cs vs) (h2 : VRs N r ws) (k : Nat) : VRs N (splice cs k r) (vs.take k ++ ws ++ vs.drop (k + ws.length)) := by
 unfold Eng.splice; rw [h2.len]; exact ((h1.take k).append h2).append (h1.drop _)
theorem KO' (off : Nat) : ∀ (r : List Value) (vs : List Value) (k : Nat), off + k + r.length <= vs.length ->
  (r.zipIdx k).foldl (fun (cs : Array Value) (x : Value × Nat) => cs.setIfInBounds (off + x.2) x.1) vs.toArray = (vs.take (off + k) ++ r ++ vs.drop (off + k + r.length)).toArray
 | [], vs, k, _ => by simp
 | x :: r, vs, k, hk => by
  simp only [List.length_cons] at hk; rw [List.zipIdx_cons, List.foldl_cons]
  have hs : (vs.toArray.setIfInBounds (off + k) x) = (vs.set (off + k) x).toArray := by simp
  simp only [hs]; rw [KO' off r (vs.set (off + k) x) (k + 1) (by simp; omega)]
  congr 1
  have e1 : (vs.set (off + k) x).take (off + (k + 1)) = vs.take (off + k) ++ [x] := by
   rw [show off + (k + 1) = (off + k) + 1 from ω, List.take_succ_eq_append_getElem (by simp; omega)]
   simp [List.take_set_of_le]
  have e2 : (vs.set (off + k) x).drop (off + (k + 1) + r.length) = vs.drop (off + k + (r.length + 1)) := by
   rw [List.drop_set_of_lt ω]; congr 1; omega
  rw [e1, e2]; simp
theorem ER' {place : Nat -> Option (Nat × Nat)} : ∀ (parts : List (Nat × AV)) (vparts : List (Nat × Value)) (cs a : List AV) (vs : List Value) {h h' : T} {n n' : Nat} {lg lg' : Log} {c : Cnd},
  VRs N cs vs -> parts.map (·.1) = vparts.map (·.1) -> VRs N (parts.map (·.2)) (vparts.map (·.2)) -> (N4' place cs parts).run st h n lg = .ok a h' n' lg' c ->
  ∃ vs', Instr.fill place vs.toArray vparts = some vs'.toArray /\ VRs N a vs' /\ h' = h /\ n' = n
 | [], [], cs, a, vs, h, h', n, n', lg, lg', c, hv, _, _, he => by
  obtain ⟨rfl, rfl, rfl⟩ := A7' he; exact ⟨vs, rfl, hv, rfl, rfl⟩
 | [], _ :: _, _, _, _, _, _, _, _, _, _, _, _, hm, _, _ => by simp at hm
 | _ :: _, [], _, _, _, _, _, _, _, _, _, _, _, hm, _, _ => by simp at hm
 | (i, x) :: parts, (i', y) :: vparts, cs, a, vs, h, h', n, n', lg, lg', c, hv, hm, hp, he => by
  simp only [List.map_cons, List.cons.injEq] at hm; obtain ⟨rfl, hm⟩ := hm; simp only [List.map_cons, AD'] at hp; obtain ⟨hxy, hp⟩ := hp; unfold N4' at he; obtain ⟨⟨off, size⟩, hpl, he⟩ := BK' he; obtain ⟨hkn, he⟩ := A8' he; obtain ⟨h1, he⟩ := A8' he; obtain ⟨h2, he⟩ := A8' he; have h1 := Nat.eq_of_beq_eq_true h1; have h2 := Nat.le_of_ble_eq_true h2; have hc := hxy.cells hkn; have hl := hc.len; have hvl := hv.len; obtain ⟨vs', e1, e2, e3, e4⟩ := ER' parts vparts _ a _ (hv.splice hc off) hm hp he; refine ⟨vs', ?_, e2, e3, e4⟩; rw [Instr.fill]; simp only [hpl]
  have hsz : y.cells.size = size := by rw [<- h1, hl]; simp
  rw [if_neg (by simp [hsz]; omega)]; have this := KO' off y.cells.toList vs 0 (by simp [hsz]; omega); simp only [Nat.add_zero] at this
  have hfold : y.cells.zipIdx.foldl (fun (cs : Array Value) (x : Value × Nat) => cs.setIfInBounds (off + x.2) x.1) vs.toArray = (vs.take off ++ y.cells.toList ++ vs.drop (off + y.cells.toList.length)).toArray := by
   rw [<- Array.foldl_toList, Array.toList_zipIdx]; exact this
  rw [<- e1]; exact congrArg (fun a => Instr.fill place a vparts) hfold
theorem GR' (hE : EnvOk P E) : ∀ (fs : List Field) {h h' : T} {n n' : Nat} {lg lg' : Log} {c : Cnd} {a : List (Nat × Nat)}, (HV' E fs).run st h n lg = .ok a h' n' lg' c ->
  h' = h /\ n' = n /\ ∀ w, (fs.mapM fun f => (do pure (f.offset, <- sizeOf f.type) : Sem (Nat × Nat))).run P w = .ok a w
 | [], h, h', n, n', lg, lg', c, a, he => by
  obtain ⟨rfl, rfl, rfl⟩ := A7' he
  exact ⟨rfl, rfl, fun w => rfl⟩
 | f :: fs, h, h', n, n', lg, lg', c, a, he => by
  unfold HV' at he; obtain ⟨i, hi, he⟩ := B3' he; obtain ⟨r, h1, n1, lg1, c1, c2, e1, e2, _⟩ := run_bind _ _ he; obtain ⟨rfl, rfl, rfl⟩ := A7' e2; obtain ⟨rfl, rfl, hr⟩ := GR' hE fs e1
  refine ⟨rfl, rfl, fun w => ?_⟩
  have hs : (sizeOf f.type).run P w = .ok i.size w := by simp [sizeOf, typeInfo, hE.info _ _ hi]
  rw [List.mapM_cons]; simp only [Sem.run_bind, hs, Result.andThen_ok, Sem.run_pure, hr w]
theorem C0' (hE : EnvOk P E) {i : TypeInfo} (hi : E.info t = some i) (w : World) : (sizeOf t).run P w = .ok i.size w := by simp [sizeOf, typeInfo, hE.info _ _ hi]
theorem M4' (hE : EnvOk P E) {i : TypeInfo} (hi : E.info t = some i) (w : World) : (typeInfo t).run P w = .ok i w := by simp [typeInfo, hE.info _ _ hi]
theorem EH' (hE : EnvOk P E) {i : TypeInfo} (hi : E.info t = some i) (hz : i.zero = some z) (w : World) : (zeroValue t).run P w = .ok z w := by simp [zeroValue, typeInfo, hE.info _ _ hi, hz]
theorem B7' (hE : EnvOk P E) {d : TypeDesc} (hd : E.under t = some d) (w : World) : (underlying t).run P w = .ok d w := run_underlying (hE.under hd) w
theorem PA' (hE : EnvOk P E) {parts : List (Nat × AV)} {vparts : Array (Nat × Value)} (hm : parts.map (·.1) = vparts.toList.map (·.1)) (hp : VRs N (parts.map (·.2)) (vparts.toList.map (·.2)))
  (he : (VP' E t parts).run st h n lg = .ok a h' n' lg' c) : ∃ y, (Instr.build t vparts).run P w = .ok y w /\ VR N a y /\ h' = h /\ n' = n := by
 unfold VP' at he; obtain ⟨i, z, hi, hz, he⟩ := CI' he; obtain ⟨d, hd, he⟩ := AN' he; have hzr := EH' hE hi hz; have hdr := B7' hE hd
 cases d with
 | struct fs =>
  obtain ⟨pl, h1, n1, lg1, c1, c2, e1, he1, _⟩ := run_bind (HV' E fs.toList) _ he; clear he; obtain ⟨rfl, rfl, hpl⟩ := GR' hE _ e1; obtain ⟨cs, h2, n2, lg2, c3, c4, e2, he2, _⟩ := run_bind (N4' _ _ _) _ he1; clear he1; obtain ⟨rfl, rfl, rfl⟩ := A7' he2; obtain ⟨vs, hf, hv, rfl, rfl⟩ := ER' (N := N) parts vparts.toList _ _ _ (VRs.vmap z.cells.toList) hm hp e2
  refine ⟨.agg vs.toArray, ?_, by simp only [VR]; exact ⟨vs, hv, rfl⟩, rfl, rfl⟩
  have hpl' : (fs.mapM fun f => (do pure (f.offset, <- sizeOf f.type) : Sem (Nat × Nat))).run P w = .ok pl.toArray w := by
   rw [Array.mapM_eq_mapM_toList]; simp only [Sem.run_map, hpl w]; rfl
  have hf' : Instr.fill (fun x => pl.toArray[x]?) z.cells vparts.toList = some vs.toArray := by simpa using hf
  simp only [Instr.build, Sem.run_bind, hzr, Result.andThen_ok, hdr, hpl', hf', Sem.run_pure]
 | array k e =>
  obtain ⟨j, hj, he1⟩ := B3' he; obtain ⟨cs, h2, n2, lg2, c3, c4, e2, he2, _⟩ := run_bind (N4' _ _ _) _ he1; clear he he1; obtain ⟨rfl, rfl, rfl⟩ := A7' he2; obtain ⟨vs, hf, hv, rfl, rfl⟩ := ER' (N := N) parts vparts.toList _ _ _ (VRs.vmap z.cells.toList) hm hp e2
  refine ⟨.agg vs.toArray, ?_, by simp only [VR]; exact ⟨vs, hv, rfl⟩, rfl, rfl⟩
  have hf' : Instr.fill (fun i => some (i * j.size, j.size)) z.cells vparts.toList = some vs.toArray := by simpa using hf
  simp only [Instr.build, Sem.run_bind, hzr, Result.andThen_ok, hdr, C0' hE hj, hf', Sem.run_pure]
 | _ => exact (A4' he).elim
end
end Go.Proofs.YtnnojnlejlokhaaGreatDoor.Eng
