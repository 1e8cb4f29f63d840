/- The engine's iterators over maps, and what is emptied. No program. -/
import Derived.Test.YtnnojnlejlokhaaGreatDoorEngOps2
import Derived.Test.YtnnojnlejlokhaaGreatDoorEngMem7
set_option linter.unusedVariables false
set_option linter.unusedSimpArgs false
namespace Go.Proofs.YtnnojnlejlokhaaGreatDoor.Eng
open Go Go.RowKit
variable {a : AV} {v : Value}
section
variable {P : Program} {E : Env} {W0 w : World} {N : A9'} {F : HP} {st : Bool} {h h' : T} {n n' : Nat} {lg lg' : Log} {c : Cnd}
theorem P9' (hE : EnvOk P E) (r : Rep W0 N F h w) {t ty : TypeId} {m : AV} {vm : Value} (hm : VR N m vm) (he : (VO' E t m).run st h n lg = .ok a h' n' lg' c) (hc : c.holds) :
  ∃ w' y, (Builtin.clear_ #[t] ty #[vm]).run P w = .ok y w' /\ Rep W0 N F h' w' /\ n' = n /\ VR N a y := by
 unfold VO' at he; obtain ⟨d, hd, he⟩ := AN' he; have hdr := B7' hE hd
 cases d with
 | map kt e =>
  cases m with
  | map i =>
   simp only [VR] at hm; obtain ⟨l, hl, rfl⟩ := hm; obtain ⟨es, kk, hf, he1⟩ := CJ' he; obtain ⟨es', hb, hes⟩ := CF' r hf hl; obtain ⟨o0, ho0, he6⟩ := B2' he1; obtain ⟨rfl, rfl, rfl⟩ := AB' he6; refine ⟨_, .tuple #[], ?_, CH' (es2' := #[]) (k2 := kk) r hf hl (by simp [ERs]), rfl, VR_v.2 rfl⟩; simp [Builtin.clear_, Sem.run_bind, hdr, BB' hb, C4' hb]
  | _ => exact (A4' he).elim
 | slice e =>
  cases m with
  | slice i off len sz cap =>
   have hm0 := hm; simp only [VR] at hm; obtain ⟨l, xo, cp, hl, rfl, hxo, hroom, hcap, hlc⟩ := hm
   cases len with
   | zero =>
    obtain ⟨rfl, rfl, rfl⟩ := AB' he; refine ⟨w, .tuple #[], ?_, r, rfl, VR_v.2 rfl⟩; simp [Builtin.clear_, Sem.run_bind, hdr]
   | succ k =>
    obtain ⟨ti, hti, he1⟩ := B3' he; obtain ⟨ti2, z, hti2, hz, he2⟩ := CI' he1; obtain rfl : ti2 = ti := Option.some.inj (hti2.symm.trans hti); obtain ⟨g1, he3⟩ := A8' he2; obtain ⟨g2, he4⟩ := A8' he3; obtain ⟨g3, he5⟩ := A8' he4; obtain ⟨cs, e', hf, he7⟩ := BL' he5; obtain ⟨hle, _, he8, _⟩ := AI' he7 hc; clear he1 he2 he3 he4 he5 he7; obtain ⟨o0, ho0, he9⟩ := B2' he8; obtain ⟨rfl, rfl, rfl⟩ := AB' he9; have hsz : sz = ti2.size := Nat.eq_of_beq_eq_true g1; have hzl : z.cells.toList.length = sz := Nat.eq_of_beq_eq_true g2; have hle : off + (k + 1) * sz <= cs.length := Nat.le_of_ble_eq_true hle; obtain ⟨D, hO⟩ := r.obj hf; obtain ⟨l', arr, fz, row, _⟩ := hO.row; obtain rfl : l' = l := Option.some.inj (row.name.symm.trans hl); have hcl := row.len; have hv := VRs.rep (N := N) z.cells.toList (k + 1); have hvl := hv.len
    have hrl : (repV z.cells.toList (k + 1)).length = (k + 1) * sz := by rw [CU', hzl]
    have hzo : ∀ v ∈ z.cells.toList, v.oneCell' = true := fun v hv => (VRs.vmap (N := N) z.cells.toList).ones g3 v hv
    have hones : ∀ v ∈ repV z.cells.toList (k + 1), v.oneCell' = true := by
     intro v hv; obtain ⟨j, hj, rfl⟩ := List.mem_iff_getElem.1 hv; have h1 := M9' z.cells.toList (k + 1) j (by rw [<- CU']; exact hj); rw [List.getElem?_eq_getElem hj] at h1; exact hzo _ (List.mem_of_getElem? h1.symm)
    obtain ⟨a1, a2, a3, a4⟩ := CS' l'.blk (repV z.cells.toList (k + 1)) (l'.off + off) w
    have hxo' : xo = l'.off + off := by
     rcases hxo with h0 | h0
     ·exact h0
     ·omega
    have hst : (storeCells ⟨l'.blk, xo, none⟩ (repV z.cells.toList (k + 1))).run P w = .ok () (w.setCells l'.blk (l'.off + off) (repV z.cells.toList (k + 1))) := by
     have := run_storeCells_cells (P := P) l'.blk (l'.off + off) (repV z.cells.toList (k + 1)) 0 w (fun j hj => by
      rw [show l'.off + off + 0 + j = l'.off + (off + j) from ω]; exact row.there ω) (fun j hj => by
      rw [show l'.off + off + 0 + j = l'.off + (off + j) from ω]; exact row.unfrozen ω) hones
     rw [hxo']; simpa using this
    have hzc : (Builtin.zeroCells z.cells (k + 1)).toList = repV z.cells.toList (k + 1) := by
     have hcells := IG' z.cells (k + 1); unfold Builtin.zeroCells; rw [hcells]
    refine ⟨w.setCells l'.blk (l'.off + off) (repV z.cells.toList (k + 1)), .tuple #[], ?_, ?_, rfl, VR_v.2 rfl⟩
    ·simp only [Builtin.clear_, Sem.run_bind, hdr, Result.andThen_ok, List.getElem?_toArray, List.getElem?_cons_zero, EH' hE hti2 hz, hzc, hst, Sem.run_pure]
    ·refine r.turn hf a1 a2 a3 fun D2 hD2 => ?_
     obtain ⟨l2, arr2, fz2, row2, hD3⟩ := hD2.row; obtain rfl : l2 = l' := Option.some.inj (row2.name.symm.trans hl); obtain ⟨arr3, row3, _⟩ := row2.write (k := off) (r := Eng.rep (vmap z.cells.toList) (k + 1)) (vs := repV z.cells.toList (k + 1)) ω ω hv
     exact ⟨fun b hb hd => C3' _ _ _ _ _ (fun e => hd ((hD3 b).2 e)), _, row3.or, fun b hb => .inl ((hD3 b).2 hb)⟩
  | _ => exact (A4' he).elim
 | _ => exact (A4' he).elim
theorem P8' (hE : EnvOk P E) (r : Rep W0 N F h w) {f : FuncId} (hcl : E.clone f = true) {x : AV} {an : AN} (hfr : BW' N n n') (hx : VR N x v) (he : (S8' x).run st h n lg = .ok an h' n' lg' c) :
  ∃ w' N' nx, (callFunc f #[v]).run P w = .ok nx w' /\ Rep W0 N' F h' w' /\ Ext N N' n n' /\ TA' N' an nx := by
 unfold S8' at he; split at he
 ·rename_i t i; simp only [VR] at hx; obtain ⟨z, ⟨l, hl, rfl⟩, rfl⟩ := hx; obtain ⟨es, k, hf, he1⟩ := CJ' he; obtain ⟨es', hb, hes⟩ := CF' r hf hl; obtain ⟨hn, he2⟩ := BX' he1; obtain ⟨rfl, rfl, rfl⟩ := AB' he2; have hle := A9'.put_le (l := ⟨w.heap.size, 0, 0⟩) (hfr n (Nat.le_refl _) ω); refine ⟨_, N.put n ⟨w.heap.size, 0, 0⟩, _, hE.clone f hcl t l.blk es' k w hb, ?_, Ext.put, ⟨_, rfl, ?_⟩⟩
  ·exact r.new hn hle ((Below.refl _ _).alloc (Nat.le_refl _) _) ⟨fun x => x = w.heap.size, ⟨_, es', A9'.put_same, fun _ => Iff.rfl, heap_alloc_new w _, hes.mono hle, rfl⟩, fun b hb => by subst hb; exact Nat.le_refl _⟩
  ·simp only [VR]; exact ⟨_, ⟨_, A9'.put_same, rfl⟩, rfl⟩
 ·exact (A4' he).elim
theorem ERs.filter {p : AV × AV × Nat -> Bool} {q : MapEntry -> Bool} (hpq : ∀ a e, ER N a e -> p a = q e) : ∀ {l : List (AV × AV × Nat)} {l' : List MapEntry}, ERs N l l' -> ERs N (l.filter p) (l'.filter q)
 | [], l', h => by simp only [ERs] at h; subst h; simp [ERs]
 | a :: l, l', ⟨e, r, h1, h2, h3⟩ => by
  subst h3; have h4 := ERs.filter hpq h2; rw [List.filter_cons, List.filter_cons, hpq a e h1]; cases q e
  ·exact h4
  ·exact ⟨e, _, h1, h4, rfl⟩
theorem ERs.nil {l' : List MapEntry} (h : ERs N [] l') : l' = [] := by simpa only [ERs] using h
theorem ERs.one {a : AV × AV × Nat} {l' : List MapEntry} (h : ERs N [a] l') : ∃ e, l' = [e] /\ ER N a e := by
 obtain ⟨e, r, h1, h2, rfl⟩ := h; rw [ERs.nil h2]; exact ⟨e, rfl, h1⟩
theorem ERs.any {p : AV × AV × Nat -> Bool} {q : MapEntry -> Bool} (hpq : ∀ a e, ER N a e -> p a = q e) : ∀ {l : List (AV × AV × Nat)} {l' : List MapEntry}, ERs N l l' -> l.any p = l'.any q
 | [], l', h => by simp only [ERs] at h; subst h; rfl
 | a :: l, l', ⟨e, r, h1, h2, h3⟩ => by
  subst h3; rw [List.any_cons, List.any_cons, hpq a e h1, ERs.any hpq h2]
theorem ERs.find {p : AV × AV × Nat -> Bool} {q : MapEntry -> Bool} (hpq : ∀ a e, ER N a e -> p a = q e) : ∀ {l : List (AV × AV × Nat)} {l' : List MapEntry}, ERs N l l' -> ∀ {x}, l.find? p = some x -> ∃ e, l'.find? q = some e /\ ER N x e
 | [], l', h, x, hx => by cases hx
 | a :: l, l', ⟨e, r, h1, h2, h3⟩, x, hx => by
  subst h3; rw [List.find?_cons] at hx ⊢; rw [<- hpq a e h1]
  cases hp : p a with
  | true => rw [hp] at hx; cases hx; exact ⟨e, rfl, h1⟩
  | false => rw [hp] at hx; exact ERs.find hpq h2 hx
theorem ERs.len {l : List (AV × AV × Nat)} {r : List MapEntry} (h : ERs N l r) : l.length = r.length := (HI'.1 h).1
theorem P4' (r : Rep W0 N F h w) {it : AV} {ty : TypeId} (hx : VR N it v) (he : (ZW' it).run st h n lg = .ok a h' n' lg' c) :
  ∃ w' y, (Instr.next v false ty).run P w = .ok y w' /\ Rep W0 N F h' w' /\ n' = n /\ VR N a y := by
 cases it with
 | ptr i off =>
  cases off with
  | zero =>
   simp only [VR] at hx; obtain ⟨l, hl, rfl⟩ := hx; obtain ⟨o, ho, he1⟩ := BM' he; clear he
   cases o with
   | miter m since seen last =>
    obtain ⟨D, hO⟩ := r.obj ho; obtain ⟨l', mb, h1, h0, h2, h3, h4⟩ := hO; obtain rfl : l' = l := Option.some.inj (h1.symm.trans hl); rw [h0]
    cases m with
    | none =>
     simp only [MR] at h4; subst h4; obtain ⟨rfl, rfl, rfl⟩ := AB' he1; refine ⟨w, .tuple #[.bool false], ?_, r, rfl, ?_⟩
     ·simp only [Instr.next, getObj, Sem.run_bind, Sem.run, h3, Result.andThen]; rfl
     ·simp only [VR]; exact ⟨_, AD'.2 ⟨VR_v.2 rfl, AX'⟩, rfl⟩
    | some j =>
     obtain ⟨lj, hj, rfl⟩ := h4; obtain ⟨es, kk, hf, he2⟩ := CJ' he1; obtain ⟨g1, he3⟩ := A8' he2; clear he1 he2; obtain ⟨es', hb, hes⟩ := CF' r hf hj
     have hbad : (!seen.toArray.isEmpty && !es'.isEmpty && es'.all fun e => decide (e.born >= last)) = false := by
      have hany : es.any (fun e => Nat.blt e.2.2 last) = es'.toList.any (fun e => decide (e.born < last)) :=
       hes.any fun a e he => by rw [he.2.2]; rw [Bool.eq_iff_iff]; simp [Nat.blt_eq]
      rw [hany] at g1; have hl0 := hes.len; rw [Bool.eq_false_iff]; intro hh; simp only [Bool.and_eq_true, Bool.not_eq_true', Array.all_eq_true', decide_eq_true_eq] at hh; simp only [Bool.or_eq_true, List.any_eq_true, decide_eq_true_eq] at g1
      rcases g1 with (g1 | g1) | ⟨e, he, hlt⟩
      ·have := hh.1.1; simp at this g1; exact this g1
      ·have := hh.1.2; simp at this g1; subst g1; exact this (by simpa using hl0.symm)
      ·have := hh.2 e (by simpa using he); omega
     have hleft := hes.filter (p := fun e => !(seen.contains e.2.2)) (q := fun e => !(seen.toArray.contains e.born)) (fun a e he => by rw [he.2.2]; simp); have hold := hleft.filter (p := fun e => Nat.blt e.2.2 since) (q := fun e => decide (e.born < since)) (fun a e he => by rw [he.2.2]; rw [Bool.eq_iff_iff]; simp [Nat.blt_eq])
     have hnew := hleft.filter (p := fun e => !(Nat.blt e.2.2 since)) (q := fun e => decide (e.born >= since)) (fun a e he => by
      rw [he.2.2]; rw [Bool.eq_iff_iff]
      cases hq : Nat.blt a.2.2 since with
      | true => have : a.2.2 < since := by simpa [Nat.blt_eq] using hq
                simp; omega
      | false => have : ¬ a.2.2 < since := fun hh => by rw [show Nat.blt a.2.2 since = true from by simpa [Nat.blt_eq] using hh] at hq; cases hq
                 simp; omega)
     have eold : (es'.filter fun e => !(seen.toArray.contains e.born)).filter (fun e => decide (e.born < since)) = ((es'.toList.filter fun e => !(seen.toArray.contains e.born)).filter fun e => decide (e.born < since)).toArray := by
      apply Array.ext'; simp
     have enew : (es'.filter fun e => !(seen.toArray.contains e.born)).filter (fun e => decide (e.born >= since)) = ((es'.toList.filter fun e => !(seen.toArray.contains e.born)).filter fun e => decide (e.born >= since)).toArray := by
      apply Array.ext'; simp
     dsimp only at he3; split at he3
     ·rename_i q1 q2; rw [q1] at hold; rw [q2] at hnew; have hold := hold.nil; have hnew := hnew.nil; obtain ⟨rfl, rfl, rfl⟩ := AB' he3; refine ⟨w, .tuple #[.bool false], ?_, r, rfl, ?_⟩
      ·simp only [Instr.next, getObj, Sem.run_bind, Sem.run, h3, hb, Result.andThen, hbad, eold, enew, hold, hnew, Sem.run_pure]; simp [Sem.run_bind, choose, Sem.run, Question.forced]
      ·simp only [VR]; exact ⟨_, AD'.2 ⟨VR_v.2 rfl, AX'⟩, rfl⟩
     ·rename_i e q1 q2; rw [q1] at hold; rw [q2] at hnew; obtain ⟨e', hold, he'⟩ := hold.one; have hnew := hnew.nil; obtain ⟨o0, ho0, he6⟩ := B2' he3; obtain ⟨rfl, rfl, rfl⟩ := AB' he6
      refine ⟨{ w with heap := w.heap.setIfInBounds l'.blk (.mapIter (some lj.blk) since (seen.toArray.push e'.born) kk) }, .tuple #[.bool true, e'.key, e'.val], ?_, ?_, rfl, ?_⟩
      ·simp only [Instr.next, getObj, Sem.run_bind, Sem.run, h3, hb, Result.andThen, hbad, eold, enew, hold, hnew, Sem.run_pure]; simp [Sem.run_bind, choose, setObj, Sem.run, Question.forced, h3]
      ·refine r.turn ho rfl rfl rfl fun D2 hD2 => ?_
       obtain ⟨l2, mb2, k1, k0, k2, k3, k4⟩ := hD2; obtain rfl : l2 = l' := Option.some.inj (k1.symm.trans hl); have hlt2 : l2.blk < w.heap.size := (Array.getElem?_eq_some_iff.1 k3).1
       refine ⟨fun b hb hd => Array.getElem?_setIfInBounds_ne (fun e => hd ((k2 b).2 e.symm)), fun x => x = l2.blk, ⟨l2, some lj.blk, hl, h0, fun _ => Iff.rfl, ?_, ⟨lj, hj, rfl⟩⟩, fun b hb => .inl ((k2 b).2 hb)⟩
       have : (seen ++ [e.2.2]).toArray = seen.toArray.push e'.born := by rw [he'.2.2]; simp
       rw [this]; simp [hlt2]
      ·simp only [VR]; exact ⟨_, AD'.2 ⟨VR_v.2 rfl, AD'.2 ⟨he'.1, AD'.2 ⟨he'.2.1, AX'⟩⟩⟩, rfl⟩
     ·exact (A4' he3).elim
   | _ => exact (A4' he1).elim
  | succ k => exact (A4' he).elim
 | _ => exact (A4' he).elim
theorem P7' (r : Rep W0 N F h w) {it : AV} (hx : VR N it v) (he : (ZX' it).run st h n lg = .ok a h' n' lg' c) :
  ∃ y, (Instr.entry v).run P w = .ok y w /\ h' = h /\ n' = n /\ VR N a y := by
 cases it with
 | ptr i off =>
  cases off with
  | zero =>
   simp only [VR] at hx; obtain ⟨l, hl, rfl⟩ := hx; obtain ⟨o, ho, he1⟩ := BM' he; clear he
   cases o with
   | miter m since seen last =>
    obtain ⟨D, hO⟩ := r.obj ho; obtain ⟨l', mb, h1, h0, h2, h3, h4⟩ := hO; obtain rfl : l' = l := Option.some.inj (h1.symm.trans hl); rw [h0]
    cases m with
    | none => exact (A4' he1).elim
    | some j =>
     obtain ⟨lj, hj, rfl⟩ := h4; have he2 : (QM' j seen last).run st h n ((i, false) :: lg) = .ok a h' n' lg' c := he1; unfold QM' at he2; obtain ⟨stamp, hs, he3⟩ := BK' he2; obtain ⟨es, kk, hf, he4⟩ := CJ' he3; obtain ⟨g1, he5⟩ := A8' he4; obtain ⟨e, hfe, he6⟩ := BK' he5; clear he1 he2 he3 he4 he5; obtain ⟨rfl, rfl, rfl⟩ := AB' he6; obtain ⟨es', hb, hes⟩ := CF' r hf hj; obtain ⟨e', hfe', he'⟩ := hes.find (p := fun e => Nat.beq e.2.2 stamp) (q := fun e => e.born == stamp) (fun a e he => by rw [he.2.2]; rw [Bool.eq_iff_iff]; simp) hfe; have g1 : kk = last := Nat.eq_of_beq_eq_true g1; subst g1
     have hback : seen.toArray.back? = some stamp := by simpa using hs
     refine ⟨.tuple #[e'.key, e'.val], ?_, rfl, rfl, by simp only [VR]; exact ⟨_, AD'.2 ⟨he'.1, AD'.2 ⟨he'.2.1, AX'⟩⟩, rfl⟩⟩
     have hfe2 : es'.find? (fun e => e.born == stamp) = some e' := by simpa using hfe'
     simp only [Instr.entry, getObj, Sem.run_bind, Sem.run, h3, hb, Result.andThen, hback, bne_self_eq_false, Bool.false_eq_true, if_false, hfe2, Sem.run_pure]
   | _ => exact (A4' he1).elim
  | succ k => exact (A4' he).elim
 | _ => exact (A4' he).elim
end
end Go.Proofs.YtnnojnlejlokhaaGreatDoor.Eng
