/- The engine's append and copy do what the model does. No program. -/
import Derived.Test.YtnnojnlejlokhaaGreatDoorEngMem3
set_option linter.unusedVariables false
set_option linter.unusedSimpArgs false
namespace Go.Proofs.YtnnojnlejlokhaaGreatDoor.Eng
open Go Go.RowKit
open Nat renaming le_of_ble_eq_true -> ble'
open List renaming length_append -> la'
variable {s a : AV} {v x vx : Value} {ts tx ty e : TypeId} {vs : List Value} {news : List AV}
section
variable {P : Program} {E : Env} {W0 w : World} {N : A9'} {F : HP} {st : Bool} {h h' : T} {n n' : Nat} {lg lg' : Log} {c : Cnd}
theorem UE' (off e : Nat) : XF' off e / 2 = e / 2 := by
 cases off with
 | zero => rfl
 | succ k => show (2 * (e / 2) + 1) / 2 = e / 2; omega
theorem PV' (off e : Nat) (h : XF' off e % 2 = 0) : off = 0 /\ e % 2 = 0 := by
 cases off with
 | zero => exact ⟨rfl, h⟩
 | succ k => have : (2 * (e / 2) + 1) % 2 = 0 := h
             omega
theorem DW' (z : Array Value) (k : Nat) : (Builtin.zeroCells z k).size = k * z.size := by simp [Builtin.zeroCells]
theorem GD' {sb : Bool} {i : TypeInfo} {z : Value} {m : Nat} (r : Rep W0 N F h w) (hfr : BW' N n n')
  (ht : P.underlying ts = some (.slice e)) (hi : P.info? e = some i) (hz : i.zero = some z) (hzs : z.cells.size = i.size) (h0 : 0 < i.size)
  (hs : VR N s v) (hsrc : Src P i.size tx x m vs w) (hv : VRs N news vs)
  (hm : 0 < m) (he : (GO' sb e i.size i.bytes m news s).run st h n lg = .ok a h' n' lg' c) (hc : c.holds) :
  ∃ w' N' y, (Builtin.append_ #[ts, tx] ty #[v, x]).run P w = .ok y w' /\ Rep W0 N' F h' w' /\ Ext N N' n n' /\ VR N' a y := by
 have hnl := hsrc.newsLen; have hvl := hv.len; unfold GO' at he; split at he
 ·rw [VR_v] at hs; subst hs
  cases m with
  | zero => omega
  | succ m =>
   obtain ⟨g1, _, he, hc⟩ := AI' he hc; obtain ⟨g2, _, he, hc⟩ := AI' he hc; obtain ⟨hn, he⟩ := BX' he; obtain ⟨rfl, rfl, rfl⟩ := AB' he; have g1 : (m + 1) * i.bytes <= room := ble' g1; have g2 : m + 1 <= EC' := ble' g2; have hge := grownCap_ge w (0 + (m + 1)) 0 e; have hrun := run_append_grow_src w ts tx ty e i z ht hi hz none 0 0 [] rfl x (m + 1) vs hsrc ω (by unfold EC' at g2; omega) (growslice_fits ω (by simpa [room] using g1))
   generalize hC : grownCap w (0 + (m + 1)) 0 e = C at hge hrun
   have hnew := DI' (e := e) (n := n) (r.drew (w.drawn + 1)) hn (hfr n (Nat.le_refl _) ω) hv (Builtin.zeroCells z.cells (C - (0 + (m + 1)))).toList; refine ⟨_, N.put n ⟨w.heap.size, 0, (vs ++ (Builtin.zeroCells z.cells (C - (0 + (m + 1)))).toList).length⟩, _, hrun, ?_, Ext.put, ?_⟩
   ·refine hnew.like ?_ rfl rfl rfl
    have : ([] ++ vs).toArray ++ Builtin.zeroCells z.cells (C - (0 + (m + 1))) = (vs ++ (Builtin.zeroCells z.cells (C - (0 + (m + 1)))).toList).toArray := by
     apply Array.ext'; simp
    rw [this]; rfl
   ·simp only [VR]
    refine ⟨_, 0, C, A9'.put_same, by simp, .inl rfl, ?_, by simpa [Cp.fits] using hge, by omega⟩
    simp only [la', hnl, Array.length_toList, DW', hzs, <- Nat.add_mul]
    rw [show m + 1 + (C - (0 + (m + 1))) = C from ω]
    simp
 ·simp only [VR] at hs; obtain ⟨base, rfl⟩ := hs
  cases m with
  | zero => omega
  | succ m =>
   obtain ⟨g1, _, he, hc⟩ := AI' he hc; obtain ⟨g2, _, he, hc⟩ := AI' he hc; obtain ⟨hn, he⟩ := BX' he; obtain ⟨rfl, rfl, rfl⟩ := AB' he; have g1 : (m + 1) * i.bytes <= room := ble' g1; have g2 : m + 1 <= EC' := ble' g2; have hge := grownCap_ge w (0 + (m + 1)) 0 e; have hrun := run_append_grow_src w ts tx ty e i z ht hi hz base 0 0 [] (by cases base with | none => rfl | some b => have := run_loadCells_list (P := P) w.drew b [] (fun j u hu => by simp at hu); simpa [Builtin.firstCells] using this) x (m + 1) vs hsrc ω (by unfold EC' at g2; omega) (growslice_fits ω (by simpa [room] using g1))
   generalize hC : grownCap w (0 + (m + 1)) 0 e = C at hge hrun
   have hnew := DI' (e := e) (n := n) (r.drew (w.drawn + 1)) hn (hfr n (Nat.le_refl _) ω) hv (Builtin.zeroCells z.cells (C - (0 + (m + 1)))).toList; refine ⟨_, N.put n ⟨w.heap.size, 0, (vs ++ (Builtin.zeroCells z.cells (C - (0 + (m + 1)))).toList).length⟩, _, hrun, ?_, Ext.put, ?_⟩
   ·refine hnew.like ?_ rfl rfl rfl
    have : ([] ++ vs).toArray ++ Builtin.zeroCells z.cells (C - (0 + (m + 1))) = (vs ++ (Builtin.zeroCells z.cells (C - (0 + (m + 1)))).toList).toArray := by
     apply Array.ext'; simp
    rw [this]; rfl
   ·simp only [VR]
    refine ⟨_, 0, C, A9'.put_same, by simp, .inl rfl, ?_, by simpa [Cp.fits] using hge, by omega⟩
    simp only [la', hnl, Array.length_toList, DW', hzs, <- Nat.add_mul]
    rw [show m + 1 + (C - (0 + (m + 1))) = C from ω]
    simp
 ·rename_i j off len sz' cap; obtain ⟨gsz, he⟩ := A8' he; have gsz : i.size = sz' := Nat.eq_of_beq_eq_true gsz; have hs' := hs; simp only [VR] at hs'; obtain ⟨l, xo, cp, hl, rfl, hxo, hroom, hcap, hlc⟩ := hs'; rw [<- gsz] at hroom; rw [<- gsz] at hs; clear gsz
  have hle : cap.least <= cp := by cases cap <;> simp only [Cp.fits] at hcap <;> simp only [Cp.least] <;> omega
  cases m with
  | zero => omega
  | succ m =>
   obtain ⟨cs, e', hf, he⟩ := BL' he; obtain ⟨D, hO⟩ := r.obj hf; obtain ⟨l', arr, fz, row, hD⟩ := hO.row; obtain rfl : l' = l := Option.some.inj (row.name.symm.trans hl); have hcl := row.len
   -- where there is room
   have inplace : len + (m + 1) <= cp -> xo = l'.off + off /\ off + len * i.size + vs.length <= l'.room /\
     (Builtin.append_ #[ts, tx] ty #[.slice (some ⟨l'.blk, xo, none⟩) len cp, x]).run P w = .ok (.slice (some ⟨l'.blk, xo, none⟩) (len + (m + 1)) cp) (w.setCells l'.blk (l'.off + (off + len * i.size)) vs) := by
    intro hfit
    have hxo' : xo = l'.off + off := by rcases hxo with h1 | h1; exact h1; omega
    have hmul : (len + (m + 1)) * i.size <= cp * i.size := Nat.mul_le_mul_right _ hfit; rw [Nat.add_mul] at hmul
    have hrm : off + len * i.size + vs.length <= l'.room := by rw [hnl]; omega
    refine ⟨hxo', hrm, ?_⟩
    have := run_append_room_src w ts tx ty e i ht hi l'.blk xo len cp x (m + 1) vs hsrc hfit (fun k hk => by
     rw [show xo + len * i.size + k = l'.off + (off + len * i.size + k) from ω]; exact row.there ω) (fun k hk => by
     rw [show xo + len * i.size + k = l'.off + (off + len * i.size + k) from ω]; exact row.unfrozen ω)
    rwa [show xo + len * i.size = l'.off + (off + len * i.size) from ω] at this
   simp only at he; obtain ⟨gk, _, he, hc⟩ := AI' he hc; have hk : off + len * i.size <= cs.length := ble' gk
   cases hb : roomy sb len (m + 1) cap with
   | true =>
    rw [hb] at he
    have hb : len + (m + 1) <= cap.least := by
     cases sb with
     | true => exact ble' hb
     | false => cases hb
    obtain ⟨o0, ho0, he⟩ := B2' he; obtain ⟨rfl, rfl, rfl⟩ := AB' he; obtain ⟨hxo', hrm, hrun⟩ := inplace ω; obtain ⟨a1, a2, a3, a4⟩ := CS' l'.blk vs (l'.off + (off + len * i.size)) w; refine ⟨_, N, _, hrun, ?_, Ext.refl _ _ _, ?_⟩
    ·refine r.turn hf a1 a2 a3 fun D2 hD2 => ?_
     obtain ⟨l2, arr2, fz2, row2, hD3⟩ := hD2.row; obtain rfl : l2 = l' := Option.some.inj (row2.name.symm.trans hl); obtain ⟨arr3, row3, _⟩ := row2.write (k := off + len * i.size) (r := news) (vs := vs) hk ω hv
     exact ⟨fun b hb hd => C3' _ _ _ _ _ (fun e => hd ((hD3 b).2 e)), _, row3.or, fun b hb => .inl ((hD3 b).2 hb)⟩
    ·simp only [VR]
     exact ⟨l', xo, cp, hl, rfl, .inl hxo', hroom, hcap, by omega⟩
   | false =>
    rw [hb] at he; obtain ⟨g1, _, he, hc⟩ := AI' he hc; obtain ⟨g2, _, he, hc⟩ := AI' he hc; obtain ⟨hspan, _, he, hc⟩ := GJ' he hc; have g1 : (len + (m + 1)) * i.bytes <= Eng.room := ble' g1; have g2 : len + (m + 1) <= EC' := ble' g2; obtain ⟨os, hov, hol, hoc⟩ := row.span hspan
    -- where there is none
    have grown : cp < len + (m + 1) -> ∃ C, len + (m + 1) <= C /\ (Builtin.append_ #[ts, tx] ty #[.slice (some ⟨l'.blk, xo, none⟩) len cp, x]).run P w =
      .ok (.slice (some ⟨w.heap.size, 0, none⟩) (len + (m + 1)) C) (w.drew.alloc (.cells ((os ++ vs) ++ (Builtin.zeroCells z.cells (C - (len + (m + 1)))).toList).toArray e)) /\
      ((os ++ vs) ++ (Builtin.zeroCells z.cells (C - (len + (m + 1)))).toList).length = C * i.size := by
     intro hgt; have hge := grownCap_ge w (len + (m + 1)) cp e
     have hold : (Builtin.firstCells i.size len (.slice (some ⟨l'.blk, xo, none⟩) len cp)).run P w.drew = .ok os.toArray w.drew := by
      simp only [Builtin.firstCells]; rw [<- hol]
      refine run_loadCells_list (P := P) w.drew _ os fun k u hk => ?_
      have hk' : k < os.length := (List.getElem?_eq_some_iff.1 hk).1
      have hlen0 : 0 < len := by rcases Nat.eq_zero_or_pos len with h1 | h1; rw [hol, h1] at hk'; omega; exact h1
      have hxo' : xo = l'.off + off := by rcases hxo with h1 | h1; exact h1; omega
      rw [D4', hxo']; exact hoc k u hk
     have hrun := run_append_grow_src w ts tx ty e i z ht hi hz (some ⟨l'.blk, xo, none⟩) len cp os hold x (m + 1) vs hsrc hgt (by unfold EC' at g2; omega) (growslice_fits hgt (by simpa [Eng.room] using g1)); refine ⟨grownCap w (len + (m + 1)) cp e, hge, ?_, ?_⟩
     ·rw [hrun]
      congr 4
      apply Array.ext'; simp
     ·simp only [la', hol, hnl, Array.length_toList, DW', hzs, <- Nat.add_mul]
      congr 1; omega
    cases cap with
    | ex c0 =>
     obtain ⟨hb', _, he, hc⟩ := AI' he hc
     have hb' : c0 < len + (m + 1) := by simpa [Nat.blt_eq] using hb'
     obtain ⟨hn, he⟩ := BX' he; obtain ⟨rfl, rfl, rfl⟩ := AB' he; simp only [Cp.fits] at hcap; obtain ⟨C, hC, hrun, hlen⟩ := grown ω; have hnew := DI' (e := e) (n := n) (r.drew (w.drawn + 1)) hn (hfr n (Nat.le_refl _) ω) (hov.append hv) (Builtin.zeroCells z.cells (C - (len + (m + 1)))).toList; refine ⟨_, _, _, hrun, hnew.like rfl rfl rfl rfl, Ext.put, ?_⟩; simp only [VR]
     exact ⟨_, 0, C, A9'.put_same, rfl, .inl rfl, by simp only [hlen]; omega, hC, hC⟩
    | lo c0 =>
     obtain ⟨g3, he3⟩ := A8' he; clear he; have g3 : e = e' / 2 := Nat.eq_of_beq_eq_true g3; have hmv : XF' off e' / 2 = e := (UE' off e').trans g3.symm; have hmp := PV' off e'; obtain ⟨o0, ho0, he⟩ := EJ' he3; obtain ⟨hn, he⟩ := BX' he; obtain ⟨rfl, rfl, rfl⟩ := AB' he; have hNn := hfr n (Nat.le_refl _) ω
     by_cases hfit : len + (m + 1) <= cp
     ·obtain ⟨hxo', hrm, hrun⟩ := inplace hfit; obtain ⟨a1, a2, a3, a4⟩ := CS' l'.blk vs (l'.off + (off + len * i.size)) w; have hNle := A9'.put_le (l := ⟨l'.blk, l'.off + off, l'.room - off⟩) hNn; refine ⟨_, N.put n ⟨l'.blk, l'.off + off, l'.room - off⟩, _, hrun, ?_, Ext.put, ?_⟩
      ·refine r.move hf hn hNle a1 a2 a3 fun D2 hD2 => ?_
       obtain ⟨l2, arr2, fz2, row2, hD3⟩ := hD2.row; obtain rfl : l2 = l' := Option.some.inj (row2.name.symm.trans hl); obtain ⟨arr3, row3, hsz3⟩ := row2.write (k := off + len * i.size) (r := news) (vs := vs) hk ω hv
       refine ⟨fun b hb hd => C3' _ _ _ _ _ (fun e => hd ((hD3 b).2 e)), fun x => x = l2.blk, ?_, fun b hb => .inl ((hD3 b).2 hb)⟩
       have hfits := row3.fits; have hlen3 := row3.len; rw [CA' _ _ _ hk] at hlen3
       refine ⟨⟨l2.blk, l2.off + off, l2.room - off⟩, arr3, fz2, A9'.put_same, fun _ => Iff.rfl, (by rw [hmv, g3]; exact row3.heap), ?_, ?_, row3.free, ?_, fun hm => by obtain ⟨q1, q2⟩ := hmp hm; obtain ⟨q3, q4⟩ := row3.plain q2; exact ⟨by simp only; omega, q4⟩⟩
       ·simp only; omega
       ·simp only [la', hspan]; omega
       ·refine VRs.mono hNle ?_; have hv3 := row3.vals; have : VRs N (((splice cs (off + len * i.size) news).drop off).take (len * i.size + news.length)) ((((arr3.toList.drop l2.off).take (splice cs (off + len * i.size) news).length).drop off).take (len * i.size + news.length)) := (hv3.drop off).take _
        have e1 : ((splice cs (off + len * i.size) news).drop off).take (len * i.size + news.length) = (cs.drop off).take (len * i.size) ++ news := by
         simp only [splice]
         rw [List.append_assoc, List.drop_append_of_le_length (by simp; omega), List.drop_take, show off + len * i.size - off = len * i.size from ω]
         rw [<- List.append_assoc, List.take_append_of_le_length (by simp [hspan]), List.take_of_length_le (by simp [hspan])]
        rw [e1] at this
        have e2 : ((((arr3.toList.drop l2.off).take (splice cs (off + len * i.size) news).length).drop off).take (len * i.size + news.length)) = (arr3.toList.drop (l2.off + off)).take ((cs.drop off).take (len * i.size) ++ news).length := by
         rw [CA' _ _ _ hk, la', hspan, List.drop_take, List.drop_drop, List.take_take]
         congr 1
         omega
        rw [e2] at this; exact this
      ·simp only [VR]
       refine ⟨_, xo, cp, A9'.put_same, rfl, .inl (by simp only; omega), by simp only; omega, hfit, hfit⟩
     ·obtain ⟨C, hC, hrun, hlen⟩ := grown ω; have hNle := A9'.put_le (l := ⟨w.heap.size, 0, ((os ++ vs) ++ (Builtin.zeroCells z.cells (C - (len + (m + 1)))).toList).length⟩) hNn; refine ⟨_, N.put n ⟨w.heap.size, 0, ((os ++ vs) ++ (Builtin.zeroCells z.cells (C - (len + (m + 1)))).toList).length⟩, _, hrun, ?_, Ext.put, ?_⟩
      ·refine (r.drew (w.drawn + 1)).move hf hn hNle rfl rfl rfl fun D2 hD2 => ⟨fun b hb hd => ?_, fun x => x = w.heap.size, ?_, fun b hb => .inr (by simp only at hb; subst hb; exact Nat.le_refl _)⟩
       ·exact (Below.block ((Below.refl _ w.drew).alloc (Nat.le_refl _) _) b hb)
       ·refine ⟨_, _, (0, 0), A9'.put_same, fun _ => Iff.rfl, (by rw [hmv]; exact heap_alloc_new w.drew _), by simp, by simp [hspan, hol, hvl], .inl rfl, ?_, fun _ => ⟨rfl, rfl⟩⟩
        have : (((os ++ vs) ++ (Builtin.zeroCells z.cells (C - (len + (m + 1)))).toList).toArray.toList.drop 0).take (((cs.drop off).take (len * i.size)) ++ news).length = os ++ vs := by
         have hln : ((cs.drop off).take (len * i.size) ++ news).length = (os ++ vs).length := by rw [la', la', hspan, hol, hvl]
         rw [hln, List.drop_zero]; exact List.take_left
        rw [this]; exact (hov.append hv).mono hNle
      ·simp only [VR]
       exact ⟨_, 0, C, A9'.put_same, rfl, .inl rfl, by simp only [hlen]; omega, hC, hC⟩
 ·exact (A4' he).elim
theorem EV' {i : TypeInfo} (r : Rep W0 N F h w)
  (ht : P.underlying ts = some (.slice e)) (hi : P.info? e = some i) (hs : VR N s v) (hsrc : Src P i.size tx x 0 vs w)
  (he : (ES' i.size s).run st h n lg = .ok a h' n' lg' c) :
  ∃ w' N' y, (Builtin.append_ #[ts, tx] ty #[v, x]).run P w = .ok y w' /\ Rep W0 N' F h' w' /\ Ext N N' n n' /\ VR N' a y := by
 have hnl := hsrc.newsLen; have : vs = [] := List.eq_nil_of_length_eq_zero (by simpa using hnl); subst this; unfold ES' at he; split at he
 ·rw [VR_v] at hs; subst hs; obtain ⟨rfl, rfl, rfl⟩ := A7' he; exact ⟨w, N, _, run_append_nothing w ts tx ty e i ht hi none 0 0 (Nat.le_refl _) x hsrc, r, Ext.refl _ _ _, VR_v.2 rfl⟩
 ·have hs' := hs; simp only [VR] at hs'; obtain ⟨base, rfl⟩ := hs'; obtain ⟨rfl, rfl, rfl⟩ := A7' he; exact ⟨w, N, _, run_append_nothing w ts tx ty e i ht hi base 0 0 (Nat.le_refl _) x hsrc, r, Ext.refl _ _ _, hs⟩
 ·have hs' := hs; simp only [VR] at hs'; obtain ⟨l, xo, cp, hl, rfl, hxo, hroom, hcap, hlc⟩ := hs'; obtain ⟨g, he1⟩ := A8' he; obtain ⟨rfl, rfl, rfl⟩ := A7' he1; exact ⟨w, N, _, run_append_nothing w ts tx ty e i ht hi _ _ cp hlc x hsrc, r, Ext.refl _ _ _, hs⟩
 ·exact (A4' he).elim
theorem L9' {sb : Bool} {i : TypeInfo} {z : Value} {m : Nat} (r : Rep W0 N F h w) (hfr : BW' N n n')
  (ht : P.underlying ts = some (.slice e)) (hi : P.info? e = some i) (hz : i.zero = some z) (hzs : z.cells.size = i.size) (h0 : 0 < i.size)
  (hs : VR N s v) (hsrc : Src P i.size tx x m vs w) (hv : VRs N news vs)
  (he : (PB' sb e i.size i.bytes m news s).run st h n lg = .ok a h' n' lg' c) (hc : c.holds) :
  ∃ w' N' y, (Builtin.append_ #[ts, tx] ty #[v, x]).run P w = .ok y w' /\ Rep W0 N' F h' w' /\ Ext N N' n n' /\ VR N' a y := by
 cases sb with
 | true =>
  cases m with
  | zero => exact EV' r ht hi hs hsrc he
  | succ k => exact GD' r hfr ht hi hz hzs h0 hs hsrc hv ω he hc
 | false =>
  obtain ⟨c', he1, rfl⟩ := AG' he; rw [Cnd.and_iff] at hc; exact GD' r hfr ht hi hz hzs h0 hs hsrc hv (by have h1 : Nat.blt 0 m = true := hc.1; simpa [Nat.blt_eq] using h1) he1 hc.2
theorem LE' (hE : EnvOk P E) (hold : ∀ a v, E.W.cell? a = some v -> w.cell? a = some v) {x : AV} (r : Rep W0 N F h w) (hfr : BW' N n n') (hs : VR N s v) (hx : VR N x vx) (he : (NA' E ts tx s x).run st h n lg = .ok a h' n' lg' c) (hc : c.holds) :
  ∃ w' N' y, (Builtin.append_ #[ts, tx] ty #[v, vx]).run P w = .ok y w' /\ Rep W0 N' F h' w' /\ Ext N N' n n' /\ VR N' a y := by
 unfold NA' at he; obtain ⟨d, hd, he1⟩ := AN' he; clear he
 cases d with
 | slice e =>
  obtain ⟨dx, hdx, he2⟩ := AN' he1; obtain ⟨g0, he3⟩ := A8' he2; obtain ⟨ti, hti, he4⟩ := B3' he3; obtain ⟨ti2, hti2, he5⟩ := OF' he4; obtain rfl : ti2 = ti := Option.some.inj (hti2.symm.trans hti); obtain ⟨ti3, z, hti3, hz, he6⟩ := CI' he5; obtain rfl : ti3 = ti2 := Option.some.inj (hti3.symm.trans hti); obtain ⟨g1, he7⟩ := A8' he6; obtain ⟨g2, he8⟩ := A8' he7; clear he1 he2 he3 he4 he5 he6 he7; obtain ⟨m, g3, n3, lg3, c1, c2, e1, he9, hs1⟩ := run_bind (alen x) _ he8; clear he8; obtain ⟨hlen, rfl, rfl⟩ := GM' (P := P) hx e1; obtain ⟨news, g4, n4, lg4, c3, c4, e2, he10, hs2⟩ := run_bind (GN' _ _ _ _) _ he9; clear he9; obtain ⟨vs, hv, hfc, hvl, rfl, rfl⟩ := GY' (P := P) hold r hx e2 (hs2 (hs1 hc).2).1; obtain ⟨g5, _, he11, hc11⟩ := AI' he10 (hs2 (hs1 hc).2).2; clear he10; have g1 : z.cells.toList.length = ti3.size := Nat.eq_of_beq_eq_true g1
  have g2 : 0 < ti3.size := by simpa [Nat.blt_eq] using g2
  have hu := hE.under hdx
  have hkind : (∃ e', P.underlying tx = some (.slice e')) \/ P.underlying tx = some .string := by
   cases dx <;> simp only [XP', Bool.false_eq_true] at g0
   ·exact .inr hu
   ·exact .inl ⟨_, hu⟩
  have hnl : vs.length = m * ti3.size := by
   rcases hvl with h1 | ⟨rfl, k, rfl⟩
   ·exact h1
   ·have e1' : (alen (.v (.slice none 0 k))).run st g4 n4 lg = .ok m g4 n4 lg3 c1 := e1; obtain ⟨rfl, _, _⟩ := A7' e1'; simp
  have hsrc : Src P ti3.size tx vx m vs w := ⟨hkind, hlen, hfc w rfl, hfc w.drew rfl, hnl, hv.ones g5⟩; exact L9' r hfr (hE.under hd) (hE.info _ _ hti) hz (by simpa using g1) g2 hs hsrc hv he11 hc11
 | _ => exact (A4' he1).elim
theorem DZ' (hE : EnvOk P E) {x : AV} (r : Rep W0 N F h w) (hs : VR N s v) (hx : VR N x vx) (he : (IA' E ts tx s x).run st h n lg = .ok a h' n' lg' c) (hc : c.holds) :
  ∃ w' N' y, (Builtin.append_ #[ts, tx] ty #[v, vx]).run P w = .ok y w' /\ Rep W0 N' F h' w' /\ Ext N N' n n' /\ VR N' a y := by
 unfold IA' at he; obtain ⟨d, hd, he1⟩ := AN' he; clear he
 cases d with
 | slice e =>
  obtain ⟨dx, hdx, he2⟩ := AN' he1; obtain ⟨g0, he3⟩ := A8' he2; obtain ⟨ti, hti, he4⟩ := B3' he3; clear he1 he2 he3; obtain ⟨m, g3, n3, lg3, c1, c2, e1, he9, hs1⟩ := run_bind (alen x) _ he4; clear he4; obtain ⟨hlen, rfl, rfl⟩ := GM' (P := P) hx e1; obtain ⟨c3, he10, rfl⟩ := AG' he9; have hm : m = 0 := ((Cnd.and_iff _ _).1 (hs1 hc).2).1; subst hm; have hu := hE.under hdx
  have hkind : (∃ e', P.underlying tx = some (.slice e')) \/ P.underlying tx = some .string := by
   cases dx <;> simp only [XP', Bool.false_eq_true] at g0
   ·exact .inr hu
   ·exact .inl ⟨_, hu⟩
  have hfc : ∀ w1 : World, (Builtin.firstCells ti.size 0 vx).run P w1 = .ok ([] : List Value).toArray w1 := by
   intro w1; unfold alen at e1; split at e1
   ·simp only [VR] at hx; obtain ⟨l, xo, cp, hl, rfl, _⟩ := hx; have := run_loadCells_list (P := P) w1 ⟨l.blk, xo, none⟩ [] (fun j u hu => by simp at hu); simpa [Builtin.firstCells] using this
   ·rw [VR_v] at hx; subst hx; rfl
   ·rename_i a len cap; rw [VR_v] at hx; subst hx; have := run_loadCells_list (P := P) w1 a [] (fun j u hu => by simp at hu); simpa [Builtin.firstCells] using this
   ·simp only [VR] at hx; obtain ⟨a, rfl⟩ := hx
    cases a with
    | none => simp [Builtin.firstCells]
    | some a =>
     have := run_loadCells_list (P := P) w1 a [] (fun j u hu => by simp at hu); simpa [Builtin.firstCells] using this
   ·rename_i s0; rw [VR_v] at hx; subst hx; obtain ⟨hz, _, _⟩ := A7' e1; have hz0 : s0.size = 0 := hz.symm; simp only [Builtin.firstCells, Sem.run_pure]
    congr 1
    apply Array.ext'; simp [ByteArray.data_extract, List.extract_eq_take_drop]
   ·exact (A4' e1).elim
  have hsrc : Src P ti.size tx vx 0 [] w := ⟨hkind, hlen, hfc w, hfc w.drew, by simp, fun v hv => by cases hv⟩
  exact EV' r (hE.under hd) (hE.info _ _ hti) hs hsrc he10
 | _ => exact (A4' he1).elim
theorem N9' (hE : EnvOk P E) (hold : ∀ a v, E.W.cell? a = some v -> w.cell? a = some v) {x : AV} (r : Rep W0 N F h w) (hfr : BW' N n n') (hs : VR N s v) (hx : VR N x vx) (he : (QS' E ts tx s x).run st h n lg = .ok a h' n' lg' c) (hc : c.holds) :
  ∃ w' N' y, (Builtin.append_ #[ts, tx] ty #[v, vx]).run P w = .ok y w' /\ Rep W0 N' F h' w' /\ Ext N N' n n' /\ VR N' a y := by
 unfold QS' at he; split at he
 ·exact DZ' hE r hs hx he hc
 ·exact DZ' hE r hs hx he hc
 ·exact LE' hE hold r hfr hs hx he hc
end
end Go.Proofs.YtnnojnlejlokhaaGreatDoor.Eng
