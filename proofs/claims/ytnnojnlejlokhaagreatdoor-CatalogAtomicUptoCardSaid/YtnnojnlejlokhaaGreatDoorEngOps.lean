/- Every operation of the engine does what the model's does. No program. -/
import Derived.Test.YtnnojnlejlokhaaGreatDoorEngMem7
import Derived.Lib.Builder
import Derived.Lib.UnsafeStr
set_option linter.unusedVariables false
set_option linter.unusedSimpArgs false
namespace Go.Proofs.YtnnojnlejlokhaaGreatDoor.Eng
open Go Go.RowKit
variable {x a y : AV} {v : Value} {ty t : TypeId}
section
variable {P : Program} {E : Env} {W0 w : World} {N : A9'} {F : HP} {st : Bool} {h h' : T} {n n' : Nat} {lg lg' : Log} {c : Cnd}
theorem P5' (hE : EnvOk P E) (r : Rep W0 N F h w) (hx : VR N x v) (he : (VL' E t x).run st h n lg = .ok a h' n' lg' c) :
  ∃ y, (Builtin.len_ #[t] ty #[v]).run P w = .ok y w /\ VR N a y /\ h' = h /\ n' = n := by
 unfold VL' at he; obtain ⟨d, hd, he1⟩ := AN' he; clear he; have hdr := B7' hE hd
 cases d with
 | map kt e =>
  cases x with
  | map i =>
   simp only [VR] at hx; obtain ⟨l, hl, rfl⟩ := hx; obtain ⟨es, kk, hf, he2⟩ := CJ' he1; clear he1; obtain ⟨rfl, rfl, rfl⟩ := A7' he2; obtain ⟨es', hb, hes⟩ := CF' r hf hl; have hlen : es.length = es'.toList.length := (HI'.1 hes).1; refine ⟨goInt es'.size, ?_, VR_v.2 (by rw [hlen]; simp [goInt]), rfl, rfl⟩; simp [Builtin.len_, Sem.run_bind, hdr, BB' hb]
  | _ => exact (A4' he1).elim
 | slice e =>
  cases x with
  | slice i off len sz cap =>
   simp only [VR] at hx; obtain ⟨l, xo, cp, hl, rfl, _⟩ := hx; obtain ⟨rfl, rfl, rfl⟩ := A7' he1
   exact ⟨goInt len, by simp [Builtin.len_, Sem.run_bind, hdr], VR_v.2 rfl, rfl, rfl⟩
  | mt =>
   simp only [VR] at hx; obtain ⟨a, rfl⟩ := hx; obtain ⟨rfl, rfl, rfl⟩ := A7' he1
   exact ⟨goInt 0, by simp [Builtin.len_, Sem.run_bind, hdr], VR_v.2 rfl, rfl, rfl⟩
  | _ => exact (A4' he1).elim
 | array k e =>
  obtain ⟨rfl, rfl, rfl⟩ := A7' he1
  exact ⟨goInt k, by simp [Builtin.len_, Sem.run_bind, hdr], VR_v.2 rfl, rfl, rfl⟩
 | pointer e =>
  cases x with
  | ptr i off =>
   obtain ⟨d2, hd2, he2⟩ := AN' he1; clear he1; have hdr2 := B7' hE hd2
   cases d2 with
   | array k e2 =>
    obtain ⟨rfl, rfl, rfl⟩ := A7' he2
    exact ⟨goInt k, by simp [Builtin.len_, Sem.run_bind, hdr, hdr2], VR_v.2 rfl, rfl, rfl⟩
   | _ => exact (A4' he2).elim
  | _ => exact (A4' he1).elim
 | _ => exact (A4' he1).elim
theorem EP' {N : A9'} : ∀ {cs : List AV} {ns : List Int} {vs : List Value}, bytesOf cs = some ns -> VRs N cs vs -> vs = ns.map (Value.int .u8)
 | [], ns, vs, h, hv => by
  simp only [bytesOf, Option.some.injEq] at h; subst h; simp only [VRs] at hv; subst hv; rfl
 | a :: cs, ns, vs, h, hv => by
  simp only [VRs] at hv; obtain ⟨y, r, h1, h2, rfl⟩ := hv; unfold bytesOf at h; split at h
  ·rename_i hh; cases hh
  ·rename_i m l hh; split at h
   ·rename_i r' hr'; cases h; cases hh; rw [VR_v] at h1; subst h1; rw [EP' hr' h2]; rfl
   ·cases h
  ·cases h
theorem TL' (e : Nat) : (2 * e + 1) / 2 = e := ω
theorem NG' (e : Nat) (h : (2 * e + 1) % 2 = 0) : False := ω
theorem LH' (e : Nat) : (2 * e) % 2 = 0 := ω
theorem OL' (w : World) (a : Addr) (k : Nat) : (w.freeze a k).os = w.os /\ (w.freeze a k).tape = w.tape /\ (w.freeze a k).output = w.output /\ ∀ b, b ≠ a.block -> (w.freeze a k).heap[b]? = w.heap[b]? := by
 unfold World.freeze; split
 ·exact ⟨rfl, rfl, rfl, fun _ _ => rfl⟩
 ·refine ⟨rfl, rfl, rfl, fun b hb => ?_⟩
  simp only [Array.getElem?_modify]; rw [if_neg (Ne.symm hb)]
theorem NI' {i : Nat} {cs : List AV} {e : Nat} {l : Loc} {arr : Array Value} {fz : Nat × Nat} (row : Row N i cs e l arr fz w) : OR N i (.cells cs (2 * (e / 2) + 1)) (fun x => x = l.blk) (w.freeze ⟨l.blk, arr.size, none⟩ 1) := by
 obtain ⟨lo, hi⟩ := fz; have hfree := row.free
 have hnew : (w.freeze ⟨l.blk, arr.size, none⟩ 1).heap[l.blk]? = some (.cells arr ((2 * (e / 2) + 1) / 2) (if lo == hi then (arr.size, arr.size + 1) else (min lo arr.size, max hi (arr.size + 1)))) := by
  have h1 : (2 * (e / 2) + 1) / 2 = e / 2 := ω
  rw [h1]; unfold World.freeze; rw [if_neg δ]; simp only [Array.getElem?_modify, if_pos, row.heap]; rfl
 refine ⟨l, arr, _, row.name, fun _ => Iff.rfl, hnew, row.fits, row.len, ?_, row.vals, fun h => (NG' _ h).elim⟩
 rcases hfree with h0 | h0
 ·cases h0; exact .inr (Nat.le_refl _)
 ·simp only at h0; refine .inr ?_; split
  ·exact Nat.le_refl _
  ·simp only; omega
theorem PX' {e : TypeId} (hs : P.cellsOf e ≠ 0) (count n : Nat) (hn : n <= count) : liesAt P P.depth e count 0 e n = true := by
 have hd : P.depth = (2 * (P.types.size + Made.depth) + 1) + 1 := rfl; rw [hd]; simp only [liesAt, Bool.or_eq_true]
 left
 rw [hd]; simp [rowAt, hs, hn, sameLayout]
theorem LD' (hE : EnvOk P E) (r : Rep W0 N F h w) {src dst : TypeId} (hfr : BW' N n n') (hx : VR N x v) (he : (N7' E src dst x).run st h n lg = .ok a h' n' lg' c) (hc : c.holds) :
  ∃ w' N' y, (convert src dst v).run P w = .ok y w' /\ Rep W0 N' F h' w' /\ Ext N N' n n' /\ VR N' a y := by
 unfold N7' at he; obtain ⟨ds, hds, he1⟩ := AN' he; obtain ⟨dd, hdd, he2⟩ := AN' he1; clear he he1; split at he2
 ·rename_i e s; obtain ⟨de, hde, he3⟩ := AN' he2; clear he2; rw [VR_v] at hx; subst hx; split at he3
  ·obtain ⟨hn, he4⟩ := BX' he3; clear he3; obtain ⟨rfl, rfl, rfl⟩ := AB' he4; have hrun := run_bytes_of_string (P := P) w src dst e s (hE.under hds) (hE.under hdd) (hE.under hde); have hge := grownCap_ge w s.size 0 e
   generalize grownCap w s.size 0 e = C at hrun hge
   have hfrn := hfr n (Nat.le_refl _) ω; have hle := A9'.put_le (l := ⟨w.heap.size, 0, (bytesRow s C).size⟩) hfrn
   have hsz : (bytesRow s C).size = C := by
    have : s.data.size = s.size := rfl; simp [bytesRow, this]; omega
   refine ⟨_, N.put n ⟨w.heap.size, 0, (bytesRow s C).size⟩, _, hrun, ?_, Ext.put, ?_⟩
   ·refine (r.drew (w.drawn + 1)).new hn hle ((Below.refl _ w.drew).alloc (Nat.le_refl _) _) ⟨fun x => x = w.heap.size, ?_, fun b hb => by subst hb; exact Nat.le_refl _⟩
    have hl : ((s.data.toList.map fun b => Value.int .u8 (b.toNat : Int))).length = s.size := by rw [List.length_map]; rfl
    refine ⟨_, bytesRow s C, _, A9'.put_same, fun _ => Iff.rfl, (by rw [TL' e]; exact heap_alloc_new w.drew _), by simp, ?_, .inr (Nat.le_refl _), ?_, fun hm => (NG' e hm).elim⟩
    ·show (vmap _).length <= _; rw [(VRs.vmap (N := N) _).len, hl, hsz]; exact hge
    ·have : ((bytesRow s C).toList.drop 0).take (vmap (s.data.toList.map fun b => Value.int .u8 (b.toNat : Int))).length = s.data.toList.map fun b => Value.int .u8 (b.toNat : Int) := by
      rw [(VRs.vmap (N := N) _).len]; simp [bytesRow]
     rw [this]; exact VRs.vmap _
   ·simp only [VR]
    exact ⟨_, 0, C, A9'.put_same, rfl, .inl rfl, by simp only [hsz]; omega, hge, hge⟩
  ·exact (A4' he3).elim
 ·rename_i e i off len sz cap; obtain ⟨de, hde, he3⟩ := AN' he2; clear he2; split at he3
  ·obtain ⟨g1, he4⟩ := A8' he3; obtain ⟨all, e', hf, he5⟩ := BL' he4; clear he3 he4; obtain ⟨hl, _, he6, _⟩ := GJ' he5 hc; obtain ⟨ns, hns, he7⟩ := BK' he6; clear he5 he6; obtain ⟨rfl, rfl, rfl⟩ := A7' he7; have g1 : sz = 1 := Nat.eq_of_beq_eq_true g1; simp only [VR] at hx; obtain ⟨l, xo, cp, hlN, rfl, hxo, hroom, hcap, hlc⟩ := hx; obtain ⟨D, hO⟩ := r.obj hf; obtain ⟨l', arr, fz, row, _⟩ := hO.row; obtain rfl : l' = l := Option.some.inj (row.name.symm.trans hlN); obtain ⟨vs, hv, hvl, hcc⟩ := row.span hl; have hb := EP' hns hv
   have hload : (loadCells ⟨l'.blk, xo, none⟩ len).run P w = .ok (ns.map (Value.int .u8)).toArray w := by
    rw [<- hb, <- hvl]
    refine run_loadCells_list (P := P) w _ vs fun j u hu => ?_
    have hj : j < vs.length := (List.getElem?_eq_some_iff.1 hu).1
    have hxo : xo = l'.off + off := by rcases hxo with h0 | h0; exact h0; omega
    rw [D4', hxo]; exact hcc j u hu
   refine ⟨w, N, _, ?_, r, Ext.refl _ _ _, VR_v.2 rfl⟩; rw [run_convert_bytes_string w src dst e _ _ _ (hE.under hds) (hE.under hde) (hE.under hdd), run_bytesToString w _ _ _ _ hload]
  ·exact (A4' he3).elim
 ·rename_i e0 e i off len sz cap; obtain ⟨g1, he3⟩ := A8' he2; obtain ⟨de, hde, he4⟩ := AN' he3; have g1 : src = dst := Nat.eq_of_beq_eq_true g1; subst g1
  obtain rfl : e0 = e := by
   have := hds.symm.trans hdd; cases this; rfl
  split at he4
  ·obtain ⟨cs, e', hf, he5⟩ := BL' he4; obtain ⟨o0, ho0, he6⟩ := B2' he5; obtain ⟨rfl, rfl, rfl⟩ := AB' he6; have hx0 := hx; simp only [VR] at hx; obtain ⟨l, xo, cp, hlN, rfl, hxo, hroom, hcap, hlc⟩ := hx; obtain ⟨D, hO⟩ := r.obj hf; obtain ⟨l', arr, fz, row, _⟩ := hO.row; obtain rfl : l' = l := Option.some.inj (row.name.symm.trans hlN)
   have hsh : w.shape? l'.blk = some (e' / 2, arr.size) := by simp [World.shape?, row.heap]
   obtain ⟨f1, f2, f3, f4⟩ := OL' w ⟨l'.blk, arr.size, none⟩ 1; refine ⟨w.freeze ⟨l'.blk, arr.size, none⟩ 1, N, _, ?_, ?_, Ext.refl _ _ _, hx0⟩
   ·simp [convert, run_underlying (hE.under hds), run_underlying (hE.under hde), markStringish, hsh]
   ·refine r.turn hf f1 f2 f3 fun D2 hD2 => ?_
    obtain ⟨l2, arr2, fz2, row2, hD3⟩ := hD2.row; obtain rfl : l2 = l' := Option.some.inj (row2.name.symm.trans hlN)
    have ha : arr2 = arr := by
     have := row2.heap.symm.trans row.heap; cases this; rfl
    subst ha
    exact ⟨fun b hb hd => f4 b (fun e => hd ((hD3 b).2 e)), _, NI' row2, fun b hb => .inl ((hD3 b).2 hb)⟩
  ·exact (A4' he4).elim
 ·rename_i t i off; obtain ⟨ti, hti, he3⟩ := B3' he2; obtain ⟨g1, he4⟩ := A8' he3; obtain ⟨cs, e', hf, he5⟩ := BL' he4; obtain ⟨g2, _, he6, _⟩ := AI' he5 hc; obtain ⟨rfl, rfl, rfl⟩ := A7' he6
  have g1 : 0 < ti.size := by simpa [Nat.blt_eq] using g1
  have g2 : off < cs.length := by simpa [Nat.blt_eq] using g2
  have hx0 := hx; simp only [VR] at hx; obtain ⟨l, hl, rfl⟩ := hx; obtain ⟨D, hO⟩ := r.obj hf; obtain ⟨l', arr, fz, row, _⟩ := hO.row; obtain rfl : l' = l := Option.some.inj (row.name.symm.trans hl); have hfits := row.fits; have hlen := row.len
  have hsh : w.shape? l'.blk = some (e' / 2, arr.size) := by simp [World.shape?, row.heap]
  exact ⟨w, N, _, Lib.run_to_unsafe (j := ti) (w := w) ⟨l'.blk, l'.off + off, none⟩ (hE.under hds) (hE.under hdd) (hE.info _ _ hti) ω hsh (by show l'.off + off < _; omega), r, Ext.refl _ _ _, hx0⟩
 ·rename_i u i; obtain ⟨ti, hti, he3⟩ := B3' he2; obtain ⟨g1, he4⟩ := A8' he3; obtain ⟨cs, e', hf, he5⟩ := BL' he4; obtain ⟨g3, he6⟩ := A8' he5; obtain ⟨g2, _, he7, _⟩ := AI' he6 hc; obtain ⟨rfl, rfl, rfl⟩ := A7' he7
  have g1 : 0 < ti.size := by simpa [Nat.blt_eq] using g1
  have g2 : ti.size <= cs.length := Nat.le_of_ble_eq_true g2; have g3 : e' = 2 * u := Nat.eq_of_beq_eq_true g3; subst g3; have hx0 := hx; simp only [VR] at hx; obtain ⟨l, hl, rfl⟩ := hx; obtain ⟨D, hO⟩ := r.obj hf; obtain ⟨l', arr, fz, row, _⟩ := hO.row; obtain rfl : l' = l := Option.some.inj (row.name.symm.trans hl); have hfits := row.fits; have hlen := row.len; have hz := (row.plain (LH' _)).1
  have hsh : w.shape? l'.blk = some (u, arr.size) := by
   have := row.heap; rw [Nat.mul_div_cancel_left _ (by decide : 0 < 2)] at this; simp [World.shape?, this]
  have hco : P.cellsOf u = ti.size := by simp [Program.cellsOf, hE.info _ _ hti]
  have hlies : liesAt P P.depth u (arr.size / P.cellsOf u) (l'.off + 0) u 1 = true := by
   rw [hz]; exact PX' (by rw [hco]; omega) _ _ (by rw [hco]; exact (Nat.one_le_div_iff g1).2 ω)
  exact ⟨w, N, _, Lib.run_from_unsafe (j := ti) (w := w) ⟨l'.blk, l'.off + 0, none⟩ (hE.under hds) (hE.under hdd) (hE.info _ _ hti) hsh hlies, r, Ext.refl _ _ _, hx0⟩
 ·exact (A4' he2).elim
theorem T2' {u : Value} {ts : Array TypeId} (hx : VR N x v) (hy : VR N y u) (he : (amax x y).run st h n lg = .ok a h' n' lg' c) :
  (∀ w, ∃ z, (Builtin.max_ ts ty #[v, u]).run P w = .ok z w /\ VR N a z) /\ h' = h /\ n' = n := by
 unfold amax at he; split at he
 ·obtain ⟨rfl, rfl, rfl⟩ := A7' he; have h1 := VR_v.1 hx; have h2 := VR_v.1 hy; subst h1 h2
  exact ⟨fun w => ⟨_, rfl, VR_v.2 rfl⟩, rfl, rfl⟩
 ·exact (A4' he).elim
theorem T1' {u : Value} {ts : Array TypeId} (hx : VR N x v) (hy : VR N y u) (he : (amin x y).run st h n lg = .ok a h' n' lg' c) :
  (∀ w, ∃ z, (Builtin.min_ ts ty #[v, u]).run P w = .ok z w /\ VR N a z) /\ h' = h /\ n' = n := by
 unfold amin at he; split at he
 ·obtain ⟨rfl, rfl, rfl⟩ := A7' he; have h1 := VR_v.1 hx; have h2 := VR_v.1 hy; subst h1 h2
  exact ⟨fun w => ⟨_, rfl, VR_v.2 rfl⟩, rfl, rfl⟩
 ·exact (A4' he).elim
theorem JF' {ts : Array TypeId} (hx : VR N x v) (he : (IV' x).run st h n lg = .ok a h' n' lg' c) :
  (∀ w, ∃ y, (Builtin.unsafeSliceData_ ts ty #[v]).run P w = .ok y w /\ VR N a y) /\ h' = h /\ n' = n := by
 unfold IV' at he; split at he
 ·rename_i i off len sz cap; obtain ⟨g1, he2⟩ := A8' he; obtain ⟨rfl, rfl, rfl⟩ := A7' he2
  have g1 : 0 < cap.least := by simpa [Nat.blt_eq] using g1
  simp only [VR] at hx; obtain ⟨l, xo, cp, hl, rfl, hxo, hroom, hcap, hlc⟩ := hx
  have hcp : cp ≠ 0 := by
   cases cap with
   | ex k => simp only [Cp.fits] at hcap; subst hcap; simp only [Cp.least] at g1; omega
   | lo k => simp only [Cp.fits] at hcap; simp only [Cp.least] at g1; omega
  have hxo : xo = l.off + off := by rcases hxo with h0 | h0; exact h0; exact absurd h0 hcp
  subst hxo
  refine ⟨fun w => ⟨_, Lib.run_unsafeSliceData_row (P := P) w ts ty ⟨l.blk, l.off + off, none⟩ len cp hcp, ?_⟩, rfl, rfl⟩
  simp only [VR]; exact ⟨l, hl, rfl⟩
 ·exact (A4' he).elim
theorem HC' (hE : EnvOk P E) (r : Rep W0 N F h w) {pt it : TypeId} {p k : AV} {vp vk : Value} (hp : VR N p vp) (hk : VR N k vk) (he : (EQ' E pt p k).run st h n lg = .ok a h' n' lg' c) (hc : c.holds) :
  ∃ w' y, (Builtin.unsafeString_ #[pt, it] ty #[vp, vk]).run P w = .ok y w' /\ Rep W0 N F h' w' /\ n' = n /\ VR N a y := by
 unfold EQ' at he; obtain ⟨kk, m, rfl, he1⟩ := CZ' he; clear he; rw [VR_v] at hk; subst hk; split at he1
 ·rename_i i off; obtain ⟨rfl, rfl, rfl⟩ := A7' he1; simp only [VR] at hp; obtain ⟨l, hl, rfl⟩ := hp; refine ⟨w, _, ?_, r, rfl, VR_v.2 rfl⟩; have := Lib.run_unsafeString_none (P := P) w pt it ty (some ⟨l.blk, l.off + off, none⟩); exact this
 ·rename_i m i; obtain ⟨d, hd, he2⟩ := AN' he1
  cases d with
  | pointer e =>
   obtain ⟨ti, hti, he3⟩ := B3' he2; obtain ⟨g1, he4⟩ := A8' he3; obtain ⟨cs, e', hf, he5⟩ := BL' he4; obtain ⟨g2, he6⟩ := A8' he5; obtain ⟨g3, c', he7, hc7⟩ := AI' he6 hc; obtain ⟨g4, c2, he8, hc8⟩ := GJ' he7 hc7; obtain ⟨ns, hns, he8'⟩ := BK' he8; obtain ⟨g5, he9⟩ := A8' he8'; clear he1 he2 he3 he4 he5 he6 he7 he8 he8'; obtain ⟨o0, ho0, he10⟩ := EJ' he9; obtain ⟨rfl, rfl, rfl⟩ := AB' he10; have g1 : ti.size = 1 := Nat.eq_of_beq_eq_true g1; have g2 : e' = 2 * e := Nat.eq_of_beq_eq_true g2; have g3 : m + 1 <= EC' := Nat.le_of_ble_eq_true g3; subst g2; simp only [VR] at hp; obtain ⟨l, hl, rfl⟩ := hp; obtain ⟨D, hO⟩ := r.obj hf; obtain ⟨l', arr, fz, row, _⟩ := hO.row; obtain rfl : l' = l := Option.some.inj (row.name.symm.trans hl); have hfits := row.fits; have hlen := row.len; have hz := (row.plain (LH' _)).1
   have hsh : w.shape? l'.blk = some (e, arr.size) := by
    have := row.heap; rw [Nat.mul_div_cancel_left _ (by decide : 0 < 2)] at this; simp [World.shape?, this]
   have hco : P.cellsOf e = 1 := by simp [Program.cellsOf, hE.info _ _ hti, g1]
   obtain ⟨vs, hv, hvl, hcell⟩ := row.span (k := 0) g4; have hvs := EP' hns hv
   have hnl : ns.length = m + 1 := by rw [<- hvl, hvs]; simp
   have hcs : m + 1 <= cs.length := by
    have := g4; simp only [List.length_take, List.length_drop] at this; omega
   -- bytes as bytes
   have hbyte : ∀ x ∈ ns, (((UInt8.ofNat x.toNat).toNat : Nat) : Int) = x := fun x hx => by
    have := List.all_eq_true.1 g5 x hx; unfold Z9' at this; split at this
    ·rename_i k
     have hk : k < 256 := by simpa [Nat.blt_eq] using this
     simp [Nat.mod_eq_of_lt hk]
    ·cases this
   have hrun := Lib.run_unsafeString_row (P := P) w pt it ty e (hE.under hd) hco l'.blk arr.size hsh (ns.map fun n => UInt8.ofNat n.toNat) (by intro hh; rw [List.map_eq_nil_iff] at hh; rw [hh] at hnl; cases hnl) (by rw [List.length_map, hnl]; omega) (by rw [List.length_map, hnl]; simpa [EC'] using g3) (fun j x hj => by
    rw [List.getElem?_map] at hj
    cases hn : ns[j]? with
    | none => rw [hn] at hj; cases hj
    | some y =>
     rw [hn] at hj; cases hj; have h1 := hcell j (.int .u8 y) (by rw [hvs, List.getElem?_map, hn]; rfl); rw [hz] at h1; rw [hbyte y (List.mem_of_getElem? hn)]; rw [D4']
     simpa using h1)
   rw [List.length_map, hnl] at hrun; obtain ⟨f1, f2, f3, f4⟩ := OL' w ⟨l'.blk, 0, none⟩ (m + 1)
   refine ⟨_, _, ?_, r.kill hf f1 f2 f3 fun D2 hD2 b hb hd => f4 b (fun e => hd ?_), rfl, VR_v.2 rfl⟩
   ·rw [hz]; exact hrun
   ·obtain ⟨l2, arr2, fz2, row2, hD3⟩ := hD2.row; obtain rfl : l2 = l' := Option.some.inj (row2.name.symm.trans hl); exact (hD3 b).2 e
  | _ => exact (A4' he2).elim
 ·exact (A4' he1).elim
theorem KQ' (hx : VR N x v) (hd : V2' x = some (t, y)) : ∃ z, v = .iface t z /\ VR N y z := by
 cases x with
 | iface t' x' =>
  cases hd; simp only [VR] at hx; obtain ⟨z, h1, rfl⟩ := hx; exact ⟨z, rfl, h1⟩
 | v x' =>
  rw [VR_v] at hx; subst hx
  cases v with
  | iface t' z => cases hd; exact ⟨z, rfl, VR_v.2 rfl⟩
  | _ => cases hd
 | _ => cases hd
theorem IU' (hE : EnvOk P E) {xT : TypeId} {ok : Bool} (hx : VR N x v) (he : (HD' E x t ok).run st h n lg = .ok a h' n' lg' c) :
  ∃ y, (Instr.typeAssert v xT t ok).run P w = .ok y w /\ VR N a y /\ h' = h /\ n' = n := by
 unfold HD' at he
 have holds : ∀ {b : AV} {z : Value} {a : AV} {h h' : T} {n n' : Nat} {lg lg' : Log} {c : Cnd}, VR N b z -> ((pure (if ok then AV.tuple [b, .v (.bool true)] else b) : AP AV).run st h n lg = .ok a h' n' lg' c) ->
   VR N a (if ok then .tuple #[z, .bool true] else z) /\ h' = h /\ n' = n := by
  intro b z a h h' n n' lg lg' c hb hh; obtain ⟨rfl, rfl, rfl⟩ := A7' hh; refine ⟨?_, rfl, rfl⟩; cases ok
  ·exact hb
  ·simp only [if_true, VR]; exact ⟨_, AD'.2 ⟨hb, AD'.2 ⟨VR_v.2 rfl, AX'⟩⟩, rfl⟩
 have fails : ∀ {a : AV} {h h' : T} {n n' : Nat} {lg lg' : Log} {c : Cnd}, ((match ok with | true => (do pure (.tuple [.v (<- E.zero t), .v (.bool false)]) : AP AV) | false => .fail "typeAssert").run st h n lg = .ok a h' n' lg' c) ->
   ok = true /\ ∃ z, (zeroValue t).run P w = .ok z w /\ VR N a (.tuple #[z, .bool false]) /\ h' = h /\ n' = n := by
  intro a h h' n n' lg lg' c hh
  cases ok with
  | false => cases hh
  | true =>
   obtain ⟨i, z, hi, hz, hh⟩ := CI' hh; obtain ⟨rfl, rfl, rfl⟩ := A7' hh; refine ⟨rfl, z, EH' hE hi hz w, ?_, rfl, rfl⟩; simp only [VR]; exact ⟨_, AD'.2 ⟨VR_v.2 rfl, AD'.2 ⟨VR_v.2 rfl, AX'⟩⟩, rfl⟩
 obtain ⟨d, hd, he1⟩ := AN' he; clear he; have hdr := B7' hE hd
 have nilCase : V2' x = none -> ∀ {f : AP AV} {c : Cnd}, (match x with | .v .nilIface => f | _ => AP.fail "typeAssert value").run st h n lg = .ok a h' n' lg' c -> v = .nilIface /\ f.run st h n lg = .ok a h' n' lg' c := by
  intro _ f c hh
  cases x with
  | v z =>
   rw [VR_v] at hx; subst hx
   cases v with
   | nilIface => exact ⟨rfl, hh⟩
   | _ => cases hh
  | _ => cases hh
 cases hdy : V2' x with
 | some p =>
  obtain ⟨t', y⟩ := p; obtain ⟨z, rfl, hz⟩ := KQ' hx hdy
  cases d with
  | interface want =>
   simp only [hdy] at he1; obtain ⟨i, hi, he2⟩ := BK' he1; clear he1
   cases hm : Instr.missingMethod want i.methods with
   | none =>
    rw [hm] at he2; obtain ⟨h1, h2, h3⟩ := holds hx he2; refine ⟨_, ?_, h1, h2, h3⟩; simp [Instr.typeAssert, Sem.run_bind, hdr, M4' hE hi, hm]
   | some m =>
    rw [hm] at he2; obtain ⟨rfl, z0, h1, h2, h3, h4⟩ := fails he2; refine ⟨_, ?_, h2, h3, h4⟩; simp [Instr.typeAssert, Sem.run_bind, hdr, M4' hE hi, hm, h1]
  | _ =>
   simp only [hdy] at he1
   by_cases ht : t' = t
   ·subst ht; have hb : Nat.beq t' t' = true := Nat.beq_refl _; simp only [hb, if_true] at he1; obtain ⟨h1, h2, h3⟩ := holds hz he1; refine ⟨_, ?_, h1, h2, h3⟩; simp [Instr.typeAssert, Sem.run_bind, hdr]
   ·have hb : Nat.beq t' t = false := by
     cases hb : Nat.beq t' t with
     | false => rfl
     | true => exact absurd (Nat.eq_of_beq_eq_true hb) ht
    simp only [hb, Bool.false_eq_true, if_false] at he1; obtain ⟨rfl, z0, h1, h2, h3, h4⟩ := fails he1; refine ⟨_, ?_, h2, h3, h4⟩; simp [Instr.typeAssert, Sem.run_bind, hdr, ht, h1]
 | none =>
  cases d with
  | interface want =>
   simp only [hdy] at he1; obtain ⟨rfl, he2⟩ := nilCase hdy he1; obtain ⟨rfl, z0, h1, h2, h3, h4⟩ := fails he2; refine ⟨_, ?_, h2, h3, h4⟩; simp [Instr.typeAssert, Sem.run_bind, hdr, h1]
  | _ =>
   simp only [hdy] at he1; obtain ⟨rfl, he2⟩ := nilCase hdy he1; obtain ⟨rfl, z0, h1, h2, h3, h4⟩ := fails he2; refine ⟨_, ?_, h2, h3, h4⟩; simp [Instr.typeAssert, Sem.run_bind, hdr, h1]
end
end Go.Proofs.YtnnojnlejlokhaaGreatDoor.Eng
