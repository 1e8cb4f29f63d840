/- The engine's other operations do what the model does. No program. -/
import Derived.Test.YtnnojnlejlokhaaGreatDoorEngMem6
import Derived.Laws.BytesString
import Derived.Laws.IdiomStrings
import Derived.Laws.MakeOwn
set_option linter.unusedVariables false
set_option linter.unusedSimpArgs false
namespace Go.Proofs.YtnnojnlejlokhaaGreatDoor.Eng
open Go Go.RowKit
open Nat renaming le_of_ble_eq_true -> ble'
section
variable {P : Program} {E : Env} {W0 w : World} {N : A9'} {F : HP} {st : Bool} {h h' : T} {n n' : Nat} {lg lg' : Log} {c : Cnd}
theorem QO' (hE : EnvOk P E) (hold : ∀ a v, E.W.cell? a = some v -> w.cell? a = some v) (r : Rep W0 N F h w) {ts tx ty : TypeId} {d s a : AV} {vd vs : Value} (hd : VR N d vd) (hs : VR N s vs) (he : (hP' E ts d s).run st h n lg = .ok a h' n' lg' c) (hc : c.holds) :
  ∃ w' y, (Builtin.copy_ #[ts, tx] ty #[vd, vs]).run P w = .ok y w' /\ Rep W0 N F h' w' /\ n' = n /\ VR N a y := by
 unfold hP' at he; obtain ⟨dd, hdd, he⟩ := AN' he; have hdr := B7' hE hdd
 cases dd with
 | slice e =>
  obtain ⟨ti, hti, he1⟩ := B3' he; clear he; obtain ⟨ls, g1, n1, lg1, c1, c2, e1, he2, k1⟩ := run_bind (alen s) _ he1; clear he1; obtain ⟨hls, rfl, rfl⟩ := GM' (P := P) hs e1; obtain ⟨ld, g2, n2, lg2, c3, c4, e2, he3, k2⟩ := run_bind (alen d) _ he2; clear he2; obtain ⟨hld, rfl, rfl⟩ := GM' (P := P) hd e2; obtain ⟨news, g3, n3, lg3, c5, c6, e3, he4, k3⟩ := run_bind (GN' _ _ _ _) _ he3; have hc3 := k3 (k2 (k1 hc).2).2; clear he3; obtain ⟨ns, hv, hfc, _, rfl, rfl⟩ := GY' (P := P) hold r hs e3 hc3.1; obtain ⟨hone, c7, he5, hc7⟩ := AI' he4 hc3.2; clear he4 e1 e2 e3 k1 k2 k3 hc3; have hfc := hfc w rfl
  cases d with
  | slice i off len sz cap =>
   obtain ⟨hsz, he6⟩ := A8' he5; obtain ⟨cs, e', hf, he7⟩ := BL' he6; obtain ⟨hle, _, he8, _⟩ := AI' he7 hc7; clear he5 he6 he7; obtain ⟨o0, ho0, he9⟩ := B2' he8; clear he8; obtain ⟨rfl, rfl, rfl⟩ := AB' he9; have hsz : ti.size = sz := Nat.eq_of_beq_eq_true hsz; have hle : off + news.length <= cs.length := ble' hle; simp only [VR] at hd; obtain ⟨l, xo, cp, hl, rfl, hxo, hroom, hcap, hlc⟩ := hd; obtain ⟨D, hO⟩ := r.obj hf; obtain ⟨l', arr, fz, row, _⟩ := hO.row; obtain rfl : l' = l := Option.some.inj (row.name.symm.trans hl); have hcl := row.len; have hvl := hv.len; have hones := hv.ones hone; obtain ⟨a1, a2, a3, a4⟩ := CS' l'.blk ns (l'.off + off) w
   have hlen' : ld = len := by
    have := hld w; simp only [Builtin.lenOf, Sem.run_pure, Result.ok.injEq] at this; exact this.1.symm
   subst hlen'
   -- where cells are written
   have hst : (storeCells ⟨l'.blk, xo, none⟩ ns).run P w = .ok () (w.setCells l'.blk (l'.off + off) ns) := by
    cases ns with
    | nil => rfl
    | cons x ns' =>
     have hxo' : xo = l'.off + off := by
      rcases hxo with h0 | h0
      ·exact h0
      ·exfalso
       have hld0 : ld = 0 := ω
       subst hld0; rw [show Nat.min ls 0 = 0 from Nat.min_zero ls] at hfc
       cases vs with
       | slice b2 _ _ => cases b2 <;> simp [Builtin.firstCells, loadCells, loadCellsFrom] at hfc
       | string s2 => simp [Builtin.firstCells] at hfc
       | _ => simp [Builtin.firstCells, stuck, Sem.run] at hfc
     have := run_storeCells_cells (P := P) l'.blk (l'.off + off) (x :: ns') 0 w (fun j hj => by
      rw [show l'.off + off + 0 + j = l'.off + (off + j) from ω]; exact row.there ω) (fun j hj => by
      rw [show l'.off + off + 0 + j = l'.off + (off + j) from ω]; exact row.unfrozen ω) hones
     rw [hxo']; simpa using this
   refine ⟨w.setCells l'.blk (l'.off + off) ns, goInt (Nat.min ls ld), ?_, ?_, rfl, VR_v.2 rfl⟩
   ·simp [Builtin.copy_, Sem.run_bind, hdr, hls w, C0' hE hti, hfc, hst]
   ·refine r.turn hf a1 a2 a3 fun D2 hD2 => ?_
    obtain ⟨l2, arr2, fz2, row2, hD3⟩ := hD2.row; obtain rfl : l2 = l' := Option.some.inj (row2.name.symm.trans hl); obtain ⟨arr3, row3, _⟩ := row2.write (k := off) (r := news) (vs := ns) ω ω hv
    exact ⟨fun b hb hd => C3' _ _ _ _ _ (fun e => hd ((hD3 b).2 e)), _, row3.or, fun b hb => .inl ((hD3 b).2 hb)⟩
  | v z =>
   rw [VR_v] at hd; subst hd; split at he5
   ·cases ‹AV.v _ = AV.slice _ _ _ _ _›
   ·rename_i hz; cases hz; obtain ⟨rfl, rfl, rfl⟩ := A7' he5
    have hld0 : ld = 0 := by
     have := hld w; simp only [Builtin.lenOf, Sem.run_pure, Result.ok.injEq] at this; exact this.1.symm
    subst hld0; rw [show Nat.min ls 0 = 0 from Nat.min_zero ls] at hfc ⊢; refine ⟨w, goInt 0, ?_, r, rfl, VR_v.2 rfl⟩; simp [Builtin.copy_, Sem.run_bind, hdr, hls w, C0' hE hti, hfc]
   ·exact (A4' he5).elim
  | _ => exact (A4' he5).elim
 | _ => exact (A4' he).elim
theorem JG' (hE : EnvOk P E) (r : Rep W0 N F h w) {t : TypeId} {l k a : AV} {vl vk : Value} (hfr : BW' N n n') (hl : VR N l vl) (hk : VR N k vk) (he : (IX' E t l k).run st h n lg = .ok a h' n' lg' c) (hc : c.holds) :
  ∃ w' N' y, (Instr.makeSlice t vl vk).run P w = .ok y w' /\ Rep W0 N' F h' w' /\ Ext N N' n n' /\ VR N' a y := by
 unfold IX' at he; obtain ⟨d, hd, he⟩ := AN' he; have hdr := B7' hE hd
 cases d with
 | slice e =>
  obtain ⟨ti, hti, he1⟩ := B3' he; clear he; obtain ⟨k1, m1, rfl, he2⟩ := CZ' he1; clear he1; obtain ⟨k2, m2, rfl, he3⟩ := CZ' he2; clear he2; obtain ⟨ti2, hti2, he4⟩ := OF' he3; clear he3; obtain rfl : ti2 = ti := Option.some.inj (hti2.symm.trans hti); obtain ⟨ti3, z, hti3, hz, he5⟩ := CI' he4; clear he4; obtain rfl : ti3 = ti2 := Option.some.inj (hti3.symm.trans hti); obtain ⟨g1, _, he6, hc⟩ := AI' he5 hc; obtain ⟨g2, he7⟩ := A8' he6; obtain ⟨g3, _, he8, hc⟩ := AI' he7 hc; obtain ⟨g4, _, he9, hc⟩ := AI' he8 hc; obtain ⟨g5, he10⟩ := A8' he9; clear he5 he6 he7 he8 he9; obtain ⟨hn, he6⟩ := BX' he10; clear he10; obtain ⟨rfl, rfl, rfl⟩ := AB' he6; rw [VR_v] at hl hk; subst hl hk; have g1 := ble' g1
  have g2 : 0 < ti3.size := by simpa [Nat.blt_eq] using g2
  have g3 : ti3.bytes * m2 <= room := ble' g3; have g4 := ble' g4; have g5 : z.cells.toList.length = ti3.size := Nat.eq_of_beq_eq_true g5
  have hzs : z.cells.size = ti3.size := by simpa using g5
  have hnew := DI' (e := e) (n := n) r hn (hfr n (Nat.le_refl _) ω) (VRs.rep z.cells.toList m2) []; rw [List.append_nil] at hnew
  have hlen : (repV z.cells.toList m2).length = m2 * ti3.size := by rw [CU', g5]
  refine ⟨_, _, .slice (some ⟨w.heap.size, 0, none⟩) m1 m2, ?_, hnew, Ext.put, ?_⟩
  ·have hcells := IG' z.cells m2; rw [hzs] at hcells
   have hrun := run_make w t e ti3 z (hE.under hd) (hE.info _ _ hti) hz k1 k2 (m1 : Int) (m2 : Int) ω ω (by
    have : ((ti3.bytes * m2 : Nat) : Int) <= (room : Int) := Int.ofNat_le.2 g3; rw [Int.natCast_mul] at this; simp only [room] at this
    omega) ω
   simp only [Int.toNat_natCast] at hrun
   have hmade : madeCells z.cells (m2 * ti3.size) = (repV z.cells.toList m2).toArray := by
    unfold madeCells; rw [hzs]; exact hcells
   rw [hmade] at hrun; exact hrun
  ·simp only [VR]
   exact ⟨_, 0, m2, A9'.put_same, rfl, .inl rfl, by simp [hlen], rfl, g1⟩
 | _ => exact (A4' he).elim
end
end Go.Proofs.YtnnojnlejlokhaaGreatDoor.Eng
