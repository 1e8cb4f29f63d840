/- The engine's other operations do what the model does. No program. -/
import Derived.Test.YtdphpillcaajpaaDoorEngMem6
import Derived.Laws.BytesString
import Derived.Laws.IdiomStrings
import Derived.Laws.MakeOwn
set_option linter.unusedVariables false
set_option linter.unusedSimpArgs false
namespace Go.Proofs.YtdphpillcaajpaaDoor.Eng
open Go Go.RowKit
open Nat renaming le_of_ble_eq_true -> ble'
section
variable {P : Program} {E : Env} {W0 w : World} {N : A5'} {F : HP} {st : Bool} {h h' : T} {n n' : Nat} {lg lg' : Log} {c : Cnd}
theorem S2' (hE : EnvOk P E) (hold : ∀ a v, E.W.cell? a = some v -> w.cell? a = some v) (r : Rep W0 N F h w) {ts tx ty : TypeId} {d s a : AV} {vd vs : Value} (hd : VR N d vd) (hs : VR N s vs) (he : (nL' E ts d s).run st h n lg = .ok a h' n' lg' c) (hc : c.holds) :
  ∃ w' y, (Builtin.copy_ #[ts, tx] ty #[vd, vs]).run P w = .ok y w' /\ Rep W0 N F h' w' /\ n' = n /\ VR N a y := by
 unfold nL' at he; cases he
theorem KB' (hE : EnvOk P E) (r : Rep W0 N F h w) {t : TypeId} {l k a : AV} {vl vk : Value} (hfr : BE' N n n') (hl : VR N l vl) (hk : VR N k vk) (he : (JR' E t l k).run st h n lg = .ok a h' n' lg' c) (hc : c.holds) :
  ∃ w' N' y, (Instr.makeSlice t vl vk).run P w = .ok y w' /\ Rep W0 N' F h' w' /\ Ext N N' n n' /\ VR N' a y := by
 unfold JR' at he; obtain ⟨d, hd, he⟩ := AT' he; have hdr := BC' hE hd
 cases d with
 | slice e =>
  obtain ⟨ti, hti, he1⟩ := B6' he; clear he; obtain ⟨k1, m1, rfl, he2⟩ := DP' he1; clear he1; obtain ⟨k2, m2, rfl, he3⟩ := DP' he2; clear he2; obtain ⟨ti2, hti2, he4⟩ := PL' he3; clear he3; obtain rfl : ti2 = ti := Option.some.inj (hti2.symm.trans hti); obtain ⟨ti3, z, hti3, hz, he5⟩ := CY' he4; clear he4; obtain rfl : ti3 = ti2 := Option.some.inj (hti3.symm.trans hti); obtain ⟨g1, _, he6, hc⟩ := AM' he5 hc; obtain ⟨g2, he7⟩ := AB' he6; obtain ⟨g3, _, he8, hc⟩ := AM' he7 hc; obtain ⟨g4, _, he9, hc⟩ := AM' he8 hc; obtain ⟨g5, he10⟩ := AB' he9; clear he5 he6 he7 he8 he9; obtain ⟨hn, he6⟩ := BK' he10; clear he10; obtain ⟨rfl, rfl, rfl⟩ := AF' he6; rw [VR_v] at hl hk; subst hl hk; have g1 := ble' g1
  have g2 : 0 < ti3.size := by simpa [Nat.blt_eq] using g2
  have g3 : ti3.bytes * m2 <= room := ble' g3; have g4 := ble' g4; have g5 : z.cells.toList.length = ti3.size := Nat.eq_of_beq_eq_true g5
  have hzs : z.cells.size = ti3.size := by simpa using g5
  have hnew := DO' (e := e) (n := n) r hn (hfr n (Nat.le_refl _) ω) (VRs.rep z.cells.toList m2) []; rw [List.append_nil] at hnew
  have hlen : (repV z.cells.toList m2).length = m2 * ti3.size := by rw [EO', g5]
  refine ⟨_, _, .slice (some ⟨w.heap.size, 0, none⟩) m1 m2, ?_, hnew, Ext.put, ?_⟩
  ·have hcells := MH' z.cells m2; rw [hzs] at hcells
   have hrun := run_make w t e ti3 z (hE.under hd) (hE.info _ _ hti) hz k1 k2 (m1 : Int) (m2 : Int) ω ω (by
    have : ((ti3.bytes * m2 : Nat) : Int) <= (room : Int) := Int.ofNat_le.2 g3; rw [Int.natCast_mul] at this; simp only [room] at this
    omega) ω
   simp only [Int.toNat_natCast] at hrun
   have hmade : madeCells z.cells (m2 * ti3.size) = (repV z.cells.toList m2).toArray := by
    unfold madeCells; rw [hzs]; exact hcells
   rw [hmade] at hrun; exact hrun
  ·simp only [VR]
   exact ⟨_, 0, m2, A5'.put_same, rfl, .inl rfl, by simp [hlen], rfl, g1⟩
 | _ => exact (A7' he).elim
end
end Go.Proofs.YtdphpillcaajpaaDoor.Eng
