/- The engine's operations on slices do what the model does. No program. -/
import Derived.Test.YtnnojnlejlokhaaGreatDoorEngMem
set_option linter.unusedVariables false
set_option linter.unusedSimpArgs false
namespace Go.Proofs.YtnnojnlejlokhaaGreatDoor.Eng
open Go Go.RowKit
open Nat renaming blt_eq -> bl'
variable {t : TypeId} {a : AV}
def repV (z : List Value) : Nat -> List Value
 | 0 => []
 | n + 1 => z ++ repV z n
theorem CU' (z : List Value) (k : Nat) : (repV z k).length = k * z.length := by
 induction k with
 | zero => simp [repV]
 | succ k ih => rw [repV, List.length_append, ih, Nat.add_mul]; omega
theorem M9' (z : List Value) : ∀ (k j : Nat), j < k * z.length -> (repV z k)[j]? = z[j % z.length]?
 | 0, j, h => by simp at h
 | k + 1, j, h => by
  rw [repV]
  by_cases hj : j < z.length
  ·rw [List.getElem?_append_left hj, Nat.mod_eq_of_lt hj]
  ·rw [List.getElem?_append_right ω, M9' z k _ (by rw [Nat.add_mul] at h; omega)]
   congr 1
   exact (Nat.mod_eq_sub_mod ω).symm
theorem VRs.rep {N : A9'} (z : List Value) : ∀ k, VRs N (Eng.rep (Eng.vmap z) k) (repV z k)
 | 0 => AX'
 | k + 1 => (VRs.vmap z).append (VRs.rep z k)
theorem IG' (z : Array Value) (k : Nat) : (Array.range (k * z.size)).map (fun j => z[j % z.size]!) = (repV z.toList k).toArray := by
 have hl : (repV z.toList k).length = k * z.size := CU' _ _; apply Array.ext
 ·simp [CU']
 intro j h1 h2
 have hj : j < k * z.size := by simpa using h1
 have hz : 0 < z.size := by
  rcases Nat.eq_zero_or_pos z.size with h | h
  ·rw [h] at hj; omega
  ·exact h
 have hm : j % z.size < z.size := Nat.mod_lt _ hz; have hg := M9' z.toList k j (by simpa using hj); rw [Array.length_toList] at hg
 have h3 : (repV z.toList k)[j]'(by rw [hl]; exact hj) = z[j % z.size] := by
  rw [List.getElem?_eq_getElem (by rw [hl]; exact hj), Array.getElem?_toList, Array.getElem?_eq_getElem hm] at hg; exact Option.some.inj hg
 simp [h3, hm]
section
variable {P : Program} {E : Env} {W0 w : World} {N : A9'} {F : HP} {st : Bool} {h h' : T} {n n' : Nat} {lg lg' : Log} {c : Cnd}
theorem J1' (hE : EnvOk P E) (r : Rep W0 N F h w) {len : Nat} {parts : List (Nat × AV)} {vparts : Array (Nat × Value)} (hfr : BW' N n n') (hm : parts.map (·.1) = vparts.toList.map (·.1)) (hp : VRs N (parts.map (·.2)) (vparts.toList.map (·.2)))
  (he : (HH' E t len parts).run st h n lg = .ok a h' n' lg' c) :
  ∃ w' N' y, (Instr.buildSlice t len vparts).run P w = .ok y w' /\ Rep W0 N' F h' w' /\ Ext N N' n n' /\ VR N' a y := by
 unfold HH' at he; obtain ⟨d, hd, he⟩ := AN' he; have hdr := B7' hE hd
 cases d with
 | slice e =>
  obtain ⟨i, hi, he⟩ := B3' he; obtain ⟨h0, he⟩ := A8' he; obtain ⟨h1, he⟩ := A8' he; obtain ⟨i', z, hi', hz, he⟩ := CI' he; obtain rfl : i' = i := Option.some.inj (hi'.symm.trans hi); obtain ⟨h2, he⟩ := A8' he
  have h0 : 0 < i'.size := by simpa [bl'] using h0
  have h1 := Nat.le_of_ble_eq_true h1; have h2 : z.cells.toList.length = i'.size := Nat.eq_of_beq_eq_true h2; obtain ⟨cs, g1, n1, lg1, c1, c2, e1, he1, _⟩ := run_bind (N4' _ _ _) _ he; clear he
  have hzs : z.cells.size = i'.size := by simpa using h2
  obtain ⟨vs, hf, hv, rfl, rfl⟩ := ER' (N := N) parts vparts.toList _ _ _ (VRs.rep z.cells.toList len) hm hp e1; obtain ⟨hn, he2⟩ := BX' he1; obtain ⟨rfl, rfl, rfl⟩ := AB' he2; have hnew := DI' (e := e) (n := n1) r hn (hfr n1 (Nat.le_refl _) ω) hv []; rw [List.append_nil] at hnew
  have hlen : vs.length = len * i'.size := by
   have hl : ∀ (ps : List (Nat × Value)) (x y : Array Value) pl, Instr.fill pl x ps = some y -> y.size = x.size := by
    intro ps
    induction ps with
    | nil => intro x y pl hh; simp only [Instr.fill, Option.some.injEq] at hh; rw [hh]
    | cons p ps ih =>
     intro x y pl hh; obtain ⟨pi, pv⟩ := p; simp only [Instr.fill] at hh; split at hh
     ·cases hh
     ·split at hh
      ·cases hh
      ·rw [ih _ _ _ hh]; rename_i off size _ _
       have : ∀ (l : List (Value × Nat)) (a : Array Value), (l.foldl (fun cs x => cs.setIfInBounds (off + x.2) x.1) a).size = a.size := by
        intro l
        induction l with
        | nil => intro a; rfl
        | cons q l ih2 => intro a; rw [List.foldl_cons, ih2]; simp
       rw [<- Array.foldl_toList]; exact this _ _
   have := hl _ _ _ _ hf; simp only [List.size_toArray, CU'] at this; rw [this, h2]
  refine ⟨_, _, .slice (some ⟨w.heap.size, 0, none⟩) len len, ?_, hnew, Ext.put, ?_⟩
  ·have hne : ¬ (len * i'.size > 2 ^ 24) := by simpa using h1
   by_cases hl0 : len * i'.size = 0
   ·have hl1 : len = 0 := by rcases Nat.mul_eq_zero.1 hl0 with h | h; exact h; omega
    subst hl1; have hf' : Instr.fill (fun i => some (i * i'.size, i'.size)) #[] vparts.toList = some vs.toArray := hf
    have hr0 : ∀ f : Nat -> Value, (Array.range 0).map f = #[] := fun f => by simp
    simp [Instr.buildSlice, Sem.run_bind, hdr, C0' hE hi, hr0, hf', newRow]
   ·have hcells := IG' z.cells len; rw [hzs] at hcells
    have hf' : Instr.fill (fun i => some (i * i'.size, i'.size)) ((Array.range (len * i'.size)).map (fun j => z.cells[j % z.cells.size]!)) vparts.toList = some vs.toArray := by rw [hzs, hcells]; exact hf
    simp only [Instr.buildSlice, Sem.run_bind, hdr, Result.andThen_ok, C0' hE hi, hne, hl0, if_false, EH' hE hi hz, Sem.run_pure, hf']; simp [newRow]
  ·simp only [VR]
   exact ⟨_, 0, len, A9'.put_same, rfl, .inl rfl, by simp [hlen], rfl, Nat.le_refl _⟩
 | _ => exact (A4' he).elim
theorem JI' (hE : EnvOk P E) {x : AV} {v : Value} {j : Nat} (hx : VR N x v) (he : (IZ' E t x j).run st h n lg = .ok a h' n' lg' c) :
  ∃ y, (Instr.fieldAt t v j).run P w = .ok y w /\ VR N a y /\ h' = h /\ n' = n := by
 unfold IZ' at he; obtain ⟨d, hd, he⟩ := AN' he; have hdr := B7' hE hd
 cases d with
 | struct fs =>
  cases x with
  | ptr i off =>
   simp only [VR] at hx; obtain ⟨l, hl, rfl⟩ := hx; obtain ⟨f, hf, he⟩ := BK' he; obtain ⟨ti, hti, he⟩ := B3' he; obtain ⟨h0, he⟩ := A8' he
   have h0 : 0 < ti.size := by simpa [bl'] using h0
   obtain ⟨rfl, rfl, rfl⟩ := A7' he
   refine ⟨.pointer (some ⟨l.blk, l.off + (off + f.offset), none⟩), ?_, by simp only [VR]; exact ⟨l, hl, rfl⟩, rfl, rfl⟩
   have hne : ¬ ti.size = 0 := ω
   simp [Instr.fieldAt, Sem.run_bind, hdr, hf, Instr.sureAddr, fieldPlace, C0' hE hti, hne, D4', Nat.add_assoc]
  | v x =>
   cases x with
   | pointer a1 =>
    cases a1 with
    | none => exact (A4' he).elim
    | some a0 =>
     obtain ⟨f, hf, he⟩ := BK' he; obtain ⟨ti, hti, he⟩ := B3' he; obtain ⟨h0, he⟩ := A8' he
     have h0 : 0 < ti.size := by simpa [bl'] using h0
     obtain ⟨rfl, rfl, rfl⟩ := A7' he; rw [VR_v] at hx; subst hx; refine ⟨.pointer (some (a0.add f.offset)), ?_, VR_v.2 rfl, rfl, rfl⟩
     have hne : ¬ ti.size = 0 := ω
     simp [Instr.fieldAt, Sem.run_bind, hdr, hf, Instr.sureAddr, fieldPlace, C0' hE hti, hne]
   | _ => exact (A4' he).elim
  | _ => exact (A4' he).elim
 | _ => exact (A4' he).elim
theorem JH' (hE : EnvOk P E) {x ix : AV} {v vi : Value} (hx : VR N x v) (hix : VR N ix vi) (he : (IY' E t x ix).run st h n lg = .ok a h' n' lg' c) (hc : c.holds) :
  ∃ y, (Instr.indexAt t v vi).run P w = .ok y w /\ VR N a y /\ h' = h /\ n' = n := by
 unfold IY' at he; obtain ⟨k, m, rfl, he⟩ := CZ' he; rw [VR_v] at hix; subst hix; obtain ⟨d, hd, he⟩ := AN' he; have hdr := B7' hE hd
 cases d with
 | array len e =>
  cases x with
  | ptr i off =>
   simp only [VR] at hx; obtain ⟨l, hl, rfl⟩ := hx; obtain ⟨hlt, _, he, hc⟩ := AI' he hc
   have hlt : m < len := by simpa [bl'] using hlt
   obtain ⟨ti, hti, he⟩ := B3' he; obtain ⟨rfl, rfl, rfl⟩ := A7' he
   refine ⟨.pointer (some ⟨l.blk, l.off + (off + m * ti.size), none⟩), ?_, by simp only [VR]; exact ⟨l, hl, rfl⟩, rfl, rfl⟩
   have hb : (0 : Int) <= Int.ofNat m /\ Int.ofNat m < (len : Int) := ⟨Int.natCast_nonneg m, Int.ofNat_lt.2 hlt⟩; simp [Instr.indexAt, asIntOf, Sem.run_bind, hdr, Instr.sureAddr, C0' hE hti, hb, D4', Nat.add_assoc, hlt]
  | v z =>
   rw [VR_v] at hx; subst hx
   cases v with
   | pointer o =>
    cases o with
    | some ad =>
     obtain ⟨hlt, _, he, hc⟩ := AI' he hc
     have hlt : m < len := by simpa [bl'] using hlt
     obtain ⟨ti, hti, he⟩ := B3' he; obtain ⟨rfl, rfl, rfl⟩ := A7' he; have hb : (0 : Int) <= Int.ofNat m /\ Int.ofNat m < (len : Int) := ⟨Int.natCast_nonneg m, Int.ofNat_lt.2 hlt⟩; refine ⟨.pointer (some (ad.add (m * ti.size))), ?_, VR_v.2 rfl, rfl, rfl⟩; simp [Instr.indexAt, asIntOf, Sem.run_bind, hdr, Instr.sureAddr, C0' hE hti, hb, hlt]
    | none => exact (A4' he).elim
   | _ => exact (A4' he).elim
  | _ => exact (A4' he).elim
 | slice e =>
  cases x with
  | slice i off len sz cap =>
   simp only [VR] at hx; obtain ⟨l, xo, cp, hl, rfl, hxo, hroom, hcap, hlc⟩ := hx; obtain ⟨hlt, _, he, hc⟩ := AI' he hc
   have hlt : m < len := by simpa [bl'] using hlt
   obtain ⟨ti, hti, he⟩ := B3' he; obtain ⟨hsz, he⟩ := A8' he; have hsz : sz = ti.size := Nat.eq_of_beq_eq_true hsz; subst hsz; obtain ⟨rfl, rfl, rfl⟩ := A7' he
   have hxo : xo = l.off + off := by rcases hxo with h | h; exact h; omega
   subst hxo
   refine ⟨.pointer (some ⟨l.blk, l.off + (off + m * ti.size), none⟩), ?_, by simp only [VR]; exact ⟨l, hl, rfl⟩, rfl, rfl⟩
   simp [Instr.indexAt, asIntOf, Sem.run_bind, hdr, C0' hE hti, D4', Nat.add_assoc, hlt]
  | v z =>
   rw [VR_v] at hx; subst hx
   cases v with
   | slice o len cp =>
    cases o with
    | some ad =>
     obtain ⟨hlt, _, he, hc⟩ := AI' he hc
     have hlt : m < len := by simpa [bl'] using hlt
     obtain ⟨ti, hti, he⟩ := B3' he; obtain ⟨rfl, rfl, rfl⟩ := A7' he; refine ⟨.pointer (some (ad.add (m * ti.size))), ?_, VR_v.2 rfl, rfl, rfl⟩; simp [Instr.indexAt, asIntOf, Sem.run_bind, hdr, C0' hE hti, hlt]
    | none => exact (A4' he).elim
   | _ => exact (A4' he).elim
  | _ => exact (A4' he).elim
 | _ => exact (A4' he).elim
end
end Go.Proofs.YtnnojnlejlokhaaGreatDoor.Eng
