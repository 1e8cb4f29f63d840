/- The engine's slicing, append, copy and make do what the model does. No program. -/
import Derived.Test.YtnnojnlejlokhaaGreatDoorEngMem2
set_option linter.unusedVariables false
set_option linter.unusedSimpArgs false
namespace Go.Proofs.YtnnojnlejlokhaaGreatDoor.Eng
open Go Go.RowKit
open Int renaming ofNat -> o'
open Nat renaming le_of_ble_eq_true -> ble'
variable {m : Nat} {x : AV} {v : Value}
def VRo (N : A9') : Option AV -> Option Value -> Prop
 | none, none => True
 | some a, some v => VR N a v
 | _, _ => False
section
variable {P : Program} {E : Env} {W0 w : World} {N : A9'} {F : HP} {st : Bool} {h h' : T} {n n' : Nat} {lg lg' : Log} {c : Cnd}
theorem BU' {α : Type} {r : α} {d : Nat} {o : Option AV} {f : Nat -> AP α} (he : (EA' d o >>= f).run st h n lg = .ok r h' n' lg' c) :
  ∃ m, ((o = none /\ m = d) \/ ∃ k, o = some (.v (.int k (o' m)))) /\ (f m).run st h n lg = .ok r h' n' lg' c := by
 cases o with
 | none => exact ⟨d, .inl ⟨rfl, rfl⟩, he⟩
 | some x =>
  obtain ⟨k, m, rfl, he⟩ := CZ' he; exact ⟨m, .inr ⟨k, rfl⟩, he⟩
theorem HQ' {x : Value} {k : IntKind} {y : Nat} {code : BoundsCode} (hx : x = .int k (o' m)) (hm : m <= y) (w : World) : (Instr.sliceBound x y code).run P w = .ok m w := by
 subst hx; simp [Instr.sliceBound, asIntOf, hm]
theorem E5' {b : Bool} {len cap l h : Nat} {lo hi mx : Option AV} {vlo vhi vmx : Option Value} (hlo : VRo N lo vlo) (hhi : VRo N hi vhi) (hmx : VRo N mx vmx)
  (h1 : (hi = none /\ h = len) \/ ∃ k, hi = some (.v (.int k (o' h)))) (h2 : (lo = none /\ l = 0) \/ ∃ k, lo = some (.v (.int k (o' l))))
  (h3 : (mx = none /\ m = cap) \/ ∃ k, mx = some (.v (.int k (o' m)))) (h4 : mx = none \/ hi ≠ none) (h5 : l <= h) (h6 : h <= m) (h7 : m <= cap) (w : World) :
  (Instr.sliceBounds b len cap vlo vhi vmx).run P w = .ok (l, h, m) w := by
 have v : ∀ {k : IntKind} {j : Nat} {o : Option Value}, VRo N (some (.v (.int k (o' j)))) o -> o = some (.int k (o' j)) := fun {k j o} hh => by
  cases o with
  | none => cases hh
  | some y => simp only [VRo, VR] at hh; rw [hh]
 have vn : ∀ {o : Option Value}, VRo N none o -> o = none := fun {o} hh => by cases o with | none => rfl | some y => cases hh
 have L : ∀ {code : BoundsCode} {w : World}, (match vlo with | some v => (do let l <- Instr.sliceBound v h code; pure (l, h, m) : Sem (Nat × Nat × Nat)) | none => do let l <- pure 0; pure (l, h, m)).run P w = .ok (l, h, m) w := by
  intro code w
  rcases h2 with ⟨rfl, rfl⟩ | ⟨k, rfl⟩
  ·rw [vn hlo]; rfl
  ·rw [v hlo]; simp only [Sem.run_bind, HQ' (P := P) rfl h5, Result.andThen_ok, Sem.run_pure]
 rcases h3 with ⟨rfl, rfl⟩ | ⟨k3, rfl⟩
 ·rw [vn hmx]
  rcases h1 with ⟨rfl, rfl⟩ | ⟨k1, rfl⟩
  ·rw [vn hhi]; simp only [Instr.sliceBounds, Sem.run_bind, Sem.run_pure, Result.andThen_ok]; exact L
  ·rw [v hhi]; simp only [Instr.sliceBounds, Sem.run_bind, Sem.run_pure, Result.andThen_ok, HQ' (P := P) rfl h6]; exact L
 ·rw [v hmx]
  rcases h1 with ⟨rfl, rfl⟩ | ⟨k1, rfl⟩
  ·rcases h4 with h4 | h4
   ·cases h4
   ·exact absurd rfl h4
  ·rw [v hhi]; simp only [Instr.sliceBounds, Sem.run_bind, Sem.run_pure, Result.andThen_ok, HQ' (P := P) rfl h7, HQ' (P := P) rfl h6]; exact L
theorem P2' (hE : EnvOk P E) (r : Rep W0 N F h w) {t : TypeId} {a : AV} {lo hi mx : Option AV} {vlo vhi vmx : Option Value} (hx : VR N x v) (hlo : VRo N lo vlo) (hhi : VRo N hi vhi) (hmx : VRo N mx vmx)
  (he : (VG' E t x lo hi mx).run st h n lg = .ok a h' n' lg' c) (hc : c.holds) :
  ∃ y, (Instr.sliceAt t v vlo vhi vmx).run P w = .ok y w /\ VR N a y /\ h' = h /\ n' = n := by
 unfold VG' at he; obtain ⟨d, hd, he⟩ := AN' he; have hdr := B7' hE hd
 cases d with
 | slice e =>
  cases x with
  | slice i off len sz cap =>
   simp only [VR] at hx; obtain ⟨l, xo, cp, hl, rfl, hxo, hroom, hcap, hlc⟩ := hx; obtain ⟨hh, a1, he⟩ := BU' he; obtain ⟨ll, a2, he⟩ := BU' he; obtain ⟨mm, a3, he⟩ := BU' he; obtain ⟨ti, hti, he⟩ := B3' he; obtain ⟨g0, he⟩ := A8' he; obtain ⟨g1, he⟩ := A8' he; obtain ⟨g2, _, he, hc⟩ := AI' he hc; obtain ⟨g3, _, he, hc⟩ := AI' he hc; obtain ⟨g4, _, he, hc⟩ := AI' he hc; obtain ⟨rfl, rfl, rfl⟩ := A7' he; have g0 : sz = ti.size := Nat.eq_of_beq_eq_true g0; have g2 := ble' g2; have g3 := ble' g3; have g4 := ble' g4; subst g0
   have hlo' : cap.least <= cp := by cases cap <;> simp only [Cp.fits] at hcap <;> simp only [Cp.least] <;> omega
   have h4' : mx = none \/ hi ≠ none := by
    cases mx with
    | none => exact .inl rfl
    | some x => right; intro hn; rw [hn] at g1; cases g1
   -- the model's own third bound
   obtain ⟨mc, b3, hm1, hm2⟩ : ∃ mc, ((mx = none /\ mc = cp) \/ ∃ k, mx = some (.v (.int k (o' mc)))) /\ mm <= mc /\ mc <= cp /\ (mx ≠ none -> mc = mm) := by
    rcases a3 with ⟨rfl, rfl⟩ | ⟨k, rfl⟩
    ·exact ⟨cp, .inl ⟨rfl, rfl⟩, hlo', Nat.le_refl _, fun h => absurd rfl h⟩
    ·exact ⟨mm, .inr ⟨k, rfl⟩, Nat.le_refl _, by omega, fun _ => rfl⟩
   have hb := E5' (P := P) (b := true) hlo hhi hmx a1 a2 b3 h4' g2 ω hm2.1; refine ⟨.slice (if mc = ll then some ⟨l.blk, xo, none⟩ else (some (⟨l.blk, xo, none⟩ : Addr)).map (·.add (ll * ti.size))) (hh - ll) (mc - ll), ?_, ?_, rfl, rfl⟩
   ·simp only [Instr.sliceAt, Sem.run_bind, hdr, Result.andThen_ok, Instr.slice, hb, C0' hE hti, Sem.run_pure]
   ·simp only [VR]
    have hadd : (if mc = ll then some (⟨l.blk, xo, none⟩ : Addr) else (some (⟨l.blk, xo, none⟩ : Addr)).map (·.add (ll * ti.size))) = some ⟨l.blk, if mc = ll then xo else xo + ll * ti.size, none⟩ := by
     split
     ·rfl
     ·simp [D4']
    rw [hadd]
    refine ⟨l, _, _, hl, rfl, ?_, ?_, ?_, by omega⟩
    ·by_cases hml : mc = ll
     ·right; omega
     ·left
      rw [if_neg hml]
      rcases hxo with h | h
      ·rw [h]; omega
      ·omega
    ·have h1 : ll + (mc - ll) <= cp := ω
     have h2 : (ll + (mc - ll)) * ti.size <= cp * ti.size := Nat.mul_le_mul_right _ h1; rw [Nat.add_mul] at h2; omega
    ·rcases a3 with ⟨rfl, rfl⟩ | ⟨k, rfl⟩
     ·rcases b3 with ⟨_, rfl⟩ | ⟨k, hk⟩
      ·cases cap with
       | ex c0 => simp only [Cp.fits] at hcap ⊢; simp only [Cp.least]; omega
       | lo c0 => simp only [Cp.fits] at hcap ⊢; omega
      ·cases hk
     ·have := hm2.2 (by simp); simp only [Cp.fits]; omega
  | _ => exact (A4' he).elim
 | array k e =>
  cases x with
  | ptr i off =>
   simp only [VR] at hx; obtain ⟨l, hl, rfl⟩ := hx; obtain ⟨hh, a1, he⟩ := BU' he; obtain ⟨ll, a2, he⟩ := BU' he; obtain ⟨mm, a3, he⟩ := BU' he; obtain ⟨ti, hti, he⟩ := B3' he; obtain ⟨g1, he⟩ := A8' he; obtain ⟨g2, _, he, hc⟩ := AI' he hc; obtain ⟨g3, _, he, hc⟩ := AI' he hc; obtain ⟨g4, _, he, hc⟩ := AI' he hc; obtain ⟨cs, e', hf, he⟩ := BL' he; obtain ⟨g5, _, he, hc⟩ := AI' he hc; obtain ⟨rfl, rfl, rfl⟩ := A7' he; have g2 := ble' g2; have g3 := ble' g3; have g4 := ble' g4; have g5 : off + k * ti.size <= cs.length := ble' g5; obtain ⟨D, hO⟩ := r.obj hf; obtain ⟨l', arr, fz, row, _⟩ := hO.row; obtain rfl : l' = l := Option.some.inj (row.name.symm.trans hl); have hcl := row.len
   have h4' : mx = none \/ hi ≠ none := by
    cases mx with
    | none => exact .inl rfl
    | some x => right; intro hn; rw [hn] at g1; cases g1
   have hb := E5' (P := P) (b := false) hlo hhi hmx a1 a2 a3 h4' g2 g3 g4; refine ⟨.slice (some (if mm = ll then (⟨l'.blk, l'.off + off, none⟩ : Addr) else (⟨l'.blk, l'.off + off, none⟩ : Addr).add (ll * ti.size))) (hh - ll) (mm - ll), ?_, ?_, rfl, rfl⟩
   ·simp only [Instr.sliceAt, Sem.run_bind, hdr, Result.andThen_ok, Instr.sureAddr, Sem.run_pure, hb, C0' hE hti]
   ·simp only [VR]
    have hadd : (if mm = ll then (⟨l'.blk, l'.off + off, none⟩ : Addr) else (⟨l'.blk, l'.off + off, none⟩ : Addr).add (ll * ti.size)) = ⟨l'.blk, if mm = ll then l'.off + off else l'.off + off + ll * ti.size, none⟩ := by
     split
     ·rfl
     ·rw [D4']
    rw [hadd]
    refine ⟨l', _, _, hl, rfl, ?_, ?_, ?_, by omega⟩
    ·by_cases hml : mm = ll
     ·right; omega
     ·left; rw [if_neg hml]; omega
    ·have h2 : (ll + (mm - ll)) * ti.size <= k * ti.size := Nat.mul_le_mul_right _ ω; rw [Nat.add_mul] at h2; omega
    ·cases mx <;> rfl
  | _ => exact (A4' he).elim
 | _ => exact (A4' he).elim
theorem GM' (hx : VR N x v) (he : (alen x).run st h n lg = .ok m h' n' lg' c) : (∀ w : World, (Builtin.lenOf v).run P w = .ok m w) /\ h' = h /\ n' = n := by
 unfold alen at he; split at he
 ·obtain ⟨rfl, rfl, rfl⟩ := A7' he; simp only [VR] at hx; obtain ⟨l, xo, cp, hl, rfl, _⟩ := hx
  exact ⟨fun _ => rfl, rfl, rfl⟩
 ·obtain ⟨rfl, rfl, rfl⟩ := A7' he; rw [VR_v] at hx; subst hx
  exact ⟨fun _ => rfl, rfl, rfl⟩
 ·obtain ⟨rfl, rfl, rfl⟩ := A7' he; rw [VR_v] at hx; subst hx
  exact ⟨fun _ => rfl, rfl, rfl⟩
 ·obtain ⟨rfl, rfl, rfl⟩ := A7' he; simp only [VR] at hx; obtain ⟨a, rfl⟩ := hx
  exact ⟨fun _ => rfl, rfl, rfl⟩
 ·obtain ⟨rfl, rfl, rfl⟩ := A7' he; rw [VR_v] at hx; subst hx
  exact ⟨fun _ => rfl, rfl, rfl⟩
 ·exact (A4' he).elim
theorem GY' {E : Env} (hold : ∀ a v, E.W.cell? a = some v -> w.cell? a = some v) (r : Rep W0 N F h w) {sz : Nat} {news : List AV} (hx : VR N x v) (he : (GN' E sz m x).run st h n lg = .ok news h' n' lg' c) (hc : c.holds) :
  ∃ vs, VRs N news vs /\ ((∀ w1 : World, w1.heap = w.heap -> (Builtin.firstCells sz m v).run P w1 = .ok vs.toArray w1)) /\ (vs.length = m * sz \/ (vs = [] /\ ∃ k, x = .v (.slice none 0 k))) /\ h' = h /\ n' = n := by
 unfold GN' at he; split at he
 ·rename_i i off len sz' cap; obtain ⟨g0, he⟩ := A8' he; obtain ⟨g1, _, he, hc⟩ := AI' he hc; obtain ⟨cs, e, hf, he3⟩ := BL' he; have g0 : sz = sz' := Nat.eq_of_beq_eq_true g0; have g1 : m <= len := ble' g1; subst g0; obtain ⟨hl, rfl, rfl, rfl⟩ := UP' he3 hc; obtain ⟨D, hO⟩ := r.obj hf; obtain ⟨l, arr, fz, row, _⟩ := hO.row; simp only [VR] at hx; obtain ⟨l', xo, cp, hl', rfl, hxo, _, _, hlc⟩ := hx; obtain rfl : l = l' := Option.some.inj (row.name.symm.trans hl'); obtain ⟨vs, hv, hvl, hc⟩ := row.span hl
  refine ⟨vs, hv, fun w1 hw1 => ?_, .inl hvl, rfl, rfl⟩
  simp only [Builtin.firstCells]; rw [<- hvl]
  refine run_loadCells_list (P := P) w1 _ vs fun j u hu => ?_
  have hj : j < vs.length := (List.getElem?_eq_some_iff.1 hu).1
  have hm0 : 0 < m := by rcases Nat.eq_zero_or_pos m with h0 | h0; rw [hvl, h0] at hj; omega; exact h0
  have hxo : xo = l.off + off := by rcases hxo with h0 | h0; exact h0; omega
  rw [D4', hxo, <- hc j u hu]; simp only [World.cell?, hw1]
 ·obtain ⟨rfl, rfl, rfl⟩ := A7' he; rw [VR_v] at hx; subst hx
  exact ⟨[], AX', fun _ _ => rfl, .inr ⟨rfl, _, rfl⟩, rfl, rfl⟩
 ·rename_i a len cap; split at he
  ·exact (A4' he).elim
  ·obtain ⟨c1, he1, rfl⟩ := AG' he; obtain ⟨hm, hc1⟩ := (Cnd.and_iff _ _).1 hc; obtain ⟨c2, he2, rfl⟩ := AG' he1; obtain ⟨hall, hc2⟩ := (Cnd.and_iff _ _).1 hc1; obtain ⟨rfl, rfl, rfl⟩ := AB' he2; rw [VR_v] at hx; subst hx
   have hlen : (AM' E.W a (m * sz)).length = m * sz := by simp [AM']
   refine ⟨AM' E.W a (m * sz), VRs.vmap _, fun w1 hw1 => ?_, .inl hlen, rfl, rfl⟩
   simp only [Builtin.firstCells]
   have hcs := run_loadCells_list (P := P) w1 a (AM' E.W a (m * sz)) (fun j u hu => by
    have hj : j < m * sz := by rw [<- hlen]; exact (List.getElem?_eq_some_iff.1 hu).1
    have hs : (E.W.cell? (a.add j)).isSome = true := List.all_eq_true.1 (show ((List.range (m * sz)).all fun j => (E.W.cell? (a.add j)).isSome) = true from hall) j (List.mem_range.2 hj); obtain ⟨y, hy⟩ := Option.isSome_iff_exists.1 hs
    have hu' : u = y := by
     simp only [AM', List.getElem?_map, List.getElem?_range hj, Option.map_some, hy, Option.getD_some, Option.some.injEq] at hu; exact hu.symm
    have h1 := hold _ _ hy; rw [hu']; simp only [World.cell?, hw1] at h1 ⊢
    exact h1)
   rw [hlen] at hcs; exact hcs
 ·obtain ⟨g0, he⟩ := A8' he; obtain ⟨rfl, rfl, rfl⟩ := A7' he; have g0 : m = 0 := Nat.eq_of_beq_eq_true g0; subst g0; simp only [VR] at hx; obtain ⟨a, rfl⟩ := hx
  refine ⟨[], AX', fun w1 _ => ?_, .inl (by simp), rfl, rfl⟩
  cases a with
  | none => simp [Builtin.firstCells]
  | some a =>
   have := run_loadCells_list (P := P) w1 a [] (fun j u hu => by simp at hu); simpa [Builtin.firstCells] using this
 ·rename_i s; obtain ⟨g0, he⟩ := A8' he; obtain ⟨g1, _, he, hc⟩ := AI' he hc; obtain ⟨rfl, rfl, rfl⟩ := A7' he; have g0 : sz = 1 := Nat.eq_of_beq_eq_true g0; have g1 : m <= s.size := ble' g1; subst g0; rw [VR_v] at hx; subst hx
  refine ⟨_, VRs.vmap _, fun w1 _ => ?_, .inl ?_, rfl, rfl⟩
  ·simp only [Builtin.firstCells, Sem.run_pure]
   congr 1
   apply Array.ext'; simp [ByteArray.data_extract, List.extract_eq_take_drop]
  ·have : s.data.toList.length = s.size := rfl; simp [this]; omega
 ·exact (A4' he).elim
end
end Go.Proofs.YtnnojnlejlokhaaGreatDoor.Eng
