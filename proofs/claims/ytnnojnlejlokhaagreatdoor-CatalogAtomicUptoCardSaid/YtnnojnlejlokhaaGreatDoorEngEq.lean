/- The engine's == does what the model's does. No program. -/
import Derived.Test.YtnnojnlejlokhaaGreatDoorEngMem4
import Derived.LaidEql
set_option linter.unusedVariables false
set_option linter.unusedSimpArgs false
namespace Go.Proofs.YtnnojnlejlokhaaGreatDoor.Eng
open Go Go.RowKit
variable {t e : TypeId}
section
variable {P : Program} {E : Env} {W0 w : World} {N : A9'} {F : HP} {st : Bool} {h h' : T} {n n' : Nat} {lg lg' : Log} {c : Cnd}
theorem I3' (hd : P.underlying t = some (.pointer e)) (a : Addr) (w : World) : (Op.equal t (.pointer (some a)) (.pointer none)).run P w = .ok false w /\ (Op.equal t (.pointer none) (.pointer (some a))).run P w = .ok false w := by
 have h1 : ∀ m, (Op.equalIn (m + 1) t (.pointer (some a)) (.pointer none)).run P w = .ok false w := fun m => by
  simp only [Op.equalIn, Sem.run_bind, run_underlying hd, Result.andThen_ok, Sem.run_pure]
 have h2 : ∀ m, (Op.equalIn (m + 1) t (.pointer none) (.pointer (some a))).run P w = .ok false w := fun m => by
  simp only [Op.equalIn, Sem.run_bind, run_underlying hd, Result.andThen_ok, Sem.run_pure]; rfl
 exact ⟨h1 9999, h2 9999⟩
theorem G7' (hd : P.underlying t = some (.slice e)) (a : Addr) (l c l' c' : Nat) (w : World) : (Op.equal t (.slice (some a) l c) (.slice none l' c')).run P w = .ok false w /\ (Op.equal t (.slice none l' c') (.slice (some a) l c)).run P w = .ok false w := by
 have h1 : ∀ m, (Op.equalIn (m + 1) t (.slice (some a) l c) (.slice none l' c')).run P w = .ok false w := fun m => by
  simp only [Op.equalIn, Sem.run_bind, run_underlying hd, Result.andThen_ok, Sem.run_pure]
 have h2 : ∀ m, (Op.equalIn (m + 1) t (.slice none l' c') (.slice (some a) l c)).run P w = .ok false w := fun m => by
  simp only [Op.equalIn, Sem.run_bind, run_underlying hd, Result.andThen_ok, Sem.run_pure]; rfl
 exact ⟨h1 9999, h2 9999⟩
theorem I4' {k : TypeId} (hd : P.underlying t = some (.map k e)) (a : Nat) (w : World) : (Op.equal t (.map (some a)) (.map none)).run P w = .ok false w /\ (Op.equal t (.map none) (.map (some a))).run P w = .ok false w := by
 have h1 : ∀ m, (Op.equalIn (m + 1) t (.map (some a)) (.map none)).run P w = .ok false w := fun m => by
  simp only [Op.equalIn, Sem.run_bind, run_underlying hd, Result.andThen_ok, Sem.run_pure]
 have h2 : ∀ m, (Op.equalIn (m + 1) t (.map none) (.map (some a))).run P w = .ok false w := fun m => by
  simp only [Op.equalIn, Sem.run_bind, run_underlying hd, Result.andThen_ok, Sem.run_pure]; rfl
 exact ⟨h1 9999, h2 9999⟩
theorem G9' {ms : Array (String × TypeId)} (hd : P.underlying t = some (.interface ms)) (u : TypeId) (v : Value) (w : World) : (Op.equal t (.iface u v) .nilIface).run P w = .ok false w /\ (Op.equal t .nilIface (.iface u v)).run P w = .ok false w := by
 have h1 : ∀ m, (Op.equalIn (m + 1) t (.iface u v) .nilIface).run P w = .ok false w := fun m => by
  simp only [Op.equalIn, Sem.run_bind, run_underlying hd, Result.andThen_ok, Sem.run_pure]
 have h2 : ∀ m, (Op.equalIn (m + 1) t .nilIface (.iface u v)).run P w = .ok false w := fun m => by
  simp only [Op.equalIn, Sem.run_bind, run_underlying hd, Result.andThen_ok, Sem.run_pure]
 exact ⟨h1 9999, h2 9999⟩
theorem GV' {ps rs : Array TypeId} {va : Bool} (hd : P.underlying t = some (.func ps rs va)) (fn : Fn) (f c : Array Value) (w : World) : (Op.equal t (.func fn f c) .nilFunc).run P w = .ok false w /\ (Op.equal t .nilFunc (.func fn f c)).run P w = .ok false w := by
 have h1 : ∀ m, (Op.equalIn (m + 1) t (.func fn f c) .nilFunc).run P w = .ok false w := fun m => by
  simp only [Op.equalIn, Sem.run_bind, run_underlying hd, Result.andThen_ok, Sem.run_pure]
 have h2 : ∀ m, (Op.equalIn (m + 1) t .nilFunc (.func fn f c)).run P w = .ok false w := fun m => by
  simp only [Op.equalIn, Sem.run_bind, run_underlying hd, Result.andThen_ok, Sem.run_pure]
 exact ⟨h1 9999, h2 9999⟩
theorem GU' (hd : P.underlying t = some (.pointer e)) {ti : TypeInfo} (hi : P.info? e = some ti) (h0 : 0 < ti.size) (b o o' : Nat) (w : World) : (Op.equal t (.pointer (some ⟨b, o, none⟩)) (.pointer (some ⟨b, o', none⟩))).run P w = .ok (Nat.beq o o') w := by
 have hs : (sizeOf e).run P w = .ok ti.size w := by simp [sizeOf, typeInfo, hi]
 have hne : ti.size ≠ 0 := ω
 have hb : ((⟨b, o, none⟩ : Addr) == ⟨b, o', none⟩) = Nat.beq o o' := by
  rw [Bool.eq_iff_iff]; simp
 have h1 : ∀ m, (Op.equalIn (m + 1) t (.pointer (some ⟨b, o, none⟩)) (.pointer (some ⟨b, o', none⟩))).run P w = .ok (Nat.beq o o') w := fun m => by
  simp only [Op.equalIn, Sem.run_bind, run_underlying hd, Result.andThen_ok, hs, if_pos hne, sameAddr, beq_self_eq_true, if_true, Sem.run_pure, hb]
 exact h1 9999
theorem G8' (hd : P.underlying t = some (.pointer e)) {ti : TypeInfo} (hi : P.info? e = some ti) (h0 : 0 < ti.size) {a b : Addr} (hne : a ≠ b) {ca cb : Array Value} {ta tb : TypeId}
  (ha : w.heap[a.block]? = some (.cells ca ta (0, 0))) (hb : w.heap[b.block]? = some (.cells cb tb (0, 0))) : (Op.equal t (.pointer (some a)) (.pointer (some b))).run P w = .ok false w := by
 have hs : (sizeOf e).run P w = .ok ti.size w := by simp [sizeOf, typeInfo, hi]
 have hne0 : ti.size ≠ 0 := ω
 have hsame := run_sameAddr_other (P := P) (w := w) hne ha hb
 have h1 : ∀ m, (Op.equalIn (m + 1) t (.pointer (some a)) (.pointer (some b))).run P w = .ok false w := fun m => by
  simp only [Op.equalIn, Sem.run_bind, run_underlying hd, Result.andThen_ok, hs, if_pos hne0, hsame]
 exact h1 9999
def KC' : Value -> Bool
 | .pointer _ | .slice .. | .map _ | .iface .. | .nilIface | .func .. | .nilFunc => true
 | _ => false
theorem J9' (hE : EnvOk P E) (r : Rep W0 N F h w) {x y : AV} {vx vy : Value} {b : Bool} (hx : VR N x vx) (hy : VR N y vy) (he : (LX' E t x y).run st h n lg = .ok b h' n' lg' c) :
  (Op.equal t vx vy).run P w = .ok b w /\ h' = h /\ n' = n /\ KC' vx = true /\ KC' vy = true /\ ¬ (vx = .nilIface /\ vy = .nilIface) := by
 unfold LX' at he; obtain ⟨d, hd, he1⟩ := AN' he; clear he; have hu := hE.under hd; split at he1
 ·obtain ⟨rfl, rfl, rfl⟩ := A7' he1; simp only [VR] at hx hy; obtain ⟨l, _, rfl⟩ := hx; subst hy
  exact ⟨(I3' hu _ w).1, rfl, rfl, rfl, rfl, by simp⟩
 ·obtain ⟨rfl, rfl, rfl⟩ := A7' he1; simp only [VR] at hx hy; obtain ⟨l, _, rfl⟩ := hy; subst hx
  exact ⟨(I3' hu _ w).2, rfl, rfl, rfl, rfl, by simp⟩
 ·rename_i e i a j b'; obtain ⟨ti, hti, he3⟩ := B3' he1; obtain ⟨g2, he4⟩ := A8' he3; clear he1 he3
  have g2 : 0 < ti.size := by simpa [Nat.blt_eq] using g2
  simp only [VR] at hx hy; obtain ⟨l, hl, rfl⟩ := hx; obtain ⟨l', hl', rfl⟩ := hy
  cases g1 : Nat.beq i j with
  | true =>
   rw [g1] at he4; obtain ⟨rfl, rfl, rfl⟩ := A7' he4; have g1 : i = j := Nat.eq_of_beq_eq_true g1; subst g1; obtain rfl : l' = l := Option.some.inj (hl'.symm.trans hl); have := GU' hu (hE.info _ _ hti) g2 l'.blk (l'.off + a) (l'.off + b') w
   have hb : Nat.beq (l'.off + a) (l'.off + b') = Nat.beq a b' := by
    rw [Bool.eq_iff_iff]; simp
   rw [hb] at this
   exact ⟨this, rfl, rfl, rfl, rfl, by simp⟩
  | false =>
   rw [g1] at he4
   have g1 : i ≠ j := fun e => by subst e; rw [Nat.beq_refl] at g1; cases g1
   obtain ⟨cs1, e1, hf1, he5⟩ := BL' he4; obtain ⟨cs2, e2, hf2, he6⟩ := BL' he5; obtain ⟨g3, he7⟩ := A8' he6; obtain ⟨g4, he8⟩ := A8' he7; obtain ⟨rfl, rfl, rfl⟩ := A7' he8; have g3 : e1 % 2 = 0 := Nat.eq_of_beq_eq_true g3; have g4 : e2 % 2 = 0 := Nat.eq_of_beq_eq_true g4; obtain ⟨D0, D, _, q2, q3⟩ := r.sat; obtain ⟨l1, arr1, fz1, row1, d1⟩ := (q2 i _ hf1).1.row; obtain ⟨l2, arr2, fz2, row2, d2⟩ := (q2 j _ hf2).1.row; obtain rfl : l1 = l := Option.some.inj (row1.name.symm.trans hl); obtain rfl : l2 = l' := Option.some.inj (row2.name.symm.trans hl')
   have hne : l1.blk ≠ l2.blk := fun e => q3 i j _ _ hf1 hf2 g1 l1.blk ((d1 _).2 rfl) ((d2 _).2 e)
   have h1 := row1.heap; have h2 := row2.heap; rw [(row1.plain g3).2] at h1; rw [(row2.plain g4).2] at h2; have := G8' hu (hE.info _ _ hti) g2 (a := ⟨l1.blk, l1.off + a, none⟩) (b := ⟨l2.blk, l2.off + b', none⟩) (fun e => hne (congrArg Addr.block e)) h1 h2
   exact ⟨this, rfl, rfl, rfl, rfl, by simp⟩
 ·obtain ⟨rfl, rfl, rfl⟩ := A7' he1; simp only [VR] at hx hy; obtain ⟨l, _, _, _, rfl, _⟩ := hx; subst hy
  exact ⟨(G7' hu _ _ _ _ _ w).1, rfl, rfl, rfl, rfl, by simp⟩
 ·obtain ⟨rfl, rfl, rfl⟩ := A7' he1; simp only [VR] at hx hy; obtain ⟨l, _, _, _, rfl, _⟩ := hy; subst hx
  exact ⟨(G7' hu _ _ _ _ _ w).2, rfl, rfl, rfl, rfl, by simp⟩
 ·obtain ⟨rfl, rfl, rfl⟩ := A7' he1; simp only [VR] at hx hy; obtain ⟨l, _, rfl⟩ := hx; subst hy
  exact ⟨(I4' hu _ w).1, rfl, rfl, rfl, rfl, by simp⟩
 ·obtain ⟨rfl, rfl, rfl⟩ := A7' he1; simp only [VR] at hx hy; obtain ⟨l, _, rfl⟩ := hy; subst hx
  exact ⟨(I4' hu _ w).2, rfl, rfl, rfl, rfl, by simp⟩
 ·obtain ⟨rfl, rfl, rfl⟩ := A7' he1; simp only [VR] at hx hy; obtain ⟨l, _, rfl⟩ := hx; subst hy
  exact ⟨(G9' hu _ _ w).1, rfl, rfl, rfl, rfl, by simp⟩
 ·obtain ⟨rfl, rfl, rfl⟩ := A7' he1; simp only [VR] at hx hy; obtain ⟨l, _, rfl⟩ := hy; subst hx
  exact ⟨(G9' hu _ _ w).2, rfl, rfl, rfl, rfl, by simp⟩
 ·obtain ⟨rfl, rfl, rfl⟩ := A7' he1; simp only [VR] at hx hy; obtain ⟨_, _, _, _, rfl⟩ := hx; subst hy
  exact ⟨(GV' hu _ _ _ w).1, rfl, rfl, rfl, rfl, by simp⟩
 ·obtain ⟨rfl, rfl, rfl⟩ := A7' he1; simp only [VR] at hx hy; obtain ⟨_, _, _, _, rfl⟩ := hy; subst hx
  exact ⟨(GV' hu _ _ _ w).2, rfl, rfl, rfl, rfl, by simp⟩
 ·exact (A4' he1).elim
end
end Go.Proofs.YtnnojnlejlokhaaGreatDoor.Eng
