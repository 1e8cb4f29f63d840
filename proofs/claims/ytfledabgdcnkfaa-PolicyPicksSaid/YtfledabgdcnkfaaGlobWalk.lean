/- The walk of policy.Glob: it tells whether the pattern matches. -/
import Derived.Test.YtfledabgdcnkfaaRows
import Derived.Test.YtfledabgdcnkfaaGlobLaw
import Derived.WalkKit
import Derived.WalkSpells
import Derived.WalkLawsBesides
import Derived.Deep.QuietTactic
import Derived.BigQuiet
import Derived.Lib.Hide
set_option linter.unusedVariables false
set_option linter.unusedSimpArgs false
namespace Go.Proofs.Ytfledabgdcnkfaa
open Go.RowKit
namespace Glob

theorem get_data (p : ByteArray) (i : Nat) (h : i < p.size) : p.data.toList[i]'(by simpa using h) = p[i] := rfl

theorem ne42 {c : UInt8} (h : ((c.toNat : Int) == 42) = false) : c ≠ 42 := by
  rintro rfl; exact absurd h (by decide)
theorem eq42 {c : UInt8} (h : ((c.toNat : Int) == 42) = true) : c = 42 := by
  have : c.toNat = 42 := by have := beq_iff_eq.1 h; omega
  exact UInt8.toNat.inj (b := 42) this
theorem eq63 {c : UInt8} (h : ((c.toNat : Int) == 63) = true) : (c == 63) = true := by
  have : c.toNat = 63 := by have := beq_iff_eq.1 h; omega
  rw [UInt8.toNat.inj (a := c) (b := 63) this]; rfl
theorem ne63 {c : UInt8} (h : ((c.toNat : Int) == 63) = false) : (c == 63) = false := by
  rw [beq_eq_false_iff_ne]; rintro rfl; exact absurd h (by decide)
theorem eqB {c d : UInt8} (h : ((c.toNat : Int) == (d.toNat : Int)) = true) : (c == d) = true := by
  have : c.toNat = d.toNat := by have := beq_iff_eq.1 h; omega
  rw [UInt8.toNat.inj this, beq_self_eq_true]
theorem neB {c d : UInt8} (h : ((c.toNat : Int) == (d.toNat : Int)) = false) : (c == d) = false := by
  rw [beq_eq_false_iff_ne]; rintro rfl; simp at h

/-- The relation of the first loop. -/
def Rel1 (p t : ByteArray) (w : World) (vp vt vs vb : Value) (wr : World) : Prop :=
  ∃ (i j : Nat) (s : Int) (b : Nat), Inv p.data.toList t.data.toList i j s b ∧ vp = .int .i64 i ∧ vt = .int .i64 j ∧ vs = .int .i64 s ∧ vb = .int .i64 b ∧ ∃ n, wr = w.drewN n

theorem rel1 {p t : ByteArray} {w : World} {i j : Nat} {s : Int} {b : Nat} (h : Inv p.data.toList t.data.toList i j s b) (n : Nat) :
    Rel1 p t w (.int .i64 i) (.int .i64 j) (.int .i64 s) (.int .i64 b) (w.drewN n) := ⟨i, j, s, b, h, rfl, rfl, rfl, rfl, n, rfl⟩

theorem rel1' {p t : ByteArray} {w w' : World} {vp vt vs vb : Value} {i j : Nat} {s : Int} {b : Nat} (h : Inv p.data.toList t.data.toList i j s b)
    (h1 : vp = .int .i64 i) (h2 : vt = .int .i64 j) (h3 : vs = .int .i64 s) (h4 : vb = .int .i64 b) (h5 : ∃ n, w' = w.drewN n) :
    Rel1 p t w vp vt vs vb w' := ⟨i, j, s, b, h, h1, h2, h3, h4, h5⟩

/-- The relation of the second loop. -/
def Rel2 (p t : ByteArray) (w : World) (vp : Value) (wr : World) : Prop :=
  ∃ i : Nat, i ≤ p.size ∧ vp = .int .i64 i ∧ gm p.data.toList t.data.toList = (p.data.toList.drop i).all (· == 42) ∧ ∃ n, wr = w.drewN n

def Post (p t : ByteArray) (w : World) (e : Ending) (w' : World) : Prop :=
  e = .returned (.bool (gm p.data.toList t.data.toList)) ∧ ∃ n, w' = w.drewN n

def mu1 (p t : ByteArray) (vp vb : Value) : Nat := (t.size - (intOf vb).toNat) * (p.size + 1) + (p.size - (intOf vp).toNat)

theorem mu1_lt {p t : ByteArray} {i i' b b' : Nat} (hb : b < b') (hb' : b' ≤ t.size) (_hi : i' ≤ p.size) :
    mu1 p t (.int .i64 i') (.int .i64 b') < mu1 p t (.int .i64 i) (.int .i64 b) := by
  simp only [mu1, intOf, Int.toNat_natCast]
  have h1 : t.size - b = (t.size - b') + (b' - b) := by omega
  have h2 : (t.size - b) * (p.size + 1) = (t.size - b') * (p.size + 1) + (b' - b) * (p.size + 1) := by rw [h1, Nat.add_mul]
  have h3 : 1 * (p.size + 1) ≤ (b' - b) * (p.size + 1) := Nat.mul_le_mul_right _ (by omega)
  omega
theorem mu1_same {p t : ByteArray} {i i' b : Nat} (h : i < i') (hi' : i' ≤ p.size) :
    mu1 p t (.int .i64 i') (.int .i64 b) < mu1 p t (.int .i64 i) (.int .i64 b) := by
  simp only [mu1, intOf, Int.toNat_natCast]
  omega
theorem mu1_star {p t : ByteArray} {i j b : Nat} (hb : b ≤ j) (hj : j ≤ t.size) (hi : i < p.size) :
    mu1 p t (.int .i64 (i + 1 : Nat)) (.int .i64 j) < mu1 p t (.int .i64 i) (.int .i64 b) := by
  by_cases h : b = j
  · subst h; exact mu1_same (by omega) (by omega)
  · exact mu1_lt (by omega) hj (by omega)

set_option maxHeartbeats 400000 in
theorem glob_calls (p t : ByteArray) (w : World) (hp : p.size ≤ maxLen) (ht : t.size ≤ maxLen) :
    Calls Try.prog 10 #[.string p, .string t] w (Post p t w) := by
  unfold maxLen at hp ht
  go_enter Try.func10, Try.ntmps10
  go_wp2
  go_loopw [5, 6, 7, 8] (fun vp vt vs vb wr => Rel1 p t w vp vt vs vb wr) (fun vp vt vs vb wr => mu1 p t vp vb)
  case atStart => exact rel1' (inv_start _ _) rfl rfl rfl rfl ⟨0, rfl⟩
  case round =>
    obtain ⟨i, j, s, b, hinv, rfl, rfl, rfl, rfl, n, rfl⟩ := hrel
    have hi : i ≤ p.size := hinv.1
    have hj : j ≤ t.size := hinv.2.1
    have hb : b ≤ j := hinv.2.2.1
    have hs : -1 ≤ s := hinv.2.2.2.1
    have hsi : s < i := hinv.2.2.2.2.1
    by_cases hjt : j < t.size
    · by_cases hip : i < p.size
      · rcases Bool.eq_false_or_eq_true ((p[i].toNat : Int) == 42) with h42 | h42
        · go_wp2
          exact ⟨rel1' (inv_star hinv hip (by rw [get_data p i hip]; exact eq42 h42)) rfl rfl rfl rfl ⟨n, rfl⟩, mu1_star hb hj hip⟩
        · have hno := ne42 h42
          rcases Bool.eq_false_or_eq_true ((p[i].toNat : Int) == 63) with h63 | h63
          · have hst := inv_step hinv hip hjt hno (by rw [get_data p i hip, eq63 h63, Bool.true_or])
            go_wp2
            go_quiet (fail)
            go_wp2
            exact ⟨rel1' hst rfl rfl rfl rfl ⟨_, rfl⟩, mu1_same (i' := i + 1) (by omega) (by omega)⟩
          · rcases Bool.eq_false_or_eq_true ((p[i].toNat : Int) == (t[j].toNat : Int)) with hpt | hpt
            · have hst := inv_step hinv hip hjt hno (by rw [get_data p i hip, get_data t j hjt, eqB hpt, Bool.or_true])
              go_wp2
              go_quiet (fail)
              go_wp2
              exact ⟨rel1' hst rfl rfl rfl rfl ⟨_, rfl⟩, mu1_same (i' := i + 1) (by omega) (by omega)⟩
            · have hbad : ∀ hi : i < p.data.toList.length, p.data.toList[i] ≠ 42 ∧ (p.data.toList[i] == 63 || p.data.toList[i] == t.data.toList[j]) = false := fun _ =>
                ⟨hno, by rw [get_data p i hip, get_data t j hjt, ne63 h63, neB hpt]; rfl⟩
              by_cases hs0 : 0 ≤ s
              · obtain ⟨q, rfl, hback, hq⟩ := inv_back hinv hjt hs0 hbad
                go_wp2
                go_quiet (fail)
                go_wp2
                exact ⟨rel1' hback rfl rfl rfl rfl ⟨_, rfl⟩, mu1_lt (b' := b + 1) (i' := q + 1) (by omega) (by omega) hq⟩
              · have hfin := inv_none hinv hjt (by omega) hbad
                have HF := Lib.hid hfin
                clear hfin hbad
                go_wp2
                go_quiet (fail)
                go_wp2
                go_ret
                exact ⟨by rw [HF.out]; rfl, _, rfl⟩
      · have hip' : decide ((i : Int) < (p.size : Int)) = false := by simp; omega
        have hbad : ∀ hi : i < p.data.toList.length, p.data.toList[i] ≠ 42 ∧ (p.data.toList[i] == 63 || p.data.toList[i] == t.data.toList[j]) = false := fun h => absurd h hip
        by_cases hs0 : 0 ≤ s
        · obtain ⟨q, rfl, hback, hq⟩ := inv_back hinv hjt hs0 hbad
          clear hbad
          go_wp2
          go_quiet (fail)
          go_wp2
          exact ⟨rel1' hback rfl rfl rfl rfl ⟨_, rfl⟩, mu1_lt (b' := b + 1) (i' := q + 1) (by omega) (by omega) hq⟩
        · have hfin := inv_none hinv hjt (by omega) hbad
          have HF := Lib.hid hfin
          clear hfin hbad
          go_wp2
          go_quiet (fail)
          go_wp2
          go_ret
          exact ⟨by rw [HF.out]; rfl, _, rfl⟩
    · have hend := inv_end hinv (show j = t.data.toList.length by have : t.data.toList.length = t.size := rfl; omega)
      have HE := Lib.hid hend
      clear hend hinv
      go_wp2
      go_loopw [5] (fun vp wr => Rel2 p t w vp wr) (fun vp wr => p.size - (intOf vp).toNat)
      case atStart => exact ⟨i, hi, rfl, HE.out, n, rfl⟩
      case round =>
        clear HE hi hsi
        obtain ⟨i, hi, rfl, hgm, n, rfl⟩ := hrel
        by_cases hip : i < p.size
        · rcases Bool.eq_false_or_eq_true ((p[i].toNat : Int) == 42) with h42 | h42
          · have hnext : gm p.data.toList t.data.toList = (p.data.toList.drop (i + 1)).all (· == 42) := by
              have e : p.data.toList.drop i = 42 :: p.data.toList.drop (i + 1) := by
                rw [List.drop_eq_getElem_cons (show i < p.data.toList.length from hip)]
                rw [get_data p i hip, eq42 h42]
              rw [hgm, e]; rfl
            have HN := Lib.hid hnext
            clear hnext hgm
            go_wp2
            exact ⟨⟨i + 1, by omega, rfl, HN.out, n, rfl⟩, by simp [intOf]; omega⟩
          · have hnext : gm p.data.toList t.data.toList = false := by
              have e : p.data.toList.drop i = p[i] :: p.data.toList.drop (i + 1) := List.drop_eq_getElem_cons (show i < p.data.toList.length from hip)
              rw [hgm, e]
              simp [ne42 h42]
            have HN := Lib.hid hnext
            clear hnext hgm
            have hne : ((i : Int) == (p.size : Int)) = false := by rw [beq_eq_false_iff_ne]; omega
            go_wp2
            go_ret
            exact ⟨by rw [HN.out]; rfl, n, rfl⟩
        · obtain rfl : i = p.size := by omega
          have hnext : gm p.data.toList t.data.toList = true := by
            rw [hgm, List.drop_of_length_le (show p.data.toList.length ≤ p.size from Nat.le_refl _)]; rfl
          have HN := Lib.hid hnext
          clear hnext hgm
          go_wp2
          go_ret
          exact ⟨by rw [HN.out]; rfl, n, rfl⟩

end Glob
end Go.Proofs.Ytfledabgdcnkfaa
