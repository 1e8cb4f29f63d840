/- Parts of the proof, merged. -/
import Derived.Test.YtpijbbobejeemaaGreatDoorPcs1
import Derived.Lib.OthersKept
import Derived.Test.YtpijbbobejeemaaGreatDoorEngClosed
import Derived.Lib.Bytes
import Derived.Lib.SmallJoins
/- Http: strings.ContainsAny of two bytes at "+-_". -/
set_option linter.unusedVariables false
set_option linter.unusedSimpArgs false
set_option maxRecDepth 100000
namespace Go.Proofs.YtpijbbobejeemaaGreatDoor.Htp
open Go Go.RowKit
end Go.Proofs.YtpijbbobejeemaaGreatDoor.Htp

/- Http: strings.ContainsAny of two bytes at "+-_": the walk. -/
set_option linter.unusedVariables false
set_option linter.unusedSimpArgs false
set_option maxRecDepth 100000
namespace Go.Proofs.YtpijbbobejeemaaGreatDoor.Htp
open Go Go.RowKit
end Go.Proofs.YtpijbbobejeemaaGreatDoor.Htp

/- Http: unescape: runs. -/
set_option linter.unusedVariables false
set_option linter.unusedSimpArgs false
set_option maxRecDepth 100000
namespace Go.Proofs.YtpijbbobejeemaaGreatDoor.Htp
open Go Go.RowKit Go.Proofs.YtpijbbobejeemaaGreatDoor.Eng Go.Proofs.YtpijbbobejeemaaGreatDoor.Kit
noncomputable section
end
end Go.Proofs.YtpijbbobejeemaaGreatDoor.Htp

/- Http: unescape. -/
set_option linter.unusedVariables false
set_option linter.unusedSimpArgs false
set_option maxRecDepth 100000
namespace Go.Proofs.YtpijbbobejeemaaGreatDoor.Htp
open Go Go.RowKit Go.Proofs.YtpijbbobejeemaaGreatDoor.Eng Go.Proofs.YtpijbbobejeemaaGreatDoor.Kit
end Go.Proofs.YtpijbbobejeemaaGreatDoor.Htp

/- Http: unescape: loop and function. -/
set_option linter.unusedVariables false
set_option linter.unusedSimpArgs false
set_option maxRecDepth 100000
namespace Go.Proofs.YtpijbbobejeemaaGreatDoor.Htp
open Go Go.RowKit Go.Proofs.YtpijbbobejeemaaGreatDoor.Eng Go.Proofs.YtpijbbobejeemaaGreatDoor.Kit
section
variable {W : World} (hW : LW2 W) (h : List UInt8) (R : List (List UInt8)) (hb : R.length ≤ 1100000) (hp : ∀ p ∈ R, p.length ≤ 1100000) (hh : h.length ≤ 1100000)
include hW hb hp hh
end
end Go.Proofs.YtpijbbobejeemaaGreatDoor.Htp

/- Http: Path: runs. -/
set_option linter.unusedVariables false
set_option linter.unusedSimpArgs false
set_option maxRecDepth 100000
namespace Go.Proofs.YtpijbbobejeemaaGreatDoor.Htp
open Go Go.RowKit Go.Proofs.YtpijbbobejeemaaGreatDoor.Eng Go.Proofs.YtpijbbobejeemaaGreatDoor.Kit
noncomputable section
end
end Go.Proofs.YtpijbbobejeemaaGreatDoor.Htp

/- Http: Path. -/
set_option linter.unusedVariables false
set_option linter.unusedSimpArgs false
set_option maxRecDepth 100000
namespace Go.Proofs.YtpijbbobejeemaaGreatDoor.Htp
open Go Go.RowKit Go.Proofs.YtpijbbobejeemaaGreatDoor.Eng Go.Proofs.YtpijbbobejeemaaGreatDoor.Kit
section
variable {W : World} (hW : LW2 W) (R : List (List UInt8)) (hb : R.length ≤ 1100000) (hp : ∀ p ∈ R, p.length ≤ 1090000)
include hW hb hp
end
end Go.Proofs.YtpijbbobejeemaaGreatDoor.Htp

/- Http: Path: the function. -/
set_option linter.unusedVariables false
set_option linter.unusedSimpArgs false
set_option maxRecDepth 100000
namespace Go.Proofs.YtpijbbobejeemaaGreatDoor.Htp
open Go Go.RowKit Go.Proofs.YtpijbbobejeemaaGreatDoor.Eng Go.Proofs.YtpijbbobejeemaaGreatDoor.Kit
theorem wk_tup {a b : List AV} (h : VW a b) : Wk (.tuple a) (.tuple b) := fun N y hy => by
  simp only [VR] at *
  obtain ⟨vs, h1, rfl⟩ := hy
  exact ⟨vs, h N vs h1, rfl⟩
end Go.Proofs.YtpijbbobejeemaaGreatDoor.Htp

/- Http: the document's Path: runs. -/
set_option linter.unusedVariables false
set_option linter.unusedSimpArgs false
set_option maxRecDepth 100000
namespace Go.Proofs.YtpijbbobejeemaaGreatDoor.Htp
open Go Go.RowKit Go.Proofs.YtpijbbobejeemaaGreatDoor.Eng Go.Proofs.YtpijbbobejeemaaGreatDoor.Kit
noncomputable section
def gHx : List AV → Option Int
  | [.v (.int .u8 c)] => some c
  | _ => none
end
end Go.Proofs.YtpijbbobejeemaaGreatDoor.Htp

/- Http: the document's Path: digits, steps. -/
set_option linter.unusedVariables false
set_option linter.unusedSimpArgs false
set_option maxRecDepth 100000
namespace Go.Proofs.YtpijbbobejeemaaGreatDoor.Htp
open Go Go.RowKit Go.Proofs.YtpijbbobejeemaaGreatDoor.Eng Go.Proofs.YtpijbbobejeemaaGreatDoor.Kit
def cfg0 : Cfg := { strs := [], ints := [], same := [], clone := [], laid := [] }
theorem cfg0_ok : CfgOk Tryz.prog cfg0 where
  strs := fun x hx => by cases hx
  ints := fun x hx => by cases hx
  same := fun x hx => by cases hx
  clone := fun x hx => by cases hx
theorem gHx_spec (A : List AV) (p : Int) (h : gHx A = some p) : A = vmap [.int .u8 p] := by
  unfold gHx at h
  split at h
  · cases h; rfl
  · cases h
end Go.Proofs.YtpijbbobejeemaaGreatDoor.Htp

/- Http: the document's Path: the loop. -/
set_option linter.unusedVariables false
set_option linter.unusedSimpArgs false
set_option maxRecDepth 100000
namespace Go.Proofs.YtpijbbobejeemaaGreatDoor.Htp
open Go Go.RowKit Go.Proofs.YtpijbbobejeemaaGreatDoor.Eng Go.Proofs.YtpijbbobejeemaaGreatDoor.Kit
end Go.Proofs.YtpijbbobejeemaaGreatDoor.Htp

/- Http: the document's Path, SameTexts, HttpPaths: runs. -/
set_option linter.unusedVariables false
set_option linter.unusedSimpArgs false
set_option maxRecDepth 100000
namespace Go.Proofs.YtpijbbobejeemaaGreatDoor.Htp
open Go Go.RowKit Go.Proofs.YtpijbbobejeemaaGreatDoor.Eng Go.Proofs.YtpijbbobejeemaaGreatDoor.Kit
noncomputable section
def okV (n : Nat) : AV := .tuple [sB 1000 n, bv true]
end
end Go.Proofs.YtpijbbobejeemaaGreatDoor.Htp

/- Http: HttpPaths. -/
set_option linter.unusedVariables false
set_option linter.unusedSimpArgs false
set_option maxRecDepth 100000
namespace Go.Proofs.YtpijbbobejeemaaGreatDoor.Htp
open Go Go.RowKit Go.Proofs.YtpijbbobejeemaaGreatDoor.Eng Go.Proofs.YtpijbbobejeemaaGreatDoor.Kit
theorem wk_aggv (l : List Value) : Wk (.agg (vmap l)) (.v (.agg l.toArray)) := fun N y hy => by
  simp only [VR] at hy
  obtain ⟨vs, h1, rfl⟩ := hy
  have := h1.of_vmap
  subst this
  exact VR_v.2 rfl
/-! SameTexts. -/
/-! The law. -/
end Go.Proofs.YtpijbbobejeemaaGreatDoor.Htp

/- Http: pieces of octets tell what the whole tells. No program. -/
set_option linter.unusedVariables false
set_option linter.unusedSimpArgs false
namespace Go.Proofs.YtpijbbobejeemaaGreatDoor.Htp
open Go
def crlf : List UInt8 := [13, 10]
def crlf2 : List UInt8 := [13, 10, 13, 10]
def f4 : List UInt8 → Option Nat
  | [] => none
  | b :: l => if crlf2.isPrefixOf (b :: l) then some 0 else (f4 l).map (· + 1)
theorem f4_len : ∀ (l : List UInt8) (k : Nat), f4 l = some k → k + 4 ≤ l.length
  | [], k, h => by cases h
  | b :: l, k, h => by
    unfold f4 at h
    split at h
    · rename_i hp
      cases h
      have := (List.isPrefixOf_iff_prefix.1 hp).length_le
      simpa [crlf2] using this
    · cases hf : f4 l with
      | none => rw [hf] at h; cases h
      | some k' =>
        rw [hf] at h
        cases h
        have := f4_len l k' hf
        simp only [List.length_cons]; omega
theorem pre_app {p l : List UInt8} (x : List UInt8) (h : p.isPrefixOf l = true) : p.isPrefixOf (l ++ x) = true :=
  List.isPrefixOf_iff_prefix.2 ((List.isPrefixOf_iff_prefix.1 h).trans (List.prefix_append l x))
theorem pre_back {p l x : List UInt8} (hl : p.length ≤ l.length) (h : p.isPrefixOf (l ++ x) = true) : p.isPrefixOf l = true :=
  List.isPrefixOf_iff_prefix.2 (List.prefix_of_prefix_length_le (List.isPrefixOf_iff_prefix.1 h) (List.prefix_append l x) hl)
theorem f4_ext (x : List UInt8) : ∀ (l : List UInt8) (k : Nat), f4 l = some k → f4 (l ++ x) = some k
  | [], k, h => by cases h
  | b :: l, k, h => by
    rw [List.cons_append]
    unfold f4 at h ⊢
    split at h
    · rename_i hp
      rw [← List.cons_append, if_pos (pre_app x hp)]
      exact h
    · rename_i hp
      cases hf : f4 l with
      | none => rw [hf] at h; cases h
      | some k' =>
        have hl := f4_len l k' hf
        rw [if_neg, f4_ext x l k' hf, ← hf]
        · exact h
        · intro hq
          rw [← List.cons_append] at hq
          exact hp (pre_back (by simp only [List.length_cons, crlf2, List.length_nil]; omega) hq)
def hdN (w : List UInt8) : Option Nat := if crlf.isPrefixOf w then some 2 else (f4 w).map (· + 4)
theorem hdN_len {w : List UInt8} {n : Nat} (h : hdN w = some n) : 2 ≤ n ∧ n ≤ w.length := by
  unfold hdN at h
  split at h
  · rename_i hp
    cases h
    have := (List.isPrefixOf_iff_prefix.1 hp).length_le
    exact ⟨Nat.le_refl _, by simpa [crlf] using this⟩
  · cases hf : f4 w with
    | none => rw [hf] at h; cases h
    | some k =>
      rw [hf] at h
      have h : k + 4 = n := Option.some.inj h
      have := f4_len w k hf
      omega
theorem hdN_ext (x : List UInt8) {w : List UInt8} {n : Nat} (h : hdN w = some n) : hdN (w ++ x) = some n := by
  have hl := hdN_len h
  unfold hdN at h ⊢
  split at h
  · rename_i hp
    rw [if_pos (pre_app x hp)]
    exact h
  · rename_i hp
    rw [if_neg fun hq => hp (pre_back (by simp only [crlf, List.length_cons, List.length_nil]; omega) hq)]
    cases hf : f4 w with
    | none => rw [hf] at h; cases h
    | some k => rw [f4_ext x w k hf, ← hf]; exact h
inductive Hd (R : Type) where
  | bad (status : Nat)
  | ok (r : R) (size : Nat)
inductive Rs (R : Type) where
  | no (status : Nat)
  | yes (r : R) (body : List UInt8) (used : Nat)
variable {R : Type} (hd : List UInt8 → Hd R)
def nextL (w : List UInt8) : Rs R := match hdN w with
  | none => if w.length > 8192 then .no 413 else .no 0
  | some n => if n > 8192 then .no 413 else match hd (w.take n) with
    | .bad s => .no s
    | .ok r size => if w.length - n < size then .no 0 else .yes r ((w.drop n).take size) (n + size)
theorem take_app (x : List UInt8) {w : List UInt8} {n : Nat} (h : n ≤ w.length) : (w ++ x).take n = w.take n := by
  rw [List.take_append_of_le_length h]
theorem next_yes (x : List UInt8) {w : List UInt8} {r : R} {bd : List UInt8} {k : Nat} (h : nextL hd w = .yes r bd k) : nextL hd (w ++ x) = .yes r bd k ∧ 2 ≤ k ∧ k ≤ w.length := by
  unfold nextL at h ⊢
  cases hn : hdN w with
  | none => rw [hn] at h; simp only at h; split at h <;> cases h
  | some n =>
    have hl := hdN_len hn
    rw [hn] at h
    rw [hdN_ext x hn]
    simp only at h ⊢
    split at h
    · cases h
    · rename_i hb
      rw [if_neg hb, take_app x hl.2]
      cases hh : hd (w.take n) with
      | bad s => rw [hh] at h; cases h
      | ok r' size =>
        rw [hh] at h
        simp only at h ⊢
        split at h
        · cases h
        · rename_i hs
          rw [if_neg (by rw [List.length_append]; omega)]
          injection h with h1 h2 h3
          subst h1 h2 h3
          refine ⟨?_, by omega, by omega⟩
          rw [List.drop_append_of_le_length hl.2, List.take_append_of_le_length (by rw [List.length_drop]; omega)]
def drain : Nat → List UInt8 → List (R × List UInt8) × Nat × List UInt8
  | 0, w => ([], 0, w)
  | f + 1, w => match nextL hd w with
    | .no s => ([], s, w)
    | .yes r bd k => ((r, bd) :: (drain f (w.drop k)).1, (drain f (w.drop k)).2)
theorem drain_fuel : ∀ (f g : Nat) (w : List UInt8), w.length < f → w.length < g → drain hd f w = drain hd g w
  | 0, _, _, h, _ => absurd h (Nat.not_lt_zero _)
  | _ + 1, 0, _, _, h => absurd h (Nat.not_lt_zero _)
  | f + 1, g + 1, w, h1, h2 => by
    rw [drain, drain]
    cases hn : nextL hd w with
    | no s => rfl
    | yes r bd k =>
      obtain ⟨_, q1, q2⟩ := next_yes hd [] hn
      have hlen : (w.drop k).length < f ∧ (w.drop k).length < g := by rw [List.length_drop]; omega
      simp only
      rw [drain_fuel f g (w.drop k) hlen.1 hlen.2]
def dr (w : List UInt8) : List (R × List UInt8) × Nat × List UInt8 := drain hd (w.length + 1) w
theorem dr_no {w : List UInt8} {s : Nat} (h : nextL hd w = .no s) : dr hd w = ([], s, w) := by
  unfold dr
  rw [drain, h]
theorem dr_yes {w : List UInt8} {r : R} {bd : List UInt8} {k : Nat} (h : nextL hd w = .yes r bd k) : dr hd w = ((r, bd) :: (dr hd (w.drop k)).1, (dr hd (w.drop k)).2) := by
  obtain ⟨_, q1, q2⟩ := next_yes hd [] h
  unfold dr
  rw [drain, h]
  simp only
  rw [drain_fuel hd w.length ((w.drop k).length + 1) (w.drop k) (by rw [List.length_drop]; omega) (by omega)]
theorem dr_app (x : List UInt8) : ∀ (n : Nat) (w : List UInt8), w.length ≤ n → dr hd (w ++ x) = ((dr hd w).1 ++ (dr hd ((dr hd w).2.2 ++ x)).1, (dr hd ((dr hd w).2.2 ++ x)).2)
  | n, w, hw => by
    cases hn : nextL hd w with
    | no s => rw [dr_no hd hn]; rfl
    | yes r bd k =>
      obtain ⟨h1, q1, q2⟩ := next_yes hd x hn
      rw [dr_yes hd hn, dr_yes hd h1, List.drop_append_of_le_length q2]
      cases n with
      | zero => omega
      | succ n => rw [dr_app x n (w.drop k) (by rw [List.length_drop]; omega)]; rfl
theorem dr_len : ∀ (n : Nat) (w : List UInt8), w.length ≤ n → (dr hd w).2.2.length + 2 * (dr hd w).1.length ≤ w.length
  | n, w, hw => by
    cases hn : nextL hd w with
    | no s => rw [dr_no hd hn]; simp
    | yes r bd k =>
      obtain ⟨h1, q1, q2⟩ := next_yes hd [] hn
      rw [dr_yes hd hn]
      cases n with
      | zero => omega
      | succ n =>
        have := dr_len n (w.drop k) (by rw [List.length_drop]; omega)
        rw [List.length_drop] at this
        simp only [List.length_cons]
        omega
def feed (q : List (R × List UInt8) × Nat × List UInt8) (x : List UInt8) : List (R × List UInt8) × Nat × List UInt8 := (q.1 ++ (dr hd (q.2.2 ++ x)).1, (dr hd (q.2.2 ++ x)).2)
theorem feed_dr (w x : List UInt8) : feed hd (dr hd w) x = dr hd (w ++ x) := (dr_app hd x _ w (Nat.le_refl _)).symm
end Go.Proofs.YtpijbbobejeemaaGreatDoor.Htp

/- Http: the parser: what the library's functions hand back. -/
set_option linter.unusedVariables false
set_option linter.unusedSimpArgs false
set_option maxRecDepth 100000
namespace Go.Proofs.YtpijbbobejeemaaGreatDoor.Htp
open Go Go.RowKit Go.Proofs.YtpijbbobejeemaaGreatDoor.Eng Go.Proofs.YtpijbbobejeemaaGreatDoor.Kit
abbrev fBPre : Nat := 48
abbrev fTSuf : Nat := 27
abbrev fTrim : Nat := 59
abbrev fHPre : Nat := 54
abbrev fAtoi : Nat := 61
noncomputable section
def u8s (xs : List UInt8) : List Int := xs.map fun b => (b.toNat : Int)
theorem u8s_row (xs : List UInt8) : rowV encB xs = (u8s xs).map u8V := by
  rw [rowB_map, u8s, vmap, List.map_map, List.map_map]
  rfl
theorem u8s_len (xs : List UInt8) : (u8s xs).length = xs.length := List.length_map ..
theorem u8s_back (xs : List UInt8) : Lib.bytesOf (u8s xs) = xs := by
  unfold Lib.bytesOf u8s
  rw [List.map_map]
  have : ((fun n : Int => UInt8.ofNat n.toNat) ∘ fun b : UInt8 => (b.toNat : Int)) = id := funext fun b => by simp
  rw [this, List.map_id]
theorem u8s_in (xs : List UInt8) : ∀ z ∈ u8s xs, 0 ≤ z ∧ z < 256 := fun z hz => by
  obtain ⟨b, _, rfl⟩ := List.mem_map.1 hz
  have := b.toNat_lt
  exact ⟨by omega, by omega⟩
def row2P (xs ys : List UInt8) (val : AV) : List AV → Option (AP AV) := fun args => match args with
  | [.slice i off n sz _, .slice j off2 k sz2 _] => some (.read i fun o => match o with
    | .cells cs _ => .read j fun o2 => match o2 with
      | .cells ds _ => .need ((sz = 1 ∧ sz2 = 1) ∧ (List.take n (List.drop off cs) = rowV encB xs ∧ xs.length = n) ∧ (List.take k (List.drop off2 ds) = rowV encB ys ∧ ys.length = k)) (.ret val)
      | _ => .fail "bytes"
    | _ => .fail "bytes")
  | _ => some (.fail "bytes")
theorem row2P_ok {W : World} {F : HP} (hF : OldOK W F) {f : FuncId} {xs ys : List UInt8} {res : Value}
    (hc : ∀ w, Stays W w → ∀ b x c b2 x2 c2, xs.length ≤ c → ys.length ≤ c2 →
      (∀ j, j < xs.length → w.cell? ((⟨b, x, none⟩ : Addr).add j) = some (.int .u8 ((u8s xs).getD j 0))) → (∀ j, j < ys.length → w.cell? ((⟨b2, x2, none⟩ : Addr).add j) = some (.int .u8 ((u8s ys).getD j 0))) →
      Calls Tryz.prog f #[.slice (some ⟨b, x, none⟩) xs.length c, .slice (some ⟨b2, x2, none⟩) ys.length c2] w fun e w' => e = .returned res ∧ Below w.heap.size w w') : C1OK Tryz.prog F f (row2P xs ys (.v res)) := by
  intro st W0 N h0 w A vargs v h' n n' lg lg' c q hp he hcc r ha hf
  unfold row2P at hp
  split at hp
  · rename_i i off m sz cap j off2 k sz2 cap2
    cases hp
    obtain ⟨o, ho, e1⟩ := run_read he
    cases o with
    | cells cs e =>
      obtain ⟨o2, ho2, e2⟩ := run_read e1
      cases o2 with
      | cells ds e' =>
        simp only at e2
        obtain ⟨c1, e3, rfl⟩ := run_need e2
        obtain ⟨⟨⟨rfl, rfl⟩, ⟨hx, rfl⟩, hy, rfl⟩, hc1⟩ := (Cnd.and_iff _ _).1 hcc
        obtain ⟨rfl, rfl, rfl⟩ := inv_ret e3
        obtain ⟨y1, r1, h1, ⟨y2, r2, h2, rfl, rfl⟩, hl⟩ := (by simpa only [VRs] using ha : ∃ y r, VR N (.slice i off xs.length 1 cap) y ∧ (∃ y2 r2, VR N (.slice j off2 ys.length 1 cap2) y2 ∧ r2 = [] ∧ r = y2 :: r2) ∧ vargs.toList = y :: r)
        obtain ⟨b, x, cc, rfl, k2, k3, k4⟩ := rep_bytes r ho h1 (hx.trans (u8s_row xs)) (u8s_len xs)
        obtain ⟨b2, x2, cc2, rfl, k5, k6, k7⟩ := rep_bytes r ho2 h2 (hy.trans (u8s_row ys)) (u8s_len ys)
        have hva : vargs = #[.slice (some ⟨b, x, none⟩) xs.length cc, .slice (some ⟨b2, x2, none⟩) ys.length cc2] := by
          apply Array.ext'
          rw [hl]
        subst hva
        obtain ⟨D0, D, p1, p2, p3⟩ := r.sat
        refine (hc w (hF D0 w p1) b x cc b2 x2 cc2 k2 k5 k4 k7).mono ?_
        rintro e w' ⟨rfl, hb⟩
        exact ⟨_, N, rfl, r.below hb, VR_v.2 rfl, fun _ _ => rfl⟩
      | _ => cases e2
    | _ => cases e1
  · cases hp
    cases he
def row0P (ys : List UInt8) (val : AV) : List AV → Option (AP AV) := fun args => match args with
  | [.v (.slice none 0 0), .slice j off2 k sz2 _] => some (.read j fun o2 => match o2 with
      | .cells ds _ => .need (sz2 = 1 ∧ List.take k (List.drop off2 ds) = rowV encB ys ∧ ys.length = k) (.ret val)
      | _ => .fail "bytes")
  | _ => some (.fail "bytes")
theorem row0P_ok {W : World} {F : HP} (hF : OldOK W F) {f : FuncId} {ys : List UInt8} {res : Value}
    (hc : ∀ w, Stays W w → ∀ b2 x2 c2, ys.length ≤ c2 → (∀ j, j < ys.length → w.cell? ((⟨b2, x2, none⟩ : Addr).add j) = some (.int .u8 ((u8s ys).getD j 0))) →
      Calls Tryz.prog f #[.slice none 0 0, .slice (some ⟨b2, x2, none⟩) ys.length c2] w fun e w' => e = .returned res ∧ Below w.heap.size w w') : C1OK Tryz.prog F f (row0P ys (.v res)) := by
  intro st W0 N h0 w A vargs v h' n n' lg lg' c q hp he hcc r ha hf
  unfold row0P at hp
  split at hp
  · rename_i j off2 k sz2 cap2
    cases hp
    obtain ⟨o2, ho2, e2⟩ := run_read he
    cases o2 with
    | cells ds e' =>
      simp only at e2
      obtain ⟨c1, e3, rfl⟩ := run_need e2
      obtain ⟨⟨rfl, hy, rfl⟩, hc1⟩ := (Cnd.and_iff _ _).1 hcc
      obtain ⟨rfl, rfl, rfl⟩ := inv_ret e3
      obtain ⟨y1, r1, h1, ⟨y2, r2, h2, rfl, rfl⟩, hl⟩ := (by simpa only [VRs] using ha : ∃ y r, VR N (.v (.slice none 0 0)) y ∧ (∃ y2 r2, VR N (.slice j off2 ys.length 1 cap2) y2 ∧ r2 = [] ∧ r = y2 :: r2) ∧ vargs.toList = y :: r)
      have h1 := VR_v.1 h1
      subst h1
      obtain ⟨b2, x2, cc2, rfl, k5, k6, k7⟩ := rep_bytes r ho2 h2 (hy.trans (u8s_row ys)) (u8s_len ys)
      have hva : vargs = #[.slice none 0 0, .slice (some ⟨b2, x2, none⟩) ys.length cc2] := by
        apply Array.ext'
        rw [hl]
      subst hva
      obtain ⟨D0, D, p1, p2, p3⟩ := r.sat
      refine (hc w (hF D0 w p1) b2 x2 cc2 k5 k7).mono ?_
      rintro e w' ⟨rfl, hb⟩
      exact ⟨_, N, rfl, r.below hb, VR_v.2 rfl, fun _ _ => rfl⟩
    | _ => cases e2
  · cases hp
    cases he
variable {W : World} {F : HP}
def cBPre0 (ys : List UInt8) : List AV → Option (AP AV) := row0P ys (bv (Lib.hasPrefix [] ys))
theorem cBPre0_ok (hF : OldOK W F) (ys : List UInt8) : C1OK Tryz.prog F fBPre (cBPre0 ys) :=
  row0P_ok hF fun w hw b2 x2 c2 l2 h2 => by
    have h := Tryz.bytes_HasPrefix_all none (some ⟨b2, x2, none⟩) 0 0 ys.length c2 [] (u8s ys) w rfl (u8s_len _) (Nat.le_refl _) (.nil _ _ _) (.of_cells h2)
    rw [u8s_back] at h
    exact h.mono fun e w' ⟨q1, q2⟩ => ⟨q1, by rw [q2]; exact Below.refl _ _⟩
def cBPre (xs ys : List UInt8) : List AV → Option (AP AV) := row2P xs ys (bv (Lib.hasPrefix xs ys))
theorem cBPre_ok (hF : OldOK W F) (xs ys : List UInt8) : C1OK Tryz.prog F fBPre (cBPre xs ys) :=
  row2P_ok hF fun w hw b x c b2 x2 c2 l1 l2 h1 h2 => by
    have h := Tryz.bytes_HasPrefix_all (some ⟨b, x, none⟩) (some ⟨b2, x2, none⟩) xs.length c ys.length c2 (u8s xs) (u8s ys) w (u8s_len _) (u8s_len _) l1 (.of_cells h1) (.of_cells h2)
    rw [u8s_back, u8s_back] at h
    exact h.mono fun e w' ⟨q1, q2⟩ => ⟨q1, by rw [q2]; exact Below.refl _ _⟩
def cBIdx (xs ys : List UInt8) : List AV → Option (AP AV) := row2P xs ys (iv (Lib.index xs ys))
theorem cBIdx_ok (hW : LW W) (hF : OldOK W F) (xs ys : List UInt8) (hx : xs.length ≤ 4000000) (hy : ys.length ≤ 4000000) : C1OK Tryz.prog F fBIndex (cBIdx xs ys) :=
  row2P_ok hF fun w hw b x c b2 x2 c2 l1 l2 h1 h2 => by
    obtain ⟨m, hm⟩ := hW.maxLen
    have h := Tryz.bytes_Index_at ⟨b, x, none⟩ ⟨b2, x2, none⟩ xs.length c ys.length c2 (u8s xs) (u8s ys) m w (u8s_len _) (u8s_len _) (u8s_in _) (u8s_in _) h1 h2 l1 (by omega) (by omega) (hw.cell hm)
    rw [u8s_back, u8s_back] at h
    exact h.mono fun e w' ⟨q1, k, q2⟩ => ⟨q1, by rw [q2]; exact below_dn (Below.refl _ _) k⟩
def cBIdx0 (ys : List UInt8) : List AV → Option (AP AV) := row0P ys (iv (-1))
theorem cBIdx0_ok (hF : OldOK W F) (ys : List UInt8) (h2 : 2 ≤ ys.length) (hy : ys.length ≤ 4000000) : C1OK Tryz.prog F fBIndex (cBIdx0 ys) :=
  row0P_ok hF fun w hw b2 x2 c2 l2 h2 => by
    have h := Tryz.bytes_Index_nil (some ⟨b2, x2, none⟩) ys.length c2 w (by omega) (fun h => by omega)
    rw [if_neg (by omega)] at h
    exact h.mono fun e w' ⟨q1, q2⟩ => ⟨q1, by rw [q2]; exact Below.refl _ _⟩
def sufB (s t : ByteArray) : ByteArray := tB (Lib.trimSuffix s.data.toList t.data.toList)
def cTSuf : List AV → Option (AP AV) := vC g2s (fun p => p.1.size ≤ 9223372036854775807) (fun p => sv (sufB p.1 p.2))
theorem cTSuf_ok (hF : OldOK W F) : C1OK Tryz.prog F fTSuf cTSuf :=
  vC_ok hF (fun p => [.string p.1, .string p.2]) (fun p => .string (sufB p.1 p.2)) g2s_spec (fun p N => vr_v N _) fun p hp w hw =>
    (Tryz.strings_TrimSuffix p.1 p.2 w hp).mono fun e w' ⟨h1, h2⟩ => ⟨h1, by rw [h2]; exact Below.refl _ _⟩
def trimB (s t : ByteArray) : ByteArray := tB (Lib.trimS s.data.toList t.data.toList)
def cTrim : List AV → Option (AP AV) := vC g2s (fun p => p.1.size < 4294967281 ∧ p.2.size < 4294967281 ∧ asciiB p.2) (fun p => sv (trimB p.1 p.2))
theorem cTrim_ok (hF : OldOK W F) : C1OK Tryz.prog F fTrim cTrim :=
  vC_ok hF (fun p => [.string p.1, .string p.2]) (fun p => .string (trimB p.1 p.2)) g2s_spec (fun p N => vr_v N _) fun p hp w hw =>
    Any.strings_Trim_laid Tryz.laysTrim (by kernel_rfl) p.1 p.2 w (by omega) hp.2.1 hp.2.2
def hpreB (s t : ByteArray) : Bool := Lib.hasPrefix s.data.toList t.data.toList
def cHPre : List AV → Option (AP AV) := vC g2s (fun _ => True) (fun p => bv (hpreB p.1 p.2))
theorem cHPre_ok (hF : OldOK W F) : C1OK Tryz.prog F fHPre cHPre :=
  vC_ok hF (fun p => [.string p.1, .string p.2]) (fun p => .bool (hpreB p.1 p.2)) g2s_spec (fun p N => vr_v N _) fun p hp w hw =>
    (Tryz.strings_HasPrefix p.1 p.2 w).mono fun e w' ⟨h1, h2⟩ => ⟨h1, by rw [h2]; exact Below.refl _ _⟩
def cAtoi (s : ByteArray) (v : Int) : List AV → Option (AP AV) := vC g1s (fun p => p = s) (fun _ => .tuple [iv v, .v .nilIface])
theorem cAtoi_ok (hF : OldOK W F) (s : ByteArray) (hs : s.size ≤ 4000000) (v : Int) (h : Lib.atoiAll s.data.toList = .ok v) : C1OK Tryz.prog F fAtoi (cAtoi s v) :=
  vC_ok hF (fun p => [.string p]) (fun _ => .tuple #[.int .i64 v, .nilIface]) g1s_spec (fun p N => vr_t2 N _ _) fun p hp w hw => by
    subst hp
    refine (Tryz.strconv_Atoi_ok p (by omega) v h w).mono ?_
    rintro e w' ⟨h1, rfl | ⟨t, rfl⟩⟩
    · exact ⟨h1, Below.refl _ _⟩
    · exact ⟨h1, Go.Joins.below_bytesWorld _ _ _ _ (Nat.le_refl _)⟩
def splB (s t : ByteArray) : List ByteArray := Lib.splitB t 0 (Lib.countB s t) s
def cSplt : List AV → Option (AP AV) := rowC g2s (fun p => 1 ≤ p.2.size ∧ p.1.size < 4294967281) (fun p => (splB p.1 p.2).map Value.string) 9
theorem cSplt_ok (hW : LW W) (hF : OldOK W F) : C1OK Tryz.prog F fSplit cSplt :=
  rowC_ok hF (fun p => [.string p.1, .string p.2]) g2s_spec fun p hp w hw => by
    obtain ⟨h1, h2⟩ := hp
    obtain ⟨m, hm⟩ := hW.maxLen
    obtain ⟨s, t⟩ := p
    simp only at h1 h2
    have hk := Tryz.strings_Split s t m w h2 (hw.cell hm) h1
    have hlen : (Lib.splitB t 0 (Lib.countB s t) s).length = Lib.countB s t + 1 := Lib.splitB_all t h1 0 _ s rfl
    rw [← hlen] at hk
    refine hk.mono fun e w' hh => ?_
    rw [List.length_map]
    exact hh
theorem splB_pos (s t : ByteArray) (h : 1 ≤ t.size) : 0 < (splB s t).length := by
  unfold splB
  rw [Lib.splitB_all t h 0 _ s rfl]
  omega
end
end Go.Proofs.YtpijbbobejeemaaGreatDoor.Htp

/- Http: all: a text's bytes, one predicate after another: runs. -/
set_option linter.unusedVariables false
set_option linter.unusedSimpArgs false
set_option maxRecDepth 100000
namespace Go.Proofs.YtpijbbobejeemaaGreatDoor.Htp
open Go Go.RowKit Go.Proofs.YtpijbbobejeemaaGreatDoor.Eng Go.Proofs.YtpijbbobejeemaaGreatDoor.Kit
noncomputable section
abbrev fAll : Nat := 52
abbrev fAll1 : Nat := 85
abbrev fIxF : Nat := 111
abbrev fCoF : Nat := 84
abbrev tFun : TypeId := 2 * 76
def fnV (k : Nat) : AV := .v (.func (.func k) #[] #[])
def boxF (k : Nat) : AO := .cells [fnV k] tFun
def clF : AV := .func (.func fAll1) [] [.ptr 1000 0]
def aAl (n i : Nat) : List (Nat × AV) := [(0, sB 1001 n), (1, clF), (7, iv (Int.ofNat n)), (8, iv (Int.ofNat i))]
def hAl (i : Nat) (x : UInt8) (b : Bool) : ClaimT := hintL [(fIxF, 2, 0, hv (.lit true)), (fIxF, 4, 4, hv (byv x)), (fIxF, 4, 5, hv (.lit b)), (fIxF, 6, 0, hv (iv (Int.ofNat (i + 1))))]
def cW (x : UInt8) (b : Bool) : List AV → Option (AP AV) := vC gHx (fun c => c = (x.toNat : Int)) (fun _ => bv b)
def gAl : List AV → AP (Nat × Nat) := fun tmps => match getL tmps 0, getL tmps 1 with
  | .slice a _ _ _ _, .func _ _ [.ptr b _] => .ret (a, b)
  | _, _ => .fail "all"
def nmAl (p : Nat × Nat) : Nat → Nat := fun k => match Nat.beq k 1000 with
  | true => p.2
  | false => match Nat.beq k 1001 with
    | true => p.1
    | false => k
def lAl (L : List UInt8) (f n : Nat) : List AV → AP (AX × List AV) := mkL gAl (fun _ => True) nmAl (fun _ => tms 0 19 (aAl n 0)) (fun _ => [(1000, boxF f), (1001, rB1 L)]) (fun _ => .leaf (.exit 0) (tms 0 19 []) [])
def lAlx (L : List UInt8) (f n i : Nat) : List AV → AP (AX × List AV) := mkL gAl (fun _ => True) nmAl (fun _ => tms 0 19 (aAl n 0)) (fun _ => [(1000, boxF f), (1001, rB1 L)]) (fun _ => .leaf .ret (tms 0 19 [(4, iv (Int.ofNat i))]) [])
def hAt (L : List UInt8) (b : Bool) : ClaimT := hintL [(fAll, 1, 1, ho 1101 (rB1 L)), (fCoF, 1, 3, hv (.lit b)), (fAll, 1, 4, hv (bv (!b)))]
abbrev fQl : Nat := 53
theorem oAllH_eq (L : List UInt8) (n i : Nat) (x : UInt8) (F : HP) : wLoop [(fQl, cW x false)] (hAl i x true) [] default fIxF (loopN fIxF 2) (tms 0 19 (aAl n i)) [(1000, boxF fQl), (1001, rB1 L)] [1000, 1001] [0, 1, 4, 7, 8] F = VT.leaf (AX.ret, [AV.slice 1001 0 n 1 (Cp.lo n), AV.func (Fn.func 85) [] [AV.ptr 1000 0], AV.v (Value.int IntKind.i64 (Int.ofNat i)), AV.v (Value.int IntKind.i64 (Int.ofNat n)), AV.v (Value.int IntKind.i64 (Int.ofNat i))], 19) [some (AO.cells [AV.v (Value.func (Fn.func 53) (Array.mk []) (Array.mk []))] 152), some (AO.cells (rowV encB L) 11)] 1100 (((Cnd.p (Wk (AV.v (Value.bool (decide (Int.ofNat i < Int.ofNat n)))) (AV.lit true))).a Cnd.t).a (((Cnd.p (i.blt n = true)).a Cnd.t).a (((Cnd.p ((0 + i * 1).blt (rowV encB L).length = true)).a ((Cnd.p ((rowV encB L).getD (0 + i * 1) (AV.undef) = AV.v (Value.int IntKind.u8 ((rowV encB L).getD (0 + i * 1) (AV.undef)).intOf))).a ((Cnd.p (Wk (AV.v (Value.int IntKind.u8 ((rowV encB L).getD (0 + i * 1) (AV.undef)).intOf)) (AV.v (Value.int IntKind.u8 ↑x.toNat)))).a Cnd.t))).a ((((Cnd.p (true = true)).a Cnd.t).a (((Cnd.p ((↑x.toNat : Int) = ↑x.toNat)).a Cnd.t).a ((Cnd.p (Wk (AV.v (Value.bool true)) (AV.lit true))).a Cnd.t))).a Cnd.t)))) := by kernel_rfl
theorem oAllN_eq (L : List UInt8) (n i : Nat) (x : UInt8) (F : HP) : wLoop [(fQl, cW x true)] (hAl i x false) [] default fIxF (loopN fIxF 2) (tms 0 19 (aAl n i)) [(1000, boxF fQl), (1001, rB1 L)] [1000, 1001] [0, 1, 4, 7, 8] F = VT.leaf (AX.normal, [AV.slice 1001 0 n 1 (Cp.lo n), AV.func (Fn.func 85) [] [AV.ptr 1000 0], AV.any, AV.v (Value.int IntKind.i64 (Int.ofNat n)), AV.v (Value.int IntKind.i64 (Int.ofNat (i + 1)))], 19) [some (AO.cells [AV.v (Value.func (Fn.func 53) (Array.mk []) (Array.mk []))] 152), some (AO.cells (rowV encB L) 11)] 1100 (((Cnd.p (Wk (AV.v (Value.bool (decide (Int.ofNat i < Int.ofNat n)))) (AV.lit true))).a Cnd.t).a (((Cnd.p (i.blt n = true)).a Cnd.t).a (((Cnd.p ((0 + i * 1).blt (rowV encB L).length = true)).a ((Cnd.p ((rowV encB L).getD (0 + i * 1) (AV.undef) = AV.v (Value.int IntKind.u8 ((rowV encB L).getD (0 + i * 1) (AV.undef)).intOf))).a ((Cnd.p (Wk (AV.v (Value.int IntKind.u8 ((rowV encB L).getD (0 + i * 1) (AV.undef)).intOf)) (AV.v (Value.int IntKind.u8 ↑x.toNat)))).a Cnd.t))).a ((((Cnd.p (true = true)).a Cnd.t).a (((Cnd.p ((↑x.toNat : Int) = ↑x.toNat)).a Cnd.t).a ((Cnd.p (Wk (AV.v (Value.bool false)) (AV.lit false))).a Cnd.t))).a (((Cnd.p (Wk (AV.v (Value.int IntKind.i64 (IntKind.i64.wrap (Int.ofNat i + Int.ofNat 1)))) (AV.v (Value.int IntKind.i64 (Int.ofNat (i + 1)))))).a Cnd.t).a Cnd.t))))) := by kernel_rfl
theorem oAllE_eq (L : List UInt8) (n i : Nat) (F : HP) : wLoop [] (hintL [(fIxF, 2, 0, hv (.lit false))]) [] default fIxF (loopN fIxF 2) (tms 0 19 (aAl n i)) [(1000, boxF fQl), (1001, rB1 L)] [1000, 1001] [0, 1, 4, 7, 8] F = VT.leaf (AX.exit 0, [AV.slice 1001 0 n 1 (Cp.lo n), AV.func (Fn.func 85) [] [AV.ptr 1000 0], AV.any, AV.v (Value.int IntKind.i64 (Int.ofNat n)), AV.v (Value.int IntKind.i64 (Int.ofNat i))], 19) [some (AO.cells [AV.v (Value.func (Fn.func 53) (Array.mk []) (Array.mk []))] 152), some (AO.cells (rowV encB L) 11)] 1100 (((Cnd.p (Wk (AV.v (Value.bool (decide (Int.ofNat i < Int.ofNat n)))) (AV.lit false))).a Cnd.t).a Cnd.t) := by kernel_rfl
theorem oAllT_eq (s : ByteArray) (F : HP) : wRun [] (hAt s.data.toList false) [(fIxF, 2, loopN fIxF 2, lAl s.data.toList fQl s.size)] default fAll [sv s, fnV fQl] [] [] F = VT.leaf (AV.v (Value.bool true)) [] 1102 (((Cnd.p (OW (AO.cells (vmap (List.map (fun b => Value.int IntKind.u8 ↑b.toNat) s.data.toList)) 11) (AO.cells (rowV encB s.data.toList) 11))).a Cnd.t).a ((((Cnd.p ((fIxF, 2, loopN fIxF 2, lAl s.data.toList fQl s.size).snd.snd.fst = (fIxF, 2, loopN fIxF 2, lAl s.data.toList fQl s.size).snd.snd.fst)).a ((Cnd.p True).a ((Cnd.p (VW [AV.slice 1101 0 s.size 1 (Cp.lo s.size), AV.func (Fn.func 85) [] [AV.ptr 1100 0], AV.undef, AV.undef, AV.v (Value.int IntKind.i64 (Int.ofNat 0)), AV.undef, AV.slice 1101 0 s.size 1 (Cp.lo s.size), AV.v (Value.int IntKind.i64 ↑s.size), AV.v (Value.int IntKind.i64 (Int.ofNat 0)), AV.undef, AV.undef, AV.undef, AV.undef, AV.undef, AV.undef, AV.undef, AV.undef, AV.undef, AV.undef] [AV.slice 1101 0 s.size 1 (Cp.lo s.size), AV.func (Fn.func 85) [] [AV.ptr 1100 0], AV.any, AV.any, AV.any, AV.any, AV.any, AV.v (Value.int IntKind.i64 (Int.ofNat s.size)), AV.v (Value.int IntKind.i64 (Int.ofNat 0)), AV.any, AV.any, AV.any, AV.any, AV.any, AV.any, AV.any, AV.any, AV.any, AV.any])).a ((Cnd.p (OW (AO.cells [AV.v (Value.func (Fn.func 53) (Array.mk []) (Array.mk []))] 152) (AO.cells [AV.v (Value.func (Fn.func 53) (Array.mk []) (Array.mk []))] 152))).a ((Cnd.p (OW (AO.cells (rowV encB s.data.toList) 11) (AO.cells (AV.rens (nmAl (1101, 1100)) (rowV encB s.data.toList)) 11))).a Cnd.t))))).a (((Cnd.p (Wk (AV.v (Value.bool false)) (AV.lit false))).a Cnd.t).a Cnd.t)).a (((Cnd.p (Wk (AV.v (Value.bool true)) (AV.v (Value.bool true)))).a Cnd.t).a Cnd.t))) := by kernel_rfl
theorem oAllF_eq (s : ByteArray) (i : Nat) (F : HP) : wRun [] (hAt s.data.toList true) [(fIxF, 2, loopN fIxF 2, lAlx s.data.toList fQl s.size i)] default fAll [sv s, fnV fQl] [] [] F = VT.leaf (AV.v (Value.bool false)) [] 1102 (((Cnd.p (OW (AO.cells (vmap (List.map (fun b => Value.int IntKind.u8 ↑b.toNat) s.data.toList)) 11) (AO.cells (rowV encB s.data.toList) 11))).a Cnd.t).a ((((Cnd.p ((fIxF, 2, loopN fIxF 2, lAlx s.data.toList fQl s.size i).snd.snd.fst = (fIxF, 2, loopN fIxF 2, lAlx s.data.toList fQl s.size i).snd.snd.fst)).a ((Cnd.p True).a ((Cnd.p (VW [AV.slice 1101 0 s.size 1 (Cp.lo s.size), AV.func (Fn.func 85) [] [AV.ptr 1100 0], AV.undef, AV.undef, AV.v (Value.int IntKind.i64 (Int.ofNat 0)), AV.undef, AV.slice 1101 0 s.size 1 (Cp.lo s.size), AV.v (Value.int IntKind.i64 ↑s.size), AV.v (Value.int IntKind.i64 (Int.ofNat 0)), AV.undef, AV.undef, AV.undef, AV.undef, AV.undef, AV.undef, AV.undef, AV.undef, AV.undef, AV.undef] [AV.slice 1101 0 s.size 1 (Cp.lo s.size), AV.func (Fn.func 85) [] [AV.ptr 1100 0], AV.any, AV.any, AV.any, AV.any, AV.any, AV.v (Value.int IntKind.i64 (Int.ofNat s.size)), AV.v (Value.int IntKind.i64 (Int.ofNat 0)), AV.any, AV.any, AV.any, AV.any, AV.any, AV.any, AV.any, AV.any, AV.any, AV.any])).a ((Cnd.p (OW (AO.cells [AV.v (Value.func (Fn.func 53) (Array.mk []) (Array.mk []))] 152) (AO.cells [AV.v (Value.func (Fn.func 53) (Array.mk []) (Array.mk []))] 152))).a ((Cnd.p (OW (AO.cells (rowV encB s.data.toList) 11) (AO.cells (AV.rens (nmAl (1101, 1100)) (rowV encB s.data.toList)) 11))).a Cnd.t))))).a (((Cnd.p (Wk (AV.v (Value.bool true)) (AV.lit true))).a Cnd.t).a Cnd.t)).a (((Cnd.p (Wk (AV.v (Value.bool false)) (AV.v (Value.bool false)))).a Cnd.t).a Cnd.t))) := by kernel_rfl
abbrev fQs : Nat := 55
theorem oAlsH_eq (L : List UInt8) (n i : Nat) (x : UInt8) (F : HP) : wLoop [(fQs, cW x false)] (hAl i x true) [] default fIxF (loopN fIxF 2) (tms 0 19 (aAl n i)) [(1000, boxF fQs), (1001, rB1 L)] [1000, 1001] [0, 1, 4, 7, 8] F = VT.leaf (AX.ret, [AV.slice 1001 0 n 1 (Cp.lo n), AV.func (Fn.func 85) [] [AV.ptr 1000 0], AV.v (Value.int IntKind.i64 (Int.ofNat i)), AV.v (Value.int IntKind.i64 (Int.ofNat n)), AV.v (Value.int IntKind.i64 (Int.ofNat i))], 19) [some (AO.cells [AV.v (Value.func (Fn.func 55) (Array.mk []) (Array.mk []))] 152), some (AO.cells (rowV encB L) 11)] 1100 (((Cnd.p (Wk (AV.v (Value.bool (decide (Int.ofNat i < Int.ofNat n)))) (AV.lit true))).a Cnd.t).a (((Cnd.p (i.blt n = true)).a Cnd.t).a (((Cnd.p ((0 + i * 1).blt (rowV encB L).length = true)).a ((Cnd.p ((rowV encB L).getD (0 + i * 1) (AV.undef) = AV.v (Value.int IntKind.u8 ((rowV encB L).getD (0 + i * 1) (AV.undef)).intOf))).a ((Cnd.p (Wk (AV.v (Value.int IntKind.u8 ((rowV encB L).getD (0 + i * 1) (AV.undef)).intOf)) (AV.v (Value.int IntKind.u8 ↑x.toNat)))).a Cnd.t))).a ((((Cnd.p (true = true)).a Cnd.t).a (((Cnd.p ((↑x.toNat : Int) = ↑x.toNat)).a Cnd.t).a ((Cnd.p (Wk (AV.v (Value.bool true)) (AV.lit true))).a Cnd.t))).a Cnd.t)))) := by kernel_rfl
theorem oAlsN_eq (L : List UInt8) (n i : Nat) (x : UInt8) (F : HP) : wLoop [(fQs, cW x true)] (hAl i x false) [] default fIxF (loopN fIxF 2) (tms 0 19 (aAl n i)) [(1000, boxF fQs), (1001, rB1 L)] [1000, 1001] [0, 1, 4, 7, 8] F = VT.leaf (AX.normal, [AV.slice 1001 0 n 1 (Cp.lo n), AV.func (Fn.func 85) [] [AV.ptr 1000 0], AV.any, AV.v (Value.int IntKind.i64 (Int.ofNat n)), AV.v (Value.int IntKind.i64 (Int.ofNat (i + 1)))], 19) [some (AO.cells [AV.v (Value.func (Fn.func 55) (Array.mk []) (Array.mk []))] 152), some (AO.cells (rowV encB L) 11)] 1100 (((Cnd.p (Wk (AV.v (Value.bool (decide (Int.ofNat i < Int.ofNat n)))) (AV.lit true))).a Cnd.t).a (((Cnd.p (i.blt n = true)).a Cnd.t).a (((Cnd.p ((0 + i * 1).blt (rowV encB L).length = true)).a ((Cnd.p ((rowV encB L).getD (0 + i * 1) (AV.undef) = AV.v (Value.int IntKind.u8 ((rowV encB L).getD (0 + i * 1) (AV.undef)).intOf))).a ((Cnd.p (Wk (AV.v (Value.int IntKind.u8 ((rowV encB L).getD (0 + i * 1) (AV.undef)).intOf)) (AV.v (Value.int IntKind.u8 ↑x.toNat)))).a Cnd.t))).a ((((Cnd.p (true = true)).a Cnd.t).a (((Cnd.p ((↑x.toNat : Int) = ↑x.toNat)).a Cnd.t).a ((Cnd.p (Wk (AV.v (Value.bool false)) (AV.lit false))).a Cnd.t))).a (((Cnd.p (Wk (AV.v (Value.int IntKind.i64 (IntKind.i64.wrap (Int.ofNat i + Int.ofNat 1)))) (AV.v (Value.int IntKind.i64 (Int.ofNat (i + 1)))))).a Cnd.t).a Cnd.t))))) := by kernel_rfl
theorem oAlsE_eq (L : List UInt8) (n i : Nat) (F : HP) : wLoop [] (hintL [(fIxF, 2, 0, hv (.lit false))]) [] default fIxF (loopN fIxF 2) (tms 0 19 (aAl n i)) [(1000, boxF fQs), (1001, rB1 L)] [1000, 1001] [0, 1, 4, 7, 8] F = VT.leaf (AX.exit 0, [AV.slice 1001 0 n 1 (Cp.lo n), AV.func (Fn.func 85) [] [AV.ptr 1000 0], AV.any, AV.v (Value.int IntKind.i64 (Int.ofNat n)), AV.v (Value.int IntKind.i64 (Int.ofNat i))], 19) [some (AO.cells [AV.v (Value.func (Fn.func 55) (Array.mk []) (Array.mk []))] 152), some (AO.cells (rowV encB L) 11)] 1100 (((Cnd.p (Wk (AV.v (Value.bool (decide (Int.ofNat i < Int.ofNat n)))) (AV.lit false))).a Cnd.t).a Cnd.t) := by kernel_rfl
theorem oAlsT_eq (s : ByteArray) (F : HP) : wRun [] (hAt s.data.toList false) [(fIxF, 2, loopN fIxF 2, lAl s.data.toList fQs s.size)] default fAll [sv s, fnV fQs] [] [] F = VT.leaf (AV.v (Value.bool true)) [] 1102 (((Cnd.p (OW (AO.cells (vmap (List.map (fun b => Value.int IntKind.u8 ↑b.toNat) s.data.toList)) 11) (AO.cells (rowV encB s.data.toList) 11))).a Cnd.t).a ((((Cnd.p ((fIxF, 2, loopN fIxF 2, lAl s.data.toList fQs s.size).snd.snd.fst = (fIxF, 2, loopN fIxF 2, lAl s.data.toList fQs s.size).snd.snd.fst)).a ((Cnd.p True).a ((Cnd.p (VW [AV.slice 1101 0 s.size 1 (Cp.lo s.size), AV.func (Fn.func 85) [] [AV.ptr 1100 0], AV.undef, AV.undef, AV.v (Value.int IntKind.i64 (Int.ofNat 0)), AV.undef, AV.slice 1101 0 s.size 1 (Cp.lo s.size), AV.v (Value.int IntKind.i64 ↑s.size), AV.v (Value.int IntKind.i64 (Int.ofNat 0)), AV.undef, AV.undef, AV.undef, AV.undef, AV.undef, AV.undef, AV.undef, AV.undef, AV.undef, AV.undef] [AV.slice 1101 0 s.size 1 (Cp.lo s.size), AV.func (Fn.func 85) [] [AV.ptr 1100 0], AV.any, AV.any, AV.any, AV.any, AV.any, AV.v (Value.int IntKind.i64 (Int.ofNat s.size)), AV.v (Value.int IntKind.i64 (Int.ofNat 0)), AV.any, AV.any, AV.any, AV.any, AV.any, AV.any, AV.any, AV.any, AV.any, AV.any])).a ((Cnd.p (OW (AO.cells [AV.v (Value.func (Fn.func 55) (Array.mk []) (Array.mk []))] 152) (AO.cells [AV.v (Value.func (Fn.func 55) (Array.mk []) (Array.mk []))] 152))).a ((Cnd.p (OW (AO.cells (rowV encB s.data.toList) 11) (AO.cells (AV.rens (nmAl (1101, 1100)) (rowV encB s.data.toList)) 11))).a Cnd.t))))).a (((Cnd.p (Wk (AV.v (Value.bool false)) (AV.lit false))).a Cnd.t).a Cnd.t)).a (((Cnd.p (Wk (AV.v (Value.bool true)) (AV.v (Value.bool true)))).a Cnd.t).a Cnd.t))) := by kernel_rfl
theorem oAlsF_eq (s : ByteArray) (i : Nat) (F : HP) : wRun [] (hAt s.data.toList true) [(fIxF, 2, loopN fIxF 2, lAlx s.data.toList fQs s.size i)] default fAll [sv s, fnV fQs] [] [] F = VT.leaf (AV.v (Value.bool false)) [] 1102 (((Cnd.p (OW (AO.cells (vmap (List.map (fun b => Value.int IntKind.u8 ↑b.toNat) s.data.toList)) 11) (AO.cells (rowV encB s.data.toList) 11))).a Cnd.t).a ((((Cnd.p ((fIxF, 2, loopN fIxF 2, lAlx s.data.toList fQs s.size i).snd.snd.fst = (fIxF, 2, loopN fIxF 2, lAlx s.data.toList fQs s.size i).snd.snd.fst)).a ((Cnd.p True).a ((Cnd.p (VW [AV.slice 1101 0 s.size 1 (Cp.lo s.size), AV.func (Fn.func 85) [] [AV.ptr 1100 0], AV.undef, AV.undef, AV.v (Value.int IntKind.i64 (Int.ofNat 0)), AV.undef, AV.slice 1101 0 s.size 1 (Cp.lo s.size), AV.v (Value.int IntKind.i64 ↑s.size), AV.v (Value.int IntKind.i64 (Int.ofNat 0)), AV.undef, AV.undef, AV.undef, AV.undef, AV.undef, AV.undef, AV.undef, AV.undef, AV.undef, AV.undef] [AV.slice 1101 0 s.size 1 (Cp.lo s.size), AV.func (Fn.func 85) [] [AV.ptr 1100 0], AV.any, AV.any, AV.any, AV.any, AV.any, AV.v (Value.int IntKind.i64 (Int.ofNat s.size)), AV.v (Value.int IntKind.i64 (Int.ofNat 0)), AV.any, AV.any, AV.any, AV.any, AV.any, AV.any, AV.any, AV.any, AV.any, AV.any])).a ((Cnd.p (OW (AO.cells [AV.v (Value.func (Fn.func 55) (Array.mk []) (Array.mk []))] 152) (AO.cells [AV.v (Value.func (Fn.func 55) (Array.mk []) (Array.mk []))] 152))).a ((Cnd.p (OW (AO.cells (rowV encB s.data.toList) 11) (AO.cells (AV.rens (nmAl (1101, 1100)) (rowV encB s.data.toList)) 11))).a Cnd.t))))).a (((Cnd.p (Wk (AV.v (Value.bool true)) (AV.lit true))).a Cnd.t).a Cnd.t)).a (((Cnd.p (Wk (AV.v (Value.bool false)) (AV.v (Value.bool false)))).a Cnd.t).a Cnd.t))) := by kernel_rfl
abbrev fQn : Nat := 56
theorem oAlnH_eq (L : List UInt8) (n i : Nat) (x : UInt8) (F : HP) : wLoop [(fQn, cW x false)] (hAl i x true) [] default fIxF (loopN fIxF 2) (tms 0 19 (aAl n i)) [(1000, boxF fQn), (1001, rB1 L)] [1000, 1001] [0, 1, 4, 7, 8] F = VT.leaf (AX.ret, [AV.slice 1001 0 n 1 (Cp.lo n), AV.func (Fn.func 85) [] [AV.ptr 1000 0], AV.v (Value.int IntKind.i64 (Int.ofNat i)), AV.v (Value.int IntKind.i64 (Int.ofNat n)), AV.v (Value.int IntKind.i64 (Int.ofNat i))], 19) [some (AO.cells [AV.v (Value.func (Fn.func 56) (Array.mk []) (Array.mk []))] 152), some (AO.cells (rowV encB L) 11)] 1100 (((Cnd.p (Wk (AV.v (Value.bool (decide (Int.ofNat i < Int.ofNat n)))) (AV.lit true))).a Cnd.t).a (((Cnd.p (i.blt n = true)).a Cnd.t).a (((Cnd.p ((0 + i * 1).blt (rowV encB L).length = true)).a ((Cnd.p ((rowV encB L).getD (0 + i * 1) (AV.undef) = AV.v (Value.int IntKind.u8 ((rowV encB L).getD (0 + i * 1) (AV.undef)).intOf))).a ((Cnd.p (Wk (AV.v (Value.int IntKind.u8 ((rowV encB L).getD (0 + i * 1) (AV.undef)).intOf)) (AV.v (Value.int IntKind.u8 ↑x.toNat)))).a Cnd.t))).a ((((Cnd.p (true = true)).a Cnd.t).a (((Cnd.p ((↑x.toNat : Int) = ↑x.toNat)).a Cnd.t).a ((Cnd.p (Wk (AV.v (Value.bool true)) (AV.lit true))).a Cnd.t))).a Cnd.t)))) := by kernel_rfl
theorem oAlnN_eq (L : List UInt8) (n i : Nat) (x : UInt8) (F : HP) : wLoop [(fQn, cW x true)] (hAl i x false) [] default fIxF (loopN fIxF 2) (tms 0 19 (aAl n i)) [(1000, boxF fQn), (1001, rB1 L)] [1000, 1001] [0, 1, 4, 7, 8] F = VT.leaf (AX.normal, [AV.slice 1001 0 n 1 (Cp.lo n), AV.func (Fn.func 85) [] [AV.ptr 1000 0], AV.any, AV.v (Value.int IntKind.i64 (Int.ofNat n)), AV.v (Value.int IntKind.i64 (Int.ofNat (i + 1)))], 19) [some (AO.cells [AV.v (Value.func (Fn.func 56) (Array.mk []) (Array.mk []))] 152), some (AO.cells (rowV encB L) 11)] 1100 (((Cnd.p (Wk (AV.v (Value.bool (decide (Int.ofNat i < Int.ofNat n)))) (AV.lit true))).a Cnd.t).a (((Cnd.p (i.blt n = true)).a Cnd.t).a (((Cnd.p ((0 + i * 1).blt (rowV encB L).length = true)).a ((Cnd.p ((rowV encB L).getD (0 + i * 1) (AV.undef) = AV.v (Value.int IntKind.u8 ((rowV encB L).getD (0 + i * 1) (AV.undef)).intOf))).a ((Cnd.p (Wk (AV.v (Value.int IntKind.u8 ((rowV encB L).getD (0 + i * 1) (AV.undef)).intOf)) (AV.v (Value.int IntKind.u8 ↑x.toNat)))).a Cnd.t))).a ((((Cnd.p (true = true)).a Cnd.t).a (((Cnd.p ((↑x.toNat : Int) = ↑x.toNat)).a Cnd.t).a ((Cnd.p (Wk (AV.v (Value.bool false)) (AV.lit false))).a Cnd.t))).a (((Cnd.p (Wk (AV.v (Value.int IntKind.i64 (IntKind.i64.wrap (Int.ofNat i + Int.ofNat 1)))) (AV.v (Value.int IntKind.i64 (Int.ofNat (i + 1)))))).a Cnd.t).a Cnd.t))))) := by kernel_rfl
theorem oAlnE_eq (L : List UInt8) (n i : Nat) (F : HP) : wLoop [] (hintL [(fIxF, 2, 0, hv (.lit false))]) [] default fIxF (loopN fIxF 2) (tms 0 19 (aAl n i)) [(1000, boxF fQn), (1001, rB1 L)] [1000, 1001] [0, 1, 4, 7, 8] F = VT.leaf (AX.exit 0, [AV.slice 1001 0 n 1 (Cp.lo n), AV.func (Fn.func 85) [] [AV.ptr 1000 0], AV.any, AV.v (Value.int IntKind.i64 (Int.ofNat n)), AV.v (Value.int IntKind.i64 (Int.ofNat i))], 19) [some (AO.cells [AV.v (Value.func (Fn.func 56) (Array.mk []) (Array.mk []))] 152), some (AO.cells (rowV encB L) 11)] 1100 (((Cnd.p (Wk (AV.v (Value.bool (decide (Int.ofNat i < Int.ofNat n)))) (AV.lit false))).a Cnd.t).a Cnd.t) := by kernel_rfl
theorem oAlnT_eq (s : ByteArray) (F : HP) : wRun [] (hAt s.data.toList false) [(fIxF, 2, loopN fIxF 2, lAl s.data.toList fQn s.size)] default fAll [sv s, fnV fQn] [] [] F = VT.leaf (AV.v (Value.bool true)) [] 1102 (((Cnd.p (OW (AO.cells (vmap (List.map (fun b => Value.int IntKind.u8 ↑b.toNat) s.data.toList)) 11) (AO.cells (rowV encB s.data.toList) 11))).a Cnd.t).a ((((Cnd.p ((fIxF, 2, loopN fIxF 2, lAl s.data.toList fQn s.size).snd.snd.fst = (fIxF, 2, loopN fIxF 2, lAl s.data.toList fQn s.size).snd.snd.fst)).a ((Cnd.p True).a ((Cnd.p (VW [AV.slice 1101 0 s.size 1 (Cp.lo s.size), AV.func (Fn.func 85) [] [AV.ptr 1100 0], AV.undef, AV.undef, AV.v (Value.int IntKind.i64 (Int.ofNat 0)), AV.undef, AV.slice 1101 0 s.size 1 (Cp.lo s.size), AV.v (Value.int IntKind.i64 ↑s.size), AV.v (Value.int IntKind.i64 (Int.ofNat 0)), AV.undef, AV.undef, AV.undef, AV.undef, AV.undef, AV.undef, AV.undef, AV.undef, AV.undef, AV.undef] [AV.slice 1101 0 s.size 1 (Cp.lo s.size), AV.func (Fn.func 85) [] [AV.ptr 1100 0], AV.any, AV.any, AV.any, AV.any, AV.any, AV.v (Value.int IntKind.i64 (Int.ofNat s.size)), AV.v (Value.int IntKind.i64 (Int.ofNat 0)), AV.any, AV.any, AV.any, AV.any, AV.any, AV.any, AV.any, AV.any, AV.any, AV.any])).a ((Cnd.p (OW (AO.cells [AV.v (Value.func (Fn.func 56) (Array.mk []) (Array.mk []))] 152) (AO.cells [AV.v (Value.func (Fn.func 56) (Array.mk []) (Array.mk []))] 152))).a ((Cnd.p (OW (AO.cells (rowV encB s.data.toList) 11) (AO.cells (AV.rens (nmAl (1101, 1100)) (rowV encB s.data.toList)) 11))).a Cnd.t))))).a (((Cnd.p (Wk (AV.v (Value.bool false)) (AV.lit false))).a Cnd.t).a Cnd.t)).a (((Cnd.p (Wk (AV.v (Value.bool true)) (AV.v (Value.bool true)))).a Cnd.t).a Cnd.t))) := by kernel_rfl
theorem oAlnF_eq (s : ByteArray) (i : Nat) (F : HP) : wRun [] (hAt s.data.toList true) [(fIxF, 2, loopN fIxF 2, lAlx s.data.toList fQn s.size i)] default fAll [sv s, fnV fQn] [] [] F = VT.leaf (AV.v (Value.bool false)) [] 1102 (((Cnd.p (OW (AO.cells (vmap (List.map (fun b => Value.int IntKind.u8 ↑b.toNat) s.data.toList)) 11) (AO.cells (rowV encB s.data.toList) 11))).a Cnd.t).a ((((Cnd.p ((fIxF, 2, loopN fIxF 2, lAlx s.data.toList fQn s.size i).snd.snd.fst = (fIxF, 2, loopN fIxF 2, lAlx s.data.toList fQn s.size i).snd.snd.fst)).a ((Cnd.p True).a ((Cnd.p (VW [AV.slice 1101 0 s.size 1 (Cp.lo s.size), AV.func (Fn.func 85) [] [AV.ptr 1100 0], AV.undef, AV.undef, AV.v (Value.int IntKind.i64 (Int.ofNat 0)), AV.undef, AV.slice 1101 0 s.size 1 (Cp.lo s.size), AV.v (Value.int IntKind.i64 ↑s.size), AV.v (Value.int IntKind.i64 (Int.ofNat 0)), AV.undef, AV.undef, AV.undef, AV.undef, AV.undef, AV.undef, AV.undef, AV.undef, AV.undef, AV.undef] [AV.slice 1101 0 s.size 1 (Cp.lo s.size), AV.func (Fn.func 85) [] [AV.ptr 1100 0], AV.any, AV.any, AV.any, AV.any, AV.any, AV.v (Value.int IntKind.i64 (Int.ofNat s.size)), AV.v (Value.int IntKind.i64 (Int.ofNat 0)), AV.any, AV.any, AV.any, AV.any, AV.any, AV.any, AV.any, AV.any, AV.any, AV.any])).a ((Cnd.p (OW (AO.cells [AV.v (Value.func (Fn.func 56) (Array.mk []) (Array.mk []))] 152) (AO.cells [AV.v (Value.func (Fn.func 56) (Array.mk []) (Array.mk []))] 152))).a ((Cnd.p (OW (AO.cells (rowV encB s.data.toList) 11) (AO.cells (AV.rens (nmAl (1101, 1100)) (rowV encB s.data.toList)) 11))).a Cnd.t))))).a (((Cnd.p (Wk (AV.v (Value.bool true)) (AV.lit true))).a Cnd.t).a Cnd.t)).a (((Cnd.p (Wk (AV.v (Value.bool false)) (AV.v (Value.bool false)))).a Cnd.t).a Cnd.t))) := by kernel_rfl
abbrev fQh : Nat := 57
theorem oAlhH_eq (L : List UInt8) (n i : Nat) (x : UInt8) (F : HP) : wLoop [(fQh, cW x false)] (hAl i x true) [] default fIxF (loopN fIxF 2) (tms 0 19 (aAl n i)) [(1000, boxF fQh), (1001, rB1 L)] [1000, 1001] [0, 1, 4, 7, 8] F = VT.leaf (AX.ret, [AV.slice 1001 0 n 1 (Cp.lo n), AV.func (Fn.func 85) [] [AV.ptr 1000 0], AV.v (Value.int IntKind.i64 (Int.ofNat i)), AV.v (Value.int IntKind.i64 (Int.ofNat n)), AV.v (Value.int IntKind.i64 (Int.ofNat i))], 19) [some (AO.cells [AV.v (Value.func (Fn.func 57) (Array.mk []) (Array.mk []))] 152), some (AO.cells (rowV encB L) 11)] 1100 (((Cnd.p (Wk (AV.v (Value.bool (decide (Int.ofNat i < Int.ofNat n)))) (AV.lit true))).a Cnd.t).a (((Cnd.p (i.blt n = true)).a Cnd.t).a (((Cnd.p ((0 + i * 1).blt (rowV encB L).length = true)).a ((Cnd.p ((rowV encB L).getD (0 + i * 1) (AV.undef) = AV.v (Value.int IntKind.u8 ((rowV encB L).getD (0 + i * 1) (AV.undef)).intOf))).a ((Cnd.p (Wk (AV.v (Value.int IntKind.u8 ((rowV encB L).getD (0 + i * 1) (AV.undef)).intOf)) (AV.v (Value.int IntKind.u8 ↑x.toNat)))).a Cnd.t))).a ((((Cnd.p (true = true)).a Cnd.t).a (((Cnd.p ((↑x.toNat : Int) = ↑x.toNat)).a Cnd.t).a ((Cnd.p (Wk (AV.v (Value.bool true)) (AV.lit true))).a Cnd.t))).a Cnd.t)))) := by kernel_rfl
theorem oAlhN_eq (L : List UInt8) (n i : Nat) (x : UInt8) (F : HP) : wLoop [(fQh, cW x true)] (hAl i x false) [] default fIxF (loopN fIxF 2) (tms 0 19 (aAl n i)) [(1000, boxF fQh), (1001, rB1 L)] [1000, 1001] [0, 1, 4, 7, 8] F = VT.leaf (AX.normal, [AV.slice 1001 0 n 1 (Cp.lo n), AV.func (Fn.func 85) [] [AV.ptr 1000 0], AV.any, AV.v (Value.int IntKind.i64 (Int.ofNat n)), AV.v (Value.int IntKind.i64 (Int.ofNat (i + 1)))], 19) [some (AO.cells [AV.v (Value.func (Fn.func 57) (Array.mk []) (Array.mk []))] 152), some (AO.cells (rowV encB L) 11)] 1100 (((Cnd.p (Wk (AV.v (Value.bool (decide (Int.ofNat i < Int.ofNat n)))) (AV.lit true))).a Cnd.t).a (((Cnd.p (i.blt n = true)).a Cnd.t).a (((Cnd.p ((0 + i * 1).blt (rowV encB L).length = true)).a ((Cnd.p ((rowV encB L).getD (0 + i * 1) (AV.undef) = AV.v (Value.int IntKind.u8 ((rowV encB L).getD (0 + i * 1) (AV.undef)).intOf))).a ((Cnd.p (Wk (AV.v (Value.int IntKind.u8 ((rowV encB L).getD (0 + i * 1) (AV.undef)).intOf)) (AV.v (Value.int IntKind.u8 ↑x.toNat)))).a Cnd.t))).a ((((Cnd.p (true = true)).a Cnd.t).a (((Cnd.p ((↑x.toNat : Int) = ↑x.toNat)).a Cnd.t).a ((Cnd.p (Wk (AV.v (Value.bool false)) (AV.lit false))).a Cnd.t))).a (((Cnd.p (Wk (AV.v (Value.int IntKind.i64 (IntKind.i64.wrap (Int.ofNat i + Int.ofNat 1)))) (AV.v (Value.int IntKind.i64 (Int.ofNat (i + 1)))))).a Cnd.t).a Cnd.t))))) := by kernel_rfl
theorem oAlhE_eq (L : List UInt8) (n i : Nat) (F : HP) : wLoop [] (hintL [(fIxF, 2, 0, hv (.lit false))]) [] default fIxF (loopN fIxF 2) (tms 0 19 (aAl n i)) [(1000, boxF fQh), (1001, rB1 L)] [1000, 1001] [0, 1, 4, 7, 8] F = VT.leaf (AX.exit 0, [AV.slice 1001 0 n 1 (Cp.lo n), AV.func (Fn.func 85) [] [AV.ptr 1000 0], AV.any, AV.v (Value.int IntKind.i64 (Int.ofNat n)), AV.v (Value.int IntKind.i64 (Int.ofNat i))], 19) [some (AO.cells [AV.v (Value.func (Fn.func 57) (Array.mk []) (Array.mk []))] 152), some (AO.cells (rowV encB L) 11)] 1100 (((Cnd.p (Wk (AV.v (Value.bool (decide (Int.ofNat i < Int.ofNat n)))) (AV.lit false))).a Cnd.t).a Cnd.t) := by kernel_rfl
theorem oAlhT_eq (s : ByteArray) (F : HP) : wRun [] (hAt s.data.toList false) [(fIxF, 2, loopN fIxF 2, lAl s.data.toList fQh s.size)] default fAll [sv s, fnV fQh] [] [] F = VT.leaf (AV.v (Value.bool true)) [] 1102 (((Cnd.p (OW (AO.cells (vmap (List.map (fun b => Value.int IntKind.u8 ↑b.toNat) s.data.toList)) 11) (AO.cells (rowV encB s.data.toList) 11))).a Cnd.t).a ((((Cnd.p ((fIxF, 2, loopN fIxF 2, lAl s.data.toList fQh s.size).snd.snd.fst = (fIxF, 2, loopN fIxF 2, lAl s.data.toList fQh s.size).snd.snd.fst)).a ((Cnd.p True).a ((Cnd.p (VW [AV.slice 1101 0 s.size 1 (Cp.lo s.size), AV.func (Fn.func 85) [] [AV.ptr 1100 0], AV.undef, AV.undef, AV.v (Value.int IntKind.i64 (Int.ofNat 0)), AV.undef, AV.slice 1101 0 s.size 1 (Cp.lo s.size), AV.v (Value.int IntKind.i64 ↑s.size), AV.v (Value.int IntKind.i64 (Int.ofNat 0)), AV.undef, AV.undef, AV.undef, AV.undef, AV.undef, AV.undef, AV.undef, AV.undef, AV.undef, AV.undef] [AV.slice 1101 0 s.size 1 (Cp.lo s.size), AV.func (Fn.func 85) [] [AV.ptr 1100 0], AV.any, AV.any, AV.any, AV.any, AV.any, AV.v (Value.int IntKind.i64 (Int.ofNat s.size)), AV.v (Value.int IntKind.i64 (Int.ofNat 0)), AV.any, AV.any, AV.any, AV.any, AV.any, AV.any, AV.any, AV.any, AV.any, AV.any])).a ((Cnd.p (OW (AO.cells [AV.v (Value.func (Fn.func 57) (Array.mk []) (Array.mk []))] 152) (AO.cells [AV.v (Value.func (Fn.func 57) (Array.mk []) (Array.mk []))] 152))).a ((Cnd.p (OW (AO.cells (rowV encB s.data.toList) 11) (AO.cells (AV.rens (nmAl (1101, 1100)) (rowV encB s.data.toList)) 11))).a Cnd.t))))).a (((Cnd.p (Wk (AV.v (Value.bool false)) (AV.lit false))).a Cnd.t).a Cnd.t)).a (((Cnd.p (Wk (AV.v (Value.bool true)) (AV.v (Value.bool true)))).a Cnd.t).a Cnd.t))) := by kernel_rfl
theorem oAlhF_eq (s : ByteArray) (i : Nat) (F : HP) : wRun [] (hAt s.data.toList true) [(fIxF, 2, loopN fIxF 2, lAlx s.data.toList fQh s.size i)] default fAll [sv s, fnV fQh] [] [] F = VT.leaf (AV.v (Value.bool false)) [] 1102 (((Cnd.p (OW (AO.cells (vmap (List.map (fun b => Value.int IntKind.u8 ↑b.toNat) s.data.toList)) 11) (AO.cells (rowV encB s.data.toList) 11))).a Cnd.t).a ((((Cnd.p ((fIxF, 2, loopN fIxF 2, lAlx s.data.toList fQh s.size i).snd.snd.fst = (fIxF, 2, loopN fIxF 2, lAlx s.data.toList fQh s.size i).snd.snd.fst)).a ((Cnd.p True).a ((Cnd.p (VW [AV.slice 1101 0 s.size 1 (Cp.lo s.size), AV.func (Fn.func 85) [] [AV.ptr 1100 0], AV.undef, AV.undef, AV.v (Value.int IntKind.i64 (Int.ofNat 0)), AV.undef, AV.slice 1101 0 s.size 1 (Cp.lo s.size), AV.v (Value.int IntKind.i64 ↑s.size), AV.v (Value.int IntKind.i64 (Int.ofNat 0)), AV.undef, AV.undef, AV.undef, AV.undef, AV.undef, AV.undef, AV.undef, AV.undef, AV.undef, AV.undef] [AV.slice 1101 0 s.size 1 (Cp.lo s.size), AV.func (Fn.func 85) [] [AV.ptr 1100 0], AV.any, AV.any, AV.any, AV.any, AV.any, AV.v (Value.int IntKind.i64 (Int.ofNat s.size)), AV.v (Value.int IntKind.i64 (Int.ofNat 0)), AV.any, AV.any, AV.any, AV.any, AV.any, AV.any, AV.any, AV.any, AV.any, AV.any])).a ((Cnd.p (OW (AO.cells [AV.v (Value.func (Fn.func 57) (Array.mk []) (Array.mk []))] 152) (AO.cells [AV.v (Value.func (Fn.func 57) (Array.mk []) (Array.mk []))] 152))).a ((Cnd.p (OW (AO.cells (rowV encB s.data.toList) 11) (AO.cells (AV.rens (nmAl (1101, 1100)) (rowV encB s.data.toList)) 11))).a Cnd.t))))).a (((Cnd.p (Wk (AV.v (Value.bool true)) (AV.lit true))).a Cnd.t).a Cnd.t)).a (((Cnd.p (Wk (AV.v (Value.bool false)) (AV.v (Value.bool false)))).a Cnd.t).a Cnd.t))) := by kernel_rfl
abbrev fQd : Nat := 60
theorem oAldH_eq (L : List UInt8) (n i : Nat) (x : UInt8) (F : HP) : wLoop [(fQd, cW x false)] (hAl i x true) [] default fIxF (loopN fIxF 2) (tms 0 19 (aAl n i)) [(1000, boxF fQd), (1001, rB1 L)] [1000, 1001] [0, 1, 4, 7, 8] F = VT.leaf (AX.ret, [AV.slice 1001 0 n 1 (Cp.lo n), AV.func (Fn.func 85) [] [AV.ptr 1000 0], AV.v (Value.int IntKind.i64 (Int.ofNat i)), AV.v (Value.int IntKind.i64 (Int.ofNat n)), AV.v (Value.int IntKind.i64 (Int.ofNat i))], 19) [some (AO.cells [AV.v (Value.func (Fn.func 60) (Array.mk []) (Array.mk []))] 152), some (AO.cells (rowV encB L) 11)] 1100 (((Cnd.p (Wk (AV.v (Value.bool (decide (Int.ofNat i < Int.ofNat n)))) (AV.lit true))).a Cnd.t).a (((Cnd.p (i.blt n = true)).a Cnd.t).a (((Cnd.p ((0 + i * 1).blt (rowV encB L).length = true)).a ((Cnd.p ((rowV encB L).getD (0 + i * 1) (AV.undef) = AV.v (Value.int IntKind.u8 ((rowV encB L).getD (0 + i * 1) (AV.undef)).intOf))).a ((Cnd.p (Wk (AV.v (Value.int IntKind.u8 ((rowV encB L).getD (0 + i * 1) (AV.undef)).intOf)) (AV.v (Value.int IntKind.u8 ↑x.toNat)))).a Cnd.t))).a ((((Cnd.p (true = true)).a Cnd.t).a (((Cnd.p ((↑x.toNat : Int) = ↑x.toNat)).a Cnd.t).a ((Cnd.p (Wk (AV.v (Value.bool true)) (AV.lit true))).a Cnd.t))).a Cnd.t)))) := by kernel_rfl
theorem oAldN_eq (L : List UInt8) (n i : Nat) (x : UInt8) (F : HP) : wLoop [(fQd, cW x true)] (hAl i x false) [] default fIxF (loopN fIxF 2) (tms 0 19 (aAl n i)) [(1000, boxF fQd), (1001, rB1 L)] [1000, 1001] [0, 1, 4, 7, 8] F = VT.leaf (AX.normal, [AV.slice 1001 0 n 1 (Cp.lo n), AV.func (Fn.func 85) [] [AV.ptr 1000 0], AV.any, AV.v (Value.int IntKind.i64 (Int.ofNat n)), AV.v (Value.int IntKind.i64 (Int.ofNat (i + 1)))], 19) [some (AO.cells [AV.v (Value.func (Fn.func 60) (Array.mk []) (Array.mk []))] 152), some (AO.cells (rowV encB L) 11)] 1100 (((Cnd.p (Wk (AV.v (Value.bool (decide (Int.ofNat i < Int.ofNat n)))) (AV.lit true))).a Cnd.t).a (((Cnd.p (i.blt n = true)).a Cnd.t).a (((Cnd.p ((0 + i * 1).blt (rowV encB L).length = true)).a ((Cnd.p ((rowV encB L).getD (0 + i * 1) (AV.undef) = AV.v (Value.int IntKind.u8 ((rowV encB L).getD (0 + i * 1) (AV.undef)).intOf))).a ((Cnd.p (Wk (AV.v (Value.int IntKind.u8 ((rowV encB L).getD (0 + i * 1) (AV.undef)).intOf)) (AV.v (Value.int IntKind.u8 ↑x.toNat)))).a Cnd.t))).a ((((Cnd.p (true = true)).a Cnd.t).a (((Cnd.p ((↑x.toNat : Int) = ↑x.toNat)).a Cnd.t).a ((Cnd.p (Wk (AV.v (Value.bool false)) (AV.lit false))).a Cnd.t))).a (((Cnd.p (Wk (AV.v (Value.int IntKind.i64 (IntKind.i64.wrap (Int.ofNat i + Int.ofNat 1)))) (AV.v (Value.int IntKind.i64 (Int.ofNat (i + 1)))))).a Cnd.t).a Cnd.t))))) := by kernel_rfl
theorem oAldE_eq (L : List UInt8) (n i : Nat) (F : HP) : wLoop [] (hintL [(fIxF, 2, 0, hv (.lit false))]) [] default fIxF (loopN fIxF 2) (tms 0 19 (aAl n i)) [(1000, boxF fQd), (1001, rB1 L)] [1000, 1001] [0, 1, 4, 7, 8] F = VT.leaf (AX.exit 0, [AV.slice 1001 0 n 1 (Cp.lo n), AV.func (Fn.func 85) [] [AV.ptr 1000 0], AV.any, AV.v (Value.int IntKind.i64 (Int.ofNat n)), AV.v (Value.int IntKind.i64 (Int.ofNat i))], 19) [some (AO.cells [AV.v (Value.func (Fn.func 60) (Array.mk []) (Array.mk []))] 152), some (AO.cells (rowV encB L) 11)] 1100 (((Cnd.p (Wk (AV.v (Value.bool (decide (Int.ofNat i < Int.ofNat n)))) (AV.lit false))).a Cnd.t).a Cnd.t) := by kernel_rfl
theorem oAldT_eq (s : ByteArray) (F : HP) : wRun [] (hAt s.data.toList false) [(fIxF, 2, loopN fIxF 2, lAl s.data.toList fQd s.size)] default fAll [sv s, fnV fQd] [] [] F = VT.leaf (AV.v (Value.bool true)) [] 1102 (((Cnd.p (OW (AO.cells (vmap (List.map (fun b => Value.int IntKind.u8 ↑b.toNat) s.data.toList)) 11) (AO.cells (rowV encB s.data.toList) 11))).a Cnd.t).a ((((Cnd.p ((fIxF, 2, loopN fIxF 2, lAl s.data.toList fQd s.size).snd.snd.fst = (fIxF, 2, loopN fIxF 2, lAl s.data.toList fQd s.size).snd.snd.fst)).a ((Cnd.p True).a ((Cnd.p (VW [AV.slice 1101 0 s.size 1 (Cp.lo s.size), AV.func (Fn.func 85) [] [AV.ptr 1100 0], AV.undef, AV.undef, AV.v (Value.int IntKind.i64 (Int.ofNat 0)), AV.undef, AV.slice 1101 0 s.size 1 (Cp.lo s.size), AV.v (Value.int IntKind.i64 ↑s.size), AV.v (Value.int IntKind.i64 (Int.ofNat 0)), AV.undef, AV.undef, AV.undef, AV.undef, AV.undef, AV.undef, AV.undef, AV.undef, AV.undef, AV.undef] [AV.slice 1101 0 s.size 1 (Cp.lo s.size), AV.func (Fn.func 85) [] [AV.ptr 1100 0], AV.any, AV.any, AV.any, AV.any, AV.any, AV.v (Value.int IntKind.i64 (Int.ofNat s.size)), AV.v (Value.int IntKind.i64 (Int.ofNat 0)), AV.any, AV.any, AV.any, AV.any, AV.any, AV.any, AV.any, AV.any, AV.any, AV.any])).a ((Cnd.p (OW (AO.cells [AV.v (Value.func (Fn.func 60) (Array.mk []) (Array.mk []))] 152) (AO.cells [AV.v (Value.func (Fn.func 60) (Array.mk []) (Array.mk []))] 152))).a ((Cnd.p (OW (AO.cells (rowV encB s.data.toList) 11) (AO.cells (AV.rens (nmAl (1101, 1100)) (rowV encB s.data.toList)) 11))).a Cnd.t))))).a (((Cnd.p (Wk (AV.v (Value.bool false)) (AV.lit false))).a Cnd.t).a Cnd.t)).a (((Cnd.p (Wk (AV.v (Value.bool true)) (AV.v (Value.bool true)))).a Cnd.t).a Cnd.t))) := by kernel_rfl
theorem oAldF_eq (s : ByteArray) (i : Nat) (F : HP) : wRun [] (hAt s.data.toList true) [(fIxF, 2, loopN fIxF 2, lAlx s.data.toList fQd s.size i)] default fAll [sv s, fnV fQd] [] [] F = VT.leaf (AV.v (Value.bool false)) [] 1102 (((Cnd.p (OW (AO.cells (vmap (List.map (fun b => Value.int IntKind.u8 ↑b.toNat) s.data.toList)) 11) (AO.cells (rowV encB s.data.toList) 11))).a Cnd.t).a ((((Cnd.p ((fIxF, 2, loopN fIxF 2, lAlx s.data.toList fQd s.size i).snd.snd.fst = (fIxF, 2, loopN fIxF 2, lAlx s.data.toList fQd s.size i).snd.snd.fst)).a ((Cnd.p True).a ((Cnd.p (VW [AV.slice 1101 0 s.size 1 (Cp.lo s.size), AV.func (Fn.func 85) [] [AV.ptr 1100 0], AV.undef, AV.undef, AV.v (Value.int IntKind.i64 (Int.ofNat 0)), AV.undef, AV.slice 1101 0 s.size 1 (Cp.lo s.size), AV.v (Value.int IntKind.i64 ↑s.size), AV.v (Value.int IntKind.i64 (Int.ofNat 0)), AV.undef, AV.undef, AV.undef, AV.undef, AV.undef, AV.undef, AV.undef, AV.undef, AV.undef, AV.undef] [AV.slice 1101 0 s.size 1 (Cp.lo s.size), AV.func (Fn.func 85) [] [AV.ptr 1100 0], AV.any, AV.any, AV.any, AV.any, AV.any, AV.v (Value.int IntKind.i64 (Int.ofNat s.size)), AV.v (Value.int IntKind.i64 (Int.ofNat 0)), AV.any, AV.any, AV.any, AV.any, AV.any, AV.any, AV.any, AV.any, AV.any, AV.any])).a ((Cnd.p (OW (AO.cells [AV.v (Value.func (Fn.func 60) (Array.mk []) (Array.mk []))] 152) (AO.cells [AV.v (Value.func (Fn.func 60) (Array.mk []) (Array.mk []))] 152))).a ((Cnd.p (OW (AO.cells (rowV encB s.data.toList) 11) (AO.cells (AV.rens (nmAl (1101, 1100)) (rowV encB s.data.toList)) 11))).a Cnd.t))))).a (((Cnd.p (Wk (AV.v (Value.bool true)) (AV.lit true))).a Cnd.t).a Cnd.t)).a (((Cnd.p (Wk (AV.v (Value.bool false)) (AV.v (Value.bool false)))).a Cnd.t).a Cnd.t))) := by kernel_rfl
end
end Go.Proofs.YtpijbbobejeemaaGreatDoor.Htp

