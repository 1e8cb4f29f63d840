/- Parts of the proof, merged. -/
import Derived.Test.YtpijbbobejeemaaGreatDoorPrs2
import Derived.Lib.OthersKept
import Derived.Test.YtpijbbobejeemaaGreatDoorEngClosed
import Derived.Lib.Bytes
import Derived.Lib.SmallJoins
set_option linter.unusedVariables false
set_option linter.unusedSimpArgs false
set_option maxRecDepth 100000
set_option linter.unusedSectionVars false
namespace Go.Proofs.YtpijbbobejeemaaGreatDoor.Htp
open Go Go.RowKit
open Eng Kit
noncomputable section
end
section
variable {W : World} (hW : LW2 W) (h : List UInt8) (R : List (List UInt8)) (hb : R.length ≤ 1100000) (hp : ∀ p ∈ R, p.length ≤ 1100000) (hh : h.length ≤ 1100000)
include hW hb hp hh
end
noncomputable section
end
section
variable {W : World} (hW : LW2 W) (R : List (List UInt8)) (hb : R.length ≤ 1100000) (hp : ∀ p ∈ R, p.length ≤ 1090000)
include hW hb hp
end
theorem B8' {a b : List AV} (h : VW a b) : Wk (.tuple a) (.tuple b) := fun N y hy => by
 simp only [VR] at *
 obtain ⟨vs, h1, rfl⟩ := hy
 exact ⟨vs, h N vs h1, rfl⟩
noncomputable section
def gHx : List AV → Option Int
 | [.v (.int .u8 c)] => some c
 | _ => none
end
def cfg0 : Cfg := { strs := [], ints := [], same := [], clone := [], laid := [] }
theorem hJ' : CfgOk Tryz.prog cfg0 where
 strs := fun x hx => by cases hx
 ints := fun x hx => by cases hx
 same := fun x hx => by cases hx
 clone := fun x hx => by cases hx
theorem ZE' (A : List AV) (p : Int) (h : gHx A = some p) : A = vmap [.int .u8 p] := by
 unfold gHx at h
 split at h
 ·cases h; rfl
 ·cases h
noncomputable section
def okV (n : Nat) : AV := .tuple [sB 1000 n, bv true]
end
def crlf : List UInt8 := [13, 10]
def EI' : List UInt8 := [13, 10, 13, 10]
def f4 : List UInt8 → Option Nat
 | [] => none
 | b :: l => if EI'.isPrefixOf (b :: l) then some 0 else (f4 l).map (· + 1)
theorem SB' : ∀ (l : List UInt8) (k : Nat), f4 l = some k → k + 4 ≤ l.length
 | [], k, h => by cases h
 | b :: l, k, h => by
  unfold f4 at h
  split at h
  ·rename_i hp
   cases h
   have := (List.isPrefixOf_iff_prefix.1 hp).length_le
   simpa [EI'] using this
  ·cases hf : f4 l with
   | none => rw [hf] at h; cases h
   | some k' =>
    rw [hf] at h
    cases h
    have := SB' l k' hf
    simp only [List.length_cons]; omega
theorem MS' {p l : List UInt8} (x : List UInt8) (h : p.isPrefixOf l = true) : p.isPrefixOf (l ++ x) = true :=
 List.isPrefixOf_iff_prefix.2 ((List.isPrefixOf_iff_prefix.1 h).trans (List.prefix_append l x))
theorem RR' {p l x : List UInt8} (hl : p.length ≤ l.length) (h : p.isPrefixOf (l ++ x) = true) : p.isPrefixOf l = true :=
 List.isPrefixOf_iff_prefix.2 (List.prefix_of_prefix_length_le (List.isPrefixOf_iff_prefix.1 h) (List.prefix_append l x) hl)
theorem b5' (x : List UInt8) : ∀ (l : List UInt8) (k : Nat), f4 l = some k → f4 (l ++ x) = some k
 | [], k, h => by cases h
 | b :: l, k, h => by
  rw [List.cons_append]
  unfold f4 at h ⊢
  split at h
  ·rename_i hp
   rw [← List.cons_append, if_pos (MS' x hp)]
   exact h
  ·rename_i hp
   cases hf : f4 l with
   | none => rw [hf] at h; cases h
   | some k' =>
    have hl := SB' l k' hf
    rw [if_neg, b5' x l k' hf, ← hf]
    ·exact h
    ·intro hq
     rw [← List.cons_append] at hq
     exact hp (RR' (by simp only [List.length_cons, EI', List.length_nil]; omega) hq)
def hdN (w : List UInt8) : Option Nat := if crlf.isPrefixOf w then some 2 else (f4 w).map (· + 4)
theorem GR' {w : List UInt8} {n : Nat} (h : hdN w = some n) : 2 ≤ n ∧ n ≤ w.length := by
 unfold hdN at h
 split at h
 ·rename_i hp
  cases h
  have := (List.isPrefixOf_iff_prefix.1 hp).length_le
  exact ⟨n0, by simpa [crlf] using this⟩
 ·cases hf : f4 w with
  | none => rw [hf] at h; cases h
  | some k =>
   rw [hf] at h
   have h : k + 4 = n := Option.some.inj h
   have := SB' w k hf
   omega
theorem gX' (x : List UInt8) {w : List UInt8} {n : Nat} (h : hdN w = some n) : hdN (w ++ x) = some n := by
 have hl := GR' h
 unfold hdN at h ⊢
 split at h
 ·rename_i hp
  rw [if_pos (MS' x hp)]
  exact h
 ·rename_i hp
  rw [if_neg fun hq => hp (RR' (by simp only [crlf, List.length_cons, List.length_nil]; omega) hq)]
  cases hf : f4 w with
  | none => rw [hf] at h; cases h
  | some k => rw [b5' x w k hf, ← hf]; exact h
inductive Hd (R : Type) where
 | bad (status : Nat)
 | ok (r : R) (size : Nat)
inductive Rs (R : Type) where
 | no (status : Nat)
 | yes (r : R) (body : List UInt8) (used : Nat)
variable {R : Type} (hd : List UInt8 → Hd R)
def DJ' (w : List UInt8) : Rs R := match hdN w with
 | none => if w.length > 8192 then .no 413 else .no 0
 | some n => if n > 8192 then .no 413 else match hd (w.take n) with
  | .bad s => .no s
  | .ok r size => if w.length - n < size then .no 0 else .yes r ((w.drop n).take size) (n + size)
theorem X4' (x : List UInt8) {w : List UInt8} {n : Nat} (h : n ≤ w.length) : (w ++ x).take n = w.take n := by
 rw [List.take_append_of_le_length h]
theorem S1' (x : List UInt8) {w : List UInt8} {r : R} {bd : List UInt8} {k : Nat} (h : DJ' hd w = .yes r bd k) : DJ' hd (w ++ x) = .yes r bd k ∧ 2 ≤ k ∧ k ≤ w.length := by
 unfold DJ' at h ⊢
 cases hn : hdN w with
 | none => rw [hn] at h; simp only at h; split at h <;> cases h
 | some n =>
  have hl := GR' hn
  rw [hn] at h
  rw [gX' x hn]
  simp only at h ⊢
  split at h
  ·cases h
  ·rename_i hb
   rw [if_neg hb, X4' x hl.2]
   cases hh : hd (w.take n) with
   | bad s => rw [hh] at h; cases h
   | ok r' size =>
    rw [hh] at h
    simp only at h ⊢
    split at h
    ·cases h
    ·rename_i hs
     rw [if_neg (by rw [List.length_append]; omega)]
     injection h with h1 h2 h3
     subst h1 h2 h3
     refine ⟨?_, by omega, by omega⟩
     rw [List.drop_append_of_le_length hl.2, List.take_append_of_le_length (by rw [List.length_drop]; omega)]
def hA' : Nat → List UInt8 → List (R × List UInt8) × Nat × List UInt8
 | 0, w => ([], 0, w)
 | f + 1, w => match DJ' hd w with
  | .no s => ([], s, w)
  | .yes r bd k => ((r, bd) :: (hA' f (w.drop k)).1, (hA' f (w.drop k)).2)
def dr (w : List UInt8) : List (R × List UInt8) × Nat × List UInt8 := hA' hd (w.length + 1) w
def feed (q : List (R × List UInt8) × Nat × List UInt8) (x : List UInt8) : List (R × List UInt8) × Nat × List UInt8 := (q.1 ++ (dr hd (q.2.2 ++ x)).1, (dr hd (q.2.2 ++ x)).2)
abbrev P0' : Nat := 48
abbrev fTSuf : Nat := 27
abbrev D5' : Nat := 59
abbrev fHPre : Nat := 54
abbrev h7' : Nat := 61
noncomputable section
def u8s (xs : List UInt8) : List Int := xs.map fun b => (b.toNat : Int)
theorem PX' (xs : List UInt8) : rowV encB xs = (u8s xs).map u8V := by
 rw [B1', u8s, vmap, List.map_map, List.map_map]
 rfl
theorem GI' (xs : List UInt8) : (u8s xs).length = xs.length := List.length_map ..
theorem I6' (xs : List UInt8) : Lib.bytesOf (u8s xs) = xs := by
 unfold Lib.bytesOf u8s
 rw [List.map_map]
 have : ((fun n : Int => UInt8.ofNat n.toNat) ∘ fun b : UInt8 => (b.toNat : Int)) = id := funext fun b => by simp
 rw [this, List.map_id]
theorem aK' (xs : List UInt8) : ∀ z ∈ u8s xs, 0 ≤ z ∧ z < 256 := fun z hz => by
 obtain ⟨b, _, rfl⟩ := List.mem_map.1 hz
 have := b.toNat_lt
 exact ⟨by omega, by omega⟩
def XC' (xs ys : List UInt8) (val : AV) : List AV → Option (AP AV) := fun args => match args with
 | [.slice i off n sz _, .slice j off2 k sz2 _] => some (.read i fun o => match o with
  | .cells cs _ => .read j fun o2 => match o2 with
   | .cells ds _ => .need ((sz = 1 ∧ sz2 = 1) ∧ (List.take n (List.drop off cs) = rowV encB xs ∧ xs.length = n) ∧ (List.take k (List.drop off2 ds) = rowV encB ys ∧ ys.length = k)) (.ret val)
   | _ => .fail "bytes"
  | _ => .fail "bytes")
 | _ => some (.fail "bytes")
theorem RL' {W : World} {F : HP} (hF : AE' W F) {f : FuncId} {xs ys : List UInt8} {res : Value}
  (hc : ∀ w, IS' W w → ∀ b x c b2 x2 c2, xs.length ≤ c → ys.length ≤ c2 →
   (∀ j, j < xs.length → w.cell? ((⟨b, x, none⟩ : Addr).add j) = some (.int .u8 ((u8s xs).getD j 0))) → (∀ j, j < ys.length → w.cell? ((⟨b2, x2, none⟩ : Addr).add j) = some (.int .u8 ((u8s ys).getD j 0))) →
   Calls Tryz.prog f #[.slice (some ⟨b, x, none⟩) xs.length c, .slice (some ⟨b2, x2, none⟩) ys.length c2] w fun e w' => e = .returned res ∧ Below w.heap.size w w') : C1OK Tryz.prog F f (XC' xs ys (.v res)) := by
 intro st W0 N h0 w A vargs v h' n n' lg lg' c q hp he hcc r ha hf
 unfold XC' at hp
 split at hp
 ·rename_i i off m sz cap j off2 k sz2 cap2
  cases hp
  obtain ⟨o, ho, e1⟩ := AX' he
  cases o with
  | cells cs e =>
   obtain ⟨o2, ho2, e2⟩ := AX' e1
   cases o2 with
   | cells ds e' =>
    simp only at e2
    obtain ⟨c1, e3, rfl⟩ := AH' e2
    obtain ⟨⟨⟨rfl, rfl⟩, ⟨hx, rfl⟩, hy, rfl⟩, hc1⟩ := (Cnd.and_iff _ _).1 hcc
    obtain ⟨rfl, rfl, rfl⟩ := AD' e3
    obtain ⟨y1, r1, h1, ⟨y2, r2, h2, rfl, rfl⟩, hl⟩ := (by simpa only [VRs] using ha : ∃ y r, VR N (.slice i off xs.length 1 cap) y ∧ (∃ y2 r2, VR N (.slice j off2 ys.length 1 cap2) y2 ∧ r2 = [] ∧ r = y2 :: r2) ∧ vargs.toList = y :: r)
    obtain ⟨b, x, cc, rfl, k2, k3, k4⟩ := GM' r ho h1 (hx.trans (PX' xs)) (GI' xs)
    obtain ⟨b2, x2, cc2, rfl, k5, k6, k7⟩ := GM' r ho2 h2 (hy.trans (PX' ys)) (GI' ys)
    have hva : vargs = #[.slice (some ⟨b, x, none⟩) xs.length cc, .slice (some ⟨b2, x2, none⟩) ys.length cc2] := by
     apply Array.ext'
     rw [hl]
    subst hva
    obtain ⟨D0, D, p1, p2, p3⟩ := r.sat
    refine (hc w (hF D0 w p1) b x cc b2 x2 cc2 k2 k5 k4 k7).mono ?_
    rintro e w' ⟨rfl, hb⟩
    exact ⟨_, N, rfl, r.below hb, VR_v.2 rfl, fun _ _ => rfl⟩
   | _ => cases e2
  | _ => cases e1
 ·cases hp
  cases he
def XE' (ys : List UInt8) (val : AV) : List AV → Option (AP AV) := fun args => match args with
 | [.v (.slice none 0 0), .slice j off2 k sz2 _] => some (.read j fun o2 => match o2 with
   | .cells ds _ => .need (sz2 = 1 ∧ List.take k (List.drop off2 ds) = rowV encB ys ∧ ys.length = k) (.ret val)
   | _ => .fail "bytes")
 | _ => some (.fail "bytes")
theorem RM' {W : World} {F : HP} (hF : AE' W F) {f : FuncId} {ys : List UInt8} {res : Value}
  (hc : ∀ w, IS' W w → ∀ b2 x2 c2, ys.length ≤ c2 → (∀ j, j < ys.length → w.cell? ((⟨b2, x2, none⟩ : Addr).add j) = some (.int .u8 ((u8s ys).getD j 0))) →
   Calls Tryz.prog f #[.slice none 0 0, .slice (some ⟨b2, x2, none⟩) ys.length c2] w fun e w' => e = .returned res ∧ Below w.heap.size w w') : C1OK Tryz.prog F f (XE' ys (.v res)) := by
 intro st W0 N h0 w A vargs v h' n n' lg lg' c q hp he hcc r ha hf
 unfold XE' at hp
 split at hp
 ·rename_i j off2 k sz2 cap2
  cases hp
  obtain ⟨o2, ho2, e2⟩ := AX' he
  cases o2 with
  | cells ds e' =>
   simp only at e2
   obtain ⟨c1, e3, rfl⟩ := AH' e2
   obtain ⟨⟨rfl, hy, rfl⟩, hc1⟩ := (Cnd.and_iff _ _).1 hcc
   obtain ⟨rfl, rfl, rfl⟩ := AD' e3
   obtain ⟨y1, r1, h1, ⟨y2, r2, h2, rfl, rfl⟩, hl⟩ := (by simpa only [VRs] using ha : ∃ y r, VR N (.v (.slice none 0 0)) y ∧ (∃ y2 r2, VR N (.slice j off2 ys.length 1 cap2) y2 ∧ r2 = [] ∧ r = y2 :: r2) ∧ vargs.toList = y :: r)
   have h1 := VR_v.1 h1
   subst h1
   obtain ⟨b2, x2, cc2, rfl, k5, k6, k7⟩ := GM' r ho2 h2 (hy.trans (PX' ys)) (GI' ys)
   have hva : vargs = #[.slice none 0 0, .slice (some ⟨b2, x2, none⟩) ys.length cc2] := by
    apply Array.ext'
    rw [hl]
   subst hva
   obtain ⟨D0, D, p1, p2, p3⟩ := r.sat
   refine (hc w (hF D0 w p1) b2 x2 cc2 k5 k7).mono ?_
   rintro e w' ⟨rfl, hb⟩
   exact ⟨_, N, rfl, r.below hb, VR_v.2 rfl, fun _ _ => rfl⟩
  | _ => cases e2
 ·cases hp
  cases he
variable {W : World} {F : HP}
def W2' (ys : List UInt8) : List AV → Option (AP AV) := XE' ys (bv (Lib.hasPrefix [] ys))
theorem W1' (hF : AE' W F) (ys : List UInt8) : C1OK Tryz.prog F P0' (W2' ys) :=
 RM' hF fun w hw b2 x2 c2 l2 h2 => by
  have h := Tryz.bytes_HasPrefix_all none (some ⟨b2, x2, none⟩) 0 0 ys.length c2 [] (u8s ys) w rfl (GI' _) (n0) (.nil _ _ _) (.of_cells h2)
  rw [I6'] at h
  exact h.mono fun e w' ⟨q1, q2⟩ => ⟨q1, by rw [q2]; exact Below.refl _ _⟩
def W3' (xs ys : List UInt8) : List AV → Option (AP AV) := XC' xs ys (bv (Lib.hasPrefix xs ys))
theorem SH' (hF : AE' W F) (xs ys : List UInt8) : C1OK Tryz.prog F P0' (W3' xs ys) :=
 RL' hF fun w hw b x c b2 x2 c2 l1 l2 h1 h2 => by
  have h := Tryz.bytes_HasPrefix_all (some ⟨b, x, none⟩) (some ⟨b2, x2, none⟩) xs.length c ys.length c2 (u8s xs) (u8s ys) w (GI' _) (GI' _) l1 (.of_cells h1) (.of_cells h2)
  rw [I6', I6'] at h
  exact h.mono fun e w' ⟨q1, q2⟩ => ⟨q1, by rw [q2]; exact Below.refl _ _⟩
def i3' (xs ys : List UInt8) : List AV → Option (AP AV) := XC' xs ys (iv (Lib.index xs ys))
theorem ZW' (hW : LW W) (hF : AE' W F) (xs ys : List UInt8) (hx : xs.length ≤ 4000000) (hy : ys.length ≤ 4000000) : C1OK Tryz.prog F GU' (i3' xs ys) :=
 RL' hF fun w hw b x c b2 x2 c2 l1 l2 h1 h2 => by
  obtain ⟨m, hm⟩ := hW.maxLen
  have h := Tryz.bytes_Index_at ⟨b, x, none⟩ ⟨b2, x2, none⟩ xs.length c ys.length c2 (u8s xs) (u8s ys) m w (GI' _) (GI' _) (aK' _) (aK' _) h1 h2 l1 (by omega) (by omega) (hw.cell hm)
  rw [I6', I6'] at h
  exact h.mono fun e w' ⟨q1, k, q2⟩ => ⟨q1, by rw [q2]; exact ND' (Below.refl _ _) k⟩
def W5' (ys : List UInt8) : List AV → Option (AP AV) := XE' ys (iv (-1))
theorem W4' (hF : AE' W F) (ys : List UInt8) (h2 : 2 ≤ ys.length) (hy : ys.length ≤ 4000000) : C1OK Tryz.prog F GU' (W5' ys) :=
 RM' hF fun w hw b2 x2 c2 l2 h2 => by
  have h := Tryz.bytes_Index_nil (some ⟨b2, x2, none⟩) ys.length c2 w (by omega) (fun h => by omega)
  rw [if_neg (by omega)] at h
  exact h.mono fun e w' ⟨q1, q2⟩ => ⟨q1, by rw [q2]; exact Below.refl _ _⟩
def sufB (s t : ByteArray) : ByteArray := tB (Lib.trimSuffix s.data.toList t.data.toList)
def cTSuf : List AV → Option (AP AV) := vC g2s (fun p => p.1.size ≤ 9223372036854775807) (fun p => sv (sufB p.1 p.2))
theorem DS' (hF : AE' W F) : C1OK Tryz.prog F fTSuf cTSuf :=
 K8' hF (fun p => [.string p.1, .string p.2]) (fun p => .string (sufB p.1 p.2)) G3' (fun p N => vr_v N _) fun p hp w hw =>
  (Tryz.strings_TrimSuffix p.1 p.2 w hp).mono fun e w' ⟨h1, h2⟩ => ⟨h1, by rw [h2]; exact Below.refl _ _⟩
def BY' (s t : ByteArray) : ByteArray := tB (Lib.trimS s.data.toList t.data.toList)
def D6' : List AV → Option (AP AV) := vC g2s (fun p => p.1.size < 4294967281 ∧ p.2.size < 4294967281 ∧ IO' p.2) (fun p => sv (BY' p.1 p.2))
theorem CG' (hF : AE' W F) : C1OK Tryz.prog F D5' D6' :=
 K8' hF (fun p => [.string p.1, .string p.2]) (fun p => .string (BY' p.1 p.2)) G3' (fun p N => vr_v N _) fun p hp w hw =>
  Any.strings_Trim_laid Tryz.laysTrim (by kernel_rfl) p.1 p.2 w (by omega) hp.2.1 hp.2.2
def GQ' (s t : ByteArray) : Bool := Lib.hasPrefix s.data.toList t.data.toList
def cHPre : List AV → Option (AP AV) := vC g2s (fun _ => True) (fun p => bv (GQ' p.1 p.2))
theorem ZV' (hF : AE' W F) : C1OK Tryz.prog F fHPre cHPre :=
 K8' hF (fun p => [.string p.1, .string p.2]) (fun p => .bool (GQ' p.1 p.2)) G3' (fun p N => vr_v N _) fun p hp w hw =>
  (Tryz.strings_HasPrefix p.1 p.2 w).mono fun e w' ⟨h1, h2⟩ => ⟨h1, by rw [h2]; exact Below.refl _ _⟩
def i4' (s : ByteArray) (v : Int) : List AV → Option (AP AV) := vC g1s (fun p => p = s) (fun _ => .tuple [iv v, .v .nilIface])
theorem ZX' (hF : AE' W F) (s : ByteArray) (hs : s.size ≤ 4000000) (v : Int) (h : Lib.atoiAll s.data.toList = .ok v) : C1OK Tryz.prog F h7' (i4' s v) :=
 K8' hF (fun p => [.string p]) (fun _ => .tuple #[.int .i64 v, .nilIface]) S7' (fun p N => vr_t2 N _ _) fun p hp w hw => by
  subst hp
  refine (Tryz.strconv_Atoi_ok p (by omega) v h w).mono ?_
  rintro e w' ⟨h1, rfl | ⟨t, rfl⟩⟩
  ·exact ⟨h1, Below.refl _ _⟩
  ·exact ⟨h1, Go.Joins.below_bytesWorld _ _ _ _ (n0)⟩
def splB (s t : ByteArray) : List ByteArray := Lib.splitB t 0 (Lib.countB s t) s
def hK' : List AV → Option (AP AV) := rowC g2s (fun p => 1 ≤ p.2.size ∧ p.1.size < 4294967281) (fun p => (splB p.1 p.2).map Value.string) 9
theorem D9' (hW : LW W) (hF : AE' W F) : C1OK Tryz.prog F VG' hK' :=
 bO' hF (fun p => [.string p.1, .string p.2]) G3' fun p hp w hw => by
  obtain ⟨h1, h2⟩ := hp
  obtain ⟨m, hm⟩ := hW.maxLen
  obtain ⟨s, t⟩ := p
  simp only at h1 h2
  have hk := Tryz.strings_Split s t m w h2 (hw.cell hm) h1
  have hlen : (Lib.splitB t 0 (Lib.countB s t) s).length = Lib.countB s t + 1 := Lib.splitB_all t h1 0 _ s rfl
  rw [← hlen] at hk
  refine hk.mono fun e w' hh => ?_
  rw [List.length_map]
  exact hh
theorem X6' (s t : ByteArray) (h : 1 ≤ t.size) : 0 < (splB s t).length := by
 unfold splB
 rw [Lib.splitB_all t h 0 _ s rfl]
 omega
end
noncomputable section
abbrev fAll : Nat := 52
abbrev fAll1 : Nat := 85
abbrev fIxF : Nat := 111
abbrev fCoF : Nat := 84
abbrev tFun : TypeId := 2 * 76
def fnV (k : Nat) : AV := .v (.func (.func k) #[] #[])
def boxF (k : Nat) : AO := .cells [fnV k] tFun
def clF : AV := .func (.func fAll1) [] [.ptr 1000 0]
def aAl (n i : Nat) : List (Nat × AV) := [(0, sB 1001 n), (1, clF), (7, iv (Int.ofNat n)), (8, iv (Int.ofNat i))]
def hAl (i : Nat) (x : UInt8) (b : Bool) : B4' := AB' [(fIxF, 2, 0, hv (.lit true)), (fIxF, 4, 4, hv (byv x)), (fIxF, 4, 5, hv (.lit b)), (fIxF, 6, 0, hv (iv (Int.ofNat (i + 1))))]
def cW (x : UInt8) (b : Bool) : List AV → Option (AP AV) := vC gHx (fun c => c = (x.toNat : Int)) (fun _ => bv b)
def gAl : List AV → AP (Nat × Nat) := fun tmps => match getL tmps 0, getL tmps 1 with
 | .slice a _ _ _ _, .func _ _ [.ptr b _] => .ret (a, b)
 | _, _ => .fail "all"
def nmAl (p : Nat × Nat) : Nat → Nat := fun k => match Nat.beq k 1000 with
 | true => p.2
 | false => match Nat.beq k 1001 with
  | true => p.1
  | false => k
def lAl (L : List UInt8) (f n : Nat) : List AV → AP (AX × List AV) := mkL gAl (fun _ => True) nmAl (fun _ => tms 0 19 (aAl n 0)) (fun _ => [(1000, boxF f), (1001, rB1 L)]) (fun _ => .leaf (.exit 0) (tms 0 19 []) [])
def lAlx (L : List UInt8) (f n i : Nat) : List AV → AP (AX × List AV) := mkL gAl (fun _ => True) nmAl (fun _ => tms 0 19 (aAl n 0)) (fun _ => [(1000, boxF f), (1001, rB1 L)]) (fun _ => .leaf .ret (tms 0 19 [(4, iv (Int.ofNat i))]) [])
def hAt (L : List UInt8) (b : Bool) : B4' := AB' [(fAll, 1, 1, ho 1101 (rB1 L)), (fCoF, 1, 3, hv (.lit b)), (fAll, 1, 4, hv (bv (!b)))]
abbrev fQl : Nat := 53
noncomputable section
abbrev k1' (q0 q1 : Nat) : Cnd := (f' (Wk (b' (decide (Int.ofNat q0 < Int.ofNat q1))) j'))
abbrev k2' (q0 q1 : Nat) : Cnd := (f' (q0.blt q1 = true))
abbrev k3' (q0 : Nat) (q1 : List UInt8) (q2 : UInt8) : Cnd := ((p' ((0 + q0 * 1).blt (rowV encB q1).length = true)).a ((p' ((rowV encB q1).getD (0 + q0 * 1) (u') = AV.v (Value.int IntKind.u8 ((rowV encB q1).getD (0 + q0 * 1) (u')).intOf))).a (f' (Wk (AV.v (Value.int IntKind.u8 ((rowV encB q1).getD (0 + q0 * 1) (u')).intOf)) (AV.v (Value.int IntKind.u8 ↑q2.toNat))))))
abbrev k4' (q0 : UInt8) : Cnd := ((f' (true = true)).a ((f' ((↑q0.toNat : Int) = ↑q0.toNat)).a (f' (Wk (b' true) j'))))
end
theorem YL' (L : List UInt8) (n i : Nat) (x : UInt8) (F : HP) : AV' [(fQl, cW x false)] (hAl i x true) [] default fIxF (A4' fIxF 2) (tms 0 19 (aAl n i)) [(1000, boxF fQl), (1001, rB1 L)] [1000, 1001] [0, 1, 4, 7, 8] F = VT.leaf (AX.ret,[AV.slice 1001 0 n 1 (Cp.lo n),AV.func (Fn.func 85) [] [AV.ptr 1000 0],i' i,i' n,i' i],19) [some (AO.cells [AV.v (Value.func (Fn.func 53) (Array.mk []) (Array.mk []))] 152),some (AO.cells (rowV encB L) 11)] 1100 ((k1' i n).a ((k2' i n).a ((k3' i L x).a ((k4' x).a t')))) := by kernel_rfl
noncomputable section
abbrev k5' (q0 : UInt8) : Cnd := ((f' (true = true)).a ((f' ((↑q0.toNat : Int) = ↑q0.toNat)).a (f' (Wk (b' false) g'))))
abbrev k6' (q0 : Nat) : Cnd := (f' (Wk (z' (IntKind.i64.wrap (Int.ofNat q0 + Int.ofNat 1))) (i' (q0 + 1))))
end
theorem RV' (L : List UInt8) (n i : Nat) (x : UInt8) (F : HP) : AV' [(fQl, cW x true)] (hAl i x false) [] default fIxF (A4' fIxF 2) (tms 0 19 (aAl n i)) [(1000, boxF fQl), (1001, rB1 L)] [1000, 1001] [0, 1, 4, 7, 8] F = VT.leaf (AX.normal,[AV.slice 1001 0 n 1 (Cp.lo n),AV.func (Fn.func 85) [] [AV.ptr 1000 0],a',i' n,i' (i + 1)],19) [some (AO.cells [AV.v (Value.func (Fn.func 53) (Array.mk []) (Array.mk []))] 152),some (AO.cells (rowV encB L) 11)] 1100 ((k1' i n).a ((k2' i n).a ((k3' i L x).a ((k5' x).a ((k6' i).a t'))))) := by kernel_rfl
noncomputable section
abbrev k7' (q0 q1 : Nat) : Cnd := (f' (Wk (b' (decide (Int.ofNat q0 < Int.ofNat q1))) g'))
end
theorem YN' (L : List UInt8) (n i : Nat) (F : HP) : AV' [] (AB' [(fIxF, 2, 0, hv (.lit false))]) [] default fIxF (A4' fIxF 2) (tms 0 19 (aAl n i)) [(1000, boxF fQl), (1001, rB1 L)] [1000, 1001] [0, 1, 4, 7, 8] F = VT.leaf (AX.exit 0,[AV.slice 1001 0 n 1 (Cp.lo n),AV.func (Fn.func 85) [] [AV.ptr 1000 0],a',i' n,i' i],19) [some (AO.cells [AV.v (Value.func (Fn.func 53) (Array.mk []) (Array.mk []))] 152),some (AO.cells (rowV encB L) 11)] 1100 ((k7' i n).a t') := by kernel_rfl
noncomputable section
abbrev k8' (q0 : ByteArray) : Cnd := (f' (OW (AO.cells (vmap (List.map (fun b => Value.int IntKind.u8 ↑b.toNat) q0.data.toList)) 11) (AO.cells (rowV encB q0.data.toList) 11)))
abbrev k9' : Cnd := (f' (Wk (b' true) (b' true)))
end
theorem YK' (s : ByteArray) (F : HP) : wRun [] (hAt s.data.toList false) [(fIxF, 2, A4' fIxF 2, lAl s.data.toList fQl s.size)] default fAll [sv s, fnV fQl] [] [] F = VT.leaf (b' true) [] 1102 ((k8' s).a ((((p' ((fIxF,2,A4' fIxF 2,lAl s.data.toList fQl s.size).snd.snd.fst = (fIxF,2,A4' fIxF 2,lAl s.data.toList fQl s.size).snd.snd.fst)).a ((Cnd.p True).a ((p' (VW (AV.slice 1101 0 s.size 1 (Cp.lo s.size)::AV.func (Fn.func 85) [] [AV.ptr 1100 0]::u'::u'::i' 0::u'::AV.slice 1101 0 s.size 1 (Cp.lo s.size)::z' ↑s.size::i' 0::ru8 (u'::u'::[])) (AV.slice 1101 0 s.size 1 (Cp.lo s.size)::AV.func (Fn.func 85) [] [AV.ptr 1100 0]::ra4 (a'::i' s.size::i' 0::ra8 (a'::a'::[]))))).a ((p' (OW (AO.cells [AV.v (Value.func (Fn.func 53) (Array.mk []) (Array.mk []))] 152) (AO.cells [AV.v (Value.func (Fn.func 53) (Array.mk []) (Array.mk []))] 152))).a (f' (OW (AO.cells (rowV encB s.data.toList) 11) (AO.cells (AV.rens (nmAl (1101,1100)) (rowV encB s.data.toList)) 11))))))).a ((f' (Wk (b' false) g')).a t')).a (k9'.a t'))) := by kernel_rfl
noncomputable section
abbrev k10' : Cnd := (f' (Wk (b' false) (b' false)))
end
theorem YM' (s : ByteArray) (i : Nat) (F : HP) : wRun [] (hAt s.data.toList true) [(fIxF, 2, A4' fIxF 2, lAlx s.data.toList fQl s.size i)] default fAll [sv s, fnV fQl] [] [] F = VT.leaf (b' false) [] 1102 ((k8' s).a ((((p' ((fIxF,2,A4' fIxF 2,lAlx s.data.toList fQl s.size i).snd.snd.fst = (fIxF,2,A4' fIxF 2,lAlx s.data.toList fQl s.size i).snd.snd.fst)).a ((Cnd.p True).a ((p' (VW (AV.slice 1101 0 s.size 1 (Cp.lo s.size)::AV.func (Fn.func 85) [] [AV.ptr 1100 0]::u'::u'::i' 0::u'::AV.slice 1101 0 s.size 1 (Cp.lo s.size)::z' ↑s.size::i' 0::ru8 (u'::u'::[])) (AV.slice 1101 0 s.size 1 (Cp.lo s.size)::AV.func (Fn.func 85) [] [AV.ptr 1100 0]::ra4 (a'::i' s.size::i' 0::ra8 (a'::a'::[]))))).a ((p' (OW (AO.cells [AV.v (Value.func (Fn.func 53) (Array.mk []) (Array.mk []))] 152) (AO.cells [AV.v (Value.func (Fn.func 53) (Array.mk []) (Array.mk []))] 152))).a (f' (OW (AO.cells (rowV encB s.data.toList) 11) (AO.cells (AV.rens (nmAl (1101,1100)) (rowV encB s.data.toList)) 11))))))).a ((f' (Wk (b' true) j')).a t')).a (k10'.a t'))) := by kernel_rfl
abbrev fQs : Nat := 55
theorem YD' (L : List UInt8) (n i : Nat) (x : UInt8) (F : HP) : AV' [(fQs, cW x false)] (hAl i x true) [] default fIxF (A4' fIxF 2) (tms 0 19 (aAl n i)) [(1000, boxF fQs), (1001, rB1 L)] [1000, 1001] [0, 1, 4, 7, 8] F = VT.leaf (AX.ret,[AV.slice 1001 0 n 1 (Cp.lo n),AV.func (Fn.func 85) [] [AV.ptr 1000 0],i' i,i' n,i' i],19) [some (AO.cells [AV.v (Value.func (Fn.func 55) (Array.mk []) (Array.mk []))] 152),some (AO.cells (rowV encB L) 11)] 1100 ((k1' i n).a ((k2' i n).a ((k3' i L x).a ((k4' x).a t')))) := by kernel_rfl
theorem RT' (L : List UInt8) (n i : Nat) (x : UInt8) (F : HP) : AV' [(fQs, cW x true)] (hAl i x false) [] default fIxF (A4' fIxF 2) (tms 0 19 (aAl n i)) [(1000, boxF fQs), (1001, rB1 L)] [1000, 1001] [0, 1, 4, 7, 8] F = VT.leaf (AX.normal,[AV.slice 1001 0 n 1 (Cp.lo n),AV.func (Fn.func 85) [] [AV.ptr 1000 0],a',i' n,i' (i + 1)],19) [some (AO.cells [AV.v (Value.func (Fn.func 55) (Array.mk []) (Array.mk []))] 152),some (AO.cells (rowV encB L) 11)] 1100 ((k1' i n).a ((k2' i n).a ((k3' i L x).a ((k5' x).a ((k6' i).a t'))))) := by kernel_rfl
theorem YF' (L : List UInt8) (n i : Nat) (F : HP) : AV' [] (AB' [(fIxF, 2, 0, hv (.lit false))]) [] default fIxF (A4' fIxF 2) (tms 0 19 (aAl n i)) [(1000, boxF fQs), (1001, rB1 L)] [1000, 1001] [0, 1, 4, 7, 8] F = VT.leaf (AX.exit 0,[AV.slice 1001 0 n 1 (Cp.lo n),AV.func (Fn.func 85) [] [AV.ptr 1000 0],a',i' n,i' i],19) [some (AO.cells [AV.v (Value.func (Fn.func 55) (Array.mk []) (Array.mk []))] 152),some (AO.cells (rowV encB L) 11)] 1100 ((k7' i n).a t') := by kernel_rfl
theorem YC' (s : ByteArray) (F : HP) : wRun [] (hAt s.data.toList false) [(fIxF, 2, A4' fIxF 2, lAl s.data.toList fQs s.size)] default fAll [sv s, fnV fQs] [] [] F = VT.leaf (b' true) [] 1102 ((k8' s).a ((((p' ((fIxF,2,A4' fIxF 2,lAl s.data.toList fQs s.size).snd.snd.fst = (fIxF,2,A4' fIxF 2,lAl s.data.toList fQs s.size).snd.snd.fst)).a ((Cnd.p True).a ((p' (VW (AV.slice 1101 0 s.size 1 (Cp.lo s.size)::AV.func (Fn.func 85) [] [AV.ptr 1100 0]::u'::u'::i' 0::u'::AV.slice 1101 0 s.size 1 (Cp.lo s.size)::z' ↑s.size::i' 0::ru8 (u'::u'::[])) (AV.slice 1101 0 s.size 1 (Cp.lo s.size)::AV.func (Fn.func 85) [] [AV.ptr 1100 0]::ra4 (a'::i' s.size::i' 0::ra8 (a'::a'::[]))))).a ((p' (OW (AO.cells [AV.v (Value.func (Fn.func 55) (Array.mk []) (Array.mk []))] 152) (AO.cells [AV.v (Value.func (Fn.func 55) (Array.mk []) (Array.mk []))] 152))).a (f' (OW (AO.cells (rowV encB s.data.toList) 11) (AO.cells (AV.rens (nmAl (1101,1100)) (rowV encB s.data.toList)) 11))))))).a ((f' (Wk (b' false) g')).a t')).a (k9'.a t'))) := by kernel_rfl
theorem YE' (s : ByteArray) (i : Nat) (F : HP) : wRun [] (hAt s.data.toList true) [(fIxF, 2, A4' fIxF 2, lAlx s.data.toList fQs s.size i)] default fAll [sv s, fnV fQs] [] [] F = VT.leaf (b' false) [] 1102 ((k8' s).a ((((p' ((fIxF,2,A4' fIxF 2,lAlx s.data.toList fQs s.size i).snd.snd.fst = (fIxF,2,A4' fIxF 2,lAlx s.data.toList fQs s.size i).snd.snd.fst)).a ((Cnd.p True).a ((p' (VW (AV.slice 1101 0 s.size 1 (Cp.lo s.size)::AV.func (Fn.func 85) [] [AV.ptr 1100 0]::u'::u'::i' 0::u'::AV.slice 1101 0 s.size 1 (Cp.lo s.size)::z' ↑s.size::i' 0::ru8 (u'::u'::[])) (AV.slice 1101 0 s.size 1 (Cp.lo s.size)::AV.func (Fn.func 85) [] [AV.ptr 1100 0]::ra4 (a'::i' s.size::i' 0::ra8 (a'::a'::[]))))).a ((p' (OW (AO.cells [AV.v (Value.func (Fn.func 55) (Array.mk []) (Array.mk []))] 152) (AO.cells [AV.v (Value.func (Fn.func 55) (Array.mk []) (Array.mk []))] 152))).a (f' (OW (AO.cells (rowV encB s.data.toList) 11) (AO.cells (AV.rens (nmAl (1101,1100)) (rowV encB s.data.toList)) 11))))))).a ((f' (Wk (b' true) j')).a t')).a (k10'.a t'))) := by kernel_rfl
abbrev fQn : Nat := 56
theorem YH' (L : List UInt8) (n i : Nat) (x : UInt8) (F : HP) : AV' [(fQn, cW x false)] (hAl i x true) [] default fIxF (A4' fIxF 2) (tms 0 19 (aAl n i)) [(1000, boxF fQn), (1001, rB1 L)] [1000, 1001] [0, 1, 4, 7, 8] F = VT.leaf (AX.ret,[AV.slice 1001 0 n 1 (Cp.lo n),AV.func (Fn.func 85) [] [AV.ptr 1000 0],i' i,i' n,i' i],19) [some (AO.cells [AV.v (Value.func (Fn.func 56) (Array.mk []) (Array.mk []))] 152),some (AO.cells (rowV encB L) 11)] 1100 ((k1' i n).a ((k2' i n).a ((k3' i L x).a ((k4' x).a t')))) := by kernel_rfl
theorem RU' (L : List UInt8) (n i : Nat) (x : UInt8) (F : HP) : AV' [(fQn, cW x true)] (hAl i x false) [] default fIxF (A4' fIxF 2) (tms 0 19 (aAl n i)) [(1000, boxF fQn), (1001, rB1 L)] [1000, 1001] [0, 1, 4, 7, 8] F = VT.leaf (AX.normal,[AV.slice 1001 0 n 1 (Cp.lo n),AV.func (Fn.func 85) [] [AV.ptr 1000 0],a',i' n,i' (i + 1)],19) [some (AO.cells [AV.v (Value.func (Fn.func 56) (Array.mk []) (Array.mk []))] 152),some (AO.cells (rowV encB L) 11)] 1100 ((k1' i n).a ((k2' i n).a ((k3' i L x).a ((k5' x).a ((k6' i).a t'))))) := by kernel_rfl
theorem YJ' (L : List UInt8) (n i : Nat) (F : HP) : AV' [] (AB' [(fIxF, 2, 0, hv (.lit false))]) [] default fIxF (A4' fIxF 2) (tms 0 19 (aAl n i)) [(1000, boxF fQn), (1001, rB1 L)] [1000, 1001] [0, 1, 4, 7, 8] F = VT.leaf (AX.exit 0,[AV.slice 1001 0 n 1 (Cp.lo n),AV.func (Fn.func 85) [] [AV.ptr 1000 0],a',i' n,i' i],19) [some (AO.cells [AV.v (Value.func (Fn.func 56) (Array.mk []) (Array.mk []))] 152),some (AO.cells (rowV encB L) 11)] 1100 ((k7' i n).a t') := by kernel_rfl
theorem YG' (s : ByteArray) (F : HP) : wRun [] (hAt s.data.toList false) [(fIxF, 2, A4' fIxF 2, lAl s.data.toList fQn s.size)] default fAll [sv s, fnV fQn] [] [] F = VT.leaf (b' true) [] 1102 ((k8' s).a ((((p' ((fIxF,2,A4' fIxF 2,lAl s.data.toList fQn s.size).snd.snd.fst = (fIxF,2,A4' fIxF 2,lAl s.data.toList fQn s.size).snd.snd.fst)).a ((Cnd.p True).a ((p' (VW (AV.slice 1101 0 s.size 1 (Cp.lo s.size)::AV.func (Fn.func 85) [] [AV.ptr 1100 0]::u'::u'::i' 0::u'::AV.slice 1101 0 s.size 1 (Cp.lo s.size)::z' ↑s.size::i' 0::ru8 (u'::u'::[])) (AV.slice 1101 0 s.size 1 (Cp.lo s.size)::AV.func (Fn.func 85) [] [AV.ptr 1100 0]::ra4 (a'::i' s.size::i' 0::ra8 (a'::a'::[]))))).a ((p' (OW (AO.cells [AV.v (Value.func (Fn.func 56) (Array.mk []) (Array.mk []))] 152) (AO.cells [AV.v (Value.func (Fn.func 56) (Array.mk []) (Array.mk []))] 152))).a (f' (OW (AO.cells (rowV encB s.data.toList) 11) (AO.cells (AV.rens (nmAl (1101,1100)) (rowV encB s.data.toList)) 11))))))).a ((f' (Wk (b' false) g')).a t')).a (k9'.a t'))) := by kernel_rfl
theorem YI' (s : ByteArray) (i : Nat) (F : HP) : wRun [] (hAt s.data.toList true) [(fIxF, 2, A4' fIxF 2, lAlx s.data.toList fQn s.size i)] default fAll [sv s, fnV fQn] [] [] F = VT.leaf (b' false) [] 1102 ((k8' s).a ((((p' ((fIxF,2,A4' fIxF 2,lAlx s.data.toList fQn s.size i).snd.snd.fst = (fIxF,2,A4' fIxF 2,lAlx s.data.toList fQn s.size i).snd.snd.fst)).a ((Cnd.p True).a ((p' (VW (AV.slice 1101 0 s.size 1 (Cp.lo s.size)::AV.func (Fn.func 85) [] [AV.ptr 1100 0]::u'::u'::i' 0::u'::AV.slice 1101 0 s.size 1 (Cp.lo s.size)::z' ↑s.size::i' 0::ru8 (u'::u'::[])) (AV.slice 1101 0 s.size 1 (Cp.lo s.size)::AV.func (Fn.func 85) [] [AV.ptr 1100 0]::ra4 (a'::i' s.size::i' 0::ra8 (a'::a'::[]))))).a ((p' (OW (AO.cells [AV.v (Value.func (Fn.func 56) (Array.mk []) (Array.mk []))] 152) (AO.cells [AV.v (Value.func (Fn.func 56) (Array.mk []) (Array.mk []))] 152))).a (f' (OW (AO.cells (rowV encB s.data.toList) 11) (AO.cells (AV.rens (nmAl (1101,1100)) (rowV encB s.data.toList)) 11))))))).a ((f' (Wk (b' true) j')).a t')).a (k10'.a t'))) := by kernel_rfl
abbrev fQh : Nat := 57
theorem YP' (L : List UInt8) (n i : Nat) (x : UInt8) (F : HP) : AV' [(fQh, cW x false)] (hAl i x true) [] default fIxF (A4' fIxF 2) (tms 0 19 (aAl n i)) [(1000, boxF fQh), (1001, rB1 L)] [1000, 1001] [0, 1, 4, 7, 8] F = VT.leaf (AX.ret,[AV.slice 1001 0 n 1 (Cp.lo n),AV.func (Fn.func 85) [] [AV.ptr 1000 0],i' i,i' n,i' i],19) [some (AO.cells [AV.v (Value.func (Fn.func 57) (Array.mk []) (Array.mk []))] 152),some (AO.cells (rowV encB L) 11)] 1100 ((k1' i n).a ((k2' i n).a ((k3' i L x).a ((k4' x).a t')))) := by kernel_rfl
theorem RW' (L : List UInt8) (n i : Nat) (x : UInt8) (F : HP) : AV' [(fQh, cW x true)] (hAl i x false) [] default fIxF (A4' fIxF 2) (tms 0 19 (aAl n i)) [(1000, boxF fQh), (1001, rB1 L)] [1000, 1001] [0, 1, 4, 7, 8] F = VT.leaf (AX.normal,[AV.slice 1001 0 n 1 (Cp.lo n),AV.func (Fn.func 85) [] [AV.ptr 1000 0],a',i' n,i' (i + 1)],19) [some (AO.cells [AV.v (Value.func (Fn.func 57) (Array.mk []) (Array.mk []))] 152),some (AO.cells (rowV encB L) 11)] 1100 ((k1' i n).a ((k2' i n).a ((k3' i L x).a ((k5' x).a ((k6' i).a t'))))) := by kernel_rfl
theorem YR' (L : List UInt8) (n i : Nat) (F : HP) : AV' [] (AB' [(fIxF, 2, 0, hv (.lit false))]) [] default fIxF (A4' fIxF 2) (tms 0 19 (aAl n i)) [(1000, boxF fQh), (1001, rB1 L)] [1000, 1001] [0, 1, 4, 7, 8] F = VT.leaf (AX.exit 0,[AV.slice 1001 0 n 1 (Cp.lo n),AV.func (Fn.func 85) [] [AV.ptr 1000 0],a',i' n,i' i],19) [some (AO.cells [AV.v (Value.func (Fn.func 57) (Array.mk []) (Array.mk []))] 152),some (AO.cells (rowV encB L) 11)] 1100 ((k7' i n).a t') := by kernel_rfl
theorem YO' (s : ByteArray) (F : HP) : wRun [] (hAt s.data.toList false) [(fIxF, 2, A4' fIxF 2, lAl s.data.toList fQh s.size)] default fAll [sv s, fnV fQh] [] [] F = VT.leaf (b' true) [] 1102 ((k8' s).a ((((p' ((fIxF,2,A4' fIxF 2,lAl s.data.toList fQh s.size).snd.snd.fst = (fIxF,2,A4' fIxF 2,lAl s.data.toList fQh s.size).snd.snd.fst)).a ((Cnd.p True).a ((p' (VW (AV.slice 1101 0 s.size 1 (Cp.lo s.size)::AV.func (Fn.func 85) [] [AV.ptr 1100 0]::u'::u'::i' 0::u'::AV.slice 1101 0 s.size 1 (Cp.lo s.size)::z' ↑s.size::i' 0::ru8 (u'::u'::[])) (AV.slice 1101 0 s.size 1 (Cp.lo s.size)::AV.func (Fn.func 85) [] [AV.ptr 1100 0]::ra4 (a'::i' s.size::i' 0::ra8 (a'::a'::[]))))).a ((p' (OW (AO.cells [AV.v (Value.func (Fn.func 57) (Array.mk []) (Array.mk []))] 152) (AO.cells [AV.v (Value.func (Fn.func 57) (Array.mk []) (Array.mk []))] 152))).a (f' (OW (AO.cells (rowV encB s.data.toList) 11) (AO.cells (AV.rens (nmAl (1101,1100)) (rowV encB s.data.toList)) 11))))))).a ((f' (Wk (b' false) g')).a t')).a (k9'.a t'))) := by kernel_rfl
theorem YQ' (s : ByteArray) (i : Nat) (F : HP) : wRun [] (hAt s.data.toList true) [(fIxF, 2, A4' fIxF 2, lAlx s.data.toList fQh s.size i)] default fAll [sv s, fnV fQh] [] [] F = VT.leaf (b' false) [] 1102 ((k8' s).a ((((p' ((fIxF,2,A4' fIxF 2,lAlx s.data.toList fQh s.size i).snd.snd.fst = (fIxF,2,A4' fIxF 2,lAlx s.data.toList fQh s.size i).snd.snd.fst)).a ((Cnd.p True).a ((p' (VW (AV.slice 1101 0 s.size 1 (Cp.lo s.size)::AV.func (Fn.func 85) [] [AV.ptr 1100 0]::u'::u'::i' 0::u'::AV.slice 1101 0 s.size 1 (Cp.lo s.size)::z' ↑s.size::i' 0::ru8 (u'::u'::[])) (AV.slice 1101 0 s.size 1 (Cp.lo s.size)::AV.func (Fn.func 85) [] [AV.ptr 1100 0]::ra4 (a'::i' s.size::i' 0::ra8 (a'::a'::[]))))).a ((p' (OW (AO.cells [AV.v (Value.func (Fn.func 57) (Array.mk []) (Array.mk []))] 152) (AO.cells [AV.v (Value.func (Fn.func 57) (Array.mk []) (Array.mk []))] 152))).a (f' (OW (AO.cells (rowV encB s.data.toList) 11) (AO.cells (AV.rens (nmAl (1101,1100)) (rowV encB s.data.toList)) 11))))))).a ((f' (Wk (b' true) j')).a t')).a (k10'.a t'))) := by kernel_rfl
abbrev fQd : Nat := 60
theorem YT' (L : List UInt8) (n i : Nat) (x : UInt8) (F : HP) : AV' [(fQd, cW x false)] (hAl i x true) [] default fIxF (A4' fIxF 2) (tms 0 19 (aAl n i)) [(1000, boxF fQd), (1001, rB1 L)] [1000, 1001] [0, 1, 4, 7, 8] F = VT.leaf (AX.ret,[AV.slice 1001 0 n 1 (Cp.lo n),AV.func (Fn.func 85) [] [AV.ptr 1000 0],i' i,i' n,i' i],19) [some (AO.cells [AV.v (Value.func (Fn.func 60) (Array.mk []) (Array.mk []))] 152),some (AO.cells (rowV encB L) 11)] 1100 ((k1' i n).a ((k2' i n).a ((k3' i L x).a ((k4' x).a t')))) := by kernel_rfl
theorem RX' (L : List UInt8) (n i : Nat) (x : UInt8) (F : HP) : AV' [(fQd, cW x true)] (hAl i x false) [] default fIxF (A4' fIxF 2) (tms 0 19 (aAl n i)) [(1000, boxF fQd), (1001, rB1 L)] [1000, 1001] [0, 1, 4, 7, 8] F = VT.leaf (AX.normal,[AV.slice 1001 0 n 1 (Cp.lo n),AV.func (Fn.func 85) [] [AV.ptr 1000 0],a',i' n,i' (i + 1)],19) [some (AO.cells [AV.v (Value.func (Fn.func 60) (Array.mk []) (Array.mk []))] 152),some (AO.cells (rowV encB L) 11)] 1100 ((k1' i n).a ((k2' i n).a ((k3' i L x).a ((k5' x).a ((k6' i).a t'))))) := by kernel_rfl
theorem YV' (L : List UInt8) (n i : Nat) (F : HP) : AV' [] (AB' [(fIxF, 2, 0, hv (.lit false))]) [] default fIxF (A4' fIxF 2) (tms 0 19 (aAl n i)) [(1000, boxF fQd), (1001, rB1 L)] [1000, 1001] [0, 1, 4, 7, 8] F = VT.leaf (AX.exit 0,[AV.slice 1001 0 n 1 (Cp.lo n),AV.func (Fn.func 85) [] [AV.ptr 1000 0],a',i' n,i' i],19) [some (AO.cells [AV.v (Value.func (Fn.func 60) (Array.mk []) (Array.mk []))] 152),some (AO.cells (rowV encB L) 11)] 1100 ((k7' i n).a t') := by kernel_rfl
theorem YS' (s : ByteArray) (F : HP) : wRun [] (hAt s.data.toList false) [(fIxF, 2, A4' fIxF 2, lAl s.data.toList fQd s.size)] default fAll [sv s, fnV fQd] [] [] F = VT.leaf (b' true) [] 1102 ((k8' s).a ((((p' ((fIxF,2,A4' fIxF 2,lAl s.data.toList fQd s.size).snd.snd.fst = (fIxF,2,A4' fIxF 2,lAl s.data.toList fQd s.size).snd.snd.fst)).a ((Cnd.p True).a ((p' (VW (AV.slice 1101 0 s.size 1 (Cp.lo s.size)::AV.func (Fn.func 85) [] [AV.ptr 1100 0]::u'::u'::i' 0::u'::AV.slice 1101 0 s.size 1 (Cp.lo s.size)::z' ↑s.size::i' 0::ru8 (u'::u'::[])) (AV.slice 1101 0 s.size 1 (Cp.lo s.size)::AV.func (Fn.func 85) [] [AV.ptr 1100 0]::ra4 (a'::i' s.size::i' 0::ra8 (a'::a'::[]))))).a ((p' (OW (AO.cells [AV.v (Value.func (Fn.func 60) (Array.mk []) (Array.mk []))] 152) (AO.cells [AV.v (Value.func (Fn.func 60) (Array.mk []) (Array.mk []))] 152))).a (f' (OW (AO.cells (rowV encB s.data.toList) 11) (AO.cells (AV.rens (nmAl (1101,1100)) (rowV encB s.data.toList)) 11))))))).a ((f' (Wk (b' false) g')).a t')).a (k9'.a t'))) := by kernel_rfl
theorem YU' (s : ByteArray) (i : Nat) (F : HP) : wRun [] (hAt s.data.toList true) [(fIxF, 2, A4' fIxF 2, lAlx s.data.toList fQd s.size i)] default fAll [sv s, fnV fQd] [] [] F = VT.leaf (b' false) [] 1102 ((k8' s).a ((((p' ((fIxF,2,A4' fIxF 2,lAlx s.data.toList fQd s.size i).snd.snd.fst = (fIxF,2,A4' fIxF 2,lAlx s.data.toList fQd s.size i).snd.snd.fst)).a ((Cnd.p True).a ((p' (VW (AV.slice 1101 0 s.size 1 (Cp.lo s.size)::AV.func (Fn.func 85) [] [AV.ptr 1100 0]::u'::u'::i' 0::u'::AV.slice 1101 0 s.size 1 (Cp.lo s.size)::z' ↑s.size::i' 0::ru8 (u'::u'::[])) (AV.slice 1101 0 s.size 1 (Cp.lo s.size)::AV.func (Fn.func 85) [] [AV.ptr 1100 0]::ra4 (a'::i' s.size::i' 0::ra8 (a'::a'::[]))))).a ((p' (OW (AO.cells [AV.v (Value.func (Fn.func 60) (Array.mk []) (Array.mk []))] 152) (AO.cells [AV.v (Value.func (Fn.func 60) (Array.mk []) (Array.mk []))] 152))).a (f' (OW (AO.cells (rowV encB s.data.toList) 11) (AO.cells (AV.rens (nmAl (1101,1100)) (rowV encB s.data.toList)) 11))))))).a ((f' (Wk (b' true) j')).a t')).a (k10'.a t'))) := by kernel_rfl
end
end Go.Proofs.YtpijbbobejeemaaGreatDoor.Htp
