/- What runs over the program are told with: hints, loops, closings. -/
import Derived.Test.YtdphpillcaajpaaDoorEngCon
import Derived.Test.YtdphpillcaajpaaDoorEngRow
import Derived.Test.YtdphpillcaajpaaDoorEngIMap
import Derived.Test.YtdphpillcaajpaaDoorEngClosed
import Derived.Test.YtdphpillcaajpaaDoorProg
import Derived.KernelRfl
import Derived.IntWalk
noncomputable section
set_option linter.unusedVariables false
set_option linter.unusedSimpArgs false
set_option maxRecDepth 100000
namespace Go.Proofs.YtdphpillcaajpaaDoor.Kit
open Go Go.RowKit Eng
open Int renaming ofNat -> o'
variable {p : Prop} {F : HP} {f : FuncId} {W : World} {A l m : List AV} {H : LH}
abbrev CV' := List (FuncId × (List AV -> Option (AP AV)))
abbrev LcL := List (FuncId × Nat × Code × (List AV -> AP (AX × List AV)))
def iv (n : Int) : AV := .v (.int .i64 n)
def bv (b : Bool) : AV := .v (.bool b)
def sv (s : Δ) : AV := .v (.string s)
def slV (oa : Option Addr) (n c : Nat) : AV := .v (.slice oa n c)
def B4' : AX' := fun _ _ _ => none
def AD' : List (FuncId × Nat × Nat × Hint) -> AX'
 | [], _, _, _ => none
 | x :: l, f, r, o => match Nat.beq f x.1 && (Nat.beq r x.2.1 && Nat.beq o x.2.2.1) with
  | true => some x.2.2.2
  | false => AD' l f r o
def hv (v : AV) : Hint := ⟨some v, none, [], .no⟩
def ho (k : Nat) (o : AO) : Hint := ⟨none, none, [(k, o)], .no⟩
def hp (j : Nat) : Hint := ⟨none, some j, [], .no⟩
def h0 : Hint := ⟨none, none, [], .yes⟩
def h0v (v : AV) : Hint := ⟨some v, none, [], .yes⟩
def hf (y : Value) : Hint := ⟨none, none, [], .fact y⟩
def hw (o' : AO) : Hint := ⟨none, none, [], .wr o'⟩
def hn : Hint := ⟨none, none, [], .force⟩
def ht (s : Δ) : Hint := ⟨none, none, [], .txt s⟩
def envW (con : CV') (hints : AX') (lc : LcL) (W : World) (F : HP) : Env := envO Tryd.prog F (conL con) hints (JC' lc) W
def wRun (con : CV') (hints : AX') (lc : LcL) (W : World) (f : FuncId) (A : List AV) (H : LH) (ks : List Nat) (F : HP) : VT AV := ((EM' Tryd.prog (envW con hints lc W F) 1000 f A).run2 (AL' H) 1100 []).view ks
def BU' (con : CV') (hints : AX') (lc : LcL) (W : World) (g : FuncId) (b : Code) (A : List AV) (H : LH) (ks idx : List Nat) (F : HP) : VT (AX × List AV × Nat) := (((BN' Tryd.prog (envW con hints lc W F) 1000 g b A).run2 (AL' H) 1100 []).view ks).map (WH' idx)
def K0' (r : Nat) : Code -> Option Code
 | .loop b => match BG' b with
  | some i => match Nat.beq i r with
   | true => some b
   | false => K0' r b
  | none => K0' r b
 | .seq a b => match K0' r a with | some c => some c | none => K0' r b
 | .cond _ a b => match K0' r a with | some c => some c | none => K0' r b
 | .block _ b | .scope b => K0' r b
 | _ => none
def AA' (f : FuncId) (r : Nat) : Code := ((Tryd.prog.funcs[f]?).bind fun fn => fn.body.bind (K0' r)).getD .skip
theorem UK' : Tryd.prog.follows .mixedOrders = true := by kernel_rfl
theorem GM' : AH' default F := AH'.nothing F
theorem AN' {con : CV'} {hints : AX'} {lc : LcL} {H' : LH} {v : AV} (ks : List Nat) (hH : AE' 1100 H = true)
  (hcon : ∀ F, AH' W F -> ∀ x ∈ con, C1OK Tryd.prog F x.1 x.2) (hl : ∀ F, AH' W F -> ∀ x ∈ lc, L1OK Tryd.prog F x.2.2.1 x.2.2.2) (h : ∀ F, VAll (fun u os _ => Fits ks [u] os [v] H') (wRun con hints lc W f A H ks F)) : Tri Tryd.prog W f A H v H' :=
 tri_V ks 1000 UK' hH (fun F hF => ZQ' rfl (hcon F hF)) (fun F hF => T9' rfl (hl F hF)) fun F _ => h F
theorem CC' {g : FuncId} {b : Code} {σ : Type} (m : Nat) (A : σ -> List (Nat × AV)) (H : σ -> LH) (ax : AX) (Z : List (Nat × AV)) (HZ : LH) (μ : σ -> Nat) (ks idx : List Nat) (hax : ax ≠ .normal) (hH : ∀ s, AE' 1100 (H s) = true) (hZ : AE' 1100 HZ = true)
  (hstep : ∀ s, ∃ (con : CV') (hints : AX') (lc : LcL), (∀ F, AH' W F -> ∀ x ∈ con, C1OK Tryd.prog F x.1 x.2) /\ (∀ F, AH' W F -> ∀ x ∈ lc, L1OK Tryd.prog F x.2.2.1 x.2.2.2) /\
   ∀ F, VAll (fun r os _ => r.2.2 = m /\ ((r.1 = .normal /\ ∃ s', μ s' < μ s /\ ∃ l, FitT ks idx r.2.1 os (A s') (H s') l) \/ (r.1 = ax /\ ∃ l, FitT ks idx r.2.1 os Z HZ l))) (BU' con hints lc W g b (tms 0 m (A s)) (H s) ks idx F)) (s : σ) :
  LTri Tryd.prog W b (tms 0 m (A s)) (H s) ax (tms 0 m Z) HZ := by
 have key := ltri_V (P := Tryd.prog) (W := W) (b := b) (g := g) (σ := σ) (con := fun s => conL (hstep s).choose) (claim := fun s => (hstep s).choose_spec.choose) (lcon := fun s => JC' (hstep s).choose_spec.choose_spec.choose) m A H ax Z HZ μ ks idx 1000 UK' hax hH hZ
  (fun s F hF => ZQ' rfl ((hstep s).choose_spec.choose_spec.choose_spec.1 F hF)) (fun s F hF => T9' rfl ((hstep s).choose_spec.choose_spec.choose_spec.2.1 F hF))
 exact key (fun s F _ => (hstep s).choose_spec.choose_spec.choose_spec.2.2 F) s
theorem C9' {i n : Nat} (h : i < n) : n - (i + 1) < n - i := ω
theorem IG' (k n : Nat) : decide (o' k < o' n) = decide (k < n) := by simp only [Int.ofNat_eq_natCast, Int.ofNat_lt]
theorem CH' (k : Nat) (h : k < 9223372036854775807) : IntKind.i64.wrap (o' k + o' 1) = o' (k + 1) := by
 rw [IntWalk.i64_in _ (by simp only [Int.ofNat_eq_natCast]; omega)]; simp only [Int.ofNat_eq_natCast]; omega
theorem A3' (b : Bool) : Wk (.v (.bool b)) (.lit b) := fun N y hy => G8'.2 (VR_v.1 hy)
theorem A0' {b b' : Bool} (h : b = b') : Wk (.v (.bool b)) (.lit b') := by subst h; exact A3' b
theorem BA' {a b : Int} (h : a = b) : Wk (.v (.int .i64 a)) (.v (.int .i64 b)) := Wk.of_eq (by rw [h])
theorem noC : ∀ x ∈ ([] : CV'), C1OK Tryd.prog F x.1 x.2 := fun x hx => by cases hx
theorem noL : ∀ x ∈ ([] : LcL), L1OK Tryd.prog F x.2.2.1 x.2.2.2 := fun x hx => by cases hx
theorem BT' {g : List AV -> Option (AP AV)} (h : C1OK Tryd.prog F f g) : ∀ x ∈ ([(f, g)] : CV'), C1OK Tryd.prog F x.1 x.2 := fun x hx => by simp only [List.mem_singleton] at hx; subst hx; exact h
theorem AP' {g : List AV -> Option (AP AV)} {l : CV'} (h : C1OK Tryd.prog F f g) (hl : ∀ x ∈ l, C1OK Tryd.prog F x.1 x.2) : ∀ x ∈ (f, g) :: l, C1OK Tryd.prog F x.1 x.2 := fun x hx => by
 rcases List.mem_cons.1 hx with rfl | hx
 ·exact h
 ·exact hl x hx
theorem HS' {r : Nat} {b : Code} {g : List AV -> AP (AX × List AV)} (h : L1OK Tryd.prog F b g) : ∀ x ∈ ([(f, r, b, g)] : LcL), L1OK Tryd.prog F x.2.2.1 x.2.2.2 := fun x hx => by simp only [List.mem_singleton] at hx; subst hx; exact h
theorem Tri.wk {H' : LH} {v v' : AV} (h : Tri Tryd.prog W f A H v H') (hw : Wk v v') : Tri Tryd.prog W f A H v' H' := by
 intro W0 F N w vargs hF hNB r ha; refine (h W0 F N w vargs hF hNB r ha).mono ?_; rintro e w' ⟨y, rfl, N', h1, h2, h3, h4⟩; exact ⟨y, rfl, N', h1, h2, h3, AC'.2 ⟨hw _ _ (AC'.1 h4).1, AU'⟩⟩
theorem W2' {x : Value} (h : ∀ (W0 : World) (F : HP) (N : A5') (w : World) (vargs : Array Value), AH' W F -> NB N H -> Rep W0 N F (AL' H) w -> VRs N A vargs.toList -> Calls Tryd.prog f vargs w fun e w' => e = .returned x /\ Below w.heap.size w w') : Tri Tryd.prog W f A H (.v x) H := by
 intro W0 F N w vargs hF hNB r ha; refine (h W0 F N w vargs hF hNB r ha).mono ?_; rintro e w' ⟨rfl, hb⟩
 exact ⟨x, rfl, N, fun _ _ => rfl, hNB, r.below hb, AC'.2 ⟨VR_v.2 rfl, AU'⟩⟩
theorem bI' (W : World) : AH' W (HP.old W) := by
 intro D w' hF b o hv; have hF' : (HP.old W).on D w' := hF; rw [hF'.2 _ (Array.getElem?_eq_some_iff.1 hv).1]; exact hv
section
variable {α : Type} {enc : α -> List Value} {k : Nat}
theorem CJ' (hk : ∀ x, (enc x).length = k) (P : List α) (n : Nat) (hn : n = P.length) : List.take (n * k) (List.drop 0 (rowV enc P)) = rowV enc P := by
 rw [hn, List.drop_zero, OR' hk, List.take_length]
theorem W4' (L : List α) (d : α) (i : Nat) (hi : i < L.length) : L.take (i + 1) = L.take i ++ [L.getD i d] := by
 rw [List.take_succ_eq_append_getElem hi]; simp [List.getD, List.getElem?_eq_getElem hi]
theorem E0' (σ : Nat -> Nat) (L : List α) (e : TypeId) : (AO.cells (rowV enc L) e).ren σ = .cells (rowV enc L) e := by simp only [AO.ren, AO']
end
abbrev a' : AV := AV.any
abbrev u' : AV := AV.v (Value.tuple (Array.mk []))
abbrev i' (n : Nat) : AV := AV.v (Value.int IntKind.i64 (o' n))
abbrev z' (n : Int) : AV := AV.v (Value.int IntKind.i64 n)
abbrev s' (s : Δ) : AV := AV.v (Value.string s)
abbrev b' (b : Bool) : AV := AV.v (Value.bool b)
abbrev p' (q : Prop) : Cnd := Cnd.p q
abbrev t' : Cnd := Cnd.t
abbrev e' : AV := AV.v (Value.slice none 0 0)
abbrev g' : AV := AV.lit false
abbrev j' : AV := AV.lit true
abbrev f' (q : Prop) : Cnd := (Cnd.p q).a Cnd.t
abbrev ra4 (l : List AV) : List AV := a'::a'::a'::a'::l
abbrev ra8 (l : List AV) : List AV := a'::a'::a'::a'::a'::a'::a'::a'::l
abbrev ra16 (l : List AV) : List AV := a'::a'::a'::a'::a'::a'::a'::a'::a'::a'::a'::a'::a'::a'::a'::a'::l
abbrev ru4 (l : List AV) : List AV := u'::u'::u'::u'::l
abbrev ru8 (l : List AV) : List AV := u'::u'::u'::u'::u'::u'::u'::u'::l
abbrev ru16 (l : List AV) : List AV := u'::u'::u'::u'::u'::u'::u'::u'::u'::u'::u'::u'::u'::u'::u'::u'::l
theorem _root_.Go.Proofs.YtdphpillcaajpaaDoor.Ya {a : AV} : Wk a a := Wk.refl a
theorem _root_.Go.Proofs.YtdphpillcaajpaaDoor.Yb {a : List AV} : VW a a := VW.refl a
theorem _root_.Go.Proofs.YtdphpillcaajpaaDoor.Yc {a : AO} : OW a a := OW.refl a
theorem _root_.Go.Proofs.YtdphpillcaajpaaDoor.Yd {a : Nat} : a <= a := Nat.le_refl a
theorem _root_.Go.Proofs.YtdphpillcaajpaaDoor.Ye : True := trivial
theorem Z0 {n : Nat} : o' n = (n : Int) := rfl
theorem Z1 {α : Type _} [LT α] {a b : α} : a > b ↔ b < a := Iff.rfl
theorem Z2 {α : Type _} [LE α] {a b : α} : a >= b ↔ b <= a := Iff.rfl
instance : Std.Refl Wk := ⟨Wk.refl⟩
instance : Std.Refl VW := ⟨VW.refl⟩
instance : Std.Refl OW := ⟨OW.refl⟩
instance {α : Sort _} : Std.Refl (@Eq α) := ⟨fun _ => rfl⟩
theorem _root_.Go.Proofs.YtdphpillcaajpaaDoor.Yf {α : Sort _} {r : α -> α -> Prop} [h : Std.Refl r] {a : α} : r a a := h.refl a
theorem _root_.Go.Proofs.YtdphpillcaajpaaDoor.Yg {x : AV} (h : VW l m) : VW (x :: l) (x :: m) := VW.cons (Wk.refl _) h
theorem _root_.Go.Proofs.YtdphpillcaajpaaDoor.Yh {x : AV} (h : VW l m) : VW (x :: l) (.any :: m) := VW.cons (Wk.any _) h
theorem _root_.Go.Proofs.YtdphpillcaajpaaDoor.Yi {i a b s : Nat} {c : Cp} (h : VW l m) : VW (.slice i a b s c :: l) (.slice i a b s (.lo c.least) :: m) := VW.cons (wk_cap (Nat.le_refl _)) h
theorem _root_.Go.Proofs.YtdphpillcaajpaaDoor.Yj {α : Type} {Q : α -> List (Option AO) -> Nat -> Prop} {a b : VT α} (h : a = b) (x : VAll Q b) : VAll Q a := cast (congrArg (VAll Q) h.symm) x
theorem Kb0' (h : p := by first | (with_reducible first | exact Ye | exact Yf | exact A3' _ | assumption) | exact Yf | ((repeat (first | exact VW.nil | refine Yg ?_ | refine Yh ?_ | refine Yi ?_)); done)) : p := h
theorem Kb1' (h : p := by first | exact A8' | exact Nat.le_of_ble_eq_true rfl | (subst_vars; exact Nat.le_of_ble_eq_true rfl) | exact Kb0') : p := h
theorem Kb2' (h : p := by first | exact ⟨rfl, rfl⟩ | exact Kb1') : p := h
theorem Kb3' (h : p := by first | exact wkI (by simp only [Z0]; omega) ω | exact Kb2') : p := h
theorem Kb4' (h : p := by first | (with_reducible exact Ye) | (with_reducible exact rfl) | (with_reducible exact Ya) | (with_reducible exact Yb) | (with_reducible exact Yc) | (with_reducible exact A0' e0) | (with_reducible exact A0' hneg) | (with_reducible exact A0' e117) | (with_reducible exact hby2) | (unfold Few; omega) | exact wkI (by simp only [Z0]; omega) ω | exact A0' (ltN (decide_eq_true ω)) | exact A0' (ltN (decide_eq_false ω)) | exact A0' (gtN (decide_eq_true ω)) | exact A0' (gtN (decide_eq_false ω)) | (rw [ht]; exact Ya) | exact Yd | exact Kb1') : p := h
theorem Kb5' (h : p := by first | exact A0' rfl | exact wkI (by rw [hj]; simp only [Z0]; omega) ω | exact Yd | omega | exact Kb2') : p := h
theorem Kb6' (h : p := by first | exact .inl trivial | exact .inr trivial | exact .inl rfl | exact .inr rfl | exact A0' hsz | exact A0' rfl | exact Kb0') : p := h
theorem Kb7' (h : p := by first | exact A0' rfl | exact A0' (decide_eq_false (by simp only [Z0]; omega)) | exact Kb3') : p := h
theorem Kb8' (h : p := by first | (with_reducible exact A0' e0) | (with_reducible exact A0' hneg) | (with_reducible exact A0' e117) | (with_reducible exact hby) | (unfold Few; omega) | exact wkI (by simp only [Z0]; omega) ω | exact wkR ω | exact A0' (ltN (decide_eq_true ω)) | exact A0' (ltN (decide_eq_false ω)) | exact A0' (gtN (decide_eq_true ω)) | exact A0' (gtN (decide_eq_false ω)) | (unfold okR; omega) | exact Kb1') : p := h
theorem Kb9' (h : p := by first | exact A8' | exact Nat.le_of_ble_eq_true rfl | exact Kb0') : p := h
theorem Kb10' (h : p := by first | exact A0' rfl | exact Yd | omega | exact Kb2') : p := h
theorem Kb11' (h : p := by first | exact wk_k f12 | exact wk_k w12 | exact wk_k f64 | exact wk_k w64 | exact wk_k (o224.trans (toU8 ω).symm) | exact wk_k (u8wr n) | exact wk_k a63 | exact wk_k a63b | exact wk_k (o128.trans (toU8 ω).symm) | exact wk_k (o128b.trans (toU8 ω).symm) | exact KZ' hP | exact hroom.1 | exact hroom.2 | exact DK' hP | exact Kb0') : p := h
theorem Kb12' (h : p := by first | exact wk_k f12 | exact wk_k w12 | exact wk_k f64 | exact wk_k w64 | exact wk_k (o224.trans (toU8 ω).symm) | exact wk_k (u8wr n) | exact wk_k a63 | exact wk_k a63b | exact wk_k (o128.trans (toU8 ω).symm) | exact wk_k (o128b.trans (toU8 ω).symm) | exact Kb0') : p := h
theorem Kb13' (h : p := by first | (with_reducible exact A0' e0) | (with_reducible exact hby) | (with_reducible exact A0' e34) | (with_reducible exact A0' e32) | (with_reducible exact A0' e92) | (with_reducible exact A0' hq.1) | (with_reducible exact A0' hq.2) | (rw [ht]; exact Ya) | exact Yd | exact Kb1') : p := h
theorem Kb14' (h : p := by first | (with_reducible exact A0' e0) | (with_reducible exact hby) | (with_reducible exact A0' e34) | (with_reducible exact A0' e32) | (with_reducible exact A0' e92) | exact wkI (by simp only [Z0]; omega) ω | exact VW.cons Ya (VW.cons (Wk.any _) VW.nil) | exact Kb1') : p := h
theorem Kb15' (h : p := by first | (rw [ht]; exact Ya) | (rw [ht2]; exact Ya) | exact Yd | exact Nat.le_add_right _ _ | exact wkI (by simp only [Z0]; omega) ω | exact KZ' hP | exact hroom.1 | exact hroom.2 | exact DK' hP | exact Nat.ble_refl _ | (rw [Nat.ble_eq]; exact Yd) | exact Kb1') : p := h
theorem Kb16' (h : p := by first | exact A0' e1 | exact A0' e2 | exact A0' hk | exact LT' rfl rfl rfl rfl rfl | exact Kb0') : p := h
theorem Kb17' (h : p := by first | exact A0' e0 | (with_reducible exact BA' hw) | exact A0' hneg | exact A0' e117 | exact hby | exact ⟨hfs, f1⟩ | exact Kb1') : p := h
theorem Kb18' (h : p := by first | exact ⟨rfl, rfl⟩ | exact hj | (unfold Few; omega) | exact A0' (decide_eq_false (by simp only [Z0]; omega)) | exact Kb1') : p := h
theorem Kb19' (h : p := by first | (rw [ht]; exact Ya) | (rw [ht2]; exact Ya) | exact Yd | exact Nat.le_add_right _ _ | exact wkI (by simp only [Z0]; omega) ω | (rw [Nat.ble_eq]; omega) | exact Nat.ble_refl _ | (rw [Nat.ble_eq]; exact Yd) | exact Kb1') : p := h
theorem Kb20' (h : p := by first | exact A0' e1 | exact A0' hne | exact wkI (by simp only [Z0]; omega) ω | (rw [Nat.blt_eq]; omega) | exact Kb0') : p := h
theorem Kb21' (h : p := by first | exact RO.ret _ | exact RO.fail _) : p := h
theorem Kb22' (h : p := by first | exact hs | exact A0' rfl | exact A0' q0 | exact A0' q1 | exact A0' q2 | exact A0' q3 | exact Kb0') : p := h
theorem Kb23' (h : p := by first | (with_reducible exact f1) | (with_reducible exact f2) | exact Kb0') : p := h
theorem Kb24' (h : p := by first | exact A0' f1 | exact A0' f2 | exact A0' f3 | exact A0' f4 | (exact Wk.of_eq (by rw [m1])) | (exact Wk.of_eq (by rw [m2])) | (exact Wk.of_eq (by rw [m3])) | exact Kb0') : p := h
theorem Kb25' (h : p := by first | (with_reducible exact BA' hw) | (with_reducible exact fs) | (with_reducible exact z0) | (with_reducible exact z1) | (with_reducible exact z2) | exact Kb16') : p := h
theorem Kb26' (h : p := by first | (rw [ht]; exact Ya) | exact A0' hgt | (with_reducible exact BA' hw) | (with_reducible exact BA' hwk) | exact Nat.le_add_right _ _ | exact Kb0') : p := h
theorem Kb27' (h : p := by first | (with_reducible exact BA' hw) | (with_reducible exact BA' hwd) | exact A0' e1 | exact A0' rfl | exact LT' rfl rfl rfl rfl rfl | exact Kb0') : p := h
theorem Kb28' (h : p := by first | (with_reducible exact A0' e0) | (with_reducible exact hby) | (with_reducible exact A0' e34) | (with_reducible exact A0' e32) | exact Kb1') : p := h
theorem Kb29' (h : p := by first | exact KZ' hP | exact hroom.1 | exact hroom.2 | exact DK' hP | exact Kb0') : p := h
theorem Kb30' (h : p := by first | exact A0' rfl | exact Kb2') : p := h
theorem Kb31' (h : p := by first | exact hs | exact A0' rfl | exact A0' q0 | exact A0' q1 | exact A0' q2 | exact A0' q3 | exact A0' q4 | exact Kb0') : p := h
theorem Kb32' (h : p := by first | exact A0' (leT ω) | exact A0' (leF c1) | exact A0' (leT c2) | exact A0' (leF c3) | exact Kb0') : p := h
theorem Kb33' (h : p := by first | (with_reducible exact BA' hw) | (with_reducible exact fs) | (with_reducible exact z1) | exact Kb16') : p := h
theorem Cb0' (h : p := by simp only [Cnd.holds, Nat.blt_eq, true_and, and_true]; and_intros; all_goals first | exact A0' ltFC | exact Kb0') : p := h
theorem Cb1' (h : p := by simp only [Cnd.holds, Nat.blt_eq, true_and, and_true]; and_intros; all_goals first | exact A0' e1 | exact Kb0') : p := h
theorem Cb2' (h : p := by simp only [Cnd.holds, Nat.blt_eq, true_and, and_true]; and_intros; all_goals exact Kb0') : p := h
theorem Cb3' (h : p := by simp only [Cnd.holds, Nat.blt_eq, true_and, and_true]; and_intros; all_goals exact Kb9') : p := h
theorem Cb4' (h : p := by simp only [Cnd.holds, Nat.blt_eq, true_and, and_true]; and_intros; all_goals first | exact BA' hw | exact Kb9') : p := h
theorem Cb5' (h : p := by simp only [Cnd.holds, hne, h2, AO', Nat.blt_eq, true_and, and_true]; and_intros; all_goals first | exact SZ' (E1' _).symm | exact Kb0') : p := h
theorem Cb6' (h : p := by simp only [Cnd.holds, h1, hh, Option.getD_none, Option.isSome_none, Nat.blt_eq, true_and, and_true]; and_intros; all_goals exact Kb17') : p := h
theorem Cb7' (h : p := by simp only [Cnd.holds, h1, hh, Option.getD_some, Option.isSome_some, Option.getD_none, Option.isSome_none, ho2, Nat.blt_eq, true_and, and_true]; and_intros; all_goals exact Kb4') : p := h
theorem Cb8' (h : p := by simp only [Cnd.holds, h1, hh, Option.getD_some, Option.isSome_some, Nat.blt_eq, true_and, and_true]; and_intros; all_goals exact Kb8') : p := h
theorem Cb9' (h : p := by simp only [Cnd.holds, h3, Nat.blt_eq, true_and, and_true]; and_intros; all_goals first | exact A0' e0 | exact Kb1') : p := h
theorem Cb10' (h : p := by simp only [Cnd.holds, h1, h3, Nat.blt_eq, true_and, and_true]; and_intros; all_goals exact Kb28') : p := h
theorem Cb11' (h : p := by simp only [Cnd.holds, h1, Nat.blt_eq, true_and, and_true]; and_intros; all_goals exact Kb14') : p := h
theorem Cb12' (h : p := by simp only [Cnd.holds, h1, h3, htp, hi, Nat.blt_eq, true_and, and_true]; and_intros; all_goals exact Kb13') : p := h
theorem Cb13' (h : p := by simp only [Cnd.holds, Nat.blt_eq, true_and, and_true]; and_intros; all_goals first | (with_reducible exact BA' hw) | exact Kb1') : p := h
theorem Cb14' (h : p := by simp only [Cnd.holds, g1, g2, AV.strOf, sv, Nat.blt_eq, true_and, and_true]; and_intros; all_goals exact Kb20') : p := h
theorem Cb15' (h : p := by simp only [Cnd.holds, AO', Nat.blt_eq, true_and, and_true]; and_intros; all_goals exact Kb0') : p := h
theorem Cb16' (h : p := by simp only [Cnd.holds, Nat.blt_eq, true_and, and_true]; and_intros; all_goals exact Kb3') : p := h
theorem Cb17' (h : p := by simp only [Cnd.holds, q1, q2, q3, q4, Nat.blt_eq, true_and, and_true]; and_intros; all_goals exact Kb3') : p := h
theorem Cb18' (h : p := by simp only [Cnd.holds, Nat.blt_eq, true_and, and_true]; and_intros; all_goals exact Kb2') : p := h
theorem Cb19' (h : p := by simp only [Cnd.holds, Nat.blt_eq, true_and, and_true]; and_intros; all_goals first | exact ⟨rfl, rfl⟩ | exact OW.of_eq (by rw [AO']) | exact Kb1') : p := h
theorem Cb20' (h : p := by simp only [Cnd.holds, Nat.blt_eq, true_and, and_true]; and_intros; all_goals first | exact A0' rfl | exact A0' (decide_eq_true (by simp only [Z0]; omega)) | exact Kb2') : p := h
theorem Cb21' (h : p := by simp only [Cnd.holds, Nat.blt_eq, true_and, and_true]; and_intros; all_goals exact Kb7') : p := h
theorem Cb22' (h : p := by simp only [Cnd.holds, Nat.blt_eq, true_and, and_true]; and_intros; all_goals exact Kb30') : p := h
theorem Cb23' (h : p := by simp only [Cnd.holds, Nat.blt_eq, true_and, and_true]; and_intros; all_goals exact Kb10') : p := h
theorem Cb24' (h : p := by simp only [Cnd.holds, Nat.blt_eq, true_and, and_true]; and_intros; all_goals exact Kb5') : p := h
theorem Cb25' (h : p := by simp only [Cnd.holds, Nat.blt_eq, true_and, and_true]; and_intros; all_goals first | exact ⟨rfl, rfl⟩ | exact Kb0') : p := h
theorem Cb26' (h : p := by simp only [Cnd.holds, Nat.blt_eq, true_and, and_true]; and_intros; all_goals exact Kb18') : p := h
theorem Cb27' (h : p := by simp only [Cnd.holds, Nat.blt_eq, true_and, and_true]; and_intros; all_goals exact Kb23') : p := h
theorem Cb28' (h : p := by simp only [Cnd.holds, e1, h1, aA, a1, a2, a3, a4, a5, Option.getD_some, Option.isSome_some, Nat.blt_eq, true_and, and_true]; and_intros; all_goals exact Kb33') : p := h
theorem Cb29' (h : p := by simp only [Cnd.holds, e1, h1, h2, p1, aA, a1, a2, a3, a4, a5, Option.getD_some, Option.isSome_some, Nat.blt_eq, true_and, and_true]; and_intros; all_goals exact Kb25') : p := h
theorem Cb30' (h : p := by simp only [Cnd.holds, Nat.blt_eq, true_and, and_true]; and_intros; all_goals first | exact (by decide : (0 : Nat) < 2) | exact (by decide : (1 : Nat) < 2) | exact Kb23') : p := h
theorem Cb31' (h : p := by simp only [Cnd.holds, Nat.blt_eq, true_and, and_true]; and_intros; all_goals exact Kb22') : p := h
theorem Cb32' (h : p := by simp only [Cnd.holds, Nat.blt_eq, true_and, and_true]; and_intros; all_goals exact Kb31') : p := h
theorem Cb33' (h : p := by simp only [Cnd.holds, Nat.blt_eq, true_and, and_true]; and_intros; all_goals exact Kb6') : p := h
theorem Cb34' (h : p := by simp only [Cnd.holds, AO', Nat.blt_eq, true_and, and_true]; and_intros; all_goals exact Kb6') : p := h
abbrev hf' (f : FuncId) (r o : Nat) := (f, r, o, hv (.lit false))
abbrev ht' (f : FuncId) (r o : Nat) := (f, r, o, hv (.lit true))
abbrev tt' : Cnd := Cnd.p (true = true)
abbrev wb' (b : Bool) (y : AV) : Cnd := (Cnd.p (Wk (AV.v (Value.bool b)) y)).a Cnd.t
end Go.Proofs.YtdphpillcaajpaaDoor.Kit
namespace Go.Proofs.YtdphpillcaajpaaDoor
open Go Eng Kit
abbrev Ω : AO := AO.any (HP.pure True)
abbrev ow' (x : AO) : Cnd := Cnd.p (OW x x)
abbrev vw' (x : List AV) : Cnd := Cnd.p (VW x x)
abbrev fe' {α : Type} (x : α) : Cnd := (Cnd.p (x = x)).a Cnd.t
abbrev ee' {α : Type} (x : α) : Cnd := (Cnd.p (true = true)).a ((Cnd.p (x = x)).a Cnd.t)
abbrev nb' (x : UInt8) (n : Nat) : Cnd := (Cnd.p (Wk (AV.v (Value.bool (↑x.toNat == Int.ofNat n))) (AV.lit false))).a Cnd.t
abbrev nt' (x : UInt8) (n : Nat) : Cnd := (Cnd.p (Wk (AV.v (Value.bool (↑x.toNat == Int.ofNat n))) (AV.lit true))).a Cnd.t
end Go.Proofs.YtdphpillcaajpaaDoor
namespace Go.Proofs.YtdphpillcaajpaaDoor
open Go Eng Kit
theorem χ {p : Prop} (h : p := by kernel_rfl) : p := h
end Go.Proofs.YtdphpillcaajpaaDoor
