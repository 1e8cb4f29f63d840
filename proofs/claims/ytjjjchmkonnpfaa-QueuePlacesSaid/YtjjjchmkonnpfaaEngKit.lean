/- What runs over the program are told with: hints, loops, closings. -/
import Derived.Test.YtjjjchmkonnpfaaEngCon
import Derived.Test.YtjjjchmkonnpfaaEngRow
import Derived.Test.YtjjjchmkonnpfaaEngIMap
import Derived.Test.YtjjjchmkonnpfaaEngClosed
import Derived.Test.YtjjjchmkonnpfaaProg
import Derived.KernelRfl
import Derived.IntWalk
noncomputable section
set_option linter.unusedVariables false
set_option linter.unusedSimpArgs false
set_option maxRecDepth 100000
namespace Go.Proofs.Ytjjjchmkonnpfaa.Kit
open Go Go.RowKit Eng
open Int renaming ofNat -> o'
variable {p : Prop} {f : FuncId} {F : HP} {W : World} {A l m : List AV} {H : LH}
abbrev OW' := List (FuncId × (List AV -> Option (AP AV)))
abbrev LcL := List (FuncId × Nat × Code × (List AV -> AP (AX × List AV)))
def iv (n : Int) : AV := .v (.int .i64 n)
def bv (b : Bool) : AV := .v (.bool b)
def sv (s : Δ) : AV := .v (.string s)
def slV (oa : Option Addr) (n c : Nat) : AV := .v (.slice oa n c)
def AF' : AY' := fun _ _ _ => none
def AJ' : List (FuncId × Nat × Nat × Hint) -> AY'
 | [], _, _, _ => none
 | x :: l, f, r, o => match Nat.beq f x.1 && (Nat.beq r x.2.1 && Nat.beq o x.2.2.1) with
  | true => some x.2.2.2
  | false => AJ' l f r o
def hv (v : AV) : Hint := ⟨some v, none, [], .no⟩
def ho (k : Nat) (o : AO) : Hint := ⟨none, none, [(k, o)], .no⟩
def hp (j : Nat) : Hint := ⟨none, some j, [], .no⟩
def h0 : Hint := ⟨none, none, [], .yes⟩
def hf (y : Value) : Hint := ⟨none, none, [], .fact y⟩
def hw (o' : AO) : Hint := ⟨none, none, [], .wr o'⟩
def hn : Hint := ⟨none, none, [], .force⟩
def ht (s : Δ) : Hint := ⟨none, none, [], .txt s⟩
def envW (con : OW') (hints : AY') (lc : LcL) (W : World) (F : HP) : Env := envO Try.prog F (conL con) hints (MG' lc) W
def wRun (con : OW') (hints : AY') (lc : LcL) (W : World) (f : FuncId) (A : List AV) (H : LH) (ks : List Nat) (F : HP) : VT AV := ((HD' Try.prog (envW con hints lc W F) 1000 f A).run2 (AN' H) 1100 []).view ks
def B0' (con : OW') (hints : AY') (lc : LcL) (W : World) (g : FuncId) (b : Code) (A : List AV) (H : LH) (ks idx : List Nat) (F : HP) : VT (AX × List AV × Nat) := (((DH' Try.prog (envW con hints lc W F) 1000 g b A).run2 (AN' H) 1100 []).view ks).map (seenT idx)
def KJ' (r : Nat) : Code -> Option Code
 | .loop b => match CN' b with
  | some i => match Nat.beq i r with
   | true => some b
   | false => KJ' r b
  | none => KJ' r b
 | .seq a b => match KJ' r a with | some c => some c | none => KJ' r b
 | .cond _ a b => match KJ' r a with | some c => some c | none => KJ' r b
 | .block _ b | .scope b => KJ' r b
 | _ => none
def AH' (f : FuncId) (r : Nat) : Code := ((Try.prog.funcs[f]?).bind fun fn => fn.body.bind (KJ' r)).getD .skip
theorem PL' : Try.prog.follows .mixedOrders = true := by kernel_rfl
theorem B6' : B9' default F := B9'.nothing F
theorem AR' {con : OW'} {hints : AY'} {lc : LcL} {H' : LH} {v : AV} (ks : List Nat) (hH : AD' 1100 H = true)
  (hcon : ∀ F, B9' W F -> ∀ x ∈ con, C1OK Try.prog F x.1 x.2) (hl : ∀ F, B9' W F -> ∀ x ∈ lc, L1OK Try.prog F x.2.2.1 x.2.2.2) (h : ∀ F, VAll (fun u os _ => Fits ks [u] os [v] H') (wRun con hints lc W f A H ks F)) : Tri Try.prog W f A H v H' :=
 tri_V ks 1000 PL' hH (fun F hF => IP' rfl (hcon F hF)) (fun F hF => GU' rfl (hl F hF)) fun F _ => h F
theorem BE' {i n : Nat} (h : i < n) : n - (i + 1) < n - i := ω
theorem BZ' (k : Nat) (h : k < 9223372036854775807) : IntKind.i64.wrap (o' k + o' 1) = o' (k + 1) := by
 rw [IntWalk.i64_in _ (by simp only [Int.ofNat_eq_natCast]; omega)]; simp only [Int.ofNat_eq_natCast]; omega
theorem AM' (b : Bool) : Wk (.v (.bool b)) (.lit b) := fun N y hy => GK'.2 (VR_v.1 hy)
theorem A5' {b b' : Bool} (h : b = b') : Wk (.v (.bool b)) (.lit b') := by subst h; exact AM' b
theorem AW' {a b : Int} (h : a = b) : Wk (.v (.int .i64 a)) (.v (.int .i64 b)) := Wk.of_eq (by rw [h])
theorem noC : ∀ x ∈ ([] : OW'), C1OK Try.prog F x.1 x.2 := fun x hx => by cases hx
theorem noL : ∀ x ∈ ([] : LcL), L1OK Try.prog F x.2.2.1 x.2.2.2 := fun x hx => by cases hx
theorem C7' {g : List AV -> Option (AP AV)} (h : C1OK Try.prog F f g) : ∀ x ∈ ([(f, g)] : OW'), C1OK Try.prog F x.1 x.2 := fun x hx => by simp only [List.mem_singleton] at hx; subst hx; exact h
theorem CY' {g : List AV -> Option (AP AV)} {l : OW'} (h : C1OK Try.prog F f g) (hl : ∀ x ∈ l, C1OK Try.prog F x.1 x.2) : ∀ x ∈ (f, g) :: l, C1OK Try.prog F x.1 x.2 := fun x hx => by
 rcases List.mem_cons.1 hx with rfl | hx
 ·exact h
 ·exact hl x hx
theorem MD' {r : Nat} {b : Code} {g : List AV -> AP (AX × List AV)} (h : L1OK Try.prog F b g) : ∀ x ∈ ([(f, r, b, g)] : LcL), L1OK Try.prog F x.2.2.1 x.2.2.2 := fun x hx => by simp only [List.mem_singleton] at hx; subst hx; exact h
theorem Tri.wk {H' : LH} {v v' : AV} (h : Tri Try.prog W f A H v H') (hw : Wk v v') : Tri Try.prog W f A H v' H' := by
 intro W0 F N w vargs hF hNB r ha; refine (h W0 F N w vargs hF hNB r ha).mono ?_; rintro e w' ⟨y, rfl, N', h1, h2, h3, h4⟩; exact ⟨y, rfl, N', h1, h2, h3, AA'.2 ⟨hw _ _ (AA'.1 h4).1, AT'⟩⟩
theorem V4' {x : Value} (h : ∀ (W0 : World) (F : HP) (N : A3') (w : World) (vargs : Array Value), B9' W F -> NB N H -> Rep W0 N F (AN' H) w -> VRs N A vargs.toList -> Calls Try.prog f vargs w fun e w' => e = .returned x /\ Below w.heap.size w w') : Tri Try.prog W f A H (.v x) H := by
 intro W0 F N w vargs hF hNB r ha; refine (h W0 F N w vargs hF hNB r ha).mono ?_; rintro e w' ⟨rfl, hb⟩
 exact ⟨x, rfl, N, fun _ _ => rfl, hNB, r.below hb, AA'.2 ⟨VR_v.2 rfl, AT'⟩⟩
theorem TP' {args : List Value} {x : Value} (h : ∀ w, Calls Try.prog f args.toArray w fun e w' => e = .returned x /\ Below w.heap.size w w') : Tri Try.prog W f (vmap args) [] (.v x) [] :=
 V4' fun W0 F N w vargs hF hNB r ha => by
  have : vargs = args.toArray := by
   have := ha.of_vmap; rw [<- this]
  subst this; exact h w
theorem Z2' (W : World) : B9' W (HP.old W) := by
 intro D w' hF b o hv; have hF' : (HP.old W).on D w' := hF; rw [hF'.2 _ (Array.getElem?_eq_some_iff.1 hv).1]; exact hv
section
variable {α : Type} {enc : α -> List Value} {k : Nat}
end
abbrev a' : AV := AV.any
abbrev u' : AV := AV.undef
abbrev ut' : AV := AV.v (Value.tuple (Array.mk []))
abbrev i' (n : Nat) : AV := AV.v (Value.int IntKind.i64 (o' n))
abbrev z' (n : Int) : AV := AV.v (Value.int IntKind.i64 n)
abbrev s' (s : Δ) : AV := AV.v (Value.string s)
abbrev b' (b : Bool) : AV := AV.v (Value.bool b)
abbrev p' (q : Prop) : Cnd := Cnd.p q
abbrev t' : Cnd := Cnd.t
abbrev e' : AV := AV.v (Value.slice none 0 0)
abbrev g' : AV := AV.lit false
abbrev j' : AV := AV.lit true
abbrev f' (q : Prop) : Cnd := (Cnd.p q).a Cnd.t
abbrev ra4 (l : List AV) : List AV := a'::a'::a'::a'::l
abbrev ra8 (l : List AV) : List AV := a'::a'::a'::a'::a'::a'::a'::a'::l
abbrev ra16 (l : List AV) : List AV := a'::a'::a'::a'::a'::a'::a'::a'::a'::a'::a'::a'::a'::a'::a'::a'::l
abbrev ru4 (l : List AV) : List AV := u'::u'::u'::u'::l
abbrev ru8 (l : List AV) : List AV := u'::u'::u'::u'::u'::u'::u'::u'::l
abbrev ru16 (l : List AV) : List AV := u'::u'::u'::u'::u'::u'::u'::u'::u'::u'::u'::u'::u'::u'::u'::u'::l
theorem _root_.Go.Proofs.Ytjjjchmkonnpfaa.Ya {a : AV} : Wk a a := Wk.refl a
theorem _root_.Go.Proofs.Ytjjjchmkonnpfaa.Yb {a : List AV} : VW a a := VW.refl a
theorem _root_.Go.Proofs.Ytjjjchmkonnpfaa.Yc {a : AO} : OW a a := OW.refl a
theorem _root_.Go.Proofs.Ytjjjchmkonnpfaa.Yd {a : Nat} : a <= a := Nat.le_refl a
theorem _root_.Go.Proofs.Ytjjjchmkonnpfaa.Ye : True := trivial
theorem Z0 {n : Nat} : o' n = (n : Int) := rfl
theorem Z1 {α : Type _} [LT α] {a b : α} : a > b ↔ b < a := Iff.rfl
theorem Z2 {α : Type _} [LE α] {a b : α} : a >= b ↔ b <= a := Iff.rfl
instance : Std.Refl Wk := ⟨Wk.refl⟩
instance : Std.Refl VW := ⟨VW.refl⟩
instance : Std.Refl OW := ⟨OW.refl⟩
instance {α : Sort _} : Std.Refl (@Eq α) := ⟨fun _ => rfl⟩
theorem _root_.Go.Proofs.Ytjjjchmkonnpfaa.Yf {α : Sort _} {r : α -> α -> Prop} [h : Std.Refl r] {a : α} : r a a := h.refl a
theorem _root_.Go.Proofs.Ytjjjchmkonnpfaa.Yg {x : AV} (h : VW l m) : VW (x :: l) (x :: m) := VW.cons (Wk.refl _) h
theorem _root_.Go.Proofs.Ytjjjchmkonnpfaa.Yh {x : AV} (h : VW l m) : VW (x :: l) (.any :: m) := VW.cons (Wk.any _) h
theorem _root_.Go.Proofs.Ytjjjchmkonnpfaa.Yi {i a b s : Nat} {c : Cp} (h : VW l m) : VW (.slice i a b s c :: l) (.slice i a b s (.lo c.least) :: m) := VW.cons (C4' (Nat.le_refl _)) h
theorem _root_.Go.Proofs.Ytjjjchmkonnpfaa.Yj {α : Type} {Q : α -> List (Option AO) -> Nat -> Prop} {a b : VT α} (h : a = b) (x : VAll Q b) : VAll Q a := cast (congrArg (VAll Q) h.symm) x
theorem Kq0' (h : p := by first | exact rfl | exact Ya | exact Yb | exact Yc | (with_reducible exact OW.of_eq (hQ1 _).symm) | (with_reducible exact OW.of_eq ((hQ1 _).trans (hQ1 _).symm)) | exact OW.of_eq (BO' _ _).symm | exact OW.of_eq (AU' _ _).symm | (refine OW.of_eq ?_; simp only [A8', AB', AC']; done) | ((repeat (first | exact VW.nil | refine VW.cons Ya ?_ | refine VW.cons (Wk.any _) ?_ | refine VW.cons C3' ?_ | refine VW.cons (CF' rfl) ?_ | refine VW.cons (C4' (Yd)) ?_ | refine VW.cons (BN' rfl rfl (Yd)) ?_)); done)) : p := h
theorem Kq1' (h : p := by first | (with_reducible first | exact Ye | exact rfl | exact Ya | exact Yb | exact Yc | exact AM' _ | assumption) | exact rfl | exact Ya | exact Yb | exact Yc | (refine OW.of_eq ?_; simp only [BB', B5', A8', AB']; done) | ((repeat (first | exact VW.nil | refine VW.cons Ya ?_ | refine VW.cons (Wk.any _) ?_)); done)) : p := h
theorem Kq2' (h : p := by first | (with_reducible exact Ye) | (with_reducible exact rfl) | (with_reducible exact Ya) | (with_reducible exact Yb) | (with_reducible exact Yc) | (with_reducible exact AM' _) | (with_reducible assumption) | exact AS' hu3 _ _ _ | exact B3' _ _ | exact rfl | exact Ya | exact Yb | exact Yc) : p := h
theorem Kq3' (h : p := by first | (with_reducible exact Ye) | (with_reducible exact rfl) | (with_reducible exact Ya) | (with_reducible exact Yb) | (with_reducible exact Yc) | (with_reducible exact AM' _) | (with_reducible assumption) | exact A5' rfl | exact A5' δ | exact Kq0') : p := h
theorem Kq4' (h : p := by first | exact rfl | exact Ya | exact Yb | exact Yc | (refine OW.of_eq ?_; simp only [A8', AB', AC']; done) | (with_reducible exact OW.of_eq (hQ1 _).symm) | ((repeat (first | exact VW.nil | refine VW.cons Ya ?_ | refine VW.cons (Wk.any _) ?_ | refine VW.cons C3' ?_ | refine VW.cons (CF' rfl) ?_)); done)) : p := h
theorem Kq5' (h : p := by first | (with_reducible exact Ye) | (with_reducible exact rfl) | (with_reducible exact Ya) | (with_reducible exact Yb) | (with_reducible exact Yc) | (with_reducible exact AM' _) | (with_reducible assumption) | exact AS' hu3 _ _ _ | exact B3' _ _ | (with_reducible exact AW' hw) | exact A5' e1 | (rw [Nat.zero_add, Nat.mul_one]; exact h1) | exact rfl | exact Ya | exact Yb | exact Yc) : p := h
theorem Kq6' (h : p := by first | (with_reducible exact Ye) | (with_reducible exact rfl) | (with_reducible exact Ya) | (with_reducible exact Yb) | (with_reducible exact Yc) | (with_reducible exact AM' _) | (with_reducible assumption) | (with_reducible exact AW' hw) | exact A5' e1 | exact A5' b1 | (rw [Nat.zero_add, Nat.mul_one]; exact h1) | (rw [Nat.ble_eq]; omega) | exact rfl | exact Ya | exact Yb | exact Yc | (refine OW.of_eq ?_; simp only [A8', AB', AC']; done) | ((repeat (first | exact VW.nil | refine VW.cons Ya ?_ | refine VW.cons (Wk.any _) ?_ | refine VW.cons C3' ?_)); done)) : p := h
theorem Kq7' (h : p := by first | (with_reducible exact Ye) | (with_reducible exact rfl) | (with_reducible exact Ya) | (with_reducible exact Yb) | (with_reducible exact Yc) | (with_reducible exact AM' _) | (with_reducible assumption) | exact A5' e1 | exact A5' rfl | exact A5' δ | (rw [Nat.ble_eq]; omega) | exact Nat.beq_refl _ | omega | exact OW.of_eq (by rw [D2']) | exact Kq0') : p := h
theorem Kq8' (h : p := by first | (with_reducible exact Ye) | (with_reducible exact rfl) | (with_reducible exact Ya) | (with_reducible exact Yb) | (with_reducible exact Yc) | (with_reducible exact AM' _) | (with_reducible assumption) | exact AS' hu3 _ _ _ | exact B3' _ _ | (with_reducible exact AW' hw) | exact A5' e1 | exact A5' b1 | exact A5' b2 | exact rfl | exact Ya | exact Yb | exact Yc) : p := h
theorem Kq9' (h : p := by first | (with_reducible exact Ye) | (with_reducible exact rfl) | (with_reducible exact Yb) | (with_reducible exact Yc) | exact rfl | exact Yb | exact Yc | ((repeat (first | exact VW.nil | refine VW.cons Ya ?_ | refine VW.cons (Wk.any _) ?_)); done)) : p := h
theorem Kq10' (h : p := by first | (with_reducible exact Ye) | (with_reducible exact rfl) | (with_reducible exact Ya) | (with_reducible exact Yb) | (with_reducible exact Yc) | (with_reducible exact AM' _) | (with_reducible assumption) | (with_reducible exact AW' hw) | exact A5' e1 | exact A5' b1 | (rw [Nat.zero_add, Nat.mul_one]; exact h1) | (rw [Nat.ble_eq]; omega) | exact Kq4') : p := h
theorem Kq11' (h : p := by first | (with_reducible exact Ye) | (with_reducible exact rfl) | (with_reducible exact Ya) | (with_reducible exact Yb) | (with_reducible exact Yc) | (with_reducible exact AM' _) | (with_reducible assumption) | exact rfl | exact Ya | exact Yb) : p := h
theorem Kq12' (h : p := by first | (with_reducible exact Ye) | (with_reducible exact rfl) | (with_reducible exact Ya) | (with_reducible exact Yb) | (with_reducible exact Yc) | (with_reducible exact AM' _) | (with_reducible assumption) | (with_reducible exact AW' hw) | exact A5' e1 | exact AW' w1 | exact A5' w2 | exact rfl | exact Ya | exact Yb | exact Yc | (refine OW.of_eq ?_; simp only [A8', AB', AC']; done) | ((repeat (first | exact VW.nil | refine VW.cons Ya ?_ | refine VW.cons (Wk.any _) ?_ | refine VW.cons C3' ?_)); done)) : p := h
theorem Kq13' (h : p := by first | exact Ye | exact AW' hw1 | exact AW' hw2 | exact Yb | exact Yc | exact hM | omega | (simp only [Z0]; omega)) : p := h
theorem Kq14' (h : p := by first | (with_reducible exact Ye) | (with_reducible exact rfl) | (with_reducible exact Ya) | (with_reducible exact Yb) | (with_reducible exact Yc) | (with_reducible exact AM' _) | (with_reducible assumption) | exact A5' δ | exact Kq0') : p := h
theorem Kq15' (h : p := by first | (with_reducible first | exact Ye | exact rfl | exact Ya | exact Yb | exact Yc | exact AM' _ | assumption) | exact rfl | exact Ya | exact Yb | exact Yc) : p := h
theorem Kq16' (h : p := by first | (with_reducible exact Ye) | (with_reducible exact rfl) | (with_reducible exact Yb) | (with_reducible exact Yc) | exact rfl | exact Yb | exact Yc) : p := h
theorem Kq17' (h : p := by first | (with_reducible first | exact Ye | exact rfl | exact Ya | exact Yb | exact Yc | exact AM' _ | assumption) | exact Kq0') : p := h
theorem Kq18' (h : p := by first | (with_reducible exact Ye) | (with_reducible exact rfl) | (with_reducible exact Ya) | (with_reducible exact Yb) | (with_reducible exact Yc) | (with_reducible exact AM' _) | (with_reducible assumption) | exact A5' rfl | exact A5' δ | exact OW.of_eq (by rw [DJ']; show _ = AO.cells (rowU [c]) tKc; rw [ET']; rfl) | exact Kq0') : p := h
theorem Kq19' (h : p := by first | exact RO.ret _ | exact RO.fail _) : p := h
theorem Kq20' (h : p := by first | (with_reducible exact Ye) | (with_reducible exact rfl) | exact Yb | exact rfl | ((repeat (first | exact VW.nil | refine VW.cons Ya ?_ | refine VW.cons (Wk.any _) ?_)); done)) : p := h
theorem Kq21' (h : p := by first | exact rfl | exact Ya | exact Yb | exact Yc) : p := h
theorem Kq22' (h : p := by first | (with_reducible exact AW' hw) | exact A5' e1 | exact ST' _ _ | exact XX' rfl rfl rfl rfl rfl rfl | exact Kq11') : p := h
theorem Kq23' (h : p := by first | (with_reducible exact AW' hw) | exact A5' e1 | exact SU' _ _ | exact d5' rfl rfl rfl rfl rfl | exact Kq11') : p := h
theorem Kq24' (h : p := by first | exact Yb | exact Yc | exact OW.of_eq (by rw [A8']) | exact OW.of_eq (by rw [LI']) | (rw [e1]; rfl) | rfl) : p := h
theorem Cq0' (h : p := by simp only [Cnd.holds, Nat.blt_eq, true_and, and_true]; and_intros; all_goals exact Kq20') : p := h
theorem Cq1' (h : p := by simp only [Cnd.holds, Nat.blt_eq, true_and, and_true]; and_intros; all_goals exact Kq9') : p := h
theorem Cq2' (h : p := by simp only [Cnd.holds, Nat.blt_eq, true_and, and_true]; and_intros; all_goals exact Kq16') : p := h
theorem Cq3' (h : p := by simp only [Cnd.holds]; and_intros; all_goals exact Kq13') : p := h
theorem Cq4' (h : p := by simp only [Cnd.holds]; and_intros; all_goals first | exact Ye | exact AS' intT _ _ _ | exact e3 | (rw [e1]; rfl) | rfl) : p := h
theorem Cq5' (h : p := by simp only [Cnd.holds, Nat.blt_eq, true_and, and_true]; and_intros; all_goals exact Kq15') : p := h
theorem Cq6' (h : p := by simp only [Cnd.holds, Nat.blt_eq, true_and, and_true, List.headD_cons]; and_intros; all_goals exact Kq2') : p := h
theorem Cq7' (h : p := by simp only [Cnd.holds, Nat.blt_eq, true_and, and_true, List.headD_cons, h1, Option.getD_none]; and_intros; all_goals exact Kq2') : p := h
theorem Cq8' (h : p := by simp only [Cnd.holds, Nat.blt_eq, true_and, and_true, e1, h1, h2, hcs, C5']; and_intros; all_goals exact Kq5') : p := h
theorem Cq9' (h : p := by simp only [Cnd.holds, Nat.blt_eq, true_and, and_true, e1, h1, h2, hcs, C5', k1, k2, k3, k4]; and_intros; all_goals exact Kq5') : p := h
theorem Cq10' (h : p := by simp only [Cnd.holds, Nat.blt_eq, true_and, and_true, e1, h1, h2, hcs, b1, b2]; and_intros; all_goals exact Kq8') : p := h
theorem Cq11' (h : p := by simp only [Cnd.holds, Nat.blt_eq, true_and, and_true]; and_intros; all_goals exact Kq1') : p := h
theorem Cq12' (h : p := by simp only [Cnd.holds, Nat.blt_eq, true_and, and_true, e1, h1, hcs, C5', b1]; and_intros; all_goals exact Kq6') : p := h
theorem Cq13' (h : p := by simp only [Cnd.holds, Nat.blt_eq, true_and, and_true, e1, h1, hcs]; and_intros; all_goals exact Kq12') : p := h
theorem Cq14' (h : p := by simp only [Cnd.holds, Nat.blt_eq, true_and, and_true, e1, h1, hcs, C5', b1]; and_intros; all_goals exact Kq10') : p := h
theorem Cq15' (h : p := by simp only [Cnd.holds, Nat.blt_eq, true_and, and_true]; and_intros; all_goals exact Kq17') : p := h
theorem Cq16' (h : p := by simp only [Cnd.holds, Nat.blt_eq, true_and, and_true]; and_intros; all_goals exact Kq14') : p := h
theorem Cq17' (h : p := by simp only [Cnd.holds, Nat.blt_eq, true_and, and_true]; and_intros; all_goals exact Kq3') : p := h
theorem Cq18' (h : p := by simp only [Cnd.holds, Nat.blt_eq, true_and, and_true]; and_intros; all_goals exact Kq18') : p := h
theorem Cq19' (h : p := by simp only [Cnd.holds, Nat.blt_eq, true_and, and_true, AC', tkU R, oneU, BV']; and_intros; all_goals exact Kq7') : p := h
abbrev hf' (f : FuncId) (r o : Nat) := (f, r, o, hv (.lit false))
abbrev ht' (f : FuncId) (r o : Nat) := (f, r, o, hv (.lit true))
abbrev tt' : Cnd := Cnd.p (true = true)
abbrev wb' (b : Bool) (y : AV) : Cnd := (Cnd.p (Wk (AV.v (Value.bool b)) y)).a Cnd.t
end Go.Proofs.Ytjjjchmkonnpfaa.Kit
namespace Go.Proofs.Ytjjjchmkonnpfaa
open Go Eng Kit
abbrev Ω : AO := AO.any (HP.pure True)
abbrev ow' (x : AO) : Cnd := Cnd.p (OW x x)
abbrev vw' (x : List AV) : Cnd := Cnd.p (VW x x)
abbrev fe' {α : Type} (x : α) : Cnd := (Cnd.p (x = x)).a Cnd.t
abbrev ee' {α : Type} (x : α) : Cnd := (Cnd.p (true = true)).a ((Cnd.p (x = x)).a Cnd.t)
abbrev nb' (x : UInt8) (n : Nat) : Cnd := (Cnd.p (Wk (AV.v (Value.bool (↑x.toNat == Int.ofNat n))) (AV.lit false))).a Cnd.t
abbrev nt' (x : UInt8) (n : Nat) : Cnd := (Cnd.p (Wk (AV.v (Value.bool (↑x.toNat == Int.ofNat n))) (AV.lit true))).a Cnd.t
end Go.Proofs.Ytjjjchmkonnpfaa
namespace Go.Proofs.Ytjjjchmkonnpfaa
open Go Eng Kit
theorem χ {p : Prop} (h : p := by kernel_rfl) : p := h
end Go.Proofs.Ytjjjchmkonnpfaa
