/- What runs over the program are told with: hints, loops, closings. -/
import Derived.Test.YtgahllbgipdchaaGreatDoorEngCon
import Derived.Test.YtgahllbgipdchaaGreatDoorEngRow
import Derived.Test.YtgahllbgipdchaaGreatDoorEngIMap
import Derived.Test.YtgahllbgipdchaaGreatDoorEngClosed
import Derived.Test.YtgahllbgipdchaaGreatDoorProg
import Derived.KernelRfl
import Derived.IntWalk
noncomputable section
set_option linter.unusedVariables false
set_option linter.unusedSimpArgs false
set_option maxRecDepth 100000
namespace Go.Proofs.YtgahllbgipdchaaGreatDoor.Kit
open Go Go.RowKit Eng
open Int renaming ofNat -> o'
variable {p : Prop} {f : FuncId} {F : HP} {W : World} {A l m : List AV} {H : LH}
abbrev G0' := List (FuncId × (List AV -> Option (AP AV)))
abbrev LcL := List (FuncId × Nat × Code × (List AV -> AP (AX × List AV)))
def iv (n : Int) : AV := .v (.int .i64 n)
def bv (b : Bool) : AV := .v (.bool b)
def sv (s : Δ) : AV := .v (.string s)
def slV (oa : Option Addr) (n c : Nat) : AV := .v (.slice oa n c)
def BB' : BK' := fun _ _ _ => none
def AG' : List (FuncId × Nat × Nat × Hint) -> BK'
 | [], _, _, _ => none
 | x :: l, f, r, o => match Nat.beq f x.1 && (Nat.beq r x.2.1 && Nat.beq o x.2.2.1) with
  | true => some x.2.2.2
  | false => AG' l f r o
def hv (v : AV) : Hint := ⟨some v, none, [], .no⟩
def ho (k : Nat) (o : AO) : Hint := ⟨none, none, [(k, o)], .no⟩
def hp (j : Nat) : Hint := ⟨none, some j, [], .no⟩
def h0 : Hint := ⟨none, none, [], .yes⟩
def h0v (v : AV) : Hint := ⟨some v, none, [], .yes⟩
def hf (y : Value) : Hint := ⟨none, none, [], .fact y⟩
def hw (o' : AO) : Hint := ⟨none, none, [], .wr o'⟩
def hn : Hint := ⟨none, none, [], .force⟩
def ht (s : Δ) : Hint := ⟨none, none, [], .txt s⟩
def envW (con : G0') (hints : BK') (lc : LcL) (W : World) (F : HP) : Env := envO Tryz.prog F (conL con) hints (PL' lc) W
def wRun (con : G0') (hints : BK') (lc : LcL) (W : World) (f : FuncId) (A : List AV) (H : LH) (ks : List Nat) (F : HP) : VT AV := ((CT' Tryz.prog (envW con hints lc W F) 1000 f A).run2 (AO' H) 1100 []).view ks
def B9' (con : G0') (hints : BK') (lc : LcL) (W : World) (g : FuncId) (b : Code) (A : List AV) (H : LH) (ks idx : List Nat) (F : HP) : VT (AX × List AV × Nat) := (((CD' Tryz.prog (envW con hints lc W F) 1000 g b A).run2 (AO' H) 1100 []).view ks).map (VB' idx)
def HY' (r : Nat) : Code -> Option Code
 | .loop b => match BV' b with
  | some i => match Nat.beq i r with
   | true => some b
   | false => HY' r b
  | none => HY' r b
 | .seq a b => match HY' r a with | some c => some c | none => HY' r b
 | .cond _ a b => match HY' r a with | some c => some c | none => HY' r b
 | .block _ b | .scope b => HY' r b
 | _ => none
def A8' (f : FuncId) (r : Nat) : Code := ((Tryz.prog.funcs[f]?).bind fun fn => fn.body.bind (HY' r)).getD .skip
theorem XK' : Tryz.prog.follows .mixedOrders = true := by kernel_rfl
theorem CL' : AL' default F := AL'.nothing F
theorem AW' {con : G0'} {hints : BK'} {lc : LcL} {H' : LH} {v : AV} (ks : List Nat) (hH : AA' 1100 H = true)
  (hcon : ∀ F, AL' W F -> ∀ x ∈ con, C1OK Tryz.prog F x.1 x.2) (hl : ∀ F, AL' W F -> ∀ x ∈ lc, L1OK Tryz.prog F x.2.2.1 x.2.2.2) (h : ∀ F, VAll (fun u os _ => Fits ks [u] os [v] H') (wRun con hints lc W f A H ks F)) : Tri Tryz.prog W f A H v H' :=
 tri_V ks 1000 XK' hH (fun F hF => NR' rfl (hcon F hF)) (fun F hF => KK' rfl (hl F hF)) fun F _ => h F
theorem BP' {g : FuncId} {b : Code} {σ : Type} (m : Nat) (A : σ -> List (Nat × AV)) (H : σ -> LH) (ax : AX) (Z : List (Nat × AV)) (HZ : LH) (μ : σ -> Nat) (ks idx : List Nat) (hax : ax ≠ .normal) (hH : ∀ s, AA' 1100 (H s) = true) (hZ : AA' 1100 HZ = true)
  (hstep : ∀ s, ∃ (con : G0') (hints : BK') (lc : LcL), (∀ F, AL' W F -> ∀ x ∈ con, C1OK Tryz.prog F x.1 x.2) /\ (∀ F, AL' W F -> ∀ x ∈ lc, L1OK Tryz.prog F x.2.2.1 x.2.2.2) /\
   ∀ F, VAll (fun r os _ => r.2.2 = m /\ ((r.1 = .normal /\ ∃ s', μ s' < μ s /\ ∃ l, FitT ks idx r.2.1 os (A s') (H s') l) \/ (r.1 = ax /\ ∃ l, FitT ks idx r.2.1 os Z HZ l))) (B9' con hints lc W g b (tms 0 m (A s)) (H s) ks idx F)) (s : σ) :
  LTri Tryz.prog W b (tms 0 m (A s)) (H s) ax (tms 0 m Z) HZ := by
 have key := ltri_V (P := Tryz.prog) (W := W) (b := b) (g := g) (σ := σ) (con := fun s => conL (hstep s).choose) (claim := fun s => (hstep s).choose_spec.choose) (lcon := fun s => PL' (hstep s).choose_spec.choose_spec.choose) m A H ax Z HZ μ ks idx 1000 XK' hax hH hZ
  (fun s F hF => NR' rfl ((hstep s).choose_spec.choose_spec.choose_spec.1 F hF)) (fun s F hF => KK' rfl ((hstep s).choose_spec.choose_spec.choose_spec.2.1 F hF))
 exact key (fun s F _ => (hstep s).choose_spec.choose_spec.choose_spec.2.2 F) s
theorem C8' {i n : Nat} (h : i < n) : n - (i + 1) < n - i := ω
theorem BQ' (k : Nat) (h : k < 9223372036854775807) : IntKind.i64.wrap (o' k + o' 1) = o' (k + 1) := by
 rw [IntWalk.i64_in _ (by simp only [Int.ofNat_eq_natCast]; omega)]; simp only [Int.ofNat_eq_natCast]; omega
theorem B8' (b : Bool) : Wk (.v (.bool b)) (.lit b) := fun N y hy => E8'.2 (VR_v.1 hy)
theorem A3' {b b' : Bool} (h : b = b') : Wk (.v (.bool b)) (.lit b') := by subst h; exact B8' b
theorem CK' {a b : Int} (h : a = b) : Wk (.v (.int .i64 a)) (.v (.int .i64 b)) := Wk.of_eq (by rw [h])
theorem noC : ∀ x ∈ ([] : G0'), C1OK Tryz.prog F x.1 x.2 := fun x hx => by cases hx
theorem noL : ∀ x ∈ ([] : LcL), L1OK Tryz.prog F x.2.2.1 x.2.2.2 := fun x hx => by cases hx
theorem C6' {g : List AV -> Option (AP AV)} (h : C1OK Tryz.prog F f g) : ∀ x ∈ ([(f, g)] : G0'), C1OK Tryz.prog F x.1 x.2 := fun x hx => by simp only [List.mem_singleton] at hx; subst hx; exact h
theorem AJ' {g : List AV -> Option (AP AV)} {l : G0'} (h : C1OK Tryz.prog F f g) (hl : ∀ x ∈ l, C1OK Tryz.prog F x.1 x.2) : ∀ x ∈ (f, g) :: l, C1OK Tryz.prog F x.1 x.2 := fun x hx => by
 rcases List.mem_cons.1 hx with rfl | hx
 ·exact h
 ·exact hl x hx
theorem GF' {r : Nat} {b : Code} {g : List AV -> AP (AX × List AV)} (h : L1OK Tryz.prog F b g) : ∀ x ∈ ([(f, r, b, g)] : LcL), L1OK Tryz.prog F x.2.2.1 x.2.2.2 := fun x hx => by simp only [List.mem_singleton] at hx; subst hx; exact h
theorem Tri.wk {H' : LH} {v v' : AV} (h : Tri Tryz.prog W f A H v H') (hw : Wk v v') : Tri Tryz.prog W f A H v' H' := by
 intro W0 F N w vargs hF hNB r ha; refine (h W0 F N w vargs hF hNB r ha).mono ?_; rintro e w' ⟨y, rfl, N', h1, h2, h3, h4⟩; exact ⟨y, rfl, N', h1, h2, h3, AB'.2 ⟨hw _ _ (AB'.1 h4).1, AV'⟩⟩
theorem LG' {x : Value} (h : ∀ (W0 : World) (F : HP) (N : A7') (w : World) (vargs : Array Value), AL' W F -> NB N H -> Rep W0 N F (AO' H) w -> VRs N A vargs.toList -> Calls Tryz.prog f vargs w fun e w' => e = .returned x /\ Below w.heap.size w w') : Tri Tryz.prog W f A H (.v x) H := by
 intro W0 F N w vargs hF hNB r ha; refine (h W0 F N w vargs hF hNB r ha).mono ?_; rintro e w' ⟨rfl, hb⟩
 exact ⟨x, rfl, N, fun _ _ => rfl, hNB, r.below hb, AB'.2 ⟨VR_v.2 rfl, AV'⟩⟩
theorem CQ' {args : List Value} {x : Value} (h : ∀ w, Calls Tryz.prog f args.toArray w fun e w' => e = .returned x /\ Below w.heap.size w w') : Tri Tryz.prog W f (vmap args) [] (.v x) [] :=
 LG' fun W0 F N w vargs hF hNB r ha => by
  have : vargs = args.toArray := by
   have := ha.of_vmap; rw [<- this]
  subst this; exact h w
theorem SV' (W : World) : AL' W (HP.old W) := AL'.self W
section
variable {α : Type} {enc : α -> List Value} {k : Nat}
end
abbrev a' : AV := AV.any
abbrev u' : AV := AV.undef
abbrev ut' : AV := AV.v (Value.tuple (Array.mk []))
abbrev i' (n : Nat) : AV := AV.v (Value.int IntKind.i64 (o' n))
abbrev z' (n : Int) : AV := AV.v (Value.int IntKind.i64 n)
abbrev s' (s : Δ) : AV := AV.v (Value.string s)
abbrev b' (b : Bool) : AV := AV.v (Value.bool b)
abbrev p' (q : Prop) : Cnd := Cnd.p q
abbrev t' : Cnd := Cnd.t
abbrev e' : AV := AV.v (Value.slice none 0 0)
abbrev g' : AV := AV.lit false
abbrev j' : AV := AV.lit true
abbrev f' (q : Prop) : Cnd := (Cnd.p q).a Cnd.t
abbrev ra4 (l : List AV) : List AV := a'::a'::a'::a'::l
abbrev ra8 (l : List AV) : List AV := a'::a'::a'::a'::a'::a'::a'::a'::l
abbrev ra16 (l : List AV) : List AV := a'::a'::a'::a'::a'::a'::a'::a'::a'::a'::a'::a'::a'::a'::a'::a'::l
abbrev ru4 (l : List AV) : List AV := u'::u'::u'::u'::l
abbrev ru8 (l : List AV) : List AV := u'::u'::u'::u'::u'::u'::u'::u'::l
abbrev ru16 (l : List AV) : List AV := u'::u'::u'::u'::u'::u'::u'::u'::u'::u'::u'::u'::u'::u'::u'::u'::l
theorem _root_.Go.Proofs.YtgahllbgipdchaaGreatDoor.Ya {a : AV} : Wk a a := Wk.refl a
theorem _root_.Go.Proofs.YtgahllbgipdchaaGreatDoor.Yb {a : List AV} : VW a a := VW.refl a
theorem _root_.Go.Proofs.YtgahllbgipdchaaGreatDoor.Yc {a : AO} : OW a a := OW.refl a
theorem _root_.Go.Proofs.YtgahllbgipdchaaGreatDoor.Yd {a : Nat} : a <= a := Nat.le_refl a
theorem _root_.Go.Proofs.YtgahllbgipdchaaGreatDoor.Ye : True := trivial
theorem Z0 {n : Nat} : o' n = (n : Int) := rfl
theorem Z1 {α : Type _} [LT α] {a b : α} : a > b ↔ b < a := Iff.rfl
theorem Z2 {α : Type _} [LE α] {a b : α} : a >= b ↔ b <= a := Iff.rfl
instance : Std.Refl Wk := ⟨Wk.refl⟩
instance : Std.Refl VW := ⟨VW.refl⟩
instance : Std.Refl OW := ⟨OW.refl⟩
instance {α : Sort _} : Std.Refl (@Eq α) := ⟨fun _ => rfl⟩
theorem _root_.Go.Proofs.YtgahllbgipdchaaGreatDoor.Yf {α : Sort _} {r : α -> α -> Prop} [h : Std.Refl r] {a : α} : r a a := h.refl a
theorem _root_.Go.Proofs.YtgahllbgipdchaaGreatDoor.Yg {x : AV} (h : VW l m) : VW (x :: l) (x :: m) := VW.cons (Wk.refl _) h
theorem _root_.Go.Proofs.YtgahllbgipdchaaGreatDoor.Yh {x : AV} (h : VW l m) : VW (x :: l) (.any :: m) := VW.cons (Wk.any _) h
theorem _root_.Go.Proofs.YtgahllbgipdchaaGreatDoor.Yi {i a b s : Nat} {c : Cp} (h : VW l m) : VW (.slice i a b s c :: l) (.slice i a b s (.lo c.least) :: m) := VW.cons (Q9' (Nat.le_refl _)) h
theorem _root_.Go.Proofs.YtgahllbgipdchaaGreatDoor.Yj {α : Type} {Q : α -> List (Option AO) -> Nat -> Prop} {a b : VT α} (h : a = b) (x : VAll Q b) : VAll Q a := cast (congrArg (VAll Q) h.symm) x
theorem Kw0' (h : p := by first | (with_reducible exact Ye) | (with_reducible exact rfl) | (with_reducible exact Ya) | (with_reducible exact Yb) | (with_reducible exact Yc) | (with_reducible assumption) | (with_reducible exact B8' _) | (with_reducible exact A3' rfl) | (with_reducible exact A3' K.f1) | (with_reducible exact A3' K.f2) | (with_reducible exact AZ' K.us) | (with_reducible exact AZ' K.sz) | (with_reducible exact K.n1) | (with_reducible exact K.n2) | (with_reducible exact K.n3) | (with_reducible exact K.d1) | (with_reducible exact K.d2) | (with_reducible exact K.d3) | (with_reducible exact K.d4) | (with_reducible exact w3 _) | (with_reducible exact w4 _) | exact w3 _ | exact w4 _ | exact A3' rfl | exact AM' (Yd) | exact K.n3 | exact K.n4 | exact rfl | exact Ya | exact Yb | exact Yc | (refine OW.of_eq ?_; simp only [AO.ren, A4']; done) | ((repeat (first | exact VW.nil | refine VW.cons (Wk.any _) ?_ | refine VW.cons Ya ?_)); done)) : p := h
theorem Kw1' (h : p := by first | (with_reducible exact Ye) | (with_reducible exact rfl) | (with_reducible exact Ya) | (with_reducible exact Yb) | (with_reducible exact Yc) | (with_reducible exact B8' _) | (with_reducible assumption) | (with_reducible exact A3' rfl) | exact A3' rfl | exact hc | exact Nat.zero_le _ | exact hle | (with_reducible exact AZ' ew) | exact AZ' ew | (with_reducible exact wk_v ev) | exact wk_v ev | exact A3' ene | exact rfl | exact Ya | exact Yb | exact Yc | ((repeat (first | exact VW.nil | refine VW.cons (Wk.any _) ?_ | refine VW.cons Ya ?_)); done)) : p := h
theorem Kw2' (h : p := by first | exact rfl | exact Ya | exact Yb | exact Yc | ((repeat (first | exact VW.nil | refine VW.cons (Wk.any _) ?_ | refine VW.cons Ya ?_)); done)) : p := h
theorem Kw3' (h : p := by first | exact Yc | (refine OW.of_eq ?_; simp only [AO.ren, A4']; done) | (refine OW.of_eq ?_; simp only [AO.ren, AK']; done) | ((repeat (first | exact VW.nil | refine VW.cons (Wk.any _) ?_ | refine VW.cons Ya ?_)); done)) : p := h
theorem Kw4' (h : p := by first | (with_reducible exact Ye) | (with_reducible exact rfl) | (with_reducible exact Ya) | (with_reducible exact Yb) | (with_reducible exact Yc) | (with_reducible exact B8' _) | (with_reducible assumption) | (with_reducible exact A3' e8) | (with_reducible exact A3' em) | (with_reducible exact A3' el) | (with_reducible exact A3' es) | (with_reducible exact AZ' e9) | exact A3' rfl | exact hb | exact .inl rfl | exact .inr rfl | exact .inl trivial | exact .inr trivial | (refine OW.of_eq ?_; simp only [AO.ren, A4']; done) | exact AZ' e9 | (with_reducible exact p1.1) | (with_reducible exact p2.1) | exact p1.1 | exact p2.1 | exact Nat.zero_le _ | (with_reducible exact wk_v (K4' _ _)) | exact wk_v (K4' _ _) | (show 8 + val (l.take 4) <= c; omega) | (show 4 <= c; omega) | omega | exact Kw2') : p := h
theorem Kw5' (h : p := by first | (with_reducible exact Ye) | (with_reducible exact rfl) | (with_reducible exact Ya) | (with_reducible exact Yb) | (with_reducible exact Yc) | (with_reducible exact B8' _) | (with_reducible assumption) | exact wk_b (RR' δ) | exact Kw2') : p := h
theorem Kw6' (h : p := by first | (with_reducible exact Ye) | (with_reducible exact rfl) | (with_reducible exact Ya) | (with_reducible exact Yb) | (with_reducible exact Yc) | (with_reducible exact B8' _) | (with_reducible assumption) | (with_reducible exact A3' e8) | (with_reducible exact A3' em) | (with_reducible exact A3' el) | (with_reducible exact A3' es) | (with_reducible exact AZ' e9) | exact A3' rfl | exact hb | exact .inl rfl | exact .inr rfl | exact .inl trivial | exact .inr trivial | (refine OW.of_eq ?_; simp only [AO.ren, A4']; done) | exact AZ' e9 | (with_reducible exact p1.1) | (with_reducible exact p2.1) | exact p1.1 | exact p2.1 | exact Nat.zero_le _ | exact Kw2') : p := h
theorem Kw7' (h : p := by first | (with_reducible first | exact Ye | exact rfl | exact Ya | exact Yb | exact Yc | exact B8' _ | assumption) | exact Kw2') : p := h
theorem Kw8' (h : p := by first | (with_reducible exact o4 _) | exact o4 _ | (with_reducible exact PI' _) | exact PI' _ | exact KB' _ | exact A3' rfl | exact B8' _ | exact rfl | exact Ya | exact Kw3') : p := h
theorem Kw9' (h : p := by first | (with_reducible exact CK' hw) | (with_reducible exact A3' e1) | (with_reducible exact Ye) | (with_reducible exact rfl) | (with_reducible exact Ya) | (with_reducible exact Yb) | (with_reducible exact Yc) | exact A3' rfl | exact rfl | exact Ya | exact Yc | (refine OW.of_eq ?_; simp only [AO.ren, A4']; done)) : p := h
theorem Kw10' (h : p := by first | (refine OW.of_eq ?_; simp only [AO.ren, A4']; done) | ((repeat (first | exact VW.nil | refine VW.cons (Wk.any _) ?_ | refine VW.cons Ya ?_)); done)) : p := h
theorem Kw11' (h : p := by first | (with_reducible exact Ye) | (with_reducible exact rfl) | (with_reducible exact Ya) | (with_reducible exact Yb) | (with_reducible exact Yc) | (with_reducible exact B8' _) | (with_reducible assumption) | (refine OW.of_eq ?_; simp only [AO.ren, A4']; done) | exact Kw2') : p := h
theorem Kw12' (h : p := by first | (with_reducible exact CK' hw) | (with_reducible exact A3' e1) | (with_reducible exact Ye) | (with_reducible exact rfl) | (with_reducible exact Ya) | (with_reducible exact Yb) | (with_reducible exact Yc) | exact A3' rfl | exact rfl | exact Ya | exact Yc) : p := h
theorem Kw13' (h : p := by first | (with_reducible exact Ye) | (with_reducible exact rfl) | (with_reducible exact Ya) | (with_reducible exact Yb) | (with_reducible exact Yc) | exact rfl | exact Kw3') : p := h
theorem Kw14' (h : p := by first | (with_reducible exact Ye) | (with_reducible exact rfl) | (with_reducible exact AZ' e2) | (with_reducible exact A3' e1) | exact rfl) : p := h
theorem Kw15' (h : p := by first | exact rfl | (refine OW.of_eq ?_; simp only [AO.ren, A4']; done)) : p := h
theorem Kw16' (h : p := by first | (with_reducible exact Ye) | (with_reducible exact rfl) | (with_reducible exact Ya) | exact rfl | exact Ya) : p := h
theorem Cw0' (h : p := by simp only [Cnd.holds, Nat.blt_eq, true_and, and_true, k1, k2, k3, k4]; and_intros; all_goals exact Kw5') : p := h
theorem Cw1' (h : p := by simp only [Cnd.holds, Nat.blt_eq, true_and, and_true]; and_intros; all_goals exact Kw7') : p := h
theorem Cw2' (h : p := by simp only [Cnd.holds, Nat.blt_eq, true_and, and_true]; and_intros; all_goals exact Kw11') : p := h
theorem Cw3' (h : p := by simp only [Cnd.holds, Nat.blt_eq, true_and, and_true]; and_intros; all_goals exact Kw6') : p := h
theorem Cw4' (h : p := by simp only [Cnd.holds, Nat.blt_eq, true_and, and_true]; and_intros; all_goals exact Kw4') : p := h
theorem Cw5' (h : p := by simp only [Cnd.holds, Nat.blt_eq, true_and, and_true, ene]; and_intros; all_goals exact Kw1') : p := h
theorem Cw6' (h : p := by simp only [Cnd.holds, Nat.blt_eq, true_and, and_true]; and_intros; all_goals exact Kw1') : p := h
theorem Cw7' (h : p := by simp only [Cnd.holds, Nat.blt_eq, true_and, and_true, k1, k2, k3, k4]; and_intros; all_goals exact Kw1') : p := h
theorem Cw8' (h : p := by simp only [Cnd.holds, Nat.blt_eq, true_and, and_true]; and_intros; all_goals exact Kw0') : p := h
theorem Cw9' (h : p := by simp only [Cnd.holds, hbl, hcell, k1, k2, k3, k4, Option.isSome_some, Option.getD_some, true_and, and_true]; and_intros; all_goals exact Kw12') : p := h
theorem Cw10' (h : p := by simp only [Cnd.holds, hbl, hcell, Rs.val, k1, k2, k3, k4, Option.isSome_some, Option.getD_some, true_and, and_true]; and_intros; all_goals exact Kw9') : p := h
abbrev hf' (f : FuncId) (r o : Nat) := (f, r, o, hv (.lit false))
abbrev ht' (f : FuncId) (r o : Nat) := (f, r, o, hv (.lit true))
abbrev tt' : Cnd := Cnd.p (true = true)
abbrev wb' (b : Bool) (y : AV) : Cnd := (Cnd.p (Wk (AV.v (Value.bool b)) y)).a Cnd.t
end Go.Proofs.YtgahllbgipdchaaGreatDoor.Kit
namespace Go.Proofs.YtgahllbgipdchaaGreatDoor
open Go Eng Kit
abbrev Ω : AO := AO.any (HP.pure True)
abbrev ow' (x : AO) : Cnd := Cnd.p (OW x x)
abbrev vw' (x : List AV) : Cnd := Cnd.p (VW x x)
abbrev fe' {α : Type} (x : α) : Cnd := (Cnd.p (x = x)).a Cnd.t
abbrev ee' {α : Type} (x : α) : Cnd := (Cnd.p (true = true)).a ((Cnd.p (x = x)).a Cnd.t)
abbrev nb' (x : UInt8) (n : Nat) : Cnd := (Cnd.p (Wk (AV.v (Value.bool (↑x.toNat == Int.ofNat n))) (AV.lit false))).a Cnd.t
abbrev nt' (x : UInt8) (n : Nat) : Cnd := (Cnd.p (Wk (AV.v (Value.bool (↑x.toNat == Int.ofNat n))) (AV.lit true))).a Cnd.t
end Go.Proofs.YtgahllbgipdchaaGreatDoor
namespace Go.Proofs.YtgahllbgipdchaaGreatDoor
open Go Eng Kit
theorem χ {p : Prop} (h : p := by kernel_rfl) : p := h
end Go.Proofs.YtgahllbgipdchaaGreatDoor
