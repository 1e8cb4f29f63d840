/- What runs over the program are told with: hints, loops, closings. -/
import Derived.Test.YtgahllbgipdchaaGreatDoorEngCon
import Derived.Test.YtgahllbgipdchaaGreatDoorEngRow
import Derived.Test.YtgahllbgipdchaaGreatDoorEngIMap
import Derived.Test.YtgahllbgipdchaaGreatDoorEngClosed
import Derived.Test.YtgahllbgipdchaaGreatDoorProg
import Derived.KernelRfl
import Derived.IntWalk
noncomputable section
set_option linter.unusedVariables false
set_option linter.unusedSimpArgs false
set_option maxRecDepth 100000
namespace Go.Proofs.YtgahllbgipdchaaGreatDoor.Kit
open Go Go.RowKit Eng
open Int renaming ofNat -> o'
variable {p : Prop} {f : FuncId} {F : HP} {W : World} {A l m : List AV} {H : LH}
abbrev E7' := List (FuncId × (List AV -> Option (AP AV)))
abbrev LcL := List (FuncId × Nat × Code × (List AV -> AP (AX × List AV)))
def iv (n : Int) : AV := .v (.int .i64 n)
def bv (b : Bool) : AV := .v (.bool b)
def sv (s : Δ) : AV := .v (.string s)
def slV (oa : Option Addr) (n c : Nat) : AV := .v (.slice oa n c)
def AV' : BD' := fun _ _ _ => none
def AC' : List (FuncId × Nat × Nat × Hint) -> BD'
 | [], _, _, _ => none
 | x :: l, f, r, o => match Nat.beq f x.1 && (Nat.beq r x.2.1 && Nat.beq o x.2.2.1) with
  | true => some x.2.2.2
  | false => AC' l f r o
def hv (v : AV) : Hint := ⟨some v, none, [], .no⟩
def ho (k : Nat) (o : AO) : Hint := ⟨none, none, [(k, o)], .no⟩
def hp (j : Nat) : Hint := ⟨none, some j, [], .no⟩
def h0 : Hint := ⟨none, none, [], .yes⟩
def h0v (v : AV) : Hint := ⟨some v, none, [], .yes⟩
def hf (y : Value) : Hint := ⟨none, none, [], .fact y⟩
def hw (o' : AO) : Hint := ⟨none, none, [], .wr o'⟩
def hn : Hint := ⟨none, none, [], .force⟩
def ht (s : Δ) : Hint := ⟨none, none, [], .txt s⟩
def envW (con : E7') (hints : BD') (lc : LcL) (W : World) (F : HP) : Env := envO Tryz.prog F (conL con) hints (QB' lc) W
def wRun (con : E7') (hints : BD') (lc : LcL) (W : World) (f : FuncId) (A : List AV) (H : LH) (ks : List Nat) (F : HP) : VT AV := ((CZ' Tryz.prog (envW con hints lc W F) 1000 f A).run2 (AQ' H) 1100 []).view ks
def AS' (con : E7') (hints : BD') (lc : LcL) (W : World) (g : FuncId) (b : Code) (A : List AV) (H : LH) (ks idx : List Nat) (F : HP) : VT (AX × List AV × Nat) := (((CI' Tryz.prog (envW con hints lc W F) 1000 g b A).run2 (AQ' H) 1100 []).view ks).map (WO' idx)
def IB' (r : Nat) : Code -> Option Code
 | .loop b => match C3' b with
  | some i => match Nat.beq i r with
   | true => some b
   | false => IB' r b
  | none => IB' r b
 | .seq a b => match IB' r a with | some c => some c | none => IB' r b
 | .cond _ a b => match IB' r a with | some c => some c | none => IB' r b
 | .block _ b | .scope b => IB' r b
 | _ => none
def A4' (f : FuncId) (r : Nat) : Code := ((Tryz.prog.funcs[f]?).bind fun fn => fn.body.bind (IB' r)).getD .skip
theorem bG' : Tryz.prog.follows .mixedOrders = true := by kernel_rfl
theorem B8' : AF' default F := AF'.nothing F
theorem AJ' {con : E7'} {hints : BD'} {lc : LcL} {H' : LH} {v : AV} (ks : List Nat) (hH : AD' 1100 H = true)
  (hcon : ∀ F, AF' W F -> ∀ x ∈ con, C1OK Tryz.prog F x.1 x.2) (hl : ∀ F, AF' W F -> ∀ x ∈ lc, L1OK Tryz.prog F x.2.2.1 x.2.2.2) (h : ∀ F, VAll (fun u os _ => Fits ks [u] os [v] H') (wRun con hints lc W f A H ks F)) : Tri Tryz.prog W f A H v H' :=
 tri_V ks 1000 bG' hH (fun F hF => OA' rfl (hcon F hF)) (fun F hF => L2' rfl (hl F hF)) fun F _ => h F
theorem AT' {g : FuncId} {b : Code} {σ : Type} (m : Nat) (A : σ -> List (Nat × AV)) (H : σ -> LH) (ax : AX) (Z : List (Nat × AV)) (HZ : LH) (μ : σ -> Nat) (ks idx : List Nat) (hax : ax ≠ .normal) (hH : ∀ s, AD' 1100 (H s) = true) (hZ : AD' 1100 HZ = true)
  (hstep : ∀ s, ∃ (con : E7') (hints : BD') (lc : LcL), (∀ F, AF' W F -> ∀ x ∈ con, C1OK Tryz.prog F x.1 x.2) /\ (∀ F, AF' W F -> ∀ x ∈ lc, L1OK Tryz.prog F x.2.2.1 x.2.2.2) /\
   ∀ F, VAll (fun r os _ => r.2.2 = m /\ ((r.1 = .normal /\ ∃ s', μ s' < μ s /\ ∃ l, FitT ks idx r.2.1 os (A s') (H s') l) \/ (r.1 = ax /\ ∃ l, FitT ks idx r.2.1 os Z HZ l))) (AS' con hints lc W g b (tms 0 m (A s)) (H s) ks idx F)) (s : σ) :
  LTri Tryz.prog W b (tms 0 m (A s)) (H s) ax (tms 0 m Z) HZ := by
 have key := ltri_V (P := Tryz.prog) (W := W) (b := b) (g := g) (σ := σ) (con := fun s => conL (hstep s).choose) (claim := fun s => (hstep s).choose_spec.choose) (lcon := fun s => QB' (hstep s).choose_spec.choose_spec.choose) m A H ax Z HZ μ ks idx 1000 bG' hax hH hZ
  (fun s F hF => OA' rfl ((hstep s).choose_spec.choose_spec.choose_spec.1 F hF)) (fun s F hF => L2' rfl ((hstep s).choose_spec.choose_spec.choose_spec.2.1 F hF))
 exact key (fun s F _ => (hstep s).choose_spec.choose_spec.choose_spec.2.2 F) s
theorem BL' {i n : Nat} (h : i < n) : n - (i + 1) < n - i := ω
theorem BR' (k : Nat) (h : k < 9223372036854775807) : IntKind.i64.wrap (o' k + o' 1) = o' (k + 1) := by
 rw [IntWalk.i64_in _ (by simp only [Int.ofNat_eq_natCast]; omega)]; simp only [Int.ofNat_eq_natCast]; omega
theorem BQ' (b : Bool) : Wk (.v (.bool b)) (.lit b) := fun N y hy => ED'.2 (VR_v.1 hy)
theorem A3' {b b' : Bool} (h : b = b') : Wk (.v (.bool b)) (.lit b') := by subst h; exact BQ' b
theorem GW' {a b : Int} (h : a = b) : Wk (.v (.int .i64 a)) (.v (.int .i64 b)) := Wk.of_eq (by rw [h])
theorem noC : ∀ x ∈ ([] : E7'), C1OK Tryz.prog F x.1 x.2 := fun x hx => by cases hx
theorem noL : ∀ x ∈ ([] : LcL), L1OK Tryz.prog F x.2.2.1 x.2.2.2 := fun x hx => by cases hx
theorem BA' {g : List AV -> Option (AP AV)} (h : C1OK Tryz.prog F f g) : ∀ x ∈ ([(f, g)] : E7'), C1OK Tryz.prog F x.1 x.2 := fun x hx => by simp only [List.mem_singleton] at hx; subst hx; exact h
theorem A7' {g : List AV -> Option (AP AV)} {l : E7'} (h : C1OK Tryz.prog F f g) (hl : ∀ x ∈ l, C1OK Tryz.prog F x.1 x.2) : ∀ x ∈ (f, g) :: l, C1OK Tryz.prog F x.1 x.2 := fun x hx => by
 rcases List.mem_cons.1 hx with rfl | hx
 ·exact h
 ·exact hl x hx
theorem CK' {r : Nat} {b : Code} {g : List AV -> AP (AX × List AV)} (h : L1OK Tryz.prog F b g) : ∀ x ∈ ([(f, r, b, g)] : LcL), L1OK Tryz.prog F x.2.2.1 x.2.2.2 := fun x hx => by simp only [List.mem_singleton] at hx; subst hx; exact h
theorem Tri.wk {H' : LH} {v v' : AV} (h : Tri Tryz.prog W f A H v H') (hw : Wk v v') : Tri Tryz.prog W f A H v' H' := by
 intro W0 F N w vargs hF hNB r ha; refine (h W0 F N w vargs hF hNB r ha).mono ?_; rintro e w' ⟨y, rfl, N', h1, h2, h3, h4⟩; exact ⟨y, rfl, N', h1, h2, h3, AG'.2 ⟨hw _ _ (AG'.1 h4).1, B1'⟩⟩
theorem LY' {x : Value} (h : ∀ (W0 : World) (F : HP) (N : Names) (w : World) (vargs : Array Value), AF' W F -> NB N H -> Rep W0 N F (AQ' H) w -> VRs N A vargs.toList -> Calls Tryz.prog f vargs w fun e w' => e = .returned x /\ Below w.heap.size w w') : Tri Tryz.prog W f A H (.v x) H := by
 intro W0 F N w vargs hF hNB r ha; refine (h W0 F N w vargs hF hNB r ha).mono ?_; rintro e w' ⟨rfl, hb⟩
 exact ⟨x, rfl, N, fun _ _ => rfl, hNB, r.below hb, AG'.2 ⟨VR_v.2 rfl, B1'⟩⟩
theorem BW' {args : List Value} {x : Value} (h : ∀ w, Calls Tryz.prog f args.toArray w fun e w' => e = .returned x /\ Below w.heap.size w w') : Tri Tryz.prog W f (vmap args) [] (.v x) [] :=
 LY' fun W0 F N w vargs hF hNB r ha => by
  have : vargs = args.toArray := by
   have := ha.of_vmap; rw [<- this]
  subst this; exact h w
theorem TT' (W : World) : AF' W (HP.old W) := AF'.self W
section
variable {α : Type} {enc : α -> List Value} {k : Nat}
end
abbrev a' : AV := AV.any
abbrev u' : AV := AV.undef
abbrev ut' : AV := AV.v (Value.tuple (Array.mk []))
abbrev i' (n : Nat) : AV := AV.v (Value.int IntKind.i64 (o' n))
abbrev z' (n : Int) : AV := AV.v (Value.int IntKind.i64 n)
abbrev s' (s : Δ) : AV := AV.v (Value.string s)
abbrev b' (b : Bool) : AV := AV.v (Value.bool b)
abbrev p' (q : Prop) : Cnd := Cnd.p q
abbrev t' : Cnd := Cnd.t
abbrev e' : AV := AV.v (Value.slice none 0 0)
abbrev g' : AV := AV.lit false
abbrev j' : AV := AV.lit true
abbrev f' (q : Prop) : Cnd := (Cnd.p q).a Cnd.t
abbrev ra4 (l : List AV) : List AV := a'::a'::a'::a'::l
abbrev ra8 (l : List AV) : List AV := a'::a'::a'::a'::a'::a'::a'::a'::l
abbrev ra16 (l : List AV) : List AV := a'::a'::a'::a'::a'::a'::a'::a'::a'::a'::a'::a'::a'::a'::a'::a'::l
abbrev ru4 (l : List AV) : List AV := u'::u'::u'::u'::l
abbrev ru8 (l : List AV) : List AV := u'::u'::u'::u'::u'::u'::u'::u'::l
abbrev ru16 (l : List AV) : List AV := u'::u'::u'::u'::u'::u'::u'::u'::u'::u'::u'::u'::u'::u'::u'::u'::l
theorem _root_.Go.Proofs.YtgahllbgipdchaaGreatDoor.Ya {a : AV} : Wk a a := Wk.refl a
theorem _root_.Go.Proofs.YtgahllbgipdchaaGreatDoor.Yb {a : List AV} : VW a a := VW.refl a
theorem _root_.Go.Proofs.YtgahllbgipdchaaGreatDoor.Yc {a : AO} : OW a a := OW.refl a
theorem _root_.Go.Proofs.YtgahllbgipdchaaGreatDoor.Yd {a : Nat} : a <= a := Nat.le_refl a
theorem _root_.Go.Proofs.YtgahllbgipdchaaGreatDoor.Ye : True := trivial
theorem Z0 {n : Nat} : o' n = (n : Int) := rfl
theorem Z1 {α : Type _} [LT α] {a b : α} : a > b ↔ b < a := Iff.rfl
theorem Z2 {α : Type _} [LE α] {a b : α} : a >= b ↔ b <= a := Iff.rfl
instance : Std.Refl Wk := ⟨Wk.refl⟩
instance : Std.Refl VW := ⟨VW.refl⟩
instance : Std.Refl OW := ⟨OW.refl⟩
instance {α : Sort _} : Std.Refl (@Eq α) := ⟨fun _ => rfl⟩
theorem _root_.Go.Proofs.YtgahllbgipdchaaGreatDoor.Yf {α : Sort _} {r : α -> α -> Prop} [h : Std.Refl r] {a : α} : r a a := h.refl a
theorem _root_.Go.Proofs.YtgahllbgipdchaaGreatDoor.Yg {x : AV} (h : VW l m) : VW (x :: l) (x :: m) := VW.cons (Wk.refl _) h
theorem _root_.Go.Proofs.YtgahllbgipdchaaGreatDoor.Yh {x : AV} (h : VW l m) : VW (x :: l) (.any :: m) := VW.cons (Wk.any _) h
theorem _root_.Go.Proofs.YtgahllbgipdchaaGreatDoor.Yi {i a b s : Nat} {c : Cp} (h : VW l m) : VW (.slice i a b s c :: l) (.slice i a b s (.lo c.least) :: m) := VW.cons (G6' (Nat.le_refl _)) h
theorem _root_.Go.Proofs.YtgahllbgipdchaaGreatDoor.Yj {α : Type} {Q : α -> List (Option AO) -> Nat -> Prop} {a b : VT α} (h : a = b) (x : VAll Q b) : VAll Q a := cast (congrArg (VAll Q) h.symm) x
theorem Kw0' (h : p := by first | (with_reducible exact Ye) | (with_reducible exact rfl) | (with_reducible exact Ya) | (with_reducible exact Yb) | (with_reducible exact Yc) | (with_reducible assumption) | (with_reducible exact BQ' _) | (with_reducible exact A3' rfl) | (with_reducible exact A3' K.f1) | (with_reducible exact A3' K.f2) | (with_reducible exact AL' K.us) | (with_reducible exact AL' K.sz) | (with_reducible exact K.n1) | (with_reducible exact K.n2) | (with_reducible exact K.n3) | (with_reducible exact K.d1) | (with_reducible exact K.d2) | (with_reducible exact K.d3) | (with_reducible exact K.d4) | (with_reducible exact w3 _) | (with_reducible exact w4 _) | exact w3 _ | exact w4 _ | exact A3' rfl | exact AP' (Yd) | exact K.n3 | exact K.n4 | exact rfl | exact Ya | exact Yb | exact Yc | (refine OW.of_eq ?_; simp only [AO.ren, A1']; done) | ((repeat (first | exact VW.nil | refine VW.cons (Wk.any _) ?_ | refine VW.cons Ya ?_)); done)) : p := h
theorem Kw1' (h : p := by first | (with_reducible exact Ye) | (with_reducible exact rfl) | (with_reducible exact Ya) | (with_reducible exact Yb) | (with_reducible exact Yc) | (with_reducible exact BQ' _) | (with_reducible assumption) | (with_reducible exact A3' rfl) | exact A3' rfl | exact hc | exact Nat.zero_le _ | exact hle | (with_reducible exact AL' ew) | exact AL' ew | (with_reducible exact wk_v ev) | exact wk_v ev | exact A3' ene | exact rfl | exact Ya | exact Yb | exact Yc | ((repeat (first | exact VW.nil | refine VW.cons (Wk.any _) ?_ | refine VW.cons Ya ?_)); done)) : p := h
theorem Kw2' (h : p := by first | exact BZ' _ _ | exact C0' _ _ | exact .inl rfl | exact .inr rfl | exact .inl trivial | exact .inr trivial | exact A3' rfl | exact Ya | exact rfl | (exact VW.cons Ya (VW.cons (Wk.any _) VW.nil)) | (refine OW.of_eq ?_; simp only [AO.ren, A1']; done)) : p := h
theorem Kw3' (h : p := by first | exact rfl | exact Ya | exact Yb | exact Yc | ((repeat (first | exact VW.nil | refine VW.cons (Wk.any _) ?_ | refine VW.cons Ya ?_)); done)) : p := h
theorem Kw4' (h : p := by first | (refine OW.of_eq ?_; simp only [AO.ren, A1']; done) | ((repeat (first | exact VW.nil | refine VW.cons (Wk.any _) ?_ | refine VW.cons Ya ?_)); done)) : p := h
theorem Kw5' (h : p := by first | (with_reducible exact Ye) | (with_reducible exact rfl) | (with_reducible exact Ya) | (with_reducible exact Yb) | (with_reducible exact Yc) | (with_reducible exact BQ' _) | (with_reducible assumption) | (with_reducible exact A3' e8) | (with_reducible exact A3' em) | (with_reducible exact A3' el) | (with_reducible exact A3' es) | (with_reducible exact AL' e9) | exact A3' rfl | exact hb | exact .inl rfl | exact .inr rfl | exact .inl trivial | exact .inr trivial | (refine OW.of_eq ?_; simp only [AO.ren, A1']; done) | exact AL' e9 | (with_reducible exact p1.1) | (with_reducible exact p2.1) | exact p1.1 | exact p2.1 | exact Nat.zero_le _ | (with_reducible exact wk_v (KJ' _ _)) | exact wk_v (KJ' _ _) | (show 8 + val (l.take 4) <= c; omega) | (show 4 <= c; omega) | omega | exact Kw3') : p := h
theorem Kw6' (h : p := by first | (with_reducible exact Ye) | (with_reducible exact rfl) | (with_reducible exact Ya) | (with_reducible exact Yb) | (with_reducible exact Yc) | (with_reducible exact A3' f1) | (with_reducible exact A3' f2) | (with_reducible exact AL' f3) | (with_reducible exact AL' f4) | exact .inr (.inl rfl) | exact .inr (.inl trivial) | exact A3' rfl | exact Ya | exact Yc | exact rfl | exact Kw4') : p := h
theorem Kw7' (h : p := by first | (with_reducible exact Ye) | (with_reducible exact rfl) | (with_reducible exact Ya) | (with_reducible exact Yb) | (with_reducible exact AL' hu) | exact Kw2') : p := h
theorem Kw8' (h : p := by first | exact A3' rfl | exact Ya | exact Yc | exact rfl | exact Yb | (refine OW.of_eq ?_; simp only [AO.ren, A1', AW']; done) | ((repeat (first | exact VW.nil | refine VW.cons (Wk.any _) ?_ | refine VW.cons Ya ?_ | refine VW.cons (G6' (Yd)) ?_)); done)) : p := h
theorem Kw9' (h : p := by first | (with_reducible exact Ye) | (with_reducible exact rfl) | (with_reducible exact Ya) | (with_reducible exact Yb) | (with_reducible exact Yc) | (with_reducible exact BQ' _) | (with_reducible assumption) | exact wk_b (SO' δ) | exact Kw3') : p := h
theorem Kw10' (h : p := by first | (with_reducible exact Ye) | (with_reducible exact rfl) | (with_reducible exact Ya) | (with_reducible exact Yb) | (with_reducible exact Yc) | (with_reducible exact BQ' _) | (with_reducible assumption) | (with_reducible exact A3' e8) | (with_reducible exact A3' em) | (with_reducible exact A3' el) | (with_reducible exact A3' es) | (with_reducible exact AL' e9) | exact A3' rfl | exact hb | exact .inl rfl | exact .inr rfl | exact .inl trivial | exact .inr trivial | (refine OW.of_eq ?_; simp only [AO.ren, A1']; done) | exact AL' e9 | (with_reducible exact p1.1) | (with_reducible exact p2.1) | exact p1.1 | exact p2.1 | exact Nat.zero_le _ | exact Kw3') : p := h
theorem Kw11' (h : p := by first | exact CM' _ | exact HP' _ | exact .inl rfl | exact .inl trivial | exact .inr (.inr rfl) | exact .inr (.inr trivial) | exact A3' rfl | exact Ya | exact rfl | (refine OW.of_eq ?_; simp only [AO.ren, A1']; done)) : p := h
theorem Kw12' (h : p := by first | exact rfl | ((repeat (first | exact VW.nil | refine VW.cons (Wk.any _) ?_ | refine VW.cons Ya ?_)); done)) : p := h
theorem Kw13' (h : p := by first | (with_reducible exact Ye) | (with_reducible exact rfl) | (with_reducible exact Ya) | (with_reducible exact Yb) | (with_reducible exact Yc) | (with_reducible exact A3' f1) | (with_reducible exact A3' f2) | (with_reducible exact AL' f3) | (with_reducible exact AL' f4) | exact BZ' _ _ | exact C0' _ _ | exact HP' _ | exact .inl rfl | exact .inl trivial | exact .inr (.inr rfl) | exact .inr (.inr trivial) | exact A3' rfl | exact Ya | exact Yc | exact rfl | exact Kw4') : p := h
theorem Kw14' (h : p := by first | (with_reducible exact Ye) | (with_reducible exact rfl) | (with_reducible exact Ya) | (with_reducible exact Yb) | (with_reducible exact Yc) | (with_reducible exact A3' f1) | (with_reducible exact A3' f2) | (with_reducible exact AL' f3) | (with_reducible exact AL' f4) | exact .inr (.inl rfl) | exact .inr (.inl trivial) | exact .inr trivial | exact A3' rfl | exact Ya | exact Yc | exact rfl | exact Kw4') : p := h
theorem Kw15' (h : p := by first | (with_reducible first | exact Ye | exact rfl | exact Ya | exact Yb | exact Yc | exact BQ' _ | assumption) | exact Kw3') : p := h
theorem Kw16' (h : p := by first | (with_reducible exact Ye) | (with_reducible exact rfl) | (with_reducible exact A3' f1) | (with_reducible exact A3' f2) | (with_reducible exact AL' f3) | (with_reducible exact A3' f4) | (with_reducible exact wk_v f5) | (with_reducible exact A3' f7) | exact f6.1 | exact f6.2 | exact hT.1 | exact hT.2 | exact Yb | exact Yc) : p := h
theorem Kw17' (h : p := by first | (with_reducible exact Ye) | (with_reducible exact rfl) | (with_reducible exact Ya) | (with_reducible exact Yb) | (with_reducible exact A3' hk') | exact Kw2') : p := h
theorem Kw18' (h : p := by first | (with_reducible exact Ye) | (with_reducible exact rfl) | (with_reducible exact A3' f1) | (with_reducible exact A3' f2) | (with_reducible exact Ya) | (with_reducible exact Yb) | (with_reducible exact Yc) | exact hT.1 | exact hT.2 | (rw [A1']; exact hS.1) | (rw [A1']; exact hS.2) | exact Kw8') : p := h
theorem Kw19' (h : p := by first | exact rfl | (refine OW.of_eq ?_; simp only [AO.ren, A1']; done)) : p := h
theorem Kw20' (h : p := by first | (with_reducible exact Ye) | exact hc | exact hle | (with_reducible exact wk_v ev) | exact wk_v ev | exact A3' ene | exact Yb | exact A3' rfl) : p := h
theorem Kw21' (h : p := by first | (with_reducible exact Ye) | (with_reducible exact rfl) | (with_reducible exact Ya) | (with_reducible exact Yb) | (with_reducible exact Yc) | (with_reducible exact BQ' _) | (with_reducible assumption) | (refine OW.of_eq ?_; simp only [AO.ren, A1']; done) | exact Kw3') : p := h
theorem Kw22' (h : p := by first | (with_reducible exact Ye) | (with_reducible exact rfl) | (with_reducible exact Yc) | exact rfl | exact Yc | exact Kw4') : p := h
theorem Kw23' (h : p := by first | (with_reducible exact Ye) | exact rfl | exact A3' rfl | exact A3' e1 | exact Ya) : p := h
theorem Kw24' (h : p := by first | exact Yc | exact rfl | (refine OW.of_eq ?_; simp only [AO.ren, A1']; done) | ((repeat (first | exact VW.nil | refine VW.cons (Wk.any _) ?_ | refine VW.cons Ya ?_ | refine VW.cons (G6' (Yd)) ?_)); done)) : p := h
theorem Kw25' (h : p := by first | (with_reducible exact Ye) | (with_reducible exact rfl) | exact Kw12') : p := h
theorem Kw26' (h : p := by first | (with_reducible exact Ye) | (with_reducible exact rfl) | (with_reducible exact Ya) | (with_reducible exact Yb) | (with_reducible exact Yc) | exact rfl | exact Yc | exact Kw4') : p := h
theorem Kw27' (h : p := by first | (with_reducible exact Ye) | (with_reducible exact rfl) | (with_reducible exact Ya) | (with_reducible exact Yb) | exact A3' rfl | exact Ya | exact Yb | exact rfl) : p := h
theorem Kw28' (h : p := by first | (with_reducible exact Ye) | (with_reducible exact rfl) | (with_reducible exact Ya) | (with_reducible exact Yb) | (with_reducible exact AL' h1) | exact Kw11') : p := h
theorem Kw29' (h : p := by first | (with_reducible exact Ye) | (with_reducible exact rfl) | (with_reducible exact Ya) | (with_reducible exact Yb) | (with_reducible exact AL' h2) | exact Kw11') : p := h
theorem Kw30' (h : p := by first | (refine OW.of_eq ?_; simp only [AO.ren, AW']; done) | ((repeat (first | exact VW.nil | refine VW.cons (Wk.any _) ?_ | refine VW.cons Ya ?_)); done)) : p := h
theorem Kw31' (h : p := by first | exact Yc | ((repeat (first | exact VW.nil | refine VW.cons (Wk.any _) ?_ | refine VW.cons Ya ?_ | refine VW.cons (G6' (Yd)) ?_)); done)) : p := h
theorem Kw32' (h : p := by first | (with_reducible exact Ye) | exact hc | (with_reducible exact AL' ew) | exact AL' ew | exact Yb | exact Ya | exact A3' rfl | exact rfl) : p := h
theorem Kw33' (h : p := by first | (with_reducible exact wk_v ev) | exact wk_v ev | (with_reducible exact AL' ew) | exact AL' ew | exact Yb | exact A3' rfl | exact rfl) : p := h
theorem Kw34' (h : p := by first | (with_reducible exact Ye) | (with_reducible exact rfl) | (with_reducible exact Yb) | exact CM' _ | exact A3' rfl | exact Kw19') : p := h
theorem Kw35' (h : p := by first | (with_reducible exact Ye) | (with_reducible exact rfl) | (with_reducible exact Ya) | (with_reducible exact Yb) | exact Kw2') : p := h
theorem Kw36' (h : p := by first | (with_reducible exact Ye) | (with_reducible exact rfl) | (with_reducible exact Ya) | exact rfl | exact Ya) : p := h
theorem Kw37' (h : p := by first | (with_reducible exact Ye) | (with_reducible exact rfl) | exact A3' rfl | exact Ya | exact rfl) : p := h
theorem Cw0' (h : p := by simp only [Cnd.holds, Nat.blt_eq, true_and, and_true, k1, k2, k3, k4]; and_intros; all_goals exact Kw9') : p := h
theorem Cw1' (h : p := by simp only [Cnd.holds, Nat.blt_eq, true_and, and_true]; and_intros; all_goals exact Kw15') : p := h
theorem Cw2' (h : p := by simp only [Cnd.holds, Nat.blt_eq, true_and, and_true]; and_intros; all_goals exact Kw21') : p := h
theorem Cw3' (h : p := by simp only [Cnd.holds, Nat.blt_eq, true_and, and_true]; and_intros; all_goals exact Kw10') : p := h
theorem Cw4' (h : p := by simp only [Cnd.holds, Nat.blt_eq, true_and, and_true]; and_intros; all_goals exact Kw5') : p := h
theorem Cw5' (h : p := by simp only [Cnd.holds, Nat.blt_eq, true_and, and_true, ene]; and_intros; all_goals exact Kw1') : p := h
theorem Cw6' (h : p := by simp only [Cnd.holds, Nat.blt_eq, true_and, and_true]; and_intros; all_goals exact Kw1') : p := h
theorem Cw7' (h : p := by simp only [Cnd.holds, Nat.blt_eq, true_and, and_true, k1, k2, k3, k4]; and_intros; all_goals exact Kw1') : p := h
theorem Cw8' (h : p := by simp only [Cnd.holds, Nat.blt_eq, true_and, and_true]; and_intros; all_goals exact Kw25') : p := h
theorem Cw9' (h : p := by simp only [Cnd.holds, Nat.blt_eq, true_and, and_true]; and_intros; all_goals exact Kw0') : p := h
theorem Cw10' (h : p := by simp only [Cnd.holds, true_and, and_true]; and_intros; all_goals exact Kw22') : p := h
theorem Cw11' (h : p := by simp only [Cnd.holds, true_and, and_true]; and_intros; all_goals exact Kw17') : p := h
theorem Cw12' (h : p := by simp only [Cnd.holds, true_and, and_true]; and_intros; all_goals exact Kw7') : p := h
theorem Cw13' (h : p := by simp only [Cnd.holds, true_and, and_true, hO, f5, f6]; and_intros; all_goals exact Kw6') : p := h
theorem Cw14' (h : p := by simp only [Cnd.holds, true_and, and_true, f5, g1, g2, g3, g4, g5, g6]; and_intros; all_goals exact Kw13') : p := h
theorem Cw15' (h : p := by simp only [Cnd.holds, e1, h1, q1, r1, r2, r3, r4, r5, Option.getD_some, Option.isSome_some, Nat.blt_eq, true_and, and_true]; and_intros; all_goals first | (with_reducible exact AL' hw) | exact Kw23') : p := h
theorem Cw16' (h : p := by simp only [Cnd.holds, A1', g1, g2, g3, Nat.zero_le, true_and, and_true]; and_intros; all_goals exact Kw16') : p := h
theorem Cw17' (h : p := by simp only [Cnd.holds, Nat.zero_le, true_and, and_true]; and_intros; all_goals exact Kw20') : p := h
theorem Cw18' (h : p := by simp only [Cnd.holds, Nat.zero_le, true_and, and_true]; and_intros; all_goals exact Kw32') : p := h
theorem Cw19' (h : p := by simp only [Cnd.holds, true_and, and_true, e0, e1, e2, e3, e4, f3]; and_intros; all_goals exact Kw18') : p := h
abbrev hf' (f : FuncId) (r o : Nat) := (f, r, o, hv (.lit false))
abbrev ht' (f : FuncId) (r o : Nat) := (f, r, o, hv (.lit true))
abbrev tt' : Cnd := Cnd.p (true = true)
abbrev wb' (b : Bool) (y : AV) : Cnd := (Cnd.p (Wk (AV.v (Value.bool b)) y)).a Cnd.t
end Go.Proofs.YtgahllbgipdchaaGreatDoor.Kit
namespace Go.Proofs.YtgahllbgipdchaaGreatDoor
open Go Eng Kit
abbrev Ω : AO := AO.any (HP.pure True)
abbrev ow' (x : AO) : Cnd := Cnd.p (OW x x)
abbrev vw' (x : List AV) : Cnd := Cnd.p (VW x x)
abbrev fe' {α : Type} (x : α) : Cnd := (Cnd.p (x = x)).a Cnd.t
abbrev ee' {α : Type} (x : α) : Cnd := (Cnd.p (true = true)).a ((Cnd.p (x = x)).a Cnd.t)
abbrev nb' (x : UInt8) (n : Nat) : Cnd := (Cnd.p (Wk (AV.v (Value.bool (↑x.toNat == Int.ofNat n))) (AV.lit false))).a Cnd.t
abbrev nt' (x : UInt8) (n : Nat) : Cnd := (Cnd.p (Wk (AV.v (Value.bool (↑x.toNat == Int.ofNat n))) (AV.lit true))).a Cnd.t
end Go.Proofs.YtgahllbgipdchaaGreatDoor
namespace Go.Proofs.YtgahllbgipdchaaGreatDoor
open Go Eng Kit
theorem χ {p : Prop} (h : p := by kernel_rfl) : p := h
end Go.Proofs.YtgahllbgipdchaaGreatDoor
