/- What runs over the program are told with: hints, loops, closings. -/
import Derived.Test.YtnnojnlejlokhaaGreatDoorEngCon
import Derived.Test.YtnnojnlejlokhaaGreatDoorEngRow
import Derived.Test.YtnnojnlejlokhaaGreatDoorEngIMap
import Derived.Test.YtnnojnlejlokhaaGreatDoorEngClosed
import Derived.Test.YtnnojnlejlokhaaGreatDoorProg
import Derived.KernelRfl
import Derived.IntWalk
noncomputable section
set_option linter.unusedVariables false
set_option linter.unusedSimpArgs false
set_option maxRecDepth 100000
namespace Go.Proofs.YtnnojnlejlokhaaGreatDoor.Kit
open Go Go.RowKit Eng
open Int renaming ofNat -> o'
variable {p : Prop} {f : FuncId} {F : HP} {W : World} {A l m : List AV} {H : LH}
abbrev HN' := List (FuncId × (List AV -> Option (AP AV)))
abbrev LcL := List (FuncId × Nat × Code × (List AV -> AP (AX × List AV)))
def iv (n : Int) : AV := .v (.int .i64 n)
def bv (b : Bool) : AV := .v (.bool b)
def sv (s : Δ) : AV := .v (.string s)
def slV (oa : Option Addr) (n c : Nat) : AV := .v (.slice oa n c)
def BM' : B9' := fun _ _ _ => none
def AE' : List (FuncId × Nat × Nat × Hint) -> B9'
 | [], _, _, _ => none
 | x :: l, f, r, o => match Nat.beq f x.1 && (Nat.beq r x.2.1 && Nat.beq o x.2.2.1) with
  | true => some x.2.2.2
  | false => AE' l f r o
def hv (v : AV) : Hint := ⟨some v, none, [], .no⟩
def ho (k : Nat) (o : AO) : Hint := ⟨none, none, [(k, o)], .no⟩
def hp (j : Nat) : Hint := ⟨none, some j, [], .no⟩
def h0 : Hint := ⟨none, none, [], .yes⟩
def hf (y : Value) : Hint := ⟨none, none, [], .fact y⟩
def hw (o' : AO) : Hint := ⟨none, none, [], .wr o'⟩
def hn : Hint := ⟨none, none, [], .force⟩
def ht (s : Δ) : Hint := ⟨none, none, [], .txt s⟩
def envW (con : HN') (hints : B9') (lc : LcL) (W : World) (F : HP) : Env := envO Tryz.prog F (conL con) hints (QL' lc) W
def wRun (con : HN') (hints : B9') (lc : LcL) (W : World) (f : FuncId) (A : List AV) (H : LH) (ks : List Nat) (F : HP) : VT AV := ((CO' Tryz.prog (envW con hints lc W F) 1000 f A).run2 (AN' H) 1100 []).view ks
def BK' (con : HN') (hints : B9') (lc : LcL) (W : World) (g : FuncId) (b : Code) (A : List AV) (H : LH) (ks idx : List Nat) (F : HP) : VT (AX × List AV × Nat) := (((CN' Tryz.prog (envW con hints lc W F) 1000 g b A).run2 (AN' H) 1100 []).view ks).map (Y0' idx)
def ID' (r : Nat) : Code -> Option Code
 | .loop b => match BX' b with
  | some i => match Nat.beq i r with
   | true => some b
   | false => ID' r b
  | none => ID' r b
 | .seq a b => match ID' r a with | some c => some c | none => ID' r b
 | .cond _ a b => match ID' r a with | some c => some c | none => ID' r b
 | .block _ b | .scope b => ID' r b
 | _ => none
def A3' (f : FuncId) (r : Nat) : Code := ((Tryz.prog.funcs[f]?).bind fun fn => fn.body.bind (ID' r)).getD .skip
theorem ZY' : Tryz.prog.follows .mixedOrders = true := by kernel_rfl
theorem BC' : AK' default F := AK'.nothing F
theorem AM' {con : HN'} {hints : B9'} {lc : LcL} {H' : LH} {v : AV} (ks : List Nat) (hH : A9' 1100 H = true)
  (hcon : ∀ F, AK' W F -> ∀ x ∈ con, C1OK Tryz.prog F x.1 x.2) (hl : ∀ F, AK' W F -> ∀ x ∈ lc, L1OK Tryz.prog F x.2.2.1 x.2.2.2) (h : ∀ F, VAll (fun u os _ => Fits ks [u] os [v] H') (wRun con hints lc W f A H ks F)) : Tri Tryz.prog W f A H v H' :=
 tri_V ks 1000 ZY' hH (fun F hF => OP' rfl (hcon F hF)) (fun F hF => L7' rfl (hl F hF)) fun F _ => h F
theorem BG' {g : FuncId} {b : Code} {σ : Type} (m : Nat) (A : σ -> List (Nat × AV)) (H : σ -> LH) (ax : AX) (Z : List (Nat × AV)) (HZ : LH) (μ : σ -> Nat) (ks idx : List Nat) (hax : ax ≠ .normal) (hH : ∀ s, A9' 1100 (H s) = true) (hZ : A9' 1100 HZ = true)
  (hstep : ∀ s, ∃ (con : HN') (hints : B9') (lc : LcL), (∀ F, AK' W F -> ∀ x ∈ con, C1OK Tryz.prog F x.1 x.2) /\ (∀ F, AK' W F -> ∀ x ∈ lc, L1OK Tryz.prog F x.2.2.1 x.2.2.2) /\
   ∀ F, VAll (fun r os _ => r.2.2 = m /\ ((r.1 = .normal /\ ∃ s', μ s' < μ s /\ ∃ l, FitT ks idx r.2.1 os (A s') (H s') l) \/ (r.1 = ax /\ ∃ l, FitT ks idx r.2.1 os Z HZ l))) (BK' con hints lc W g b (tms 0 m (A s)) (H s) ks idx F)) (s : σ) :
  LTri Tryz.prog W b (tms 0 m (A s)) (H s) ax (tms 0 m Z) HZ := by
 have key := ltri_V (P := Tryz.prog) (W := W) (b := b) (g := g) (σ := σ) (con := fun s => conL (hstep s).choose) (claim := fun s => (hstep s).choose_spec.choose) (lcon := fun s => QL' (hstep s).choose_spec.choose_spec.choose) m A H ax Z HZ μ ks idx 1000 ZY' hax hH hZ
  (fun s F hF => OP' rfl ((hstep s).choose_spec.choose_spec.choose_spec.1 F hF)) (fun s F hF => L7' rfl ((hstep s).choose_spec.choose_spec.choose_spec.2.1 F hF))
 exact key (fun s F _ => (hstep s).choose_spec.choose_spec.choose_spec.2.2 F) s
theorem B7' {i n : Nat} (h : i < n) : n - (i + 1) < n - i := ω
theorem BB' (k : Nat) (h : k < 9223372036854775807) : IntKind.i64.wrap (o' k + o' 1) = o' (k + 1) := by
 rw [IntWalk.i64_in _ (by simp only [Int.ofNat_eq_natCast]; omega)]; simp only [Int.ofNat_eq_natCast]; omega
theorem B0' (b : Bool) : Wk (.v (.bool b)) (.lit b) := fun N y hy => EC'.2 (VR_v.1 hy)
theorem A4' {b b' : Bool} (h : b = b') : Wk (.v (.bool b)) (.lit b') := by subst h; exact B0' b
theorem C8' {a b : Int} (h : a = b) : Wk (.v (.int .i64 a)) (.v (.int .i64 b)) := Wk.of_eq (by rw [h])
theorem noC : ∀ x ∈ ([] : HN'), C1OK Tryz.prog F x.1 x.2 := fun x hx => by cases hx
theorem noL : ∀ x ∈ ([] : LcL), L1OK Tryz.prog F x.2.2.1 x.2.2.2 := fun x hx => by cases hx
theorem DG' {g : List AV -> Option (AP AV)} (h : C1OK Tryz.prog F f g) : ∀ x ∈ ([(f, g)] : HN'), C1OK Tryz.prog F x.1 x.2 := fun x hx => by simp only [List.mem_singleton] at hx; subst hx; exact h
theorem AO' {g : List AV -> Option (AP AV)} {l : HN'} (h : C1OK Tryz.prog F f g) (hl : ∀ x ∈ l, C1OK Tryz.prog F x.1 x.2) : ∀ x ∈ (f, g) :: l, C1OK Tryz.prog F x.1 x.2 := fun x hx => by
 rcases List.mem_cons.1 hx with rfl | hx
 ·exact h
 ·exact hl x hx
theorem CJ' {r : Nat} {b : Code} {g : List AV -> AP (AX × List AV)} (h : L1OK Tryz.prog F b g) : ∀ x ∈ ([(f, r, b, g)] : LcL), L1OK Tryz.prog F x.2.2.1 x.2.2.2 := fun x hx => by simp only [List.mem_singleton] at hx; subst hx; exact h
theorem Tri.wk {H' : LH} {v v' : AV} (h : Tri Tryz.prog W f A H v H') (hw : Wk v v') : Tri Tryz.prog W f A H v' H' := by
 intro W0 F N w vargs hF hNB r ha; refine (h W0 F N w vargs hF hNB r ha).mono ?_; rintro e w' ⟨y, rfl, N', h1, h2, h3, h4⟩; exact ⟨y, rfl, N', h1, h2, h3, AA'.2 ⟨hw _ _ (AA'.1 h4).1, AQ'⟩⟩
theorem M4' {x : Value} (h : ∀ (W0 : World) (F : HP) (N : A7') (w : World) (vargs : Array Value), AK' W F -> NB N H -> Rep W0 N F (AN' H) w -> VRs N A vargs.toList -> Calls Tryz.prog f vargs w fun e w' => e = .returned x /\ Below w.heap.size w w') : Tri Tryz.prog W f A H (.v x) H := by
 intro W0 F N w vargs hF hNB r ha; refine (h W0 F N w vargs hF hNB r ha).mono ?_; rintro e w' ⟨rfl, hb⟩
 exact ⟨x, rfl, N, fun _ _ => rfl, hNB, r.below hb, AA'.2 ⟨VR_v.2 rfl, AQ'⟩⟩
theorem ER' {args : List Value} {x : Value} (h : ∀ w, Calls Tryz.prog f args.toArray w fun e w' => e = .returned x /\ Below w.heap.size w w') : Tri Tryz.prog W f (vmap args) [] (.v x) [] :=
 M4' fun W0 F N w vargs hF hNB r ha => by
  have : vargs = args.toArray := by
   have := ha.of_vmap; rw [<- this]
  subst this; exact h w
theorem UA' (W : World) : AK' W (HP.old W) := AK'.self W
section
variable {α : Type} {enc : α -> List Value} {k : Nat}
theorem KZ' (hk : ∀ x, (enc x).length = k) (g L : List α) (d : α) (i : Nat) (hi : i < L.length) : List.take k (List.drop (g.length * k + i * k) (rowV enc (g ++ L))) = vmap (enc (L.getD i d)) := by
 rw [<- Nat.add_mul, MC' hk _ d _ (by rw [List.length_append]; omega)]; simp [List.getD, List.getElem?_append_right]
end
abbrev a' : AV := AV.any
abbrev u' : AV := AV.undef
abbrev ut' : AV := AV.v (Value.tuple (Array.mk []))
abbrev i' (n : Nat) : AV := AV.v (Value.int IntKind.i64 (o' n))
abbrev z' (n : Int) : AV := AV.v (Value.int IntKind.i64 n)
abbrev s' (s : Δ) : AV := AV.v (Value.string s)
abbrev b' (b : Bool) : AV := AV.v (Value.bool b)
abbrev p' (q : Prop) : Cnd := Cnd.p q
abbrev t' : Cnd := Cnd.t
abbrev e' : AV := AV.v (Value.slice none 0 0)
abbrev g' : AV := AV.lit false
abbrev j' : AV := AV.lit true
abbrev f' (q : Prop) : Cnd := (Cnd.p q).a Cnd.t
abbrev ra4 (l : List AV) : List AV := a'::a'::a'::a'::l
abbrev ra8 (l : List AV) : List AV := a'::a'::a'::a'::a'::a'::a'::a'::l
abbrev ra16 (l : List AV) : List AV := a'::a'::a'::a'::a'::a'::a'::a'::a'::a'::a'::a'::a'::a'::a'::a'::l
abbrev ru4 (l : List AV) : List AV := u'::u'::u'::u'::l
abbrev ru8 (l : List AV) : List AV := u'::u'::u'::u'::u'::u'::u'::u'::l
abbrev ru16 (l : List AV) : List AV := u'::u'::u'::u'::u'::u'::u'::u'::u'::u'::u'::u'::u'::u'::u'::u'::l
theorem _root_.Go.Proofs.YtnnojnlejlokhaaGreatDoor.Ya {a : AV} : Wk a a := Wk.refl a
theorem _root_.Go.Proofs.YtnnojnlejlokhaaGreatDoor.Yb {a : List AV} : VW a a := VW.refl a
theorem _root_.Go.Proofs.YtnnojnlejlokhaaGreatDoor.Yc {a : AO} : OW a a := OW.refl a
theorem _root_.Go.Proofs.YtnnojnlejlokhaaGreatDoor.Yd {a : Nat} : a <= a := Nat.le_refl a
theorem _root_.Go.Proofs.YtnnojnlejlokhaaGreatDoor.Ye : True := trivial
theorem Z0 {n : Nat} : o' n = (n : Int) := rfl
theorem Z1 {α : Type _} [LT α] {a b : α} : a > b ↔ b < a := Iff.rfl
theorem Z2 {α : Type _} [LE α] {a b : α} : a >= b ↔ b <= a := Iff.rfl
instance : Std.Refl Wk := ⟨Wk.refl⟩
instance : Std.Refl VW := ⟨VW.refl⟩
instance : Std.Refl OW := ⟨OW.refl⟩
instance {α : Sort _} : Std.Refl (@Eq α) := ⟨fun _ => rfl⟩
theorem _root_.Go.Proofs.YtnnojnlejlokhaaGreatDoor.Yf {α : Sort _} {r : α -> α -> Prop} [h : Std.Refl r] {a : α} : r a a := h.refl a
theorem _root_.Go.Proofs.YtnnojnlejlokhaaGreatDoor.Yg {x : AV} (h : VW l m) : VW (x :: l) (x :: m) := VW.cons (Wk.refl _) h
theorem _root_.Go.Proofs.YtnnojnlejlokhaaGreatDoor.Yh {x : AV} (h : VW l m) : VW (x :: l) (.any :: m) := VW.cons (Wk.any _) h
theorem _root_.Go.Proofs.YtnnojnlejlokhaaGreatDoor.Yi {i a b s : Nat} {c : Cp} (h : VW l m) : VW (.slice i a b s c :: l) (.slice i a b s (.lo c.least) :: m) := VW.cons (W3' (Nat.le_refl _)) h
theorem _root_.Go.Proofs.YtnnojnlejlokhaaGreatDoor.Yj {α : Type} {Q : α -> List (Option AO) -> Nat -> Prop} {a b : VT α} (h : a = b) (x : VAll Q b) : VAll Q a := cast (congrArg (VAll Q) h.symm) x
theorem Kc0' (h : p := by first | (with_reducible assumption) | (with_reducible exact Ye) | (with_reducible exact rfl) | (with_reducible exact Ya) | (with_reducible exact Yb) | (with_reducible exact Yc) | exact A4' rfl | exact A4' (beq_self_eq_true _) | exact Ye | exact rfl | exact Ya | exact Yc | exact K.w1 _ | exact K.w2 _ | exact K.v | exact AX' rfl rfl | exact AX' (AB' _ _).symm rfl | ((repeat (first | exact VW.nil | refine VW.cons (Wk.any _) ?_ | refine VW.cons Ya ?_)); done)) : p := h
theorem Kc1' (h : p := by first | exact rfl | exact Ya | exact Yb | exact Yc | ((repeat (first | exact VW.nil | refine VW.cons (Wk.any _) ?_ | refine VW.cons Ya ?_)); done)) : p := h
theorem Kc2' (h : p := by first | (with_reducible exact Ye) | (with_reducible exact rfl) | (with_reducible exact Ya) | (with_reducible exact Yb) | (with_reducible exact Yc) | (with_reducible assumption) | (with_reducible exact B0' _) | (with_reducible exact A4' rfl) | (with_reducible exact A4' K.f1) | (with_reducible exact A4' K.f2) | (with_reducible exact IY' K.us) | (with_reducible exact IY' K.sz) | (with_reducible exact K.n1) | (with_reducible exact K.n2) | (with_reducible exact K.n3) | (with_reducible exact K.d1) | (with_reducible exact K.d2) | (with_reducible exact K.d3) | (with_reducible exact K.d4) | (with_reducible exact w3 _) | (with_reducible exact w4 _) | exact w3 _ | exact w4 _ | exact A4' rfl | exact AW' (Yd) | exact K.n3 | exact K.n4 | exact rfl | exact Ya | exact Yb | exact Yc | (refine OW.of_eq ?_; simp only [AO.ren, AD']; done) | ((repeat (first | exact VW.nil | refine VW.cons (Wk.any _) ?_ | refine VW.cons Ya ?_)); done)) : p := h
theorem Kc3' (h : p := by first | (with_reducible exact Ye) | (with_reducible exact rfl) | (with_reducible exact Ya) | (with_reducible exact Yb) | (with_reducible exact Yc) | (with_reducible exact B0' _) | (with_reducible assumption) | exact wk_b (T4' δ) | exact Kc1') : p := h
theorem Kc4' (h : p := by first | (with_reducible assumption) | (with_reducible exact Ye) | (with_reducible exact rfl) | (with_reducible exact Ya) | exact rfl | exact Ya) : p := h
theorem Kc5' (h : p := by first | (with_reducible assumption) | (with_reducible exact Ye) | (with_reducible exact rfl) | (with_reducible exact Ya) | (with_reducible exact Yc) | exact rfl | exact Ya | exact Yc | ((repeat (first | exact VW.nil | refine VW.cons (Wk.any _) ?_ | refine VW.cons Ya ?_)); done)) : p := h
theorem Kc6' (h : p := by first | (with_reducible exact Ye) | (with_reducible exact rfl) | (with_reducible exact Ya) | (with_reducible exact Yb) | (with_reducible exact Yc) | (with_reducible exact B0' _) | (with_reducible assumption) | (rw [a7]; rfl) | exact Kc1') : p := h
theorem Kc7' (h : p := by first | (with_reducible first | exact Ye | exact rfl | exact Ya | exact Yb | exact Yc | exact B0' _ | assumption) | exact Kc1') : p := h
theorem Kc8' (h : p := by first | (with_reducible exact Ye) | (with_reducible exact rfl) | (with_reducible exact Ya) | (with_reducible exact Yb) | (with_reducible exact Yc) | (with_reducible exact B0' _) | (with_reducible assumption) | (refine OW.of_eq ?_; simp only [AO.ren, AD']; done) | exact Kc1') : p := h
theorem Kc9' (h : p := by first | (with_reducible exact Ye) | (with_reducible exact rfl) | (with_reducible exact Ya) | (with_reducible exact Yb) | (with_reducible exact Yc) | (with_reducible exact B0' _) | (with_reducible assumption) | (rw [AD']; exact Yc) | exact hz | exact Kc1') : p := h
theorem Kc10' (h : p := by first | (with_reducible assumption) | (with_reducible exact Ye) | (with_reducible exact rfl) | (with_reducible exact Ya) | exact rfl | ((repeat (first | exact VW.nil | refine VW.cons (Wk.any _) ?_ | refine VW.cons Ya ?_)); done)) : p := h
theorem Kc11' (h : p := by first | exact Yc | ((repeat (first | exact VW.nil | refine VW.cons (Wk.any _) ?_ | refine VW.cons Ya ?_)); done)) : p := h
theorem Kc12' (h : p := by first | (with_reducible assumption) | (with_reducible exact Ye) | (with_reducible exact rfl) | (with_reducible exact Ya) | (with_reducible exact B0' _) | exact B0' _ | exact rfl | exact Ya) : p := h
theorem Kc13' (h : p := by first | (with_reducible assumption) | (with_reducible exact Ye) | (with_reducible exact rfl) | (with_reducible exact Ya) | (with_reducible exact B0' _) | exact rfl | exact Ya) : p := h
theorem Kc14' (h : p := by first | (with_reducible assumption) | (with_reducible exact Ya) | exact hw _ | exact fk_m _ _ _ | exact A4' rfl | exact rfl | exact Ya | exact Yb) : p := h
theorem Kc15' (h : p := by first | (with_reducible assumption) | (with_reducible exact Ye) | (with_reducible exact rfl) | exact rfl | exact B0' _ | exact Ya) : p := h
theorem Kc16' (h : p := by first | (with_reducible assumption) | (with_reducible exact Ya) | exact A4' rfl | exact rfl | exact Ya | exact Yb) : p := h
theorem Cc0' (h : p := by simp only [Cnd.holds, Nat.blt_eq, true_and, and_true, k1, k2, k3, k4]; and_intros; all_goals exact Kc3') : p := h
theorem Cc1' (h : p := by simp only [Cnd.holds, Nat.blt_eq, true_and, and_true]; and_intros; all_goals exact Kc7') : p := h
theorem Cc2' (h : p := by simp only [Cnd.holds, Nat.blt_eq, true_and, and_true]; and_intros; all_goals exact Kc8') : p := h
theorem Cc3' (h : p := by simp only [Cnd.holds, Nat.blt_eq, hall, c0, c1, c2, Option.getD_some, true_and, and_true]; and_intros; all_goals exact Kc12') : p := h
theorem Cc4' (h : p := by simp only [Cnd.holds, Nat.blt_eq, hall, c0, c1, c2, Option.getD_some, true_and, and_true]; and_intros; all_goals exact Kc13') : p := h
theorem Cc5' (h : p := by simp only [Cnd.holds, Nat.blt_eq, hall, c0, c1, c2, Option.getD_some, true_and, and_true]; and_intros; all_goals exact Kc4') : p := h
theorem Cc6' (h : p := by simp only [Cnd.holds, Nat.blt_eq, true_and, and_true]; and_intros; all_goals exact Kc10') : p := h
theorem Cc7' (h : p := by simp only [Cnd.holds, Nat.blt_eq, true_and, and_true]; and_intros; all_goals exact Kc2') : p := h
theorem Cc8' (h : p := by simp only [Cnd.holds, Nat.blt_eq, hg, true_and, and_true]; and_intros; all_goals exact Kc15') : p := h
theorem Cc9' (h : p := by simp only [Cnd.holds, Nat.blt_eq, true_and, and_true]; and_intros; all_goals exact Kc6') : p := h
theorem Cc10' (h : p := by simp only [Cnd.holds, Nat.blt_eq, true_and, and_true]; and_intros; all_goals exact Kc9') : p := h
theorem Cc11' (h : p := by simp only [Cnd.holds, Nat.blt_eq, hall, q0, q1, q2, Option.getD_some, true_and, and_true]; and_intros; all_goals exact Kc4') : p := h
theorem Cc12' (h : p := by simp only [Cnd.holds, Nat.blt_eq, hall, q0, q1, q2, Option.getD_some, true_and, and_true, hO, hP]; and_intros; all_goals exact Kc5') : p := h
theorem Cc13' (h : p := by simp only [Cnd.holds, Nat.blt_eq, Nat.zero_add, List.nil_append, true_and, and_true, b3, d3, OldP.tk, hpo]; and_intros; all_goals exact Kc0') : p := h
theorem Cc14' (h : p := by simp only [Cnd.holds, Nat.blt_eq, Nat.zero_add, List.nil_append, true_and, and_true, b3, hpo]; and_intros; all_goals exact Kc0') : p := h
theorem Cc15' (h : p := by simp only [Cnd.holds, Nat.blt_eq, Nat.zero_add, List.nil_append, true_and, and_true, d3, hpo]; and_intros; all_goals exact Kc0') : p := h
theorem Cc16' (h : p := by simp only [Cnd.holds, Nat.blt_eq, Nat.zero_add, List.nil_append, true_and, and_true, hpo]; and_intros; all_goals exact Kc0') : p := h
theorem Cc17' (h : p := by simp only [Cnd.holds, true_and, and_true]; and_intros; all_goals first | exact A4' rfl | exact Ya | exact Yb) : p := h
abbrev hf' (f : FuncId) (r o : Nat) := (f, r, o, hv (.lit false))
abbrev ht' (f : FuncId) (r o : Nat) := (f, r, o, hv (.lit true))
abbrev tt' : Cnd := Cnd.p (true = true)
abbrev wb' (b : Bool) (y : AV) : Cnd := (Cnd.p (Wk (AV.v (Value.bool b)) y)).a Cnd.t
end Go.Proofs.YtnnojnlejlokhaaGreatDoor.Kit
namespace Go.Proofs.YtnnojnlejlokhaaGreatDoor
open Go Eng Kit
abbrev Ω : AO := AO.any (HP.pure True)
abbrev ow' (x : AO) : Cnd := Cnd.p (OW x x)
abbrev vw' (x : List AV) : Cnd := Cnd.p (VW x x)
abbrev fe' {α : Type} (x : α) : Cnd := (Cnd.p (x = x)).a Cnd.t
abbrev ee' {α : Type} (x : α) : Cnd := (Cnd.p (true = true)).a ((Cnd.p (x = x)).a Cnd.t)
abbrev nb' (x : UInt8) (n : Nat) : Cnd := (Cnd.p (Wk (AV.v (Value.bool (↑x.toNat == Int.ofNat n))) (AV.lit false))).a Cnd.t
abbrev nt' (x : UInt8) (n : Nat) : Cnd := (Cnd.p (Wk (AV.v (Value.bool (↑x.toNat == Int.ofNat n))) (AV.lit true))).a Cnd.t
end Go.Proofs.YtnnojnlejlokhaaGreatDoor
namespace Go.Proofs.YtnnojnlejlokhaaGreatDoor
open Go Eng Kit
theorem χ {p : Prop} (h : p := by kernel_rfl) : p := h
end Go.Proofs.YtnnojnlejlokhaaGreatDoor
