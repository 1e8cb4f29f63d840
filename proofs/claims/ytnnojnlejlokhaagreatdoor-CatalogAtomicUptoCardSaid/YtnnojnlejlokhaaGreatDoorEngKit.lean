/- What runs over the program are told with: hints, loops, closings. -/
import Derived.Test.YtnnojnlejlokhaaGreatDoorEngCon
import Derived.Test.YtnnojnlejlokhaaGreatDoorEngRow
import Derived.Test.YtnnojnlejlokhaaGreatDoorEngIMap
import Derived.Test.YtnnojnlejlokhaaGreatDoorEngClosed
import Derived.Test.YtnnojnlejlokhaaGreatDoorProg
import Derived.KernelRfl
import Derived.IntWalk
noncomputable section
set_option linter.unusedVariables false
set_option linter.unusedSimpArgs false
set_option maxRecDepth 100000
namespace Go.Proofs.YtnnojnlejlokhaaGreatDoor.Kit
open Go Go.RowKit Eng
open Int renaming ofNat -> o'
variable {p : Prop} {f : FuncId} {F : HP} {W : World} {A l m : List AV} {H : LH}
abbrev GP' := List (FuncId × (List AV -> Option (AP AV)))
abbrev LcL := List (FuncId × Nat × Code × (List AV -> AP (AX × List AV)))
def iv (n : Int) : AV := .v (.int .i64 n)
def bv (b : Bool) : AV := .v (.bool b)
def sv (s : Δ) : AV := .v (.string s)
def slV (oa : Option Addr) (n c : Nat) : AV := .v (.slice oa n c)
def BA' : BI' := fun _ _ _ => none
def A6' : List (FuncId × Nat × Nat × Hint) -> BI'
 | [], _, _, _ => none
 | x :: l, f, r, o => match Nat.beq f x.1 && (Nat.beq r x.2.1 && Nat.beq o x.2.2.1) with
  | true => some x.2.2.2
  | false => A6' l f r o
def hv (v : AV) : Hint := ⟨some v, none, [], .no⟩
def ho (k : Nat) (o : AO) : Hint := ⟨none, none, [(k, o)], .no⟩
def hp (j : Nat) : Hint := ⟨none, some j, [], .no⟩
def h0 : Hint := ⟨none, none, [], .yes⟩
def h0v (v : AV) : Hint := ⟨some v, none, [], .yes⟩
def hf (y : Value) : Hint := ⟨none, none, [], .fact y⟩
def hw (o' : AO) : Hint := ⟨none, none, [], .wr o'⟩
def hn : Hint := ⟨none, none, [], .force⟩
def ht (s : Δ) : Hint := ⟨none, none, [], .txt s⟩
def envW (con : GP') (hints : BI') (lc : LcL) (W : World) (F : HP) : Env := envO Tryz.prog F (conL con) hints (Q0' lc) W
def wRun (con : GP') (hints : BI') (lc : LcL) (W : World) (f : FuncId) (A : List AV) (H : LH) (ks : List Nat) (F : HP) : VT AV := ((D3' Tryz.prog (envW con hints lc W F) 1000 f A).run2 (AK' H) 1100 []).view ks
def AW' (con : GP') (hints : BI') (lc : LcL) (W : World) (g : FuncId) (b : Code) (A : List AV) (H : LH) (ks idx : List Nat) (F : HP) : VT (AX × List AV × Nat) := (((CT' Tryz.prog (envW con hints lc W F) 1000 g b A).run2 (AK' H) 1100 []).view ks).map (aM' idx)
def J4' (r : Nat) : Code -> Option Code
 | .loop b => match CC' b with
  | some i => match Nat.beq i r with
   | true => some b
   | false => J4' r b
  | none => J4' r b
 | .seq a b => match J4' r a with | some c => some c | none => J4' r b
 | .cond _ a b => match J4' r a with | some c => some c | none => J4' r b
 | .block _ b | .scope b => J4' r b
 | _ => none
def A3' (f : FuncId) (r : Nat) : Code := ((Tryz.prog.funcs[f]?).bind fun fn => fn.body.bind (J4' r)).getD .skip
theorem XG' : Tryz.prog.follows .mixedOrders = true := by kernel_rfl
theorem AZ' : AH' default F := AH'.nothing F
theorem AF' {con : GP'} {hints : BI'} {lc : LcL} {H' : LH} {v : AV} (ks : List Nat) (hH : AA' 1100 H = true)
  (hcon : ∀ F, AH' W F -> ∀ x ∈ con, C1OK Tryz.prog F x.1 x.2) (hl : ∀ F, AH' W F -> ∀ x ∈ lc, L1OK Tryz.prog F x.2.2.1 x.2.2.2) (h : ∀ F, VAll (fun u os _ => Fits ks [u] os [v] H') (wRun con hints lc W f A H ks F)) : Tri Tryz.prog W f A H v H' :=
 tri_V ks 1000 XG' hH (fun F hF => MQ' rfl (hcon F hF)) (fun F hF => JO' rfl (hl F hF)) fun F _ => h F
theorem B6' {g : FuncId} {b : Code} {σ : Type} (m : Nat) (A : σ -> List (Nat × AV)) (H : σ -> LH) (ax : AX) (Z : List (Nat × AV)) (HZ : LH) (μ : σ -> Nat) (ks idx : List Nat) (hax : ax ≠ .normal) (hH : ∀ s, AA' 1100 (H s) = true) (hZ : AA' 1100 HZ = true)
  (hstep : ∀ s, ∃ (con : GP') (hints : BI') (lc : LcL), (∀ F, AH' W F -> ∀ x ∈ con, C1OK Tryz.prog F x.1 x.2) /\ (∀ F, AH' W F -> ∀ x ∈ lc, L1OK Tryz.prog F x.2.2.1 x.2.2.2) /\
   ∀ F, VAll (fun r os _ => r.2.2 = m /\ ((r.1 = .normal /\ ∃ s', μ s' < μ s /\ ∃ l, FitT ks idx r.2.1 os (A s') (H s') l) \/ (r.1 = ax /\ ∃ l, FitT ks idx r.2.1 os Z HZ l))) (AW' con hints lc W g b (tms 0 m (A s)) (H s) ks idx F)) (s : σ) :
  LTri Tryz.prog W b (tms 0 m (A s)) (H s) ax (tms 0 m Z) HZ := by
 have key := ltri_V (P := Tryz.prog) (W := W) (b := b) (g := g) (σ := σ) (con := fun s => conL (hstep s).choose) (claim := fun s => (hstep s).choose_spec.choose) (lcon := fun s => Q0' (hstep s).choose_spec.choose_spec.choose) m A H ax Z HZ μ ks idx 1000 XG' hax hH hZ
  (fun s F hF => MQ' rfl ((hstep s).choose_spec.choose_spec.choose_spec.1 F hF)) (fun s F hF => JO' rfl ((hstep s).choose_spec.choose_spec.choose_spec.2.1 F hF))
 exact key (fun s F _ => (hstep s).choose_spec.choose_spec.choose_spec.2.2 F) s
theorem B1' {i n : Nat} (h : i < n) : n - (i + 1) < n - i := ω
theorem B8' (k : Nat) (h : k < 9223372036854775807) : IntKind.i64.wrap (o' k + o' 1) = o' (k + 1) := by
 rw [IntWalk.i64_in _ (by simp only [Int.ofNat_eq_natCast]; omega)]; simp only [Int.ofNat_eq_natCast]; omega
theorem AT' (b : Bool) : Wk (.v (.bool b)) (.lit b) := fun N y hy => EF'.2 (VR_v.1 hy)
theorem A2' {b b' : Bool} (h : b = b') : Wk (.v (.bool b)) (.lit b') := by subst h; exact AT' b
theorem C6' {a b : Int} (h : a = b) : Wk (.v (.int .i64 a)) (.v (.int .i64 b)) := Wk.of_eq (by rw [h])
theorem noC : ∀ x ∈ ([] : GP'), C1OK Tryz.prog F x.1 x.2 := fun x hx => by cases hx
theorem noL : ∀ x ∈ ([] : LcL), L1OK Tryz.prog F x.2.2.1 x.2.2.2 := fun x hx => by cases hx
theorem BJ' {g : List AV -> Option (AP AV)} (h : C1OK Tryz.prog F f g) : ∀ x ∈ ([(f, g)] : GP'), C1OK Tryz.prog F x.1 x.2 := fun x hx => by simp only [List.mem_singleton] at hx; subst hx; exact h
theorem AC' {g : List AV -> Option (AP AV)} {l : GP'} (h : C1OK Tryz.prog F f g) (hl : ∀ x ∈ l, C1OK Tryz.prog F x.1 x.2) : ∀ x ∈ (f, g) :: l, C1OK Tryz.prog F x.1 x.2 := fun x hx => by
 rcases List.mem_cons.1 hx with rfl | hx
 ·exact h
 ·exact hl x hx
theorem C2' {r : Nat} {b : Code} {g : List AV -> AP (AX × List AV)} (h : L1OK Tryz.prog F b g) : ∀ x ∈ ([(f, r, b, g)] : LcL), L1OK Tryz.prog F x.2.2.1 x.2.2.2 := fun x hx => by simp only [List.mem_singleton] at hx; subst hx; exact h
theorem Tri.wk {H' : LH} {v v' : AV} (h : Tri Tryz.prog W f A H v H') (hw : Wk v v') : Tri Tryz.prog W f A H v' H' := by
 intro W0 F N w vargs hF hNB r ha; refine (h W0 F N w vargs hF hNB r ha).mono ?_; rintro e w' ⟨y, rfl, N', h1, h2, h3, h4⟩; exact ⟨y, rfl, N', h1, h2, h3, AD'.2 ⟨hw _ _ (AD'.1 h4).1, AX'⟩⟩
theorem NH' {x : Value} (h : ∀ (W0 : World) (F : HP) (N : A9') (w : World) (vargs : Array Value), AH' W F -> NB N H -> Rep W0 N F (AK' H) w -> VRs N A vargs.toList -> Calls Tryz.prog f vargs w fun e w' => e = .returned x /\ Below w.heap.size w w') : Tri Tryz.prog W f A H (.v x) H := by
 intro W0 F N w vargs hF hNB r ha; refine (h W0 F N w vargs hF hNB r ha).mono ?_; rintro e w' ⟨rfl, hb⟩
 exact ⟨x, rfl, N, fun _ _ => rfl, hNB, r.below hb, AD'.2 ⟨VR_v.2 rfl, AX'⟩⟩
theorem DE' {args : List Value} {x : Value} (h : ∀ w, Calls Tryz.prog f args.toArray w fun e w' => e = .returned x /\ Below w.heap.size w w') : Tri Tryz.prog W f (vmap args) [] (.v x) [] :=
 NH' fun W0 F N w vargs hF hNB r ha => by
  have : vargs = args.toArray := by
   have := ha.of_vmap; rw [<- this]
  subst this; exact h w
theorem WM' (W : World) : AH' W (HP.old W) := AH'.self W
section
variable {α : Type} {enc : α -> List Value} {k : Nat}
theorem M7' (hk : ∀ x, (enc x).length = k) (g L : List α) (d : α) (i : Nat) (hi : i < L.length) : List.take k (List.drop (g.length * k + i * k) (rowV enc (g ++ L))) = vmap (enc (L.getD i d)) := by
 rw [<- Nat.add_mul, K4' hk _ d _ (by rw [List.length_append]; omega)]; simp [List.getD, List.getElem?_append_right]
end
abbrev a' : AV := AV.any
abbrev u' : AV := AV.undef
abbrev ut' : AV := AV.v (Value.tuple (Array.mk []))
abbrev i' (n : Nat) : AV := AV.v (Value.int IntKind.i64 (o' n))
abbrev z' (n : Int) : AV := AV.v (Value.int IntKind.i64 n)
abbrev s' (s : Δ) : AV := AV.v (Value.string s)
abbrev b' (b : Bool) : AV := AV.v (Value.bool b)
abbrev p' (q : Prop) : Cnd := Cnd.p q
abbrev t' : Cnd := Cnd.t
abbrev e' : AV := AV.v (Value.slice none 0 0)
abbrev g' : AV := AV.lit false
abbrev j' : AV := AV.lit true
abbrev f' (q : Prop) : Cnd := (Cnd.p q).a Cnd.t
abbrev ra4 (l : List AV) : List AV := a'::a'::a'::a'::l
abbrev ra8 (l : List AV) : List AV := a'::a'::a'::a'::a'::a'::a'::a'::l
abbrev ra16 (l : List AV) : List AV := a'::a'::a'::a'::a'::a'::a'::a'::a'::a'::a'::a'::a'::a'::a'::a'::l
abbrev ru4 (l : List AV) : List AV := u'::u'::u'::u'::l
abbrev ru8 (l : List AV) : List AV := u'::u'::u'::u'::u'::u'::u'::u'::l
abbrev ru16 (l : List AV) : List AV := u'::u'::u'::u'::u'::u'::u'::u'::u'::u'::u'::u'::u'::u'::u'::u'::l
theorem _root_.Go.Proofs.YtnnojnlejlokhaaGreatDoor.Ya {a : AV} : Wk a a := Wk.refl a
theorem _root_.Go.Proofs.YtnnojnlejlokhaaGreatDoor.Yb {a : List AV} : VW a a := VW.refl a
theorem _root_.Go.Proofs.YtnnojnlejlokhaaGreatDoor.Yc {a : AO} : OW a a := OW.refl a
theorem _root_.Go.Proofs.YtnnojnlejlokhaaGreatDoor.Yd {a : Nat} : a <= a := Nat.le_refl a
theorem _root_.Go.Proofs.YtnnojnlejlokhaaGreatDoor.Ye : True := trivial
theorem Z0 {n : Nat} : o' n = (n : Int) := rfl
theorem Z1 {α : Type _} [LT α] {a b : α} : a > b ↔ b < a := Iff.rfl
theorem Z2 {α : Type _} [LE α] {a b : α} : a >= b ↔ b <= a := Iff.rfl
instance : Std.Refl Wk := ⟨Wk.refl⟩
instance : Std.Refl VW := ⟨VW.refl⟩
instance : Std.Refl OW := ⟨OW.refl⟩
instance {α : Sort _} : Std.Refl (@Eq α) := ⟨fun _ => rfl⟩
theorem _root_.Go.Proofs.YtnnojnlejlokhaaGreatDoor.Yf {α : Sort _} {r : α -> α -> Prop} [h : Std.Refl r] {a : α} : r a a := h.refl a
theorem _root_.Go.Proofs.YtnnojnlejlokhaaGreatDoor.Yg {x : AV} (h : VW l m) : VW (x :: l) (x :: m) := VW.cons (Wk.refl _) h
theorem _root_.Go.Proofs.YtnnojnlejlokhaaGreatDoor.Yh {x : AV} (h : VW l m) : VW (x :: l) (.any :: m) := VW.cons (Wk.any _) h
theorem _root_.Go.Proofs.YtnnojnlejlokhaaGreatDoor.Yi {i a b s : Nat} {c : Cp} (h : VW l m) : VW (.slice i a b s c :: l) (.slice i a b s (.lo c.least) :: m) := VW.cons (YH' (Nat.le_refl _)) h
theorem _root_.Go.Proofs.YtnnojnlejlokhaaGreatDoor.Yj {α : Type} {Q : α -> List (Option AO) -> Nat -> Prop} {a b : VT α} (h : a = b) (x : VAll Q b) : VAll Q a := cast (congrArg (VAll Q) h.symm) x
theorem Kc0' (h : p := by first | exact Yc | ((repeat (first | exact VW.nil | refine VW.cons (Wk.any _) ?_ | refine VW.cons Ya ?_)); done)) : p := h
theorem Kc1' (h : p := by first | (with_reducible exact Ye) | (with_reducible exact rfl) | (with_reducible exact Ya) | (with_reducible exact Yb) | (with_reducible exact Yc) | (with_reducible exact AT' _) | (with_reducible assumption) | (with_reducible exact A2' rfl) | exact A2' rfl | exact hc | exact Nat.zero_le _ | exact hle | (with_reducible exact BG' ew) | exact BG' ew | (with_reducible exact wk_v ev) | exact wk_v ev | exact A2' ene | exact rfl | exact Ya | exact Yb | exact Kc0') : p := h
theorem Kc2' (h : p := by first | exact Yc | (refine OW.of_eq ?_; simp only [AO.ren, A5']; done) | (refine OW.of_eq ?_; simp only [AO.ren, AS']; done) | ((repeat (first | exact VW.nil | refine VW.cons (Wk.any _) ?_ | refine VW.cons Ya ?_)); done)) : p := h
theorem Kc3' (h : p := by first | (with_reducible exact Ye) | (with_reducible exact rfl) | (with_reducible exact Ya) | (with_reducible exact Yb) | (with_reducible exact Yc) | (with_reducible assumption) | (with_reducible exact AT' _) | (with_reducible exact A2' rfl) | (with_reducible exact A2' K.f1) | (with_reducible exact A2' K.f2) | (with_reducible exact BG' K.us) | (with_reducible exact BG' K.sz) | (with_reducible exact K.n1) | (with_reducible exact K.n2) | (with_reducible exact K.n3) | (with_reducible exact K.d1) | (with_reducible exact K.d2) | (with_reducible exact K.d3) | (with_reducible exact K.d4) | (with_reducible exact w3 _) | (with_reducible exact w4 _) | exact w3 _ | exact w4 _ | exact A2' rfl | exact AL' (Yd) | exact K.n3 | exact K.n4 | exact rfl | exact Ya | exact Yb | exact Yc | (refine OW.of_eq ?_; simp only [AO.ren, A5']; done) | ((repeat (first | exact VW.nil | refine VW.cons (Wk.any _) ?_ | refine VW.cons Ya ?_)); done)) : p := h
theorem Kc4' (h : p := by first | exact rfl | exact Ya | exact Yb | exact Kc0') : p := h
theorem Kc5' (h : p := by first | (with_reducible exact Ye) | (with_reducible exact rfl) | (with_reducible exact Ya) | (with_reducible exact Yb) | (with_reducible exact Yc) | (with_reducible exact AT' _) | (with_reducible assumption) | (with_reducible exact A2' e8) | (with_reducible exact A2' em) | (with_reducible exact A2' el) | (with_reducible exact A2' es) | (with_reducible exact BG' e9) | exact A2' rfl | exact hb | exact .inl rfl | exact .inr rfl | exact .inl trivial | exact .inr trivial | (refine OW.of_eq ?_; simp only [AO.ren, A5']; done) | exact BG' e9 | (with_reducible exact p1.1) | (with_reducible exact p2.1) | exact p1.1 | exact p2.1 | exact Nat.zero_le _ | (with_reducible exact wk_v (LV' _ _)) | exact wk_v (LV' _ _) | (show 8 + val (l.take 4) <= c; omega) | (show 4 <= c; omega) | omega | exact Kc4') : p := h
theorem Kc6' (h : p := by first | (with_reducible assumption) | (with_reducible exact Ye) | (with_reducible exact rfl) | (with_reducible exact Ya) | (with_reducible exact Yb) | (with_reducible exact Yc) | exact A2' rfl | exact A2' (by simp) | exact h1 | exact rfl | exact Ya | exact Kc0') : p := h
theorem Kc7' (h : p := by first | (with_reducible exact Ye) | (with_reducible exact rfl) | (with_reducible exact Ya) | (with_reducible exact Yb) | (with_reducible exact Yc) | (with_reducible exact AT' _) | (with_reducible assumption) | exact wk_b (VD' δ) | exact Kc4') : p := h
theorem Kc8' (h : p := by first | (with_reducible assumption) | (with_reducible exact Ye) | (with_reducible exact rfl) | (with_reducible exact Ya) | (with_reducible exact Yb) | (with_reducible exact Yc) | exact A2' rfl | exact rfl | exact Ye | exact Ya | exact Yb | exact Kc0') : p := h
theorem Kc9' (h : p := by first | (with_reducible exact Ye) | (with_reducible exact rfl) | (with_reducible exact Ya) | (with_reducible exact Yb) | (with_reducible exact Yc) | (with_reducible exact AT' _) | (with_reducible assumption) | (with_reducible exact A2' e8) | (with_reducible exact A2' em) | (with_reducible exact A2' el) | (with_reducible exact A2' es) | (with_reducible exact BG' e9) | exact A2' rfl | exact hb | exact .inl rfl | exact .inr rfl | exact .inl trivial | exact .inr trivial | (refine OW.of_eq ?_; simp only [AO.ren, A5']; done) | exact BG' e9 | (with_reducible exact p1.1) | (with_reducible exact p2.1) | exact p1.1 | exact p2.1 | exact Nat.zero_le _ | exact Kc4') : p := h
theorem Kc10' (h : p := by first | (with_reducible exact Ye) | (with_reducible exact rfl) | (with_reducible exact Ya) | exact rfl | exact Ya) : p := h
theorem Kc11' (h : p := by first | (with_reducible exact Ye) | (with_reducible exact rfl) | (with_reducible exact Ya) | (with_reducible exact Yb) | (with_reducible exact Yc) | (with_reducible exact AT' _) | (with_reducible assumption) | (rw [a7]; rfl) | exact Kc4') : p := h
theorem Kc12' (h : p := by first | (refine OW.of_eq ?_; simp only [AO.ren, A5']; done) | ((repeat (first | exact VW.nil | refine VW.cons (Wk.any _) ?_ | refine VW.cons Ya ?_)); done)) : p := h
theorem Kc13' (h : p := by first | (with_reducible assumption) | (with_reducible exact Ya) | exact hw _ | exact fk_m _ _ _ | exact A2' rfl | exact rfl | exact Ya | exact Yb) : p := h
theorem Kc14' (h : p := by first | exact rfl | ((repeat (first | exact VW.nil | refine VW.cons (Wk.any _) ?_ | refine VW.cons Ya ?_)); done)) : p := h
theorem Kc15' (h : p := by first | (with_reducible assumption) | (with_reducible exact Ye) | (with_reducible exact rfl) | (with_reducible exact Ya) | (with_reducible exact Yb) | (with_reducible exact Yc) | exact p1.1 | exact p1.2.1 | exact p1.2.2 | exact p2.1 | exact p2.2.1 | exact p2.2.2.1 | exact p2.2.2.2 | exact p3.1 | exact p3.2.1 | exact p3.2.2.1 | exact p3.2.2.2 | exact A2' rfl | exact rfl | exact Yc) : p := h
theorem Kc16' (h : p := by first | (with_reducible assumption) | (with_reducible exact Ye) | (with_reducible exact rfl) | (with_reducible exact Ya) | (with_reducible exact Yb) | (with_reducible exact Yc) | exact A2' rfl | exact rfl | exact Ya | exact Yb | exact Yc | exact VI' | ((repeat (first | exact VW.nil | refine VW.cons (Wk.any _) ?_ | refine VW.cons Ya ?_)); done)) : p := h
theorem Kc17' (h : p := by first | (with_reducible first | exact Ye | exact rfl | exact Ya | exact Yb | exact Yc | exact AT' _ | assumption) | exact Kc4') : p := h
theorem Kc18' (h : p := by first | (with_reducible exact o4 _) | exact o4 _ | (with_reducible exact SJ' _) | exact SJ' _ | exact M2' _ | exact A2' rfl | exact AT' _ | exact rfl | exact Ya | exact Kc2') : p := h
theorem Kc19' (h : p := by first | (with_reducible exact Ye) | (with_reducible exact rfl) | (with_reducible exact Ya) | (with_reducible exact Yb) | (with_reducible exact Yc) | exact rfl | exact Kc0') : p := h
theorem Kc20' (h : p := by first | (with_reducible exact Ye) | (with_reducible exact rfl) | (with_reducible exact Ya) | (with_reducible exact Yb) | (with_reducible exact Yc) | (with_reducible exact AT' _) | (with_reducible assumption) | (refine OW.of_eq ?_; simp only [AO.ren, A5']; done) | exact Kc4') : p := h
theorem Kc21' (h : p := by first | (with_reducible exact Ye) | (with_reducible exact rfl) | (with_reducible exact Ya) | (with_reducible exact Yb) | (with_reducible exact Yc) | (with_reducible exact AT' _) | (with_reducible assumption) | (rw [A5']; exact Yc) | exact hz | exact Kc4') : p := h
theorem Kc22' (h : p := by first | (with_reducible assumption) | (with_reducible exact Ye) | (with_reducible exact rfl) | (with_reducible exact Ya) | (with_reducible exact AT' _) | exact AT' _ | exact rfl | exact Ya) : p := h
theorem Kc23' (h : p := by first | (with_reducible assumption) | (with_reducible exact Ye) | (with_reducible exact rfl) | (with_reducible exact Ya) | (with_reducible exact AT' _) | exact rfl | exact Ya) : p := h
theorem Kc24' (h : p := by first | (with_reducible exact Ye) | (with_reducible exact rfl) | (with_reducible exact Ya) | (with_reducible exact Yb) | (with_reducible exact Yc) | exact rfl | exact Kc2') : p := h
theorem Kc25' (h : p := by first | (with_reducible exact Ye) | (with_reducible exact rfl) | (with_reducible exact BG' e2) | (with_reducible exact A2' e1) | exact rfl) : p := h
theorem Kc26' (h : p := by first | (with_reducible assumption) | (with_reducible exact Ye) | (with_reducible exact rfl) | (with_reducible exact Ya) | exact Kc14') : p := h
theorem Kc27' (h : p := by first | (with_reducible assumption) | (with_reducible exact Ye) | (with_reducible exact rfl) | exact rfl | exact AT' _ | exact Ya) : p := h
theorem Kc28' (h : p := by first | (with_reducible exact C6' hw) | (with_reducible exact A2' e1) | (with_reducible exact BG' (or_eq hv2)) | exact Kc10') : p := h
theorem Kc29' (h : p := by first | exact rfl | (refine OW.of_eq ?_; simp only [AO.ren, A5']; done)) : p := h
theorem Kc30' (h : p := by first | (with_reducible assumption) | (with_reducible exact Ya) | exact A2' rfl | exact rfl | exact Ya | exact Yb) : p := h
theorem Kc31' (h : p := by first | exact A2' rfl | exact rfl | exact Ya | exact Yb | exact Yc) : p := h
theorem Kc32' (h : p := by first | (with_reducible assumption) | exact Kc10') : p := h
theorem Cc0' (h : p := by simp only [Cnd.holds, Nat.blt_eq, true_and, and_true, k1, k2, k3, k4]; and_intros; all_goals exact Kc7') : p := h
theorem Cc1' (h : p := by simp only [Cnd.holds, Nat.blt_eq, true_and, and_true]; and_intros; all_goals exact Kc17') : p := h
theorem Cc2' (h : p := by simp only [Cnd.holds, Nat.blt_eq, true_and, and_true]; and_intros; all_goals exact Kc20') : p := h
theorem Cc3' (h : p := by simp only [Cnd.holds, Nat.blt_eq, true_and, and_true, e1, h1, g1, g3]; and_intros; all_goals exact Kc28') : p := h
theorem Cc4' (h : p := by simp only [Cnd.holds, Nat.blt_eq, true_and, and_true]; and_intros; all_goals exact Kc9') : p := h
theorem Cc5' (h : p := by simp only [Cnd.holds, Nat.blt_eq, true_and, and_true]; and_intros; all_goals exact Kc5') : p := h
theorem Cc6' (h : p := by simp only [Cnd.holds, Nat.blt_eq, true_and, and_true, ene]; and_intros; all_goals exact Kc1') : p := h
theorem Cc7' (h : p := by simp only [Cnd.holds, Nat.blt_eq, true_and, and_true]; and_intros; all_goals exact Kc1') : p := h
theorem Cc8' (h : p := by simp only [Cnd.holds, Nat.blt_eq, true_and, and_true, k1, k2, k3, k4]; and_intros; all_goals exact Kc1') : p := h
theorem Cc9' (h : p := by simp only [Cnd.holds, Nat.blt_eq, true_and, and_true]; and_intros; all_goals exact Kc3') : p := h
theorem Cc10' (h : p := by simp only [Cnd.holds, Nat.blt_eq, hall, c0, c1, c2, Option.getD_some, true_and, and_true]; and_intros; all_goals exact Kc22') : p := h
theorem Cc11' (h : p := by simp only [Cnd.holds, Nat.blt_eq, hall, c0, c1, c2, Option.getD_some, true_and, and_true]; and_intros; all_goals exact Kc23') : p := h
theorem Cc12' (h : p := by simp only [Cnd.holds, Nat.blt_eq, hall, c0, c1, c2, Option.getD_some, true_and, and_true]; and_intros; all_goals exact Kc32') : p := h
theorem Cc13' (h : p := by simp only [Cnd.holds, Nat.blt_eq, hg, true_and, and_true]; and_intros; all_goals exact Kc27') : p := h
theorem Cc14' (h : p := by simp only [Cnd.holds, Nat.blt_eq, true_and, and_true]; and_intros; all_goals exact Kc11') : p := h
theorem Cc15' (h : p := by simp only [Cnd.holds, Nat.blt_eq, true_and, and_true]; and_intros; all_goals exact Kc21') : p := h
theorem Cc16' (h : p := by simp only [Cnd.holds, Nat.blt_eq, true_and, and_true]; and_intros; all_goals exact Kc26') : p := h
theorem Cc17' (h : p := by simp only [Cnd.holds, hg0, hl0, hlt, true_and, and_true]; and_intros; all_goals exact Kc13') : p := h
theorem Cc18' (h : p := by simp only [Cnd.holds, hg, hl, hlt, k1, k2, k3, k4, true_and, and_true]; and_intros; all_goals exact Kc13') : p := h
theorem Cc19' (h : p := by simp only [Cnd.holds, Nat.blt_eq, hall, q0, q1, q2, Option.getD_some, true_and, and_true]; and_intros; all_goals exact Kc32') : p := h
theorem Cc20' (h : p := by simp only [Cnd.holds, Nat.blt_eq, hall, q0, q1, q2, Option.getD_some, true_and, and_true, hD, hF, hp, BQ', hxn, hxm, JM']; and_intros; all_goals exact Kc6') : p := h
theorem Cc21' (h : p := by simp only [Cnd.holds, Nat.blt_eq, true_and, and_true, BQ', A5', hG]; and_intros; all_goals exact Kc8') : p := h
abbrev hf' (f : FuncId) (r o : Nat) := (f, r, o, hv (.lit false))
abbrev ht' (f : FuncId) (r o : Nat) := (f, r, o, hv (.lit true))
abbrev tt' : Cnd := Cnd.p (true = true)
abbrev wb' (b : Bool) (y : AV) : Cnd := (Cnd.p (Wk (AV.v (Value.bool b)) y)).a Cnd.t
end Go.Proofs.YtnnojnlejlokhaaGreatDoor.Kit
namespace Go.Proofs.YtnnojnlejlokhaaGreatDoor
open Go Eng Kit
abbrev Ω : AO := AO.any (HP.pure True)
abbrev ow' (x : AO) : Cnd := Cnd.p (OW x x)
abbrev vw' (x : List AV) : Cnd := Cnd.p (VW x x)
abbrev fe' {α : Type} (x : α) : Cnd := (Cnd.p (x = x)).a Cnd.t
abbrev ee' {α : Type} (x : α) : Cnd := (Cnd.p (true = true)).a ((Cnd.p (x = x)).a Cnd.t)
abbrev nb' (x : UInt8) (n : Nat) : Cnd := (Cnd.p (Wk (AV.v (Value.bool (↑x.toNat == Int.ofNat n))) (AV.lit false))).a Cnd.t
abbrev nt' (x : UInt8) (n : Nat) : Cnd := (Cnd.p (Wk (AV.v (Value.bool (↑x.toNat == Int.ofNat n))) (AV.lit true))).a Cnd.t
end Go.Proofs.YtnnojnlejlokhaaGreatDoor
namespace Go.Proofs.YtnnojnlejlokhaaGreatDoor
open Go Eng Kit
theorem χ {p : Prop} (h : p := by kernel_rfl) : p := h
end Go.Proofs.YtnnojnlejlokhaaGreatDoor
