/- slices.Sorted(maps.Keys(m)) in the engine. No program. -/
import Derived.Test.YtnnojnlejlokhaaGreatDoorEngCode2
import Derived.Sort.KeysCollected
import Derived.Lib.SlKeysI
import Derived.Maps.Own
set_option linter.unusedVariables false
set_option linter.unusedSimpArgs false
namespace Go.Proofs.YtnnojnlejlokhaaGreatDoor.Eng
open Go Go.RowKit Go.Maps Go.MapKept
open Go.WideElems (Fit rd rg)
open Nat renaming le_of_ble_eq_true -> ble'
variable {e : TypeId} {a : AV}
section
variable {α : Type} {le : α -> α -> Bool}
theorem KK' (x : α) : ∀ l, (insS le x l).Perm (x :: l)
 | [] => .refl _
 | y :: l => by
  unfold insS; split
  ·exact .refl _
  ·exact ((KK' x l).cons y).trans (.swap x y l)
theorem E1' : ∀ l : List α, (HO' le l).Perm l
 | [] => .refl _
 | x :: l => (KK' x _).trans ((E1' l).cons x)
theorem KJ' (tr : ∀ a b c, le a b = true -> le b c = true -> le a c = true) (to : ∀ a b, (le a b || le b a) = true) (x : α) : ∀ l : List α, l.Pairwise (fun a b => le a b = true) -> (insS le x l).Pairwise (fun a b => le a b = true)
 | [], _ => by simp [insS]
 | y :: l, h => by
  unfold insS; rw [List.pairwise_cons] at h; split
  ·rename_i hxy; rw [List.pairwise_cons]
   refine ⟨fun z hz => ?_, List.pairwise_cons.2 h⟩
   rcases List.mem_cons.1 hz with rfl | hz
   ·exact hxy
   ·exact tr _ _ _ hxy (h.1 z hz)
  ·rename_i hxy
   have hyx : le y x = true := by
    have := to x y; rw [Bool.or_eq_true] at this
    rcases this with h | h
    ·rw [hxy] at h; cases h
    ·exact h
   rw [List.pairwise_cons]
   refine ⟨fun z hz => ?_, KJ' tr to x l h.2⟩
   have := (KK' (le := le) x l).mem_iff.1 hz
   rcases List.mem_cons.1 this with rfl | hz
   ·exact hyx
   ·exact h.1 z hz
theorem DN' (tr : ∀ a b c, le a b = true -> le b c = true -> le a c = true) (to : ∀ a b, (le a b || le b a) = true) : ∀ l : List α, (HO' le l).Pairwise (fun a b => le a b = true)
 | [] => by simp [HO']
 | x :: l => KJ' tr to x _ (DN' tr to l)
theorem EM' {eq : α -> α -> Bool} (hr : ∀ a, eq a a = true) : ∀ l : List α, SK' eq l = true -> l.Nodup
 | [], _ => List.nodup_nil
 | x :: l, h => by
  unfold SK' at h; rw [Bool.and_eq_true] at h
  refine List.nodup_cons.2 ⟨fun hx => ?_, EM' hr l h.2⟩
  have := List.all_eq_true.1 h.1 x hx; rw [hr x] at this; cases this
end
theorem RJ' : ∀ a b : Γ, leS a b = decide (a <= b)
 | [], b => by simp [leS]
 | _ :: _, [] => by simp [leS]
 | x :: a, y :: b => by
  have ih := RJ' a b; rw [Bool.eq_iff_iff]; simp only [decide_eq_true_eq, List.cons_le_cons_iff]; unfold leS
  cases h1 : Nat.blt x.toNat y.toNat with
  | true =>
   have : x.toNat < y.toNat := by simpa [Nat.blt_eq] using h1
   simp only [true_iff]; exact .inl (UInt8.lt_iff_toNat_lt.2 this)
  | false =>
   have h1' : ¬ x.toNat < y.toNat := fun hh => by rw [show Nat.blt x.toNat y.toNat = true from by simpa [Nat.blt_eq] using hh] at h1; cases h1
   cases h2 : Nat.beq x.toNat y.toNat with
   | true =>
    have hxy : x = y := UInt8.toNat_inj.1 (Nat.eq_of_beq_eq_true h2); subst hxy; simp [ih, UInt8.lt_irrefl]
   | false =>
    have h2' : x ≠ y := fun e => by rw [e, Nat.beq_refl] at h2; cases h2
    simp only [Bool.false_eq_true, false_iff]; rintro (h | ⟨h, _⟩)
    ·exact h1' (UInt8.lt_iff_toNat_lt.1 h)
    ·exact h2' h
theorem XJ' (a : Γ) : leS a a = true := by rw [RJ']; simp
theorem Z3' (a b : Int) : leZ a b = decide (a <= b) := rfl
theorem XI' (a : Int) : leZ a a = true := by rw [Z3']; simp
def DT' (P : Program) (fS g : FuncId) (e : TypeId) : Prop :=
 ∀ (Bm b nn : Nat) (D0 : DataW Unit) (R : Value -> Option (DataW Unit × List MemPlace)) (w : World), Bm < w.heap.size -> w.cell? ⟨Bm, 0, none⟩ = some (.map (some b)) -> w.ownsMap P e R b nn D0 -> Maps.size D0 <= maxLen -> Maps.size D0 * 16 <= 140737488355328 ->
  Calls P fS #[.func (.func g) #[] #[.pointer (some ⟨Bm, 0, none⟩)]] w fun en w' => ∃ (v : Value) (ss : List Γ), en = .returned v /\ ss.Perm (strKeys D0) /\
   w'.ownsRow w.heap.size e 1 v ss.length ((ss.mergeSort (fun x y => decide (x <= y))).map encStr) /\ (v = .slice none 0 0 ↔ ss = []) /\ Below w.heap.size w w'
def S9' (P : Program) (fS g : FuncId) (e : TypeId) : Prop :=
 ∀ (Bm b nn : Nat) (D0 : DataW Unit) (R : Value -> Option (DataW Unit × List MemPlace)) (w : World), Bm < w.heap.size -> w.cell? ⟨Bm, 0, none⟩ = some (.map (some b)) -> w.ownsMap P e R b nn D0 -> Maps.size D0 <= maxLen -> Maps.size D0 * 8 <= 140737488355328 ->
  Calls P fS #[.func (.func g) #[] #[.pointer (some ⟨Bm, 0, none⟩)]] w fun en w' => ∃ (v : Value) (ss : List Int), en = .returned v /\ ss.Perm (intKeys D0) /\
   w'.ownsRow w.heap.size e 1 v ss.length ((ss.mergeSort (fun x y => decide (x <= y))).map encZ) /\ (v = .slice none 0 0 ↔ ss = []) /\ Below w.heap.size w w'
section
variable {P : Program} {E : Env} {W0 w : World} {N : A9'} {F : HP} {st : Bool} {h h' : T} {n n' : Nat} {lg lg' : Log} {c : Cnd}
theorem DX' : ∀ {es : List (AV × AV × Nat)} {ks : List Γ} {es' : List MapEntry}, GE' es = some ks -> ERs N es es' -> es'.map (·.key) = ks.map encStr
 | [], ks, es', h, he => by
  simp only [GE', Option.some.injEq] at h; subst h; simp only [ERs] at he; subst he; rfl
 | (a, x, b) :: es, ks, es', h, he => by
  obtain ⟨e, r, h1, h2, rfl⟩ := he; unfold GE' at h; split at h
  ·rename_i hh; cases hh
  ·rename_i s _ _ l hh; cases hh; split at h
   ·rename_i q hq; cases h; have hk : e.key = .string s := VR_v.1 h1.1; rw [List.map_cons, List.map_cons, DX' hq h2, hk]
   ·cases h
  ·cases h
theorem GT' : ∀ {es : List (AV × AV × Nat)} {ks : List Int} {es' : List MapEntry}, I1' es = some ks -> ERs N es es' -> es'.map (·.key) = ks.map encZ
 | [], ks, es', h, he => by
  simp only [I1', Option.some.injEq] at h; subst h; simp only [ERs] at he; subst he; rfl
 | (a, x, b) :: es, ks, es', h, he => by
  obtain ⟨e, r, h1, h2, rfl⟩ := he; unfold I1' at h; split at h
  ·rename_i hh; cases hh
  ·rename_i s _ _ l hh; cases hh; split at h
   ·rename_i q hq; cases h; have hk : e.key = .int .i64 s := VR_v.1 h1.1; rw [List.map_cons, List.map_cons, GT' hq h2, hk]
   ·cases h
  ·cases h
theorem ERs.borns : ∀ {es : List (AV × AV × Nat)} {es' : List MapEntry}, ERs N es es' -> es'.map (·.born) = es.map (·.2.2)
 | [], es', he => by simp only [ERs] at he; subst he; rfl
 | (a, x, b) :: es, es', ⟨e, r, h1, h2, h3⟩ => by subst h3; rw [List.map_cons, List.map_cons, ERs.borns h2, h1.2.2]
theorem LJ' {es : List (AV × AV × Nat)} {es' : Array MapEntry} {clock : Nat} {β : Type} {enc : β -> Value} {ks : List β} (hE : ERs N es es'.toList) (hs : JL' es clock = true) (hk : es'.toList.map (·.key) = ks.map enc) (hi : ∀ x y, enc x = enc y -> x = y) (hnd : ks.Nodup) : Stamped es' clock := by
 unfold JL' at hs; rw [Bool.and_eq_true] at hs; have hb := hE.borns
 refine ⟨fun x hx => ?_, ?_, ?_⟩
 ·have : x.born ∈ es.map (·.2.2) := by rw [<- hb]; exact List.mem_map_of_mem hx
  obtain ⟨e, he, hq⟩ := List.mem_map.1 this; have := List.all_eq_true.1 hs.1 e he
  have h2 : e.2.2 < clock := by simpa [Nat.blt_eq] using this
  omega
 ·rw [hb]; exact EM' (fun a => Nat.beq_refl a) _ hs.2
 ·rw [hk]; exact List.pairwise_map.2 (hnd.imp fun {a b} hne e => hne (hi _ _ e))
theorem K6' (r : Rep W0 N F h w) {w' : World} (hb : Below w.heap.size w w') {l : List AV} {xs : List Value} {v : Value} (hfr : BW' N n n') (hl : ∀ N', VRs N' l xs) (hown : w'.ownsRow w.heap.size e 1 v xs.length xs) (hnil : v = .slice none 0 0 ↔ xs = [])
  (he : (aO' e l).run st h n lg = .ok a h' n' lg' c) : DV' W0 F N a h' n n' (.returned v) w' := by
 have r' := r.below hb; have hlen := (hl N).len
 cases l with
 | nil =>
  obtain ⟨rfl, rfl, rfl⟩ := AB' he; have : xs = [] := List.eq_nil_of_length_eq_zero (by simpa using hlen.symm); rw [hnil.2 this]; exact ⟨_, N, rfl, r', VR_v.2 rfl, Ext.refl _ _ _⟩
 | cons x l =>
  obtain ⟨hn, he1⟩ := BX' he; obtain ⟨rfl, rfl, rfl⟩ := AB' he1; obtain ⟨_, hv | ⟨g, cap, cur, rfl, hg, hc, h1, h2, h3, h4⟩⟩ := hown
  ·have hx := hv.2; rw [<- hlen] at hx; cases hx
  ·have hle := A9'.put_le (l := ⟨g, 0, cur.size⟩) (hfr n (Nat.le_refl _) ω); rw [Nat.mul_one] at h3 h4
   have hlx : xs.length = l.length + 1 := by rw [<- hlen]; rfl
   refine ⟨_, N.put n ⟨g, 0, cur.size⟩, rfl, ?_, ?_, Ext.put⟩
   ·refine r.new hn hle hb ⟨fun b => b = g, ?_, fun b hb => by subst hb; exact hg⟩
    refine ⟨⟨g, 0, cur.size⟩, cur, (0, 0), A9'.put_same, fun _ => Iff.rfl, (by rw [Nat.mul_div_cancel_left _ (by decide : 0 < 2)]; exact hc), by simp, by rw [List.length_cons]; simp only; omega, .inl rfl, ?_, fun _ => ⟨rfl, rfl⟩⟩
    have : ((cur.toList.drop 0).take (x :: l).length) = xs := by rw [List.drop_zero, List.length_cons, <- hlx]; exact h4
    rw [this]; exact hl _
   ·simp only [VR]
    exact ⟨_, 0, cap, A9'.put_same, by rw [hlx], .inl rfl, by simp only; omega, by simp only [Cp.fits]; omega, by omega⟩
theorem EZ' {fS g : FuncId} (hu : P.underlying e = some .string) (hS : DT' P fS g e) (r : Rep W0 N F h w) {i : Nat} {l : Loc} (hl : N i = some l) (hfr : BW' N n n') (he : (GF' e i).run st h n lg = .ok a h' n' lg' c) :
  Calls P fS #[.func (.func g) #[] #[.pointer (some ⟨l.blk, l.off + 0, none⟩)]] w (DV' W0 F N a h' n n') := by
 unfold GF' at he; obtain ⟨cs, e', hf, he1⟩ := BL' he; obtain ⟨g0, he2⟩ := A8' he1; clear he he1; have g0 : e' % 2 = 0 := Nat.eq_of_beq_eq_true g0; split at he2
 ·rename_i m; obtain ⟨es, clock, hm, he3⟩ := CJ' he2; obtain ⟨ks, hks, he4⟩ := BK' he3; obtain ⟨g1, he5⟩ := A8' he4; obtain ⟨g2, he6⟩ := A8' he5; obtain ⟨g3, he7⟩ := A8' he6; obtain ⟨g4, he8⟩ := A8' he7; clear he2 he3 he4 he5 he6 he7; obtain ⟨D, hO⟩ := r.obj hf; obtain ⟨l', arr, fz, row, _⟩ := hO.row; obtain rfl : l' = l := Option.some.inj (row.name.symm.trans hl); have hz := (row.plain g0).1; obtain ⟨y, hy, hcell⟩ := row.slot (k := 0) rfl; simp only [VR] at hy; obtain ⟨lm, hlm, rfl⟩ := hy; rw [Nat.add_zero, hz] at hcell; obtain ⟨es', hb, hes⟩ := CF' r hm hlm; have hkeys := DX' hks hes; have hnd : ks.Nodup := EM' (fun k => by simp [XJ']) _ g2; have g4 : es.length <= 1000000 := ble' g4
  have hsz : es'.size = es.length := by rw [hes.len]; simp
  have hmax : (1000000 : Nat) <= maxLen := by unfold maxLen; omega
  have hst : Stamped es' clock := LJ' hes g1 hkeys (fun x y => encStr_inj) hnd
  have hkl : ∀ k ∈ ks, k.length <= maxLen := fun k hk => by
   have := ble' (List.all_eq_true.1 g3 k hk); omega
  have hkey : ∀ x ∈ es'.toList, ∃ k ∈ ks, x.key = encStr k := fun x hx => by
   have : x.key ∈ ks.map encStr := by rw [<- hkeys]; exact List.mem_map_of_mem hx
   obtain ⟨k, hk, hq⟩ := List.mem_map.1 this; exact ⟨k, hk, hq.symm⟩
  have hrd : ∀ x ∈ es'.toList, ∀ k, k ∈ ks -> x.key = encStr k -> rd P e (fun _ => some ((.nil : DataW Unit), [])) x = some (.string k, .nil) := fun x hx k hk hq => by
   have hkk := hkl k hk; obtain ⟨kx, vx, bx⟩ := x; simp only at hq; subst hq; refine Go.WideElems.rd_mk (kl := .string k) (yv := (.nil, [])) ?_ rfl; simp only [keyOf, hu, mapKey, encStr]; simp; exact hkk
  have hfit : Fit P e (fun _ => some ((.nil : DataW Unit), [])) es' clock := ⟨ω, hst, fun x hx => by
   obtain ⟨k, hk, hq⟩ := hkey x hx
   exact ⟨_, hrd x hx k hk hq⟩⟩
  have hown : w.ownsMap P e (fun _ => some ((.nil : DataW Unit), [])) lm.blk es'.size (.map ((es'.toList.map (rg P e (fun _ => some (.nil, [])))).foldr DataW.insert [])) := ⟨es', clock, hb, hfit, Nat.le_refl _, rfl⟩
  have hsize : Maps.size (.map ((es'.toList.map (rg P e (fun _ => some ((.nil : DataW Unit), [])))).foldr DataW.insert []) : DataW Unit) = es'.size := by
   rw [Maps.size_eq, length_sorted]; simp
  have hlt : l'.blk < w.heap.size := (Array.getElem?_eq_some_iff.1 row.heap).1; have hcall := hS l'.blk lm.blk _ _ _ w hlt hcell hown (by rw [hsize]; omega) (by rw [hsize]; omega); rw [hz]
  refine hcall.mono fun en w' ⟨v, ss, hen, hperm, hrow, hnil, hbel⟩ => ?_
  subst hen
  have hpk : (strKeys (.map ((es'.toList.map (rg P e (fun _ => some ((.nil : DataW Unit), [])))).foldr DataW.insert []) : DataW Unit)).Perm ks := by
   refine ((Go.WideShapes.sorted_perm _).map _).trans ?_
   have : (es'.toList.map (rg P e (fun _ => some ((.nil : DataW Unit), [])))).map (fun p => strOf p.1) = ks := by
    rw [List.map_map]
    have h2 : es'.toList.map ((fun p : Lit × DataW Unit => strOf p.1) ∘ rg P e (fun _ => some ((.nil : DataW Unit), []))) = (es'.toList.map (·.key)).map (fun v => match v with | .string s => s.data.toList | _ => []) := by
     rw [List.map_map]
     refine List.map_congr_left fun x hx => ?_
     obtain ⟨k, hk, hq⟩ := hkey x hx; simp only [Function.comp, Go.WideElems.rg_of (hrd x hx k hk hq), hq, strOf, encStr]
    rw [h2, hkeys, List.map_map]; exact (List.map_congr_left fun x _ => by simp [encStr]).trans (List.map_id _)
   rw [this]
  have hsort : ss.mergeSort (fun x y => decide (x <= y)) = HO' leS ks := by
   have h1 : ss.mergeSort (fun x y => decide (x <= y)) = ks.mergeSort Go.leB := mergeSort_of_perm (hperm.trans hpk); rw [h1]
   have he : leS = Go.leB := by funext a b; exact RJ' a b
   have tr : ∀ a b c : Γ, Go.leB a b = true -> Go.leB b c = true -> Go.leB a c = true := fun a b c h1 h2 => by simp only [Go.leB, decide_eq_true_eq] at *; exact List.le_trans h1 h2
   have to : ∀ a b : Γ, (Go.leB a b || Go.leB b a) = true := fun a b => by simp only [Go.leB, Bool.or_eq_true, decide_eq_true_eq]; exact List.le_total a b
   rw [he]; refine List.Perm.eq_of_pairwise (le := fun a b => Go.leB a b = true) (fun a b _ _ h1 h2 => ?_) (List.pairwise_mergeSort tr to ks) (DN' tr to ks) ((List.mergeSort_perm ks Go.leB).trans (E1' ks).symm); simp only [Go.leB, decide_eq_true_eq] at h1 h2; exact List.le_antisymm h1 h2
  rw [hsort] at hrow
  have hlen : ss.length = ((HO' leS ks).map encStr).length := by rw [List.length_map, <- hsort]; simp
  rw [hlen] at hrow; refine K6' r hbel hfr (fun N' => ?_) hrow ?_ he8
  ·have := VRs.vmap (N := N') ((HO' leS ks).map encStr); simpa [vmap, List.map_map, Function.comp_def, encStr] using this
  ·rw [hnil]
   constructor
   ·intro h0; rw [h0] at hsort; rw [<- hsort]; simp
   ·intro h0; have := congrArg List.length h0; rw [<- hlen] at this; exact List.eq_nil_of_length_eq_zero this
 ·exact (A4' he2).elim
theorem K0' {fS g : FuncId} (hu : P.underlying e = some (.int .i64)) (hS : S9' P fS g e) (r : Rep W0 N F h w) {i : Nat} {l : Loc} (hl : N i = some l) (hfr : BW' N n n') (he : (IF' e i).run st h n lg = .ok a h' n' lg' c) :
  Calls P fS #[.func (.func g) #[] #[.pointer (some ⟨l.blk, l.off + 0, none⟩)]] w (DV' W0 F N a h' n n') := by
 unfold IF' at he; obtain ⟨cs, e', hf, he1⟩ := BL' he; obtain ⟨g0, he2⟩ := A8' he1; clear he he1; have g0 : e' % 2 = 0 := Nat.eq_of_beq_eq_true g0; split at he2
 ·rename_i m; obtain ⟨es, clock, hm, he3⟩ := CJ' he2; obtain ⟨ks, hks, he4⟩ := BK' he3; obtain ⟨g1, he5⟩ := A8' he4; obtain ⟨g2, he6⟩ := A8' he5; obtain ⟨g3, he7⟩ := A8' he6; obtain ⟨g4, he8⟩ := A8' he7; clear he2 he3 he4 he5 he6 he7; obtain ⟨D, hO⟩ := r.obj hf; obtain ⟨l', arr, fz, row, _⟩ := hO.row; obtain rfl : l' = l := Option.some.inj (row.name.symm.trans hl); have hz := (row.plain g0).1; obtain ⟨y, hy, hcell⟩ := row.slot (k := 0) rfl; simp only [VR] at hy; obtain ⟨lm, hlm, rfl⟩ := hy; rw [Nat.add_zero, hz] at hcell; obtain ⟨es', hb, hes⟩ := CF' r hm hlm; have hkeys := GT' hks hes; have hnd : ks.Nodup := EM' (fun k => by simp [XI']) _ g2; have g4 : es.length <= 1000000 := ble' g4
  have hsz : es'.size = es.length := by rw [hes.len]; simp
  have hmax : (1000000 : Nat) <= maxLen := by unfold maxLen; omega
  have hst : Stamped es' clock := LJ' hes g1 hkeys (fun x y => encZ_inj) hnd
  have hkl : ∀ k ∈ ks, (Lit.int .i64 k).wf = true := fun k hk => List.all_eq_true.1 g3 k hk
  have hkey : ∀ x ∈ es'.toList, ∃ k ∈ ks, x.key = encZ k := fun x hx => by
   have : x.key ∈ ks.map encZ := by rw [<- hkeys]; exact List.mem_map_of_mem hx
   obtain ⟨k, hk, hq⟩ := List.mem_map.1 this; exact ⟨k, hk, hq.symm⟩
  have hrd : ∀ x ∈ es'.toList, ∀ k, k ∈ ks -> x.key = encZ k -> rd P e (fun _ => some ((.nil : DataW Unit), [])) x = some (.int .i64 k, .nil) := fun x hx k hk hq => by
   have hkk := hkl k hk; obtain ⟨kx, vx, bx⟩ := x; simp only at hq; subst hq; refine Go.WideElems.rd_mk (kl := .int .i64 k) (yv := (.nil, [])) ?_ rfl; simp only [keyOf, hu, mapKey, encZ]; simp; exact hkk
  have hfit : Fit P e (fun _ => some ((.nil : DataW Unit), [])) es' clock := ⟨ω, hst, fun x hx => by
   obtain ⟨k, hk, hq⟩ := hkey x hx
   exact ⟨_, hrd x hx k hk hq⟩⟩
  have hown : w.ownsMap P e (fun _ => some ((.nil : DataW Unit), [])) lm.blk es'.size (.map ((es'.toList.map (rg P e (fun _ => some (.nil, [])))).foldr DataW.insert [])) := ⟨es', clock, hb, hfit, Nat.le_refl _, rfl⟩
  have hsize : Maps.size (.map ((es'.toList.map (rg P e (fun _ => some ((.nil : DataW Unit), [])))).foldr DataW.insert []) : DataW Unit) = es'.size := by
   rw [Maps.size_eq, length_sorted]; simp
  have hlt : l'.blk < w.heap.size := (Array.getElem?_eq_some_iff.1 row.heap).1; have hcall := hS l'.blk lm.blk _ _ _ w hlt hcell hown (by rw [hsize]; omega) (by rw [hsize]; omega); rw [hz]
  refine hcall.mono fun en w' ⟨v, ss, hen, hperm, hrow, hnil, hbel⟩ => ?_
  subst hen
  have hpk : (intKeys (.map ((es'.toList.map (rg P e (fun _ => some ((.nil : DataW Unit), [])))).foldr DataW.insert []) : DataW Unit)).Perm ks := by
   refine ((Go.WideShapes.sorted_perm _).map _).trans ?_
   have : (es'.toList.map (rg P e (fun _ => some ((.nil : DataW Unit), [])))).map (fun p => Go.intOf p.1) = ks := by
    rw [List.map_map]
    have h2 : es'.toList.map ((fun p : Lit × DataW Unit => Go.intOf p.1) ∘ rg P e (fun _ => some ((.nil : DataW Unit), []))) = (es'.toList.map (·.key)).map (fun v => match v with | .int _ n => n | _ => 0) := by
     rw [List.map_map]
     refine List.map_congr_left fun x hx => ?_
     obtain ⟨k, hk, hq⟩ := hkey x hx; simp only [Function.comp, Go.WideElems.rg_of (hrd x hx k hk hq), hq, Go.intOf, encZ]
    rw [h2, hkeys, List.map_map]; exact (List.map_congr_left fun x _ => by simp [encZ]).trans (List.map_id _)
   rw [this]
  have hsort : ss.mergeSort (fun x y => decide (x <= y)) = HO' leZ ks := by
   have h1 : ss.mergeSort (fun x y => decide (x <= y)) = ks.mergeSort Go.leI := mergeSort_of_perm_i (hperm.trans hpk); rw [h1]
   have he : leZ = Go.leI := by funext a b; exact Z3' a b
   have tr : ∀ a b c : Int, Go.leI a b = true -> Go.leI b c = true -> Go.leI a c = true := fun a b c h1 h2 => by simp only [Go.leI, decide_eq_true_eq] at *; exact Int.le_trans h1 h2
   have to : ∀ a b : Int, (Go.leI a b || Go.leI b a) = true := fun a b => by simp only [Go.leI, Bool.or_eq_true, decide_eq_true_eq]; exact Int.le_total a b
   rw [he]; refine List.Perm.eq_of_pairwise (le := fun a b => Go.leI a b = true) (fun a b _ _ h1 h2 => ?_) (List.pairwise_mergeSort tr to ks) (DN' tr to ks) ((List.mergeSort_perm ks Go.leI).trans (E1' ks).symm); simp only [Go.leI, decide_eq_true_eq] at h1 h2; exact Int.le_antisymm h1 h2
  rw [hsort] at hrow
  have hlen : ss.length = ((HO' leZ ks).map encZ).length := by rw [List.length_map, <- hsort]; simp
  rw [hlen] at hrow; refine K6' r hbel hfr (fun N' => ?_) hrow ?_ he8
  ·have := VRs.vmap (N := N') ((HO' leZ ks).map encZ); simpa [vmap, List.map_map, Function.comp_def, encZ] using this
  ·rw [hnil]
   constructor
   ·intro h0; rw [h0] at hsort; rw [<- hsort]; simp
   ·intro h0; have := congrArg List.length h0; rw [<- hlen] at this; exact List.eq_nil_of_length_eq_zero this
 ·exact (A4' he2).elim
end
end Go.Proofs.YtnnojnlejlokhaaGreatDoor.Eng
