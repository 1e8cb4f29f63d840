/- Parts of the proof, merged. -/
import Derived.Test.YtjjjchmkonnpfaaBkq3
import Derived.Test.YtjjjchmkonnpfaaEngCon
import Derived.Test.YtjjjchmkonnpfaaShelf
import Derived.Test.YtjjjchmkonnpfaaEngSorted
import Derived.Test.YtjjjchmkonnpfaaEngIMap
import Derived.Test.YtjjjchmkonnpfaaBkq4
noncomputable section
set_option linter.unusedVariables false
set_option linter.unusedSimpArgs false
set_option maxRecDepth 100000
set_option linter.unusedSectionVars false
namespace Go.Proofs.Ytjjjchmkonnpfaa.Qb
open Go Go.RowKit Eng Kit Tree
def uC (c : Kc) : List AV := C0' c .un .un
def rowU (R : List Kc) : List AV := R.flatMap uC
theorem OE' (c : Kc) : (uC c).length = 25 := rfl
theorem CJ' (c : Kc) (R : List Kc) : rowU (c :: R) = uC c ++ rowU R := by rw [rowU, List.flatMap_cons]; rfl
theorem KX' (R S : List Kc) : rowU (R ++ S) = rowU R ++ rowU S := by rw [rowU, List.flatMap_append]; rfl
theorem KC' (c : Kc) : rowU [c] = uC c := by rw [CJ']; exact List.append_nil _
theorem DT' : ∀ R : List Kc, (rowU R).length = R.length * 25
 | [] => rfl
 | c :: R => by rw [CJ', List.length_append, DT' R, OE', List.length_cons]; omega
theorem OP' : ∀ (R : List Kc) (i : Nat), (rowU R).drop (i * 25) = rowU (R.drop i)
 | R, 0 => by simp
 | [], i + 1 => by simp [rowU]
 | c :: R, i + 1 => by
  have h2 : (i + 1) * 25 = (uC c).length + i * 25 := by rw [OE']; omega
  rw [CJ', h2, List.drop_length_add_append, OP' R i, List.drop_succ_cons]
theorem KW' : ∀ (R : List Kc) (i : Nat), (rowU R).take (i * 25) = rowU (R.take i)
 | R, 0 => by simp [rowU]
 | [], i + 1 => by simp [rowU]
 | c :: R, i + 1 => by
  have h2 : (i + 1) * 25 = (uC c).length + i * 25 := by rw [OE']; omega
  rw [CJ', h2, List.take_length_add_append, KW' R i, List.take_succ_cons, CJ']
theorem UM' (R : List Kc) (i : Nat) (c : Kc) (h : R[i]? = some c) : ((rowU R).drop (i * 25)).take 25 = uC c := by
 obtain ⟨hi, hc⟩ := List.getElem?_eq_some_iff.1 h; rw [OP', List.drop_eq_getElem_cons hi, CJ', List.take_append_of_le_length (by rw [OE']; exact Yd), List.take_of_length_le (by rw [OE']; exact Yd), hc]
theorem QF' (σ : Nat -> Nat) (c : Kc) : AV.rens σ (uC c) = uC c := rfl
theorem ER' (σ : Nat -> Nat) : ∀ R : List Kc, AV.rens σ (rowU R) = rowU R
 | [] => rfl
 | c :: R => by rw [CJ', D9', ER' σ R, QF']
theorem cls_uC (K : Nat -> Bool) (c : Kc) : AV.cls K (uC c) := I9' (K := K) c trivial trivial
theorem KK' (K : Nat -> Bool) : ∀ R : List Kc, AV.cls K (rowU R)
 | [] => trivial
 | c :: R => by rw [CJ']; exact WQ' (cls_uC K c) (KK' K R)
def xRk (k : Nat) : List Kc -> AV
 | [] => nilS
 | c :: R => .slice k 0 (R.length + 1) 25 (.lo (R.length + 1))
def rO : List Kc -> AO
 | [] => dumZ
 | c :: R => .cells (rowU (c :: R)) tKc
theorem aI' (σ : Nat -> Nat) (k : Nat) : ∀ R, AV.ren σ (xRk k R) = xRk (σ k) R
 | [] => rfl
 | _ :: _ => rfl
theorem JU' (σ : Nat -> Nat) : ∀ R, AO.ren σ (rO R) = rO R
 | [] => rfl
 | c :: R => by simp only [rO, AO.ren, ER']
theorem xR_cl {K : Nat -> Bool} {k : Nat} (h : K k = true) : ∀ R, AV.cl K (xRk k R)
 | [] => trivial
 | _ :: _ => h
theorem bZ' (K : Nat -> Bool) : ∀ R, (rO R).cl K
 | [] => trivial
 | c :: R => KK' K (c :: R)
end Go.Proofs.Ytjjjchmkonnpfaa.Qb
namespace Go.Proofs.Ytjjjchmkonnpfaa.Rk
open Go Go.RowKit Eng Kit
abbrev WD' : Nat := 47
def PO' : List AV -> Option (AP AV) := fun args => match args with
 | [.slice i 0 0 3 c, .v f] => some (useC (fun _ => i) [.slice 0 0 0 3 c, sF] args [(0, .cells [] tIt)] (.leaf .ret [.tuple []] [(0, .cells [] tIt)]))
 | _ => some (.fail "sort")
theorem QM' (g : List It) (m : List (Int × Int × Nat)) (ck : Nat) (F : HP) : oRun [(HN', PO')] (AN' [(WD', 3, 2, h0)]) [] BB' [.ptr 0 0] (pL ⟨[], g, m, ck⟩) [0, 1001, 1002, 1100] F = VT.ite false (VT.bad "sort") (VT.leaf (AV.slice 1100 0 0 3 (Cp.ex 0)) [some (AO.cells [AV.slice 1001 0 0 3 (Cp.lo (0 + g.length)),AV.map 1002] 170),some (AO.cells (rowV enc ([] ++ g)) 142),some (AO.map (mE iv m) ck),some (AO.cells [] 142)] 1101 (k12'.a (((fe' 0).a t').a (((vw' [AV.slice 1100 0 0 3 (Cp.ex 0),AV.v (Value.func (Fn.func 49) (Array.mk []) (Array.mk []))]).a (f' (OW (AO.cells (rep [i' 0,i' 0,i' 0] 0) 142) (AO.cells [] 142)))).a k1')))) := χ
theorem UE' (c : Cp) : Tri Θ default HN' [.slice 0 0 0 3 c, sF] [(0, .cells [] tIt)] (.tuple []) [(0, .cells [] tIt)] := by
 intro W0 F N w vargs _ hN r hv; simp only [VRs, sF] at hv; obtain ⟨y1, r1, hy1, ⟨y2, r2, hy2, rfl, rfl⟩, hvl⟩ := hv
 obtain rfl : vargs = #[y1, y2] := by cases vargs; simp_all
 simp only [VR] at hy1 hy2; obtain ⟨l, x, cc, q1, rfl, _⟩ := hy1; subst hy2; have hcon := AnyF.slices_SortFunc_none Try.sortIt (some ⟨l.blk, x, none⟩) cc (.func (.func H0') #[] #[]) w; change Calls Θ HN' _ _ _ at hcon; refine hcon.mono ?_; rintro e w' ⟨rfl, rfl⟩
 exact ⟨.tuple #[], rfl, N, fun i _ => rfl, hN, r, by simp [VRs, VR]⟩
theorem WW' (F : HP) : C1OK Θ F HN' PO' := by
 intro st W0 N h w args vargs v h' n n' lg lg' c p hp1 he hc r ha hf; unfold PO' at hp1; split at hp1
 ·rename_i i cp f; cases hp1; have hcl : ClosedC [.slice 0 0 0 3 cp, sF] [(0, .cells [] tIt)] [.tuple []] [(0, .cells [] tIt)] := ⟨rfl, rfl, ⟨rfl, Ye, Ye⟩, A0' Ye A2', ⟨Ye, Ye⟩, A0' Ye A2'⟩; exact DR' B8' (UE' cp) rfl hcl he hc r ha hf
 ·cases hp1; exact (A1' he).elim
theorem TG' (g : List It) (m : List (Int × Int × Nat)) (ck : Nat) : Tri Θ default BB' [.ptr 0 0] [(0, pO ⟨[], g, m, ck⟩)] .mt [(0, pO ⟨[], g, m, ck⟩)] := by
 refine CK' (tri_V (con := conL [(HN', PO')]) (claim := AN' [(WD', 3, 2, h0)]) (lcon := K4' []) [0, 1001, 1002, 1100] 1000 M2' rfl (fun F _ => GA' rfl fun x hx => by simp only [List.mem_singleton] at hx; subst hx; exact WW' F) (fun F _ => DL' rfl fun y hy => by cases hy) fun F _ => ?_); show VAll _ (oRun [(HN', PO')] (AN' [(WD', 3, 2, h0)]) [] BB' [.ptr 0 0] (pL ⟨[], g, m, ck⟩) [0, 1001, 1002, 1100] F); rw [QM']
 refine ⟨⟨fun h => (by cases h), fun _ => ⟨?_, CN' ⟨[], g, m, ck⟩ [(1001, 1001), (1002, 1002)] χ χ (VW.cons wk_mt VW.nil) ⟨Ye, Ye⟩ (CL' _ rfl rfl rfl rfl rfl rfl)⟩⟩⟩
 simp only [Cnd.holds]; and_intros; all_goals first | (with_reducible exact Ye) | with_reducible rfl | (with_reducible exact Yc) | (with_reducible exact Yb) | exact rfl | exact Yc
theorem Tri.wk {f : FuncId} {A : List AV} {H H' : LH} {v v' : AV} (h : Tri Θ default f A H v H') (hw : Wk v v') : Tri Θ default f A H v' H' := by
 intro W0 F N w vargs hF hNB r ha; refine (h W0 F N w vargs hF hNB r ha).mono ?_; rintro e w' ⟨y, rfl, N', h1, h2, h3, h4⟩; exact ⟨y, rfl, N', h1, h2, h3, A9'.2 ⟨hw _ _ (A9'.1 h4).1, AT'⟩⟩
theorem AitemsE_tri : Tri Θ default BB' [.ptr 0 0] [(0, lO [])] .mt [(0, lO [])] := by
 refine GW' ⟨rfl, Ye⟩ (fun s hs => ?_) (fun e => ?_)
 ·have hx : s.xs = [] := List.eq_nil_of_length_eq_zero (by rw [hs.len]; rfl); obtain ⟨xs, g, m, ck⟩ := s; simp only at hx; subst hx; exact Tri.post (TG' g m ck) (CH' δ (GU' hs))
 ·exact Tri.post (Tri.wk TH' aB') (CH' δ KE')
end Go.Proofs.Ytjjjchmkonnpfaa.Rk
namespace Go.Proofs.Ytjjjchmkonnpfaa.Eng
open Go Go.RowKit Go.Maps Go.Sort Go.Shelf Go.Proofs
theorem bV' (m : Nat) : AnyZI.SortsIn Θ Try.sorted35_ren Fence.wide m :=
 ⟨fun blk off cap ss W hH hblk hsz => callsIn_wide.2 (AnyM.slices_Sort_int Try.sort53 blk off cap ss W hH hblk hsz),
  fun p cap W => callsIn_wide.2 (AnyM.slices_Sort_int_none Try.sort53 p cap W)⟩
set_option maxHeartbeats 1000000 in
theorem Q9' : GG' Θ 35 54 3 := by
 intro Bm b nn D0 R w hBm hcell hown hmax hbytes; refine (callsIn_wide (n := 5)).1 ?_
 have hseq : SeqGives Fence.wide 2 Θ 54 #[.pointer (some ⟨Bm, 0, none⟩)] encZ (fun ss => ss.Perm (intKeys D0)) (Maps.size D0) w :=
  AnyZI.keys_gives (ρ := Try.keys36_ren) { Try.keys36 with } Fence.wide _ trivial rfl ω Bm b nn D0 _ hBm hcell hown
 exact AnyZI.sorted_in Try.sorted35 Fence.wide 5 trivial trivial trivial trivial rfl ω (bV' _) (enters_of Try.func53 χ rfl) 54 #[.pointer (some ⟨Bm, 0, none⟩)] trivial (enters_of Try.func54 χ rfl) _ _ hmax hbytes _ hseq
theorem bW' : GG' Θ 35 54 3 := Q9'
open Go.MapKept
open Go.WideElems (rd rg rd_mk rg_of rd_key)
def BE' (o : IMap Int) : List Int := QA' leZ (o.map (·.1))
theorem D6' (o : IMap Int) : (BE' o).Perm (o.map (·.1)) := J7' _
theorem C7' (o : IMap Int) : (BE' o).length = o.length := by rw [(D6' o).length_eq, List.length_map]
theorem Rep.lessI {W0 w : World} {N : A4'} {F : HP} {h h' : Eng.T} (r : Rep W0 N F h w) (hh : ∀ i o, h'.find i = some o -> h.find i = some o) : Rep W0 N F h' w := by
 obtain ⟨D0, D, h1, h2, h3⟩ := r.sat
 exact ⟨r.os, r.tape, r.output, D0, D, h1, fun i o hi => h2 i o (hh i o hi), fun i j o o' hi hj => h3 i j o o' (hh i o hi) (hh j o' hj)⟩
section
variable {P : Program} {fS g : FuncId} {e : TypeId} {W : World} {o : IMap Int} {ck : Nat} {tb : TypeId}
def oSo (tb : TypeId) (o : IMap Int) (ck : Nat) : LH := [(0, .cells [.map 1] (2 * tb)), (1, .map (mE (fun x : Int => (.v (.int .i64 x) : AV)) o) ck)]
theorem IG' (hu : P.underlying e = some (.int .i64)) (hS : GG' P fS g e) (hm : MI o ck) (hb : o.length * 8 <= 140737488355328) (hwf : ∀ k ∈ o.map (·.1), (Lit.int .i64 k).wf = true) {W0 : World} {F : HP} {N : A4'} {w : World} {vargs : Array Value}
  (r : Rep W0 N F (AD' (oSo tb o ck)) w) (ha : VRs N [.func (.func g) [] [.ptr 0 0]] vargs.toList) :
  Calls P fS vargs w fun en w' => ∃ v, en = .returned v /\ w'.ownsRow w.heap.size e 1 v o.length ((BE' o).map encZ) /\ (v = .slice none 0 0 ↔ o = []) /\ Below w.heap.size w w' := by
 obtain ⟨y1, h1, rfl⟩ : ∃ y, VR N (.func (.func g) [] [.ptr 0 0]) y /\ vargs = #[y] := by
  simp only [VRs] at ha; obtain ⟨y, r', h1, rfl, hl⟩ := ha
  exact ⟨y, h1, by cases vargs; simp_all⟩
 have hf : ∀ i, (AD' (oSo tb o ck)).find i = getO (oSo tb o ck) i := A8' rfl; obtain ⟨D, hO⟩ := r.obj ((hf 0).trans rfl); obtain ⟨lb, arr, fz, k1, k2, k3, k4, k5, k6, k7, k8⟩ := hO; obtain ⟨k8, -⟩ := k8 (Nat.mul_mod_right _ _); simp only [VR, VRs] at h1; obtain ⟨f', c', rfl, ⟨y, r', ⟨l, hl, rfl⟩, rfl, rfl⟩, rfl⟩ := h1; obtain rfl : lb = l := Option.some.inj (k1.symm.trans hl)
 have hk7 : ∃ lm, N 1 = some lm /\ arr[0]? = some (.map (some lm.blk)) := by
  simp only [VRs, VR] at k7; obtain ⟨y, r', ⟨l2, hl2, rfl⟩, rfl, hk⟩ := k7; rw [k8, List.drop_zero] at hk; refine ⟨l2, hl2, ?_⟩; have := congrArg (fun z : List Value => z[0]?) hk; simpa [List.getElem?_take] using this
 obtain ⟨lm, hlm, h0⟩ := hk7
 have hcell : w.cell? ⟨lb.blk, 0, none⟩ = some (.map (some lm.blk)) := by simp [World.cell?, k3, h0]
 obtain ⟨es', hbm, hes⟩ := CX' r ((hf 1).trans rfl) hlm
 have hkeys : es'.toList.map (·.key) = (o.map (·.1)).map encZ := by
  refine HR' (es := mE (fun x : Int => (.v (.int .i64 x) : AV)) o) ?_ hes; clear hm hb hwf r hf hbm hes
  induction o with
  | nil => rfl
  | cons x l ih =>
   show (match IT' (mE (fun x : Int => (.v (.int .i64 x) : AV)) l) with | some r => some (x.1 :: r) | none => none) = _
   rw [ih]; rfl
 have hsz : es'.size = o.length := by
  have := congrArg List.length hkeys; simpa using this
 have hmax : (140737488355328 : Nat) <= maxLen := by unfold maxLen; omega
 have hborn : es'.toList.map (·.born) = o.map (·.2.2) := (ERs.borns hes).trans (L6' o)
 have hst : Stamped es' ck := by
  refine ⟨fun x hx => ?_, ?_, ?_⟩
  ·have : x.born ∈ o.map (·.2.2) := by rw [<- hborn]; exact List.mem_map_of_mem hx
   obtain ⟨z, hz, hq⟩ := List.mem_map.1 this; rw [<- hq]; exact hm.low z hz
  ·rw [hborn]; exact hm.stamps
  ·rw [hkeys, List.nodup_iff_pairwise_ne, List.pairwise_map]
   exact (List.nodup_iff_pairwise_ne.1 hm.keys).imp fun h e => h (encZ_inj e)
 have hkey : ∀ x ∈ es'.toList, ∃ k ∈ o.map (·.1), x.key = encZ k := fun x hx => by
  have : x.key ∈ (o.map (·.1)).map encZ := by rw [<- hkeys]; exact List.mem_map_of_mem hx
  obtain ⟨k, hk, hq⟩ := List.mem_map.1 this; exact ⟨k, hk, hq.symm⟩
 have hrd : ∀ x ∈ es'.toList, ∀ k, k ∈ o.map (·.1) -> x.key = encZ k -> rd P e (fun _ => some ((.nil : DataW Unit), [])) x = some (.int .i64 k, .nil) := fun x hx k hk hq => by
  have hkk := hwf k hk; obtain ⟨kx, vx, bx⟩ := x; simp only at hq; subst hq; refine Go.WideElems.rd_mk (kl := .int .i64 k) (yv := (.nil, [])) ?_ rfl; simp only [keyOf, hu, mapKey, encZ]; simp; exact hkk
 have hfit : Go.WideElems.Fit P e (fun _ => some ((.nil : DataW Unit), [])) es' ck := ⟨ω, hst, fun x hx => by
  obtain ⟨k, hk, hq⟩ := hkey x hx
  exact ⟨_, hrd x hx k hk hq⟩⟩
 have hown : w.ownsMap P e (fun _ => some ((.nil : DataW Unit), [])) lm.blk es'.size (.map ((es'.toList.map (rg P e (fun _ => some (.nil, [])))).foldr DataW.insert [])) := ⟨es', ck, hbm, hfit, Yd, rfl⟩
 have hsize : Maps.size (.map ((es'.toList.map (rg P e (fun _ => some ((.nil : DataW Unit), [])))).foldr DataW.insert []) : DataW Unit) = es'.size := by
  rw [Maps.size_eq, length_sorted]; simp
 have hlt : lb.blk < w.heap.size := (Array.getElem?_eq_some_iff.1 k3).1; have hcall := hS lb.blk lm.blk _ _ _ w hlt hcell hown (by rw [hsize]; omega) (by rw [hsize]; omega); rw [k8]
 refine hcall.mono fun en w' ⟨v, ss, hen, hperm, hrow, hnil, hbel⟩ => ?_
 subst hen
 have hpk : (intKeys (.map ((es'.toList.map (rg P e (fun _ => some ((.nil : DataW Unit), [])))).foldr DataW.insert []) : DataW Unit)).Perm (o.map (·.1)) := by
  refine ((Go.WideShapes.sorted_perm _).map _).trans ?_
  have : (es'.toList.map (rg P e (fun _ => some ((.nil : DataW Unit), [])))).map (fun p => Go.intOf p.1) = o.map (·.1) := by
   rw [List.map_map]
   have h2 : es'.toList.map ((fun p : Lit × DataW Unit => Go.intOf p.1) ∘ rg P e (fun _ => some ((.nil : DataW Unit), []))) = (es'.toList.map (·.key)).map (fun v => match v with | .int _ n => n | _ => 0) := by
    rw [List.map_map]
    refine List.map_congr_left fun x hx => ?_
    obtain ⟨k, hk, hq⟩ := hkey x hx; simp only [Function.comp, Go.WideElems.rg_of (hrd x hx k hk hq), hq, Go.intOf, encZ]
   rw [h2, hkeys, List.map_map]; exact (List.map_congr_left fun x _ => by simp [encZ]).trans (List.map_id _)
  rw [this]
 have hsort : ss.mergeSort (fun x y => decide (x <= y)) = BE' o := by
  have h1 : ss.mergeSort (fun x y => decide (x <= y)) = (o.map (·.1)).mergeSort Go.leI := mergeSort_of_perm_i (hperm.trans hpk); rw [h1]
  have he : leZ = Go.leI := by funext a b; exact leZ_eq a b
  have tr : ∀ a b c : Int, Go.leI a b = true -> Go.leI b c = true -> Go.leI a c = true := fun a b c h1 h2 => by simp only [Go.leI, decide_eq_true_eq] at *; exact Int.le_trans h1 h2
  have to : ∀ a b : Int, (Go.leI a b || Go.leI b a) = true := fun a b => by simp only [Go.leI, Bool.or_eq_true, decide_eq_true_eq]; exact Int.le_total a b
  rw [BE', he]; refine List.Perm.eq_of_pairwise (le := fun a b => Go.leI a b = true) (fun a b _ _ h1 h2 => ?_) (List.pairwise_mergeSort tr to _) (JS' tr to _) ((List.mergeSort_perm _ Go.leI).trans (J7' _).symm); simp only [Go.leI, decide_eq_true_eq] at h1 h2; exact Int.le_antisymm h1 h2
 rw [hsort] at hrow
 have hlen : ss.length = o.length := by rw [<- C7' o, <- hsort]; simp
 rw [hlen] at hrow; refine ⟨v, rfl, hrow, ?_, hbel⟩; rw [hnil, <- List.length_eq_zero_iff, hlen, List.length_eq_zero_iff]
theorem MI.nil0 (ck : Nat) : MI ([] : IMap Int) ck := ⟨List.nodup_nil, List.nodup_nil, fun e he => by cases he⟩
theorem Q8' (hu : P.underlying e = some (.int .i64)) (hS : GG' P fS g e) {ck : Nat} : Tri P W fS [.func (.func g) [] [.ptr 0 0]] (oSo tb [] ck) (.v (.slice none 0 0)) (oSo tb [] ck) := by
 intro W0 F N w vargs hF hNB r ha; refine (IG' hu hS (MI.nil0 ck) (by show 0 * 8 <= _; omega) (fun k hk => by cases hk) r ha).mono ?_; rintro en w' ⟨v, rfl, hrow, hnil, hb⟩; rw [hnil.2 rfl]
 exact ⟨_, rfl, N, fun _ _ => rfl, hNB, r.below hb, A9'.2 ⟨VR_v.2 rfl, AT'⟩⟩
theorem Q7' (hu : P.underlying e = some (.int .i64)) (hS : GG' P fS g e) (hm : MI o ck) (hb : o.length * 8 <= 140737488355328) (hwf : ∀ k ∈ o.map (·.1), (Lit.int .i64 k).wf = true) (hne : o ≠ []) :
  Tri P W fS [.func (.func g) [] [.ptr 0 0]] (oSo tb o ck) (.slice 1000 0 o.length 1 (.lo o.length)) (oSo tb o ck ++ [(1000, .cells (vmap ((BE' o).map encZ)) (2 * e))]) := by
 intro W0 F N w vargs hF hNB r ha; refine (IG' hu hS hm hb hwf r ha).mono ?_; rintro en w' ⟨v, rfl, hrow, hnil, hb⟩; have hN0 : N 1000 = none := hNB 1000 (Yd) rfl; have r' := r.below hb; obtain ⟨_, hv | ⟨g, cap, cur, rfl, hg, hc, h1, h2, h3, h4⟩⟩ := hrow
 ·have hx := hv.2; rw [List.length_eq_zero_iff] at hx; exact absurd hx hne
 ·have hle := A4'.put_le (l := ⟨g, 0, cur.size⟩) hN0; rw [Nat.mul_one] at h3 h4
  have key : Rep W0 (N.put 1000 ⟨g, 0, cur.size⟩) F (Eng.T.set Eng.T.depth (AD' (oSo tb o ck)) 1000 (.leaf (.cells (vmap ((BE' o).map encZ)) (2 * e)))) w' := by
   refine r.new (n := 1000) δ hle hb ⟨fun b => b = g, ?_, fun b hb => by subst hb; exact hg⟩
   refine ⟨⟨g, 0, cur.size⟩, cur, (0, 0), A4'.put_same, fun _ => Iff.rfl, (by rw [Nat.mul_div_cancel_left _ (by decide : 0 < 2)]; exact hc), by simp, by simp only [vmap, List.length_map, C7']; omega, .inl rfl, ?_, fun _ => ⟨rfl, rfl⟩⟩
   have : ((cur.toList.drop 0).take (vmap ((BE' o).map encZ)).length) = (BE' o).map encZ := by rw [List.drop_zero]; simp only [vmap, List.length_map, C7']; exact h4
   rw [this]; exact VRs.vmap _
  refine ⟨_, rfl, N.put 1000 ⟨g, 0, cur.size⟩, fun i hi => A4'.put_ne ω, fun i hi hg => ?_, key.lessI (h' := AD' (oSo tb o ck ++ [(1000, .cells (vmap ((BE' o).map encZ)) (2 * e))])) ?_, ?_⟩
  ·have h1 : i ≠ 1000 := fun e => by subst e; cases hg
   rw [A4'.put_ne h1]; exact hNB i hi (by simp only [oSo, getO]; rw [if_neg ω, if_neg ω])
  ·intro i x hi; rw [A8' rfl] at hi; rw [Eng.T.find_set δ, A8' rfl]
   by_cases h1 : i = 1000
   ·subst h1; rw [if_pos rfl]; exact hi
   ·rw [if_neg h1]; simp only [oSo, List.cons_append, List.nil_append, getO, if_neg h1] at hi ⊢; exact hi
  ·refine A9'.2 ⟨?_, AT'⟩; simp only [VR]
   exact ⟨_, 0, cap, A4'.put_same, rfl, .inl rfl, by simp only; omega, by simp only [Cp.fits]; omega, by omega⟩
end
end Go.Proofs.Ytjjjchmkonnpfaa.Eng
namespace Go.Proofs.Ytjjjchmkonnpfaa.Qb
open Go Go.RowKit Eng Kit Tree
open Rk (lO itA BZ' putL GZ' remK)
noncomputable section
abbrev AJ' : Nat := 13
abbrev fOut : Nat := 16
abbrev I2' : Nat := 35
abbrev WC' : Nat := 54
abbrev tIn : TypeId := 2 * 3
def slR (k m : Nat) : AV := .slice k 0 m 25 (.lo m)
def rI3 (L : List It) : AO := .cells (rowV Rk.enc L) Rk.tIt
def rZ (K : List Int) : AO := .cells (vmap (K.map encZ)) tIn
def oRd (s : Qs) (P : Mem -> Prop) (I O : AO) : LH := [(0, qC s.cf s.la), (1001, .map (mE aggK s.m) s.ck), (1002, .any (frz P)), (1003, lO s.L), (1004, .map (mE iv s.o) s.ok), (1005, I), (1006, O)]
def kF : List Nat := [0, 1001, 1002, 1003, 1004, 1005, 1006, 1100, 1101, 1102, 1103, 1104, 1105]
def aRd (n j : Nat) (x : AV) : List (Nat × AV) := [(0, .ptr 0 0), (2, x), (9, .slice 1005 0 n 3 (.lo n)), (10, iv (Int.ofNat n)), (11, iv (Int.ofNat j))]
def hRd (j : Nat) (it : It) (c : Kc) : AO' := AN' [ht' AJ' 2 0, (AJ', 3, 1, hv (itA it)), (AJ', 4, 7, hv (aggK c)), (AJ', 5, 0, hv (iv (Int.ofNat (j + 1))))]
def iRd : List Nat := [0, 2, 9, 10, 11]
abbrev h76' (q0 : Kc) (q1 : Mem -> Prop) (q2 : Nat) (z : Cnd) : Cnd := (((p' True).a ((vw' [AV.agg [z' q0.sq,z' q0.gh,z' q0.bo,z' q0.si,s' q0.ex,s' q0.ke,z' q0.fl,s' q0.ct,s' q0.ce,AV.v (Value.slice q0.ha (List.length q0.f) q0.hc),z' q0.dm,z' q0.pr,s' q0.s1,s' q0.s2,s' q0.s3,s' q0.s4,z' q0.ts,s' q0.s5,s' q0.s6,s' q0.s7,z' q0.xp,z' q0.pi,AV.v (Value.slice q0.ta q0.tr.length q0.tc),b' q0.du,b' q0.re]]).a (f' (OW (AO.any (frz q1)) (AO.any (frz q1)))))).a ((tt'.a (tt'.a (tt'.a (tt'.a (ee' true))))).a ((f' (Wk (z' (IntKind.i64.wrap (Int.ofNat q2 + Int.ofNat 1))) (i' (q2 + 1)))).a z)))
abbrev k77' (q0 : Kc) (q1 : Mem -> Prop) (q2 : Nat) (q3 : It) (q4 : HP) (q5 : Qs) : Cnd := ((p' (findKey Try.prog (envW [(30,cCr q0 q1)] (hRd q2 q3 q0) [] default q4) 3 (z' q3.b) (mE aggK q5.m) 0 = AP.ret (AR' (z' q3.b) (mE aggK q5.m) 0))).a (f' (Wk (BY' (AR' (z' q3.b) (mE aggK q5.m) 0) (Value.agg (Array.mk [Value.int IntKind.i64 (Int.ofNat 0),Value.int IntKind.i64 (Int.ofNat 0),Value.int IntKind.i64 (Int.ofNat 0),Value.int IntKind.i64 (Int.ofNat 0),Value.string y0',Value.string y0',Value.int IntKind.i64 (Int.ofNat 0),Value.string y0',Value.string y0',Value.slice none 0 0,Value.int IntKind.i64 (Int.ofNat 0),Value.int IntKind.i64 (Int.ofNat 0),Value.string y0',Value.string y0',Value.string y0',Value.string y0',Value.int IntKind.i64 (Int.ofNat 0),Value.string y0',Value.string y0',Value.string y0',Value.int IntKind.i64 (Int.ofNat 0),Value.int IntKind.i64 (Int.ofNat 0),Value.slice none 0 0,Value.bool false,Value.bool false]))) (AV.agg [z' q0.sq,z' q0.gh,z' q0.bo,z' q0.si,s' q0.ex,s' q0.ke,z' q0.fl,s' q0.ct,s' q0.ce,AV.v (Value.slice q0.ha (List.length q0.f) q0.hc),z' q0.dm,z' q0.pr,s' q0.s1,s' q0.s2,s' q0.s3,s' q0.s4,z' q0.ts,s' q0.s5,s' q0.s6,s' q0.s7,z' q0.xp,z' q0.pi,AV.v (Value.slice q0.ta q0.tr.length q0.tc),b' q0.du,b' q0.re]))))
abbrev h78' (q0 q1 : Nat) (q2 : List It) (q3 : It) (z : Cnd) : Cnd := ((wb' (decide (Int.ofNat q0 < Int.ofNat q1)) j').a ((f' (q0.blt q1 = true)).a (((p' ((List.take 3 (List.drop (0 + q0 * 3) (rowV Rk.enc q2))).length.beq 3 = true)).a ((p' (List.take 3 (List.drop (0 + q0 * 3) (rowV Rk.enc q2)) = [AV.v (Value.int IntKind.i64 ((List.take 3 (List.drop (0 + q0 * 3) (rowV Rk.enc q2))).getD 0 (u')).intOf),AV.v (Value.int IntKind.i64 ((List.take 3 (List.drop (0 + q0 * 3) (rowV Rk.enc q2))).getD 1 (u')).intOf),AV.v (Value.int IntKind.i64 ((List.take 3 (List.drop (0 + q0 * 3) (rowV Rk.enc q2))).getD 2 (u')).intOf)])).a (f' (Wk (AV.agg [AV.v (Value.int IntKind.i64 ((List.take 3 (List.drop (0 + q0 * 3) (rowV Rk.enc q2))).getD 0 (u')).intOf),AV.v (Value.int IntKind.i64 ((List.take 3 (List.drop (0 + q0 * 3) (rowV Rk.enc q2))).getD 1 (u')).intOf),AV.v (Value.int IntKind.i64 ((List.take 3 (List.drop (0 + q0 * 3) (rowV Rk.enc q2))).getD 2 (u')).intOf)]) (AV.agg [z' q3.a,z' q3.b,z' q3.c]))))).a ((fe' true).a ((fe' true).a ((ee' (z' q3.b)).a z))))))
theorem dG' (s : Qs) (P : Mem -> Prop) (I : List It) (n j : Nat) (it : It) (c : Kc) (F : HP) : BI' [(fCd, cCr c P)] (hRd j it c) [] default AJ' (AB' AJ' 2) (tms 0 28 (aRd n j nilS)) (oRd s P (rI3 I) dumZ) kF iRd F = VT.leaf (AX.normal,[AV.ptr 0 0,AV.slice 1102 0 1 25 (Cp.lo 1),AV.slice 1005 0 n 3 (Cp.lo n),i' n,i' (j + 1)],28) [some (AO.cells [z' s.cf.t1,z' s.cf.t2,z' s.cf.ml,z' s.cf.mp,s' s.cf.a1,s' s.cf.a2,s' s.cf.a3,b' s.cf.b1,b' s.cf.b2,b' s.cf.b3,AV.map 1001,AV.ptr 1003 0,AV.map 1004,z' s.la,e'] 128),some (AO.map (mE aggK s.m) s.ck),some (AO.any (frz P)),some (AO.own (Md.line s.L) (Rk.lH s.L)),some (AO.map (mE iv s.o) s.ok),some (AO.cells (rowV Rk.enc I) 142),some (AO.any (frz fun x => True)),some (AO.cells [z' it.a,z' it.b,z' it.c] 142),some (AO.cells [z' c.sq,z' c.gh,z' c.bo,z' c.si,s' c.ex,s' c.ke,z' c.fl,s' c.ct,s' c.ce,AV.un,z' c.dm,z' c.pr,s' c.s1,s' c.s2,s' c.s3,s' c.s4,z' c.ts,s' c.s5,s' c.s6,s' c.s7,z' c.xp,z' c.pi,AV.un,b' c.du,b' c.re] 82),some (AO.cells [z' c.sq,z' c.gh,z' c.bo,z' c.si,s' c.ex,s' c.ke,z' c.fl,s' c.ct,s' c.ce,AV.un,z' c.dm,z' c.pr,s' c.s1,s' c.s2,s' c.s3,s' c.s4,z' c.ts,s' c.s5,s' c.s6,s' c.s7,z' c.xp,z' c.pi,AV.un,b' c.du,b' c.re] 82),none,none,none] 1103 (h78' j n I it ((k77' c P j it F s).a (h76' c P j k1'))) := χ
abbrev k79' (q0 : Nat) (q1 : List Kc) : Cnd := (tt'.a (tt'.a (tt'.a (tt'.a ((p' ((0 + q0 * 25).ble (rowU q1).length = true)).a ((p' (((q0 + 1) * 320).ble 140737488355328 = true)).a ((p' ((q0 + 1).ble 9223372036854775807 = true)).a (f' ((List.take (q0 * 25) (List.drop 0 (rowU q1))).length.beq (q0 * 25) = true)))))))))
theorem dF' (s : Qs) (P : Mem -> Prop) (I : List It) (n j m : Nat) (it : It) (c : Kc) (R : List Kc) (F : HP) : BI' [(fCd, cCr c P)] (hRd j it c) [] default AJ' (AB' AJ' 2) (tms 0 28 (aRd n j (slR 1006 m))) (oRd s P (rI3 I) (.cells (rowU R) tKc)) kF iRd F = VT.leaf (AX.normal,[AV.ptr 0 0,AV.slice 1102 0 (m + 1) 25 (Cp.lo (m + 1)),AV.slice 1005 0 n 3 (Cp.lo n),i' n,i' (j + 1)],28) [some (AO.cells [z' s.cf.t1,z' s.cf.t2,z' s.cf.ml,z' s.cf.mp,s' s.cf.a1,s' s.cf.a2,s' s.cf.a3,b' s.cf.b1,b' s.cf.b2,b' s.cf.b3,AV.map 1001,AV.ptr 1003 0,AV.map 1004,z' s.la,e'] 128),some (AO.map (mE aggK s.m) s.ck),some (AO.any (frz P)),some (AO.own (Md.line s.L) (Rk.lH s.L)),some (AO.map (mE iv s.o) s.ok),some (AO.cells (rowV Rk.enc I) 142),none,some (AO.cells [z' it.a,z' it.b,z' it.c] 142),some (AO.cells [z' c.sq,z' c.gh,z' c.bo,z' c.si,s' c.ex,s' c.ke,z' c.fl,s' c.ct,s' c.ce,AV.un,z' c.dm,z' c.pr,s' c.s1,s' c.s2,s' c.s3,s' c.s4,z' c.ts,s' c.s5,s' c.s6,s' c.s7,z' c.xp,z' c.pi,AV.un,b' c.du,b' c.re] 82),some (AO.cells (List.take (m * 25) (List.drop 0 (rowU R)) ++ [z' c.sq,z' c.gh,z' c.bo,z' c.si,s' c.ex,s' c.ke,z' c.fl,s' c.ct,s' c.ce,AV.un,z' c.dm,z' c.pr,s' c.s1,s' c.s2,s' c.s3,s' c.s4,z' c.ts,s' c.s5,s' c.s6,s' c.s7,z' c.xp,z' c.pi,AV.un,b' c.du,b' c.re]) 82),none,none,none] 1103 (h78' j n I it ((k77' c P j it F s).a ((k73' c P).a ((k79' m R).a ((k22' j).a k1'))))) := χ
theorem dH' (s : Qs) (P : Mem -> Prop) (I O : AO) (n : Nat) (x : AV) (F : HP) : BI' [] (AN' [hf' AJ' 2 0]) [] default AJ' (AB' AJ' 2) (tms 0 28 (aRd n n x)) (oRd s P I O) kF iRd F = VT.leaf (AX.exit 0,[AV.ptr 0 0,getL [AV.ptr 0 0,a',x,a',a',a',a',a',a',AV.slice 1005 0 n 3 (Cp.lo n),i' n,i' n,g',a',a',a',a',a',a',a',a',a',a',a',a',a',a',a'] 2,AV.slice 1005 0 n 3 (Cp.lo n),i' n,i' n],28) [some (AO.cells [z' s.cf.t1,z' s.cf.t2,z' s.cf.ml,z' s.cf.mp,s' s.cf.a1,s' s.cf.a2,s' s.cf.a3,b' s.cf.b1,b' s.cf.b2,b' s.cf.b3,AV.map 1001,AV.ptr 1003 0,AV.map 1004,z' s.la,e'] 128),some (AO.map (mE aggK s.m) s.ck),some (AO.any (frz P)),some (AO.own (Md.line s.L) (Rk.lH s.L)),some (AO.map (mE iv s.o) s.ok),some I,some O,none,none,none,none,none,none] 1100 ((k24' n).a k1') := χ
def aOt (n j : Nat) (x : AV) : List (Nat × AV) := [(0, .ptr 0 0), (2, x), (10, .slice 1005 0 n 1 (.lo n)), (11, iv (Int.ofNat n)), (12, iv (Int.ofNat j))]
def hOt (j : Nat) (k : Int) (c : Kc) : AO' := AN' [ht' fOut 2 0, (fOut, 3, 1, hv (iv k)), (fOut, 4, 6, hv (aggK c)), (fOut, 5, 0, hv (iv (Int.ofNat (j + 1))))]
def iOt : List Nat := [0, 2, 10, 11, 12]
abbrev k80' (q0 : Kc) (q1 : Mem -> Prop) (q2 : Nat) (q3 : Int) (q4 : HP) (q5 : Qs) : Cnd := ((p' (findKey Try.prog (envW [(30,cCr q0 q1)] (hOt q2 q3 q0) [] default q4) 3 (z' q3) (mE aggK q5.m) 0 = AP.ret (AR' (z' q3) (mE aggK q5.m) 0))).a (f' (Wk (BY' (AR' (z' q3) (mE aggK q5.m) 0) (Value.agg (Array.mk [Value.int IntKind.i64 (Int.ofNat 0),Value.int IntKind.i64 (Int.ofNat 0),Value.int IntKind.i64 (Int.ofNat 0),Value.int IntKind.i64 (Int.ofNat 0),Value.string y0',Value.string y0',Value.int IntKind.i64 (Int.ofNat 0),Value.string y0',Value.string y0',Value.slice none 0 0,Value.int IntKind.i64 (Int.ofNat 0),Value.int IntKind.i64 (Int.ofNat 0),Value.string y0',Value.string y0',Value.string y0',Value.string y0',Value.int IntKind.i64 (Int.ofNat 0),Value.string y0',Value.string y0',Value.string y0',Value.int IntKind.i64 (Int.ofNat 0),Value.int IntKind.i64 (Int.ofNat 0),Value.slice none 0 0,Value.bool false,Value.bool false]))) (AV.agg [z' q0.sq,z' q0.gh,z' q0.bo,z' q0.si,s' q0.ex,s' q0.ke,z' q0.fl,s' q0.ct,s' q0.ce,AV.v (Value.slice q0.ha (List.length q0.f) q0.hc),z' q0.dm,z' q0.pr,s' q0.s1,s' q0.s2,s' q0.s3,s' q0.s4,z' q0.ts,s' q0.s5,s' q0.s6,s' q0.s7,z' q0.xp,z' q0.pi,AV.v (Value.slice q0.ta q0.tr.length q0.tc),b' q0.du,b' q0.re]))))
abbrev k81' (q0 : Nat) (q1 : List Int) (q2 : Int) : Cnd := ((p' ((0 + q0 * 1).blt (vmap (List.map encZ q1)).length = true)).a ((p' ((vmap (List.map encZ q1)).getD (0 + q0 * 1) (u') = AV.v (Value.int IntKind.i64 ((vmap (List.map encZ q1)).getD (0 + q0 * 1) (u')).intOf))).a (f' (Wk (AV.v (Value.int IntKind.i64 ((vmap (List.map encZ q1)).getD (0 + q0 * 1) (u')).intOf)) (z' q2)))))
theorem dO' (s : Qs) (P : Mem -> Prop) (I : List Int) (n j : Nat) (k : Int) (c : Kc) (F : HP) : BI' [(fCd, cCr c P)] (hOt j k c) [] default fOut (AB' fOut 2) (tms 0 28 (aOt n j nilS)) (oRd s P (rZ I) dumZ) kF iOt F = VT.leaf (AX.normal,[AV.ptr 0 0,AV.slice 1101 0 1 25 (Cp.lo 1),AV.slice 1005 0 n 1 (Cp.lo n),i' n,i' (j + 1)],28) [some (AO.cells [z' s.cf.t1,z' s.cf.t2,z' s.cf.ml,z' s.cf.mp,s' s.cf.a1,s' s.cf.a2,s' s.cf.a3,b' s.cf.b1,b' s.cf.b2,b' s.cf.b3,AV.map 1001,AV.ptr 1003 0,AV.map 1004,z' s.la,e'] 128),some (AO.map (mE aggK s.m) s.ck),some (AO.any (frz P)),some (AO.own (Md.line s.L) (Rk.lH s.L)),some (AO.map (mE iv s.o) s.ok),some (AO.cells (vmap (List.map encZ I)) 6),some (AO.any (frz fun x => True)),some (AO.cells [z' c.sq,z' c.gh,z' c.bo,z' c.si,s' c.ex,s' c.ke,z' c.fl,s' c.ct,s' c.ce,AV.un,z' c.dm,z' c.pr,s' c.s1,s' c.s2,s' c.s3,s' c.s4,z' c.ts,s' c.s5,s' c.s6,s' c.s7,z' c.xp,z' c.pi,AV.un,b' c.du,b' c.re] 82),some (AO.cells [z' c.sq,z' c.gh,z' c.bo,z' c.si,s' c.ex,s' c.ke,z' c.fl,s' c.ct,s' c.ce,AV.un,z' c.dm,z' c.pr,s' c.s1,s' c.s2,s' c.s3,s' c.s4,z' c.ts,s' c.s5,s' c.s6,s' c.s7,z' c.xp,z' c.pi,AV.un,b' c.du,b' c.re] 82),none,none,none,none] 1102 (h23' j n ((k81' j I k).a (k12'.a ((k80' c P j k F s).a (h76' c P j k1'))))) := χ
theorem dN' (s : Qs) (P : Mem -> Prop) (I : List Int) (n j m : Nat) (k : Int) (c : Kc) (R : List Kc) (F : HP) : BI' [(fCd, cCr c P)] (hOt j k c) [] default fOut (AB' fOut 2) (tms 0 28 (aOt n j (slR 1006 m))) (oRd s P (rZ I) (.cells (rowU R) tKc)) kF iOt F = VT.leaf (AX.normal,[AV.ptr 0 0,AV.slice 1101 0 (m + 1) 25 (Cp.lo (m + 1)),AV.slice 1005 0 n 1 (Cp.lo n),i' n,i' (j + 1)],28) [some (AO.cells [z' s.cf.t1,z' s.cf.t2,z' s.cf.ml,z' s.cf.mp,s' s.cf.a1,s' s.cf.a2,s' s.cf.a3,b' s.cf.b1,b' s.cf.b2,b' s.cf.b3,AV.map 1001,AV.ptr 1003 0,AV.map 1004,z' s.la,e'] 128),some (AO.map (mE aggK s.m) s.ck),some (AO.any (frz P)),some (AO.own (Md.line s.L) (Rk.lH s.L)),some (AO.map (mE iv s.o) s.ok),some (AO.cells (vmap (List.map encZ I)) 6),none,some (AO.cells [z' c.sq,z' c.gh,z' c.bo,z' c.si,s' c.ex,s' c.ke,z' c.fl,s' c.ct,s' c.ce,AV.un,z' c.dm,z' c.pr,s' c.s1,s' c.s2,s' c.s3,s' c.s4,z' c.ts,s' c.s5,s' c.s6,s' c.s7,z' c.xp,z' c.pi,AV.un,b' c.du,b' c.re] 82),some (AO.cells (List.take (m * 25) (List.drop 0 (rowU R)) ++ [z' c.sq,z' c.gh,z' c.bo,z' c.si,s' c.ex,s' c.ke,z' c.fl,s' c.ct,s' c.ce,AV.un,z' c.dm,z' c.pr,s' c.s1,s' c.s2,s' c.s3,s' c.s4,z' c.ts,s' c.s5,s' c.s6,s' c.s7,z' c.xp,z' c.pi,AV.un,b' c.du,b' c.re]) 82),none,none,none,none] 1102 (h23' j n ((k81' j I k).a (k12'.a ((k80' c P j k F s).a ((k73' c P).a ((k79' m R).a ((k22' j).a k1'))))))) := χ
theorem dP' (s : Qs) (P : Mem -> Prop) (I O : AO) (n : Nat) (x : AV) (F : HP) : BI' [] (AN' [hf' fOut 2 0]) [] default fOut (AB' fOut 2) (tms 0 28 (aOt n n x)) (oRd s P I O) kF iOt F = VT.leaf (AX.exit 0,[AV.ptr 0 0,getL [AV.ptr 0 0,a',x,a',a',a',a',a',a',a',AV.slice 1005 0 n 1 (Cp.lo n),i' n,i' n,g',a',a',a',a',a',a',a',a',a',a',a',a',a',a'] 2,AV.slice 1005 0 n 1 (Cp.lo n),i' n,i' n],28) [some (AO.cells [z' s.cf.t1,z' s.cf.t2,z' s.cf.ml,z' s.cf.mp,s' s.cf.a1,s' s.cf.a2,s' s.cf.a3,b' s.cf.b1,b' s.cf.b2,b' s.cf.b3,AV.map 1001,AV.ptr 1003 0,AV.map 1004,z' s.la,e'] 128),some (AO.map (mE aggK s.m) s.ck),some (AO.any (frz P)),some (AO.own (Md.line s.L) (Rk.lH s.L)),some (AO.map (mE iv s.o) s.ok),some I,some O,none,none,none,none,none,none] 1100 ((k24' n).a k1') := χ
end
open Rk (lO itA BZ' putL GZ' remK)
def cAt (s : Qs) (k : Int) : Kc := (AG' k s.m).getD kz
theorem GH' {k : Nat} {R : List Kc} (h : R ≠ []) : xRk k R = slR k R.length /\ rO R = .cells (rowU R) tKc := by
 cases R with
 | nil => exact absurd rfl h
 | cons c R => exact ⟨rfl, rfl⟩
def uI (s : Qs) (P : Mem -> Prop) (I : AO) : LH := [(0, qC s.cf s.la), (1001, .map (mE aggK s.m) s.ck), (1002, .any (frz P)), (1003, lO s.L), (1004, .map (mE iv s.o) s.ok), (1005, I)]
def uO (s : Qs) (P : Mem -> Prop) (O : AO) : LH := [(0, qC s.cf s.la), (1001, .map (mE aggK s.m) s.ck), (1002, .any (frz P)), (1003, lO s.L), (1004, .map (mE iv s.o) s.ok), (1006, O)]
theorem WL' {vs : List AV} (s : Qs) (P : Mem -> Prop) (I : AO) : Goes vs (uI s P I) vs (oRd s P I dumZ) := CC' (k := 1006) (fun C => trivial) rfl rfl rfl δ rfl (fun n hn => by
 simp only [uI, oRd, getO]
 by_cases e0 : n = 0
 ·simp only [if_pos e0]
 ·by_cases e1 : n = 1001
  ·simp only [if_neg e0, if_pos e1]
  ·by_cases e2 : n = 1002
   ·simp only [if_neg e0, if_neg e1, if_pos e2]
   ·by_cases e3 : n = 1003
    ·simp only [if_neg e0, if_neg e1, if_neg e2, if_pos e3]
    ·by_cases e4 : n = 1004
     ·simp only [if_neg e0, if_neg e1, if_neg e2, if_neg e3, if_pos e4]
     ·by_cases e5 : n = 1005
      ·simp only [if_neg e0, if_neg e1, if_neg e2, if_neg e3, if_neg e4, if_pos e5]
      ·simp only [if_neg e0, if_neg e1, if_neg e2, if_neg e3, if_neg e4, if_neg e5, if_neg hn])
theorem S9' (K : Nat -> Bool) (I : List It) : (rI3 I).cl K := DP' K I
theorem rZ_cl (K : Nat -> Bool) (I : List Int) : (rZ I).cl K := HF' K _
theorem EF' (σ : Nat -> Nat) (I : List It) : AO.ren σ (rI3 I) = rI3 I := by simp only [rI3, AO.ren, BG']
theorem aJ' (σ : Nat -> Nat) (I : List Int) : AO.ren σ (rZ I) = rZ I := by simp only [rZ, AO.ren, BN']
theorem bJ' {I : List Int} {j : Nat} {k : Int} (h : I[j]? = some k) : (vmap (I.map encZ)).getD (0 + j * 1) AV.undef = iv k := by
 rw [Nat.zero_add, Nat.mul_one]; simp [vmap, List.getD, List.getElem?_map, h]; rfl
theorem N4' (I : List Int) : (vmap (I.map encZ)).length = I.length := by simp [vmap]
theorem VY' {I : List It} {j : Nat} {it : It} (h : I[j]? = some it) : List.take 3 (List.drop (0 + j * 3) (rowV Rk.enc I)) = vmap (Rk.enc it) := by
 obtain ⟨hj, hi⟩ := List.getElem?_eq_some_iff.1 h; rw [Nat.zero_add, KU' Rk.enc_length I it j hj, List.getD, h]; rfl
theorem fD' (s : Qs) (P : Mem -> Prop) (d : Nat) (hP : ∀ C, P C -> PM d s.m C) (I : List It) (hb : I.length * 320 <= 140737488355328) (hI : ∀ x ∈ I, ∃ c, AG' x.b s.m = some c) :
  LTri Θ default (AB' AJ' 2) (tms 0 28 (aRd I.length 0 nilS)) (uI s P (rI3 I)) (.exit 0) (tms 0 28 [(2, xRk 1006 (I.map fun x => cAt s x.b))]) (uO s P (rO (I.map fun x => cAt s x.b))) := by
 refine LTri.pre (WL' s P _) ?_
 obtain ⟨R, hR⟩ : ∃ R, R = I.map fun x => cAt s x.b := ⟨_, rfl⟩
 rw [<- hR]
 have hRl : R.length = I.length := by rw [hR, List.length_map]
 refine EU' (W := default) (g := AJ') (b := AB' AJ' 2) (σ := {j : Nat // j <= I.length}) 28 (fun z => aRd I.length z.1 (xRk 1006 (R.take z.1))) (fun z => oRd s P (rI3 I) (rO (R.take z.1))) (.exit 0) [(2, xRk 1006 R)] (uO s P (rO R)) (fun z => I.length - z.1) kF iRd (by intro h; cases h) (fun _ => rfl) ?_ ⟨0, Nat.zero_le _⟩; rintro ⟨j, hj⟩; simp only at hj ⊢
 by_cases h1 : j < I.length
 ·obtain ⟨x, hx⟩ := BP' h1; obtain ⟨c, hc⟩ := hI x (List.mem_of_getElem? hx)
  have hxc : R[j]? = some c := by rw [hR, List.getElem?_map, hx]; simp only [Option.map_some, cAt, hc, Option.getD_some]
  have hnx := D8' hxc; have hw := BM' j ω; have e1 : decide (Int.ofNat j < Int.ofNat I.length) = true := ltT h1; have h2 := LJ' hc; have hcs := VY' hx; have h1' := h1
  refine ⟨[(fCd, cCr c P)], hRd j x c, [], fun F hF => CR' (WZ' (fun C h => (hP C h).look hc) F), fun _ _ => noL, fun F => ?_⟩
  rcases Nat.eq_zero_or_pos j with rfl | hpos
  ·refine Yj (dG' s P I I.length 0 x c F) ⟨⟨?_, rfl, .inl ⟨rfl, aRd I.length 1 (xRk 1006 [c]), oRd s P (rI3 I) (rO [c]), [(1001, 1001), (1002, 1002), (1003, 1003), (1004, 1004), (1005, 1005), (1006, 1102)], rfl, ⟨χ, by kernel_rfl, ⟨Ya, Ya, Ya, Ya, Ya, Ye⟩, ⟨_, rfl, Yc⟩, ⟨_, rfl, OW.of_eq (by simp only [AO.ren, BH'])⟩, ⟨_, rfl, Yc⟩, ⟨_, rfl, Yc⟩, ⟨_, rfl, OW.of_eq (by simp only [AO.ren, BJ'])⟩, ⟨_, rfl, OW.of_eq (EF' _ I).symm⟩, ⟨_, rfl, OW.of_eq (by rw [JU']; show _ = AO.cells (rowU [c]) tKc; rw [KC']; rfl)⟩, Ye⟩, fun W0 F N ys w hs => ?_⟩⟩⟩
   ·exact Cb8'
   ·refine ⟨⟨1, h1⟩, BR' h1, ?_⟩; show St _ _ _ (oRd s P (rI3 I) (rO (R.take (0 + 1)))) (tms 0 28 (aRd I.length (0 + 1) (xRk 1006 (R.take (0 + 1))))) _ _; rw [hnx]; exact hs
  ·obtain ⟨m, hm⟩ : ∃ m, R.take j = m := ⟨_, rfl⟩
   have hml : m.length = j := by rw [<- hm, List.length_take]; omega
   have hne : m ≠ [] := fun e => by rw [e] at hml; simp at hml; omega
   obtain ⟨x1, x2⟩ := GH' (k := 1006) hne; rw [hm, x1, x2, hml]
   have k1 : (0 + j * 25).ble (rowU m).length = true := by rw [DT', hml, Nat.ble_eq]; omega
   have k2 : ((j + 1) * 320).ble 140737488355328 = true := by rw [Nat.ble_eq]; omega
   have k3 : (j + 1).ble 9223372036854775807 = true := by rw [Nat.ble_eq]; omega
   have ktk : List.take (j * 25) (List.drop 0 (rowU m)) = rowU m := by rw [List.drop_zero, <- hml, KW', List.take_length]
   have k4 : (List.take (j * 25) (List.drop 0 (rowU m))).length.beq (j * 25) = true := by rw [ktk, DT', hml]; exact Nat.beq_refl _
   have hcc : rO (m ++ [c]) = .cells (rowU (m ++ [c])) tKc := (GH' (k := 1006) (by simp)).2
   have hcx : xRk 1006 (m ++ [c]) = slR 1006 (j + 1) := by rw [(GH' (k := 1006) (by simp)).1, List.length_append, hml]; rfl
   refine Yj (dF' s P I I.length j j x c m F) ⟨⟨?_, rfl, .inl ⟨rfl, aRd I.length (j + 1) (slR 1006 (j + 1)), oRd s P (rI3 I) (.cells (rowU m ++ uC c) tKc), [(1001, 1001), (1002, 1002), (1003, 1003), (1004, 1004), (1005, 1005), (1006, 1102)], rfl, ⟨χ, by kernel_rfl, ⟨Ya, Ya, Ya, Ya, Ya, Ye⟩, ⟨_, rfl, Yc⟩, ⟨_, rfl, OW.of_eq (by simp only [AO.ren, BH'])⟩, ⟨_, rfl, Yc⟩, ⟨_, rfl, Yc⟩, ⟨_, rfl, OW.of_eq (by simp only [AO.ren, BJ'])⟩, ⟨_, rfl, OW.of_eq (EF' _ I).symm⟩, ⟨_, rfl, OW.of_eq (by rw [ktk]; simp only [AO.ren, D9', ER', QF']; rfl)⟩, Ye⟩, fun W0 F N ys w hs => ?_⟩⟩⟩
   ·exact Cb9'
   ·refine ⟨⟨j + 1, h1⟩, BR' h1, ?_⟩; simp only; rw [hnx, hm, hcc, hcx, KX', KC']; exact hs
 ·have hje : j = I.length := ω
  subst hje
  have hall : R.take I.length = R := by rw [<- hRl, List.take_length]
  rw [hall]
  refine ⟨[], AN' [hf' AJ' 2 0], [], fun _ _ => noC, fun _ _ => noL, fun F => ?_⟩
  refine Yj (dH' s P (rI3 I) (rO R) I.length (xRk 1006 R) F) ⟨⟨?_, rfl, .inr ⟨rfl, [(2, xRk 1006 R)], uO s P (rO R), [(1001, 1001), (1002, 1002), (1003, 1003), (1004, 1004), (1006, 1006)], rfl, ⟨χ, by kernel_rfl, ⟨?_, Ye⟩, ⟨_, rfl, Yc⟩, ⟨_, rfl, OW.of_eq (by simp only [AO.ren, BH'])⟩, ⟨_, rfl, Yc⟩, ⟨_, rfl, Yc⟩, ⟨_, rfl, OW.of_eq (by simp only [AO.ren, BJ'])⟩, ⟨_, rfl, OW.of_eq (JU' _ R).symm⟩, Ye⟩, fun W0 F N ys w hs => hs⟩⟩⟩
  ·simp only [Cnd.holds, and_true]; exact AC' ltF
  ·rw [aI']; exact Ya
theorem fE' (s : Qs) (P : Mem -> Prop) (d : Nat) (hP : ∀ C, P C -> PM d s.m C) (I : List Int) (hb : I.length * 320 <= 140737488355328) (hI : ∀ x ∈ I, ∃ c, AG' x s.m = some c) :
  LTri Θ default (AB' fOut 2) (tms 0 28 (aOt I.length 0 nilS)) (uI s P (rZ I)) (.exit 0) (tms 0 28 [(2, xRk 1006 (I.map fun x => cAt s x))]) (uO s P (rO (I.map fun x => cAt s x))) := by
 refine LTri.pre (WL' s P _) ?_
 obtain ⟨R, hR⟩ : ∃ R, R = I.map fun x => cAt s x := ⟨_, rfl⟩
 rw [<- hR]
 have hRl : R.length = I.length := by rw [hR, List.length_map]
 refine EU' (W := default) (g := fOut) (b := AB' fOut 2) (σ := {j : Nat // j <= I.length}) 28 (fun z => aOt I.length z.1 (xRk 1006 (R.take z.1))) (fun z => oRd s P (rZ I) (rO (R.take z.1))) (.exit 0) [(2, xRk 1006 R)] (uO s P (rO R)) (fun z => I.length - z.1) kF iOt (by intro h; cases h) (fun _ => rfl) ?_ ⟨0, Nat.zero_le _⟩; rintro ⟨j, hj⟩; simp only at hj ⊢
 by_cases h1 : j < I.length
 ·obtain ⟨x, hx⟩ := BP' h1; obtain ⟨c, hc⟩ := hI x (List.mem_of_getElem? hx)
  have hxc : R[j]? = some c := by rw [hR, List.getElem?_map, hx]; simp only [Option.map_some, cAt, hc, Option.getD_some]
  have hnx := D8' hxc; have hw := BM' j ω; have e1 : decide (Int.ofNat j < Int.ofNat I.length) = true := ltT h1; have h2 := LJ' hc; have hcs := bJ' hx; have h1' := h1
  refine ⟨[(fCd, cCr c P)], hOt j x c, [], fun F hF => CR' (WZ' (fun C h => (hP C h).look hc) F), fun _ _ => noL, fun F => ?_⟩
  rcases Nat.eq_zero_or_pos j with rfl | hpos
  ·refine Yj (dO' s P I I.length 0 x c F) ⟨⟨?_, rfl, .inl ⟨rfl, aOt I.length 1 (xRk 1006 [c]), oRd s P (rZ I) (rO [c]), [(1001, 1001), (1002, 1002), (1003, 1003), (1004, 1004), (1005, 1005), (1006, 1101)], rfl, ⟨χ, by kernel_rfl, ⟨Ya, Ya, Ya, Ya, Ya, Ye⟩, ⟨_, rfl, Yc⟩, ⟨_, rfl, OW.of_eq (by simp only [AO.ren, BH'])⟩, ⟨_, rfl, Yc⟩, ⟨_, rfl, Yc⟩, ⟨_, rfl, OW.of_eq (by simp only [AO.ren, BJ'])⟩, ⟨_, rfl, OW.of_eq (aJ' _ I).symm⟩, ⟨_, rfl, OW.of_eq (by rw [JU']; show _ = AO.cells (rowU [c]) tKc; rw [KC']; rfl)⟩, Ye⟩, fun W0 F N ys w hs => ?_⟩⟩⟩
   ·exact Cb8'
   ·refine ⟨⟨1, h1⟩, BR' h1, ?_⟩; show St _ _ _ (oRd s P (rZ I) (rO (R.take (0 + 1)))) (tms 0 28 (aOt I.length (0 + 1) (xRk 1006 (R.take (0 + 1))))) _ _; rw [hnx]; exact hs
  ·obtain ⟨m, hm⟩ : ∃ m, R.take j = m := ⟨_, rfl⟩
   have hml : m.length = j := by rw [<- hm, List.length_take]; omega
   have hne : m ≠ [] := fun e => by rw [e] at hml; simp at hml; omega
   obtain ⟨x1, x2⟩ := GH' (k := 1006) hne; rw [hm, x1, x2, hml]
   have k1 : (0 + j * 25).ble (rowU m).length = true := by rw [DT', hml, Nat.ble_eq]; omega
   have k2 : ((j + 1) * 320).ble 140737488355328 = true := by rw [Nat.ble_eq]; omega
   have k3 : (j + 1).ble 9223372036854775807 = true := by rw [Nat.ble_eq]; omega
   have ktk : List.take (j * 25) (List.drop 0 (rowU m)) = rowU m := by rw [List.drop_zero, <- hml, KW', List.take_length]
   have k4 : (List.take (j * 25) (List.drop 0 (rowU m))).length.beq (j * 25) = true := by rw [ktk, DT', hml]; exact Nat.beq_refl _
   have hcc : rO (m ++ [c]) = .cells (rowU (m ++ [c])) tKc := (GH' (k := 1006) (by simp)).2
   have hcx : xRk 1006 (m ++ [c]) = slR 1006 (j + 1) := by rw [(GH' (k := 1006) (by simp)).1, List.length_append, hml]; rfl
   refine Yj (dN' s P I I.length j j x c m F) ⟨⟨?_, rfl, .inl ⟨rfl, aOt I.length (j + 1) (slR 1006 (j + 1)), oRd s P (rZ I) (.cells (rowU m ++ uC c) tKc), [(1001, 1001), (1002, 1002), (1003, 1003), (1004, 1004), (1005, 1005), (1006, 1101)], rfl, ⟨χ, by kernel_rfl, ⟨Ya, Ya, Ya, Ya, Ya, Ye⟩, ⟨_, rfl, Yc⟩, ⟨_, rfl, OW.of_eq (by simp only [AO.ren, BH'])⟩, ⟨_, rfl, Yc⟩, ⟨_, rfl, Yc⟩, ⟨_, rfl, OW.of_eq (by simp only [AO.ren, BJ'])⟩, ⟨_, rfl, OW.of_eq (aJ' _ I).symm⟩, ⟨_, rfl, OW.of_eq (by rw [ktk]; simp only [AO.ren, D9', ER', QF']; rfl)⟩, Ye⟩, fun W0 F N ys w hs => ?_⟩⟩⟩
   ·exact Cb9'
   ·refine ⟨⟨j + 1, h1⟩, BR' h1, ?_⟩; simp only; rw [hnx, hm, hcc, hcx, KX', KC']; exact hs
 ·have hje : j = I.length := ω
  subst hje
  have hall : R.take I.length = R := by rw [<- hRl, List.take_length]
  rw [hall]
  refine ⟨[], AN' [hf' fOut 2 0], [], fun _ _ => noC, fun _ _ => noL, fun F => ?_⟩
  refine Yj (dP' s P (rZ I) (rO R) I.length (xRk 1006 R) F) ⟨⟨?_, rfl, .inr ⟨rfl, [(2, xRk 1006 R)], uO s P (rO R), [(1001, 1001), (1002, 1002), (1003, 1003), (1004, 1004), (1006, 1006)], rfl, ⟨χ, by kernel_rfl, ⟨?_, Ye⟩, ⟨_, rfl, Yc⟩, ⟨_, rfl, OW.of_eq (by simp only [AO.ren, BH'])⟩, ⟨_, rfl, Yc⟩, ⟨_, rfl, Yc⟩, ⟨_, rfl, OW.of_eq (by simp only [AO.ren, BJ'])⟩, ⟨_, rfl, OW.of_eq (JU' _ R).symm⟩, Ye⟩, fun W0 F N ys w hs => hs⟩⟩⟩
  ·simp only [Cnd.holds, and_true]; exact AC' ltF
  ·rw [aI']; exact Ya
open Rk (lO itA BZ' putL GZ' remK)
theorem NH' {cs cs' : List AV} {e : TypeId} (h : VW cs cs') (hl : cs.length = cs'.length) : OW (.cells cs e) (.cells cs' e) := by
 intro N i D w ⟨l, arr, fz, h1, h2, h3, h4, h5, h6, h7, h8⟩
 refine ⟨l, arr, fz, h1, h2, h3, h4, by rw [<- hl]; exact h5, h6, ?_, h8⟩
 rw [<- hl]; exact h _ _ h7
def want (now : Int) (c : Kc) : Bool := decide (0 <= c.xp) && decide (c.xp <= now)
open Rk (lO itA BZ' putL GZ' remK)
noncomputable section
def cIt (L : List It) (n : Nat) : List AV -> Option (AP AV) := mkC gP1 (fun _ => True) nmP (fun _ => [.ptr 0 0]) (fun _ => [(0, lO L)]) (fun _ => .leaf .ret [.slice 1000 0 n 3 (.lo n)] [(0, lO L), (1000, rI3 L)])
def cIt0 : List AV -> Option (AP AV) := mkC gP1 (fun _ => True) nmP (fun _ => [.ptr 0 0]) (fun _ => [(0, lO [])]) (fun _ => .leaf .ret [.mt] [(0, lO [])])
def gSo : List AV -> AP Nat := fun args => match args with
 | [.func _ _ (.ptr i _ :: _)] => .ret i
 | _ => .fail "sorted"
def nmS (i : Nat) : Nat -> Nat := fun k => match k with | 0 => i | 1 => 1004 | k => k
def cSo (o : IMap Int) (ck n : Nat) : List AV -> Option (AP AV) := mkC gSo (fun _ => True) nmS (fun _ => [.func (.func WC') [] [.ptr 0 0]]) (fun _ => [(0, .cells [.map 1] (2 * 62)), (1, .map (mE iv o) ck)]) (fun _ => .leaf .ret [.slice 1000 0 n 1 (.lo n)] [(0, .cells [.map 1] (2 * 62)), (1, .map (mE iv o) ck), (1000, rZ (BE' o))])
def cSo0 (ck : Nat) : List AV -> Option (AP AV) := mkC gSo (fun _ => True) nmS (fun _ => [.func (.func WC') [] [.ptr 0 0]]) (fun _ => [(0, .cells [.map 1] (2 * 62)), (1, .map [] ck)]) (fun _ => .leaf .ret [.v (.slice none 0 0)] [(0, .cells [.map 1] (2 * 62)), (1, .map [] ck)])
def gLp (k : Nat) : List AV -> AP Nat := fun tmps => match getL tmps k with
 | .slice i _ _ _ _ => .ret i
 | _ => .fail "items"
def nmL (i : Nat) : Nat -> Nat := fun k => match Nat.beq k 1005 with | true => i | false => k
def lRd (s : Qs) (P : Mem -> Prop) (L : List It) (n : Nat) (x : AV) (O : AO) : List AV -> AP (AX × List AV) := mkL (gLp 9) (fun _ => True) nmL (fun _ => tms 0 28 (aRd n 0 nilS)) (fun _ => uI s P (rI3 L)) (fun _ => .leaf (.exit 0) (tms 0 28 [(2, x)]) (uO s P O))
def lOt (s : Qs) (P : Mem -> Prop) (I : List Int) (n : Nat) (x : AV) (O : AO) : List AV -> AP (AX × List AV) := mkL (gLp 10) (fun _ => True) nmL (fun _ => tms 0 28 (aOt n 0 nilS)) (fun _ => uI s P (rZ I)) (fun _ => .leaf (.exit 0) (tms 0 28 [(2, x)]) (uO s P O))
def kH : List Nat := [0, 1001, 1002, 1003, 1004, 1006, 1100, 1101, 1102, 1103, 1104, 1105, 1106, 1107]
theorem Y9' (s : Qs) (P : Mem -> Prop) (F : HP) : wRun [(BB', cIt0)] (AN' [hf' AJ' 2 0]) [] default AJ' [.ptr 0 0] (uQ { s with L := [] } P) kH F = VT.leaf (e') [some (AO.cells [z' s.cf.t1,z' s.cf.t2,z' s.cf.ml,z' s.cf.mp,s' s.cf.a1,s' s.cf.a2,s' s.cf.a3,b' s.cf.b1,b' s.cf.b2,b' s.cf.b3,AV.map 1001,AV.ptr 1003 0,AV.map 1004,z' s.la,e'] 128),some (AO.map (mE aggK s.m) s.ck),some (AO.any (frz P)),some (AO.own (Md.line []) (Rk.lH [])),some (AO.map (mE iv s.o) s.ok),none,none,none,none,none,none,none,none,none] 1100 (k12'.a (((Cnd.p True).a ((vw' [AV.ptr 1003 0]).a (f' (OW (AO.own (Md.line []) (Rk.lH [])) (AO.own (Md.line []) (Rk.lH [])))))).a (k31'.a k1'))) := χ
abbrev k82' (q0 : Qs) : Cnd := (ow' (AO.own (Md.line q0.L) (Rk.lH q0.L)))
abbrev k83' (q0 : Qs) (q1 : Nat) : Cnd := (p' (OW (AO.map (mE aggK q0.m) q0.ck) (AO.map (renE (nmL q1) (mE aggK q0.m)) q0.ck)))
abbrev k84' (q0 : Qs) (q1 q2 q3 : Nat) : Cnd := (ow' (AO.cells [z' q0.cf.t1,z' q0.cf.t2,z' q0.cf.ml,z' q0.cf.mp,s' q0.cf.a1,s' q0.cf.a2,s' q0.cf.a3,b' q0.cf.b1,b' q0.cf.b2,b' q0.cf.b3,AV.map q1,AV.ptr q2 0,AV.map q3,z' q0.la,e'] 128))
theorem SG' (s : Qs) (P : Mem -> Prop) (n : Nat) (O : AO) (F : HP) : wRun [(BB', cIt s.L n)] AF' [(AJ', 2, AB' AJ' 2, lRd s P s.L n (slR 1006 n) O)] default AJ' [.ptr 0 0] (uQ s P) kH F = VT.leaf (AV.slice 1105 0 n 25 (Cp.lo n)) [some (AO.cells [z' s.cf.t1,z' s.cf.t2,z' s.cf.ml,z' s.cf.mp,s' s.cf.a1,s' s.cf.a2,s' s.cf.a3,b' s.cf.b1,b' s.cf.b2,b' s.cf.b3,AV.map 1101,AV.ptr 1103 0,AV.map 1104,z' s.la,e'] 128),none,none,none,none,none,none,some (AO.map (renE (sgN (nmL 1100) [1001,1002,1003,1004,1006] 1101) (mE aggK s.m)) s.ck),some (AO.any (frz P)),some (AO.own (Md.line s.L) (Rk.lH s.L)),some (AO.map (renE (sgN (nmL 1100) [1001,1002,1003,1004,1006] 1101) (mE iv s.o)) s.ok),some (AO.ren (sgN (nmL 1100) [1001,1002,1003,1004,1006] 1101) O),none,none] 1106 (k12'.a ((k75' 1003 s).a ((p' ((AJ',2,AB' AJ' 2,lRd s P s.L n (slR 1006 n) O).snd.snd.fst = (AJ',2,AB' AJ' 2,lRd s P s.L n (slR 1006 n) O).snd.snd.fst)).a (k9'.a ((p' (VW (AV.ptr 0 0::u'::e'::u'::u'::AV.ptr 0 0::AV.ptr 0 0::AV.ptr 0 11::AV.ptr 1003 0::AV.slice 1100 0 n 3 (Cp.lo n)::z' ↑n::i' 0::ru16 ([])) (AV.ptr 0 0::a'::e'::ra4 (a'::a'::AV.slice 1100 0 n 3 (Cp.lo n)::i' n::i' 0::ra16 ([]))))).a ((k84' s 1001 1003 1004).a ((k83' s 1100).a ((ow' (AO.any (frz P))).a ((k82' s).a ((p' (OW (AO.map (mE iv s.o) s.ok) (AO.map (renE (nmL 1100) (mE iv s.o)) s.ok))).a ((p' (OW (AO.cells (AV.rens (sgN (nmP 1003) [1000] 1100) (rowV Rk.enc s.L)) 142) (AO.cells (AV.rens (nmL 1100) (rowV Rk.enc s.L)) 142))).a k1'))))))))))) := χ
theorem YD' (s : Qs) (P : Mem -> Prop) (F : HP) : wRun [(I2', cSo0 s.ok)] (AN' [hf' fOut 2 0]) [] default fOut [.ptr 0 0] (uQ { s with o := [] } P) kH F = VT.leaf (e') [some (AO.cells [z' s.cf.t1,z' s.cf.t2,z' s.cf.ml,z' s.cf.mp,s' s.cf.a1,s' s.cf.a2,s' s.cf.a3,b' s.cf.b1,b' s.cf.b2,b' s.cf.b3,AV.map 1001,AV.ptr 1003 0,AV.map 1004,z' s.la,e'] 128),some (AO.map (mE aggK s.m) s.ck),some (AO.any (frz P)),some (AO.own (Md.line s.L) (Rk.lH s.L)),some (AO.map [] s.ok),none,some (AO.cells [AV.map 1004] 124),none,none,none,none,none,none,none] 1101 (k12'.a (((Cnd.p True).a ((vw' [AV.func (Fn.func 54) [] [AV.ptr 1100 0]]).a ((ow' (AO.cells [AV.map 1004] 124)).a (f' (OW (AO.map [] s.ok) (AO.map [] s.ok)))))).a (k31'.a k1'))) := χ
theorem YC' (s : Qs) (P : Mem -> Prop) (n : Nat) (O : AO) (F : HP) : wRun [(I2', cSo s.o s.ok n)] AF' [(fOut, 2, AB' fOut 2, lOt s P (BE' s.o) n (slR 1006 n) O)] default fOut [.ptr 0 0] (uQ s P) kH F = VT.leaf (AV.slice 1106 0 n 25 (Cp.lo n)) [some (AO.cells [z' s.cf.t1,z' s.cf.t2,z' s.cf.ml,z' s.cf.mp,s' s.cf.a1,s' s.cf.a2,s' s.cf.a3,b' s.cf.b1,b' s.cf.b2,b' s.cf.b3,AV.map 1102,AV.ptr 1104 0,AV.map 1105,z' s.la,e'] 128),none,none,none,none,none,some (AO.cells [AV.map 1004] 124),none,some (AO.map (renE (sgN (nmL 1101) [1001,1002,1003,1004,1006] 1102) (mE aggK s.m)) s.ck),some (AO.any (frz P)),some (AO.own (Md.line s.L) (Rk.lH s.L)),some (AO.map (renE (sgN (nmL 1101) [1001,1002,1003,1004,1006] 1102) (mE iv s.o)) s.ok),some (AO.ren (sgN (nmL 1101) [1001,1002,1003,1004,1006] 1102) O),none] 1107 (k12'.a (((Cnd.p True).a ((vw' [AV.func (Fn.func 54) [] [AV.ptr 1100 0]]).a ((ow' (AO.cells [AV.map 1004] 124)).a (f' (OW (AO.map (mE iv s.o) s.ok) (AO.map (renE (nmS 1100) (mE iv s.o)) s.ok)))))).a ((p' ((fOut,2,AB' fOut 2,lOt s P (BE' s.o) n (slR 1006 n) O).snd.snd.fst = (fOut,2,AB' fOut 2,lOt s P (BE' s.o) n (slR 1006 n) O).snd.snd.fst)).a (k9'.a ((p' (VW (AV.ptr 0 0::u'::e'::u'::u'::AV.ptr 0 0::AV.ptr 0 0::AV.ptr 0 12::AV.map 1004::AV.func (Fn.func 54) [] [AV.ptr 1100 0]::AV.slice 1101 0 n 1 (Cp.lo n)::z' ↑n::i' 0::ru8 (ru4 (u'::u'::u'::[]))) (AV.ptr 0 0::a'::e'::ra4 (a'::a'::a'::AV.slice 1101 0 n 1 (Cp.lo n)::i' n::i' 0::ra8 (ra4 (a'::a'::a'::[])))))).a ((k84' s 1001 1003 1004).a ((k83' s 1101).a ((ow' (AO.any (frz P))).a ((k82' s).a ((p' (OW (AO.map (renE (sgN (nmS 1100) [1000] 1101) (mE iv s.o)) s.ok) (AO.map (renE (nmL 1101) (mE iv s.o)) s.ok))).a ((p' (OW (AO.cells (AV.rens (sgN (nmS 1100) [1000] 1101) (vmap (List.map encZ (List.brecOn (List.map (fun x => x.fst) s.o) (QA'._f leZ))))) 6) (AO.cells (AV.rens (nmL 1101) (vmap (List.map encZ (List.brecOn (List.map (fun x => x.fst) s.o) (QA'._f leZ))))) 6))).a k1'))))))))))) := χ
end
open Rk (lO itA BZ' putL GZ' remK)
theorem UN' : ∀ R : List Kc, rowU (R.map er) = rowU R
 | [] => rfl
 | c :: R => by rw [List.map_cons, CJ', CJ', UN' R]; rfl
theorem aA' (k : Nat) : ∀ R : List Kc, xRk k (R.map er) = xRk k R
 | [] => rfl
 | c :: R => by simp only [List.map_cons, xRk, List.length_map]
theorem rO_er : ∀ R : List Kc, rO (R.map er) = rO R
 | [] => rfl
 | c :: R => by
  show AO.cells (rowU ((c :: R).map er)) tKc = AO.cells (rowU (c :: R)) tKc; rw [UN']
theorem cAt_er {A s : Qs} (h : RQ A s) (k : Int) : cAt A k = er (cAt s k) := by
 unfold cAt; rw [<- h.2, SM']
 cases AG' k s.m <;> rfl
theorem VM' {A s : Qs} (h : RQ A s) {α : Type} (f : α -> Int) (I : List α) : (I.map fun x => cAt A (f x)) = (I.map fun x => cAt s (f x)).map er := by
 rw [List.map_map]
 exact List.map_congr_left fun x _ => cAt_er h (f x)
theorem bO' {K : Nat -> Bool} (h : K 1001 = true /\ K 1003 = true /\ K 1004 = true) (s : Qs) (P : Mem -> Prop) {I : AO} (hI : I.cl K) : ∀ x ∈ uI s P I, x.2.cl K :=
 A0' (T4' K h _ _) (A0' (L7' K _) (A0' Ye (A0' Ye (A0' (IP' K _) (A0' hI A2')))))
theorem bN' {K : Nat -> Bool} (h : K 1001 = true /\ K 1003 = true /\ K 1004 = true) (s : Qs) (P : Mem -> Prop) {O : AO} (hO : O.cl K) : ∀ x ∈ uO s P O, x.2.cl K :=
 A0' (T4' K h _ _) (A0' (L7' K _) (A0' Ye (A0' Ye (A0' (IP' K _) (A0' hO A2')))))
def uR (s : Qs) (P : Mem -> Prop) (O : AO) : LH := [(0, qC s.cf s.la), (1001, .map (mE aggK s.m) s.ck), (1002, .any (frz P)), (1003, lO s.L), (1004, .map (mE iv s.o) s.ok), (1000, O)]
theorem aW' : ∀ args, RO (gSo args) := by
 intro args; unfold gSo
 repeat' split
 all_goals exact Kb11'
theorem W6' (k : Nat) : ∀ args, RO (gLp k args) := by
 intro args; unfold gLp
 repeat' split
 all_goals exact Kb11'
theorem b6' {L : List It} (hL : L ≠ []) (F : HP) : C1OK Θ F BB' (cIt L L.length) :=
 BX' (W := default) B8' (fun _ => .slice 1000 0 L.length 3 (.lo L.length)) LI' (fun _ => rfl) (fun _ _ => Rk.Aitems_tri L hL) fun _ => ⟨rfl, rfl, ⟨rfl, Ye⟩, A0' Ye A2', ⟨rfl, Ye⟩, A0' Ye (A0' (S9' _ L) A2')⟩
theorem f3' (F : HP) : C1OK Θ F BB' cIt0 :=
 BX' (W := default) B8' (fun _ => .mt) LI' (fun _ => rfl) (fun _ _ => Rk.AitemsE_tri) fun _ => ⟨rfl, rfl, ⟨rfl, Ye⟩, A0' Ye A2', ⟨Ye, Ye⟩, A0' Ye A2'⟩
theorem aE' : GG' Θ I2' WC' 3 := bW'
structure OkO (o : IMap Int) (ck : Nat) : Prop where
 mi : MI o ck
 len : o.length * 8 <= 140737488355328
 wf : ∀ k ∈ o.map (·.1), (Lit.int .i64 k).wf = true
theorem cSo_ok {o : IMap Int} {ck : Nat} (ho : OkO o ck) (hne : o ≠ []) (F : HP) : C1OK Θ F I2' (cSo o ck o.length) :=
 BX' (W := default) B8' (fun _ => .slice 1000 0 o.length 1 (.lo o.length)) aW' (fun _ => rfl) (fun _ _ => Q7' hu3 aE' ho.mi ho.len ho.wf hne) fun _ => ⟨rfl, rfl, ⟨⟨Ye, rfl, Ye⟩, Ye⟩, A0' ⟨rfl, Ye⟩ (A0' (IP' _ _) A2'), ⟨rfl, Ye⟩, A0' ⟨rfl, Ye⟩ (A0' (IP' _ _) (A0' (rZ_cl _ _) A2'))⟩
theorem eW' (ck : Nat) (F : HP) : C1OK Θ F I2' (cSo0 ck) :=
 BX' (W := default) B8' (fun _ => .v (.slice none 0 0)) aW' (fun _ => rfl) (fun _ _ => Q8' hu3 aE') fun _ => ⟨rfl, rfl, ⟨⟨Ye, rfl, Ye⟩, Ye⟩, A0' ⟨rfl, Ye⟩ (A0' Ye A2'), ⟨Ye, Ye⟩, A0' ⟨rfl, Ye⟩ (A0' Ye A2')⟩
theorem S1' {d : Nat} {A s : Qs} {P : Mem -> Prop} {R : List Kc} (hs : RQ A s) (hP : ∀ C, P C -> PM d s.m C) : Goes [xRk 1000 R] (uQ s P ++ [(1000, rO R)]) [xRk 1000 R] [(0, qO d A), (1000, rO R)] :=
 UH' (H0 := [(1000, rO R)]) hs hP χ rfl ⟨xR_cl rfl R, Ye⟩ (A0' (bZ' _ R) A2')
theorem WK' {v : AV} (s : Qs) (P : Mem -> Prop) : Goes [v] (uQ s P) [v] (uQ s P ++ [(1000, dumZ)]) := CC' (k := 1000) (fun C => trivial) rfl rfl rfl δ rfl (fun n hn => by
 show getO [(0, _), (1001, _), (1002, _), (1003, _), (1004, _), (1000, _)] n = getO [(0, _), (1001, _), (1002, _), (1003, _), (1004, _)] n; simp only [getO]
 by_cases e0 : n = 0
 ·simp only [if_pos e0]
 ·by_cases e1 : n = 1001
  ·simp only [if_neg e0, if_pos e1]
  ·by_cases e2 : n = 1002
   ·simp only [if_neg e0, if_neg e1, if_pos e2]
   ·by_cases e3 : n = 1003
    ·simp only [if_neg e0, if_neg e1, if_neg e2, if_pos e3]
    ·by_cases e4 : n = 1004
     ·simp only [if_neg e0, if_neg e1, if_neg e2, if_neg e3, if_pos e4]
     ·simp only [if_neg e0, if_neg e1, if_neg e2, if_neg e3, if_neg e4, if_neg hn])
def AM' (A : Qs) : List Kc := A.L.map fun x => cAt A x.b
def outA (A : Qs) : List Kc := (BE' A.o).map fun k => cAt A k
theorem Aready (d : Nat) (A : Qs) (hb : A.L.length * 320 <= 140737488355328) (hI : ∀ x ∈ A.L, ∃ c, AG' x.b A.m = some c) : Tri Θ default AJ' [.ptr 0 0] [(0, qO d A)] (xRk 1000 (AM' A)) [(0, qO d A), (1000, rO (AM' A))] := by
 refine L2' fun s hs => ?_
 obtain ⟨e1, e2, e3, e4, e5, e6⟩ := hs.facts
 by_cases hL : A.L = []
 ·have hr : AM' A = [] := by simp only [AM', hL, List.map_nil]
  rw [hr]; obtain ⟨cf, m, ck, L, o, ok, la⟩ := s; simp only at e3; have hl : L = [] := e3.trans hL; subst hl
  refine AK' (con := [(BB', cIt0)]) (hints := AN' [hf' AJ' 2 0]) (lc := []) kH rfl (fun F _ => CR' (f3' F)) (fun _ _ => noL) fun F => ?_
  refine Yj (Y9' ⟨cf, m, ck, [], o, ok, la⟩ (PM d m) F) ⟨⟨?_, [nilS], uQ ⟨cf, m, ck, [], o, ok, la⟩ (PM d m), [(1001, 1001), (1002, 1002), (1003, 1003), (1004, 1004)], rfl, B2' (vs' := [nilS]) (H' := uQ ⟨cf, m, ck, [], o, ok, la⟩ (PM d m)) _ χ χ (Yb) ⟨⟨_, rfl, Yc⟩, ⟨_, rfl, OW.of_eq (by simp only [AO.ren, BH'])⟩, ⟨_, rfl, Yc⟩, ⟨_, rfl, Yc⟩, ⟨_, rfl, OW.of_eq (by simp only [AO.ren, BJ'])⟩, Ye⟩, (WK' _ _).trans (S1' (R := []) hs fun C h => h)⟩⟩
  ·exact Cb10'
 ·have hR : AM' A = (s.L.map fun x => cAt s x.b).map er := by rw [AM', <- e3]; exact VM' hs _ _
  obtain ⟨R, hRe⟩ : ∃ R, R = s.L.map fun x => cAt s x.b := ⟨_, rfl⟩
  have hn : R.length = s.L.length := by rw [hRe, List.length_map]
  have hne : R ≠ [] := fun e => by
   rw [e] at hn; exact hL (e3 ▸ List.eq_nil_of_length_eq_zero hn.symm)
  obtain ⟨x1, x2⟩ := GH' (k := 1006) hne
  have hx : xRk 1000 R = slR 1000 s.L.length := by rw [<- hn]; exact (GH' hne).1
  rw [hR, <- hRe, aA', rO_er]
  have hl : ∀ F, L1OK Θ F (AB' AJ' 2) (lRd s (PM d s.m) s.L s.L.length (slR 1006 s.L.length) (rO R)) := fun F =>
   E8' B8' (W6' 9) (fun _ _ => by
    have := fD' s (PM d s.m) d (fun C h => h) s.L (by rw [e3]; exact hb) (fun x hx => by
     obtain ⟨c, hc⟩ := hI x (by rw [<- e3]; exact hx); obtain ⟨c', hc', _⟩ := hs.look hc
     exact ⟨c', hc'⟩)
    rw [<- hRe, x1, hn] at this
    exact this) fun _ => by
     simp only [RT.pick]; exact D1' rfl rfl (A0' rfl (A0' Ye (A0' rfl (A0' Ye (A0' Ye A2'))))) (bO' ⟨rfl, rfl, rfl⟩ _ _ (S9' _ _)) (A0' rfl A2') (bN' ⟨rfl, rfl, rfl⟩ _ _ (bZ' _ R))
  have hLs : s.L ≠ [] := fun e => hL (e3 ▸ e)
  refine AK' (con := [(BB', cIt s.L s.L.length)]) (hints := AF') (lc := [(AJ', 2, AB' AJ' 2, lRd s (PM d s.m) s.L s.L.length (slR 1006 s.L.length) (rO R))]) kH rfl (fun F _ => CR' (b6' hLs F)) (fun F _ => L3' (hl F)) fun F => ?_
  refine Yj (SG' s (PM d s.m) s.L.length (rO R) F) ⟨⟨?_, [slR 1000 s.L.length], uR s (PM d s.m) (rO R), [(1001, 1101), (1002, 1102), (1003, 1103), (1004, 1104), (1000, 1105)], rfl, B2' (vs' := [slR 1000 s.L.length]) (H' := uR s (PM d s.m) (rO R)) _ χ χ (Yb) ⟨⟨_, rfl, Yc⟩, ⟨_, rfl, OW.of_eq (by simp only [AO.ren, BH'])⟩, ⟨_, rfl, Yc⟩, ⟨_, rfl, Yc⟩, ⟨_, rfl, OW.of_eq (by simp only [AO.ren, BJ'])⟩, ⟨_, rfl, OW.of_eq ((JU' _ R).trans (JU' _ R).symm)⟩, Ye⟩, by rw [hx]; rw [<- hx]; exact S1' hs fun C h => h⟩⟩
  ·exact Cb10'
theorem Aout (d : Nat) (A : Qs) (hb : A.o.length * 320 <= 140737488355328) (ho : OkO A.o A.ok) (hI : ∀ k ∈ A.o.map (·.1), ∃ c, AG' k A.m = some c) : Tri Θ default fOut [.ptr 0 0] [(0, qO d A)] (xRk 1000 (outA A)) [(0, qO d A), (1000, rO (outA A))] := by
 refine L2' fun s hs => ?_
 obtain ⟨e1, e2, e3, e4, e5, e6⟩ := hs.facts
 by_cases hL : A.o = []
 ·have hr : outA A = [] := by simp only [outA, hL]; rfl
  rw [hr]; obtain ⟨cf, m, ck, L, o, ok, la⟩ := s; simp only at e4; have hl : o = [] := e4.trans hL; subst hl
  refine AK' (con := [(I2', cSo0 ok)]) (hints := AN' [hf' fOut 2 0]) (lc := []) kH rfl (fun F _ => CR' (eW' ok F)) (fun _ _ => noL) fun F => ?_
  refine Yj (YD' ⟨cf, m, ck, L, [], ok, la⟩ (PM d m) F) ⟨⟨?_, [nilS], uQ ⟨cf, m, ck, L, [], ok, la⟩ (PM d m), [(1001, 1001), (1002, 1002), (1003, 1003), (1004, 1004)], rfl, B2' (vs' := [nilS]) (H' := uQ ⟨cf, m, ck, L, [], ok, la⟩ (PM d m)) _ χ χ (Yb) ⟨⟨_, rfl, Yc⟩, ⟨_, rfl, OW.of_eq (by simp only [AO.ren, BH'])⟩, ⟨_, rfl, Yc⟩, ⟨_, rfl, Yc⟩, ⟨_, rfl, Yc⟩, Ye⟩, (WK' _ _).trans (S1' (R := []) hs fun C h => h)⟩⟩
  ·exact Cb10'
 ·have hR : outA A = ((BE' s.o).map fun k => cAt s k).map er := by rw [outA, <- e4]; exact VM' hs (fun k => k) _
  obtain ⟨R, hRe⟩ : ∃ R, R = (BE' s.o).map fun k => cAt s k := ⟨_, rfl⟩
  have hn : R.length = s.o.length := by rw [hRe, List.length_map, C7']
  have hne : R ≠ [] := fun e => by
   rw [e] at hn; exact hL (e4 ▸ List.eq_nil_of_length_eq_zero hn.symm)
  obtain ⟨x1, x2⟩ := GH' (k := 1006) hne
  have hx : xRk 1000 R = slR 1000 s.o.length := by rw [<- hn]; exact (GH' hne).1
  rw [hR, <- hRe, aA', rO_er]
  have hl : ∀ F, L1OK Θ F (AB' fOut 2) (lOt s (PM d s.m) (BE' s.o) s.o.length (slR 1006 s.o.length) (rO R)) := fun F =>
   E8' B8' (W6' 10) (fun _ _ => by
    have := fE' s (PM d s.m) d (fun C h => h) (BE' s.o) (by rw [C7', e4]; exact hb) (fun k hk => by
     obtain ⟨c, hc⟩ := hI k (by rw [<- e4]; exact (D6' s.o).mem_iff.1 hk); obtain ⟨c', hc', _⟩ := hs.look hc
     exact ⟨c', hc'⟩)
    rw [<- hRe, x1, hn, C7'] at this
    exact this) fun _ => by
     simp only [RT.pick]; exact D1' rfl rfl (A0' rfl (A0' Ye (A0' rfl (A0' Ye (A0' Ye A2'))))) (bO' ⟨rfl, rfl, rfl⟩ _ _ (rZ_cl _ _)) (A0' rfl A2') (bN' ⟨rfl, rfl, rfl⟩ _ _ (bZ' _ R))
  have hLs : s.o ≠ [] := fun e => hL (e4 ▸ e)
  have ho' : OkO s.o s.ok := by rw [e4, e5]; exact ho
  refine AK' (con := [(I2', cSo s.o s.ok s.o.length)]) (hints := AF') (lc := [(fOut, 2, AB' fOut 2, lOt s (PM d s.m) (BE' s.o) s.o.length (slR 1006 s.o.length) (rO R))]) kH rfl (fun F _ => CR' (cSo_ok ho' hLs F)) (fun F _ => L3' (hl F)) fun F => ?_
  refine Yj (YC' s (PM d s.m) s.o.length (rO R) F) ⟨⟨?_, [slR 1000 s.o.length], uR s (PM d s.m) (rO R), [(1001, 1102), (1002, 1103), (1003, 1104), (1004, 1105), (1000, 1106)], rfl, B2' (vs' := [slR 1000 s.o.length]) (H' := uR s (PM d s.m) (rO R)) _ χ χ (Yb) ⟨⟨_, rfl, Yc⟩, ⟨_, rfl, OW.of_eq (by simp only [AO.ren, BH'])⟩, ⟨_, rfl, Yc⟩, ⟨_, rfl, Yc⟩, ⟨_, rfl, OW.of_eq (by simp only [AO.ren, BJ'])⟩, ⟨_, rfl, OW.of_eq ((JU' _ R).trans (JU' _ R).symm)⟩, Ye⟩, by rw [hx]; rw [<- hx]; exact S1' hs fun C h => h⟩⟩
  ·exact Cb10'
abbrev fLaw : Nat := 5
def slI (k m : Nat) : AV := .slice k 0 m 1 (.lo m)
structure Gf where
 n : Nat
 j : Nat
 B : AO
 R : AO
def notK (k : Int) (l : List Int) : List Int := l.filter fun s => !decide (s = k)
end Go.Proofs.Ytjjjchmkonnpfaa.Qb
