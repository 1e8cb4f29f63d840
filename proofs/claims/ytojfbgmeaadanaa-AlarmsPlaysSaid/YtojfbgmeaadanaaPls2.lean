/- Parts of the proof, merged. -/
import Derived.Test.YtojfbgmeaadanaaPls1
import Derived.Test.YtojfbgmeaadanaaEngKit2
/- Alarms: a clock's methods where it lies open. -/
set_option linter.unusedVariables false
set_option linter.unusedSimpArgs false
set_option maxRecDepth 100000
namespace Go.Proofs.Ytojfbgmeaadanaa.Alm
open Go Go.RowKit Go.Proofs.Ytojfbgmeaadanaa.Eng Go.Proofs.Ytojfbgmeaadanaa.Kit
theorem intT : Try.prog.underlying 3 = some (.int .i64) := by kernel_rfl
/-- One alarm is laid beside the others, and back. -/
theorem open_one (s : Ps) (i : Nat) (hi : i < s.xs.length) (vs : List AV) : Goes vs (uM s) vs (oC s i) := by
  have p := perm_at _ i _ (fam_at s i hi)
  refine (goes_lw (H := uM s) (H' := [(0, hdr 1001 1003 s.xs.length (roomOf s) s.tn), (1001, rowO (blocks s)), (1002, famO (((at' s i).k, alC (at' s i) i) :: (fam 0 s.xs).eraseIdx i)), (1003, mapO s)]) (by kernel_rfl) (by kernel_rfl) ⟨rfl, OW.refl _, rfl, OW.refl _, rfl, ow_fam p, rfl, OW.refl _, trivial⟩ (VW.refl _)).trans ?_
  exact goes_out (k := 1002) (i := 1004) (j := 1005) (e := tAl) (b := (at' s i).k) (c := alC (at' s i) i) (l := (fam 0 s.xs).eraseIdx i) (by kernel_rfl) (by kernel_rfl) rfl rfl rfl rfl (by decide) rfl rfl (by decide)
      (fun n h1 h2 h3 => by simp only [oC, getO, h1, h2, h3, if_false]) (fun _ _ _ _ h => h)
theorem shut_one (s : Ps) (i : Nat) (hi : i < s.xs.length) (v : AV) (hv : ∀ K : Nat → Bool, AV.cls K [v]) : Goes [v] (oC s i) [v] (uM s) := by
  have p := perm_at _ i _ (fam_at s i hi)
  refine Goes.trans (H' := [(0, hdr 1001 1003 s.xs.length (roomOf s) s.tn), (1001, rowO (blocks s)), (1002, famO (((at' s i).k, alC (at' s i) i) :: (fam 0 s.xs).eraseIdx i)), (1003, mapO s)]) ?_
    (goes_lw (by kernel_rfl) (by kernel_rfl) ⟨rfl, OW.refl _, rfl, OW.refl _, rfl, ow_fam p.symm, rfl, OW.refl _, trivial⟩ (VW.refl _))
  exact goes_in (k := 1002) (i := 1004) (j := 1005) (e := tAl) (b := (at' s i).k) (c := alC (at' s i) i) (l := (fam 0 s.xs).eraseIdx i) (by kernel_rfl) (by kernel_rfl) rfl rfl rfl rfl rfl rfl (by decide)
      (fun n h1 h2 h3 => by simp only [oC, getO, h1, h2, h3, if_false]) (hv _) (all_cons ⟨rfl, rfl, trivial, trivial⟩ (all_cons (cls_rowV _ _) (all_cons trivial (all_cons (map_clE _ _) all_nil))))
theorem hremH_tri (s : Ps) (i : Nat) (hB : Big s) (hi : i < s.xs.length) : Tri Try.prog default fHRem [hI, iv (Int.ofNat i)] (hremH s i) alP (uL (popS (remD s i)) ++ outL (lastOf (remD s i)) ((remD s i).xs.length - 1)) := by
  have p := perm_at _ i _ (fam_at s i hi)
  refine Tri.pre (Goes.trans (H' := [(0, hdr 1 3 s.xs.length (roomOf s) s.tn), (1, rowO (blocks s)), (2, famO (((at' s i).k, alC (at' s i) i) :: (fam 0 s.xs).eraseIdx i)), (3, mapO s)]) ?_
    (goes_lw (H' := uL s) (by kernel_rfl) (by kernel_rfl) ⟨rfl, OW.refl _, rfl, OW.refl _, rfl, ow_fam p.symm, rfl, OW.refl _, trivial⟩ (VW.refl _))) (hrem_tri s i hB hi)
  exact goes_in (k := 2) (i := 1004) (j := 1005) (e := tAl) (b := (at' s i).k) (c := alC (at' s i) i) (l := (fam 0 s.xs).eraseIdx i) (by kernel_rfl) (by kernel_rfl) rfl rfl rfl rfl rfl rfl (by decide)
      (fun n h1 h2 h3 => by simp only [hremH, getO, h1, h2, h3, if_false]) ⟨rfl, trivial, trivial⟩ (all_cons ⟨rfl, rfl, trivial, trivial⟩ (all_cons (cls_rowV _ _) (all_cons trivial (all_cons (map_clE _ _) all_nil))))
theorem cHRem_ok (s : Ps) (i : Nat) (d : Ps) (F : HP) : C1OK Try.prog F fHRem (cHRem s i d) :=
  mkC_ok (W := default) oldDef (fun _ => alP) gUpL_ro (fun _ => rfl) (fun q hq => by obtain ⟨h1, h2, rfl⟩ := hq; exact hremH_tri s i h1 h2)
    fun q => ⟨by kernel_rfl, by kernel_rfl, ⟨rfl, trivial, trivial⟩, all_cons ⟨rfl, rfl, trivial, trivial⟩ (all_cons (cls_rowV _ _) (all_cons trivial (all_cons (map_clE _ _) (all_cons ⟨trivial, trivial, trivial, trivial, trivial⟩ (all_cons rfl all_nil))))), ⟨rfl, trivial⟩,
      all_cons ⟨rfl, rfl, trivial, trivial⟩ (all_cons (cls_rowV _ _) (all_cons trivial (all_cons (map_clE _ _) (all_cons ⟨trivial, trivial, trivial, trivial, trivial⟩ (all_cons rfl all_nil)))))⟩
/-- What a lookup gives. -/
theorem look_some {m : IMap Nat} {id : Int} {b : Nat} (h : mlook id m = some b) : Wk (.tuple [foundX (findS (.v (.int .i64 id)) (mE ptrV m) 0) (.pointer none), .v (.bool (findS (.v (.int .i64 id)) (mE ptrV m) 0).isSome)]) (.tuple [ptrV b, .lit true]) := by
  rw [found_mE, found_isSome, h]
  intro N y hy
  simp only [VR, VRs] at hy ⊢
  obtain ⟨cs, ⟨y1, r1, e1, ⟨y2, r2, e2, e3, e4⟩, e5⟩, rfl⟩ := hy
  exact ⟨cs, ⟨y1, r1, e1, ⟨y2, r2, e2, e3, e4⟩, e5⟩, rfl⟩
theorem look_none {m : IMap Nat} {id : Int} (h : mlook id m = none) : Wk (.tuple [foundX (findS (.v (.int .i64 id)) (mE ptrV m) 0) (.pointer none), .v (.bool (findS (.v (.int .i64 id)) (mE ptrV m) 0).isSome)]) (.tuple [nilP, .lit false]) := by
  rw [found_mE, found_isSome, h]
  intro N y hy
  simp only [VR, VRs] at hy ⊢
  obtain ⟨cs, ⟨y1, r1, e1, ⟨y2, r2, e2, e3, e4⟩, e5⟩, rfl⟩ := hy
  exact ⟨cs, ⟨y1, r1, e1, ⟨y2, r2, e2, e3, e4⟩, e5⟩, rfl⟩
theorem uM_keep {v : AV} {s : Ps} (hv : ∀ σ, AV.ren σ v = v) : Fits [0, 1001, 1002, 1003] [v] [some (hdr 1001 1003 s.xs.length (roomOf s) s.tn), some (rowO (blocks s)), some (famO (fam 0 s.xs)), some (mapO s)] [v] (uM s) := by
  refine (fit_mk (vs := [v]) (vs' := [v]) (H' := uM s) [(1001, 1001), (1002, 1002), (1003, 1003)] (by kernel_rfl) (by kernel_rfl) ?_ ⟨⟨_, rfl, OW.refl _⟩, ⟨_, rfl, OW.of_eq (calm_row _ _).symm⟩, ⟨_, rfl, OW.refl _⟩, ⟨_, rfl, OW.of_eq (map_ren s _).symm⟩, trivial⟩).fits rfl
  show VW [v] [AV.ren _ v]
  rw [hv]; exact VW.refl _
theorem uM0_keep {v : AV} {s : Ps} (hv : ∀ σ, AV.ren σ v = v) : Fits [0, 1003] [v] [some (hdr0 1003 s.tn), some (mapO s)] [v] (uM0 s) := by
  refine (fit_mk (vs := [v]) (vs' := [v]) (H' := uM0 s) [(1003, 1003)] (by kernel_rfl) (by kernel_rfl) ?_ ⟨⟨_, rfl, OW.refl _⟩, ⟨_, rfl, OW.of_eq (map_ren s _).symm⟩, trivial⟩).fits rfl
  show VW [v] [AV.ren _ v]
  rw [hv]; exact VW.refl _
theorem oC_keep {v : AV} {s : Ps} {i : Nat} (hv : ∀ σ, AV.ren σ v = v) : Fits [0, 1001, 1002, 1003, 1004, 1005] [v] [some (hdr 1001 1003 s.xs.length (roomOf s) s.tn), some (rowO (blocks s)), some (famO ((fam 0 s.xs).eraseIdx i)), some (mapO s), some (alO (at' s i) i), some (.same 1004 (at' s i).k)] [v] (oC s i) := by
  refine (fit_mk (vs := [v]) (vs' := [v]) (H' := oC s i) [(1001, 1001), (1002, 1002), (1003, 1003), (1004, 1004), (1005, 1005)] (by kernel_rfl) (by kernel_rfl) ?_ ⟨⟨_, rfl, OW.refl _⟩, ⟨_, rfl, OW.of_eq (calm_row _ _).symm⟩, ⟨_, rfl, OW.refl _⟩, ⟨_, rfl, OW.of_eq (map_ren s _).symm⟩, ⟨_, rfl, OW.refl _⟩, ⟨_, rfl, OW.refl _⟩, trivial⟩).fits rfl
  show VW [v] [AV.ren _ v]
  rw [hv]; exact VW.refl _
/-! Cancel. -/
def canS (s : Ps) (i : Nat) (id : Int) : Ps := { popS (remD s i) with m := mdel s.m id }
theorem canF_tri (s : Ps) (i : Nat) (id : Int) (hB : Big s) (hi : i < s.xs.length) (hm : mlook id s.m = some (at' s i).k) : Tri Try.prog default fCan [.ptr 0 0, iv id] (uM s) (.v (.bool true)) (uM (canS s i id)) := by
  refine Tri.pre (open_one s i hi _) ?_
  refine tri_run (con := [(fHRem, cHRem s i (remD s i))]) (hints := hCanF (at' s i).k) (lc := []) [0, 1001, 1002, 1003] rfl (fun F _ => con_cons (cHRem_ok s i _ F) noC) (fun _ _ => noL) fun F => ?_
  have hk := remD_keep s i
  refine cast (congrArg (VAll _) (oCanF_eq s (remD s i) id i F).symm) ⟨⟨?_, ?_⟩⟩
  · simp only [Cnd.holds, rens_rowV, map_renE, true_and, and_true]
    and_intros
    all_goals first
      | (with_reducible exact hB)
      | (with_reducible exact hi)
      | (with_reducible exact rfl)
      | (with_reducible exact Wk.refl _)
      | (with_reducible exact VW.refl _)
      | (with_reducible exact OW.refl _)
      | exact findKey_mE intT _ _ _
      | exact look_some hm
  · refine (fit_mk (vs := [.v (.bool true)]) (vs' := [.v (.bool true)]) (H' := uM (canS s i id)) [(1001, 1001), (1002, 1002), (1003, 1003)] (by kernel_rfl) (by kernel_rfl) (VW.refl _) ⟨⟨_, rfl, OW.refl _⟩, ⟨_, rfl, OW.of_eq ?_⟩, ⟨_, rfl, OW.refl _⟩, ⟨_, rfl, OW.of_eq ?_⟩, trivial⟩).fits rfl
    · show _ = (rowO (blocks (popS (remD s i)))).ren _
      rw [calm_row, rens_rowV]
      rfl
    · show _ = (mapO (canS s i id)).ren _
      rw [map_ren, map_renE, delE_mE, hk.m, hk.ck]
      show _ = AO.map (mE ptrV (mdel s.m id)) (remD s i).ck
      rw [hk.ck]
theorem canN_tri (s : Ps) (id : Int) (hm : mlook id s.m = none) : Tri Try.prog default fCan [.ptr 0 0, iv id] (uM s) (.v (.bool false)) (uM s) := by
  refine tri_run (con := []) (hints := hCanN) (lc := []) [0, 1001, 1002, 1003] rfl (fun F _ => noC) (fun _ _ => noL) fun F => ?_
  refine cast (congrArg (VAll _) (oCanN_eq s id F).symm) ⟨⟨?_, uM_keep (fun _ => rfl)⟩⟩
  simp only [Cnd.holds, true_and, and_true]
  exact ⟨findKey_mE intT _ _ _, look_none hm⟩
theorem canN0_tri (s : Ps) (id : Int) (hm : mlook id s.m = none) : Tri Try.prog default fCan [.ptr 0 0, iv id] (uM0 s) (.v (.bool false)) (uM0 s) := by
  refine tri_run (con := []) (hints := hCanN) (lc := []) [0, 1003] rfl (fun F _ => noC) (fun _ _ => noL) fun F => ?_
  refine cast (congrArg (VAll _) (oCanN0_eq s id F).symm) ⟨⟨?_, uM0_keep (fun _ => rfl)⟩⟩
  simp only [Cnd.holds, true_and, and_true]
  exact ⟨findKey_mE intT _ _ _, look_none hm⟩
/-! At. -/
theorem atF_tri (s : Ps) (i : Nat) (id : Int) (hi : i < s.xs.length) (hm : mlook id s.m = some (at' s i).k) : Tri Try.prog default fAt [.ptr 0 0, iv id] (uM s) (.tuple [iv (at' s i).a, .v (.bool true)]) (uM s) := by
  refine Tri.pre (open_one s i hi _) (Tri.post ?_ (shut_one s i hi _ fun K => ⟨⟨trivial, trivial, trivial⟩, trivial⟩))
  refine tri_run (con := []) (hints := hAtF (at' s i).k) (lc := []) [0, 1001, 1002, 1003, 1004, 1005] rfl (fun F _ => noC) (fun _ _ => noL) fun F => ?_
  refine cast (congrArg (VAll _) (oAtF_eq s id i F).symm) ⟨⟨(fun h => by cases h), fun _ => ⟨?_, oC_keep (fun _ => rfl)⟩⟩⟩
  simp only [Cnd.holds, true_and, and_true]
  and_intros
  all_goals first
    | (with_reducible exact Wk.refl _)
    | exact findKey_mE intT _ _ _
    | exact look_some hm
theorem atN_tri (s : Ps) (id : Int) (hm : mlook id s.m = none) : Tri Try.prog default fAt [.ptr 0 0, iv id] (uM s) (.tuple [iv 0, .v (.bool false)]) (uM s) := by
  refine tri_run (con := []) (hints := hAtN) (lc := []) [0, 1001, 1002, 1003] rfl (fun F _ => noC) (fun _ _ => noL) fun F => ?_
  refine cast (congrArg (VAll _) (oAtN_eq s id F).symm) ⟨⟨fun _ => ⟨?_, uM_keep (fun _ => rfl)⟩, (fun h => by cases h)⟩⟩
  simp only [Cnd.holds, true_and, and_true]
  exact ⟨findKey_mE intT _ _ _, look_none hm⟩
theorem atN0_tri (s : Ps) (id : Int) (hm : mlook id s.m = none) : Tri Try.prog default fAt [.ptr 0 0, iv id] (uM0 s) (.tuple [iv 0, .v (.bool false)]) (uM0 s) := by
  refine tri_run (con := []) (hints := hAtN) (lc := []) [0, 1003] rfl (fun F _ => noC) (fun _ _ => noL) fun F => ?_
  refine cast (congrArg (VAll _) (oAtN0_eq s id F).symm) ⟨⟨fun _ => ⟨?_, uM0_keep (fun _ => rfl)⟩, (fun h => by cases h)⟩⟩
  simp only [Cnd.holds, true_and, and_true]
  exact ⟨findKey_mE intT _ _ _, look_none hm⟩
/-! Next, Len. -/
theorem nextF_tri (s : Ps) (h0 : 0 < s.xs.length) : Tri Try.prog default fNext [.ptr 0 0] (uM s) (.tuple [iv (at' s 0).a, .v (.bool true)]) (uM s) := by
  refine Tri.pre (open_one s 0 h0 _) (Tri.post ?_ (shut_one s 0 h0 _ fun K => ⟨⟨trivial, trivial, trivial⟩, trivial⟩))
  refine tri_run (con := []) (hints := hNextF) (lc := []) [0, 1001, 1002, 1003, 1004, 1005] rfl (fun F _ => noC) (fun _ _ => noL) fun F => ?_
  refine cast (congrArg (VAll _) (oNextF_eq s F).symm) ⟨⟨?_, oC_keep (fun _ => rfl)⟩⟩
  have p1 : ∀ d, (rowV pv (blocks s)).getD 0 d = ptrV (at' s 0).k := fun d => row_ptr _ 0 d _ (blocks_at s 0 h0)
  have l1 : 0 < s.xs.length + s.g.length := by omega
  have hb : ((s.xs.length : Int) == Int.ofNat 0) = false := by
    apply beq_eq_false_iff_ne.2; simp only [Int.ofNat_eq_natCast]; omega
  simp only [Cnd.holds, p1, row_len1, blocks_len, l1, h0, Nat.blt_eq, true_and, and_true]
  exact ⟨wk_litE hb, Wk.refl _⟩
theorem nextE_tri (s : Ps) (h0 : s.xs = []) : Tri Try.prog default fNext [.ptr 0 0] (uM s) (.tuple [iv 0, .v (.bool false)]) (uM s) := by
  refine tri_run (con := []) (hints := hNextE) (lc := []) [0, 1001, 1002, 1003] rfl (fun F _ => noC) (fun _ _ => noL) fun F => ?_
  refine cast (congrArg (VAll _) (oNextE_eq s F).symm) ⟨⟨?_, uM_keep (fun _ => rfl)⟩⟩
  have hb : ((s.xs.length : Int) == Int.ofNat 0) = true := by rw [h0]; rfl
  simp only [Cnd.holds, true_and, and_true]
  exact wk_litE hb
theorem nextE0_tri (s : Ps) : Tri Try.prog default fNext [.ptr 0 0] (uM0 s) (.tuple [iv 0, .v (.bool false)]) (uM0 s) := by
  refine tri_run (con := []) (hints := hNextE) (lc := []) [0, 1003] rfl (fun F _ => noC) (fun _ _ => noL) fun F => ?_
  refine cast (congrArg (VAll _) (oNextE0_eq s F).symm) ⟨⟨?_, uM0_keep (fun _ => rfl)⟩⟩
  simp only [Cnd.holds, true_and, and_true]
  try exact wk_lit _
theorem clen_tri (s : Ps) : Tri Try.prog default fCLen [.ptr 0 0] (uM s) (iv (Int.ofNat s.xs.length)) (uM s) := by
  refine tri_run (con := []) (hints := noHints) (lc := []) [0, 1001, 1002, 1003] rfl (fun F _ => noC) (fun _ _ => noL) fun F => ?_
  refine cast (congrArg (VAll _) (oCLen_eq s F).symm) ⟨⟨?_, uM_keep (fun _ => rfl)⟩⟩
  simp only [Cnd.holds, and_self]
theorem clen0_tri (s : Ps) : Tri Try.prog default fCLen [.ptr 0 0] (uM0 s) (iv (Int.ofNat 0)) (uM0 s) := by
  refine tri_run (con := []) (hints := noHints) (lc := []) [0, 1003] rfl (fun F _ => noC) (fun _ _ => noL) fun F => ?_
  refine cast (congrArg (VAll _) (oCLen0_eq s F).symm) ⟨⟨?_, uM0_keep (fun _ => rfl)⟩⟩
  simp only [Cnd.holds, and_self]
end Go.Proofs.Ytojfbgmeaadanaa.Alm

/- Alarms: a clock whole: what its methods do to the list of its alarms. -/
set_option linter.unusedVariables false
set_option linter.unusedSimpArgs false
set_option maxRecDepth 100000
namespace Go.Proofs.Ytojfbgmeaadanaa.Alm
open Go Go.RowKit Go.Proofs.Ytojfbgmeaadanaa.Eng Go.Proofs.Ytojfbgmeaadanaa.Kit
noncomputable section
def clL (z : Bool × Ps) : LH := match z.1 with
  | true => uM0 z.2
  | false => uM z.2
def clR (L : List Al) (tn : Int) (z : Bool × Ps) : Prop := AbsC z.2 L tn ∧ (z.1 = true → z.2.xs = [])
def clH (L : List Al) (tn : Int) : Nat → Nat → HP := exHP (clR L tn) clL
def clO (L : List Al) (tn : Int) : AO := .own (.clock L tn) (clH L tn)
end
theorem uM0_cl (K : Nat → Bool) (hK : K 1003 = true) (s : Ps) : ∀ x ∈ uM0 s, x.2.cl K := all_cons ⟨trivial, hK, trivial, trivial⟩ (all_cons (map_clE _ _) all_nil)
theorem open_clk {f : FuncId} {A : List AV} {L : List Al} {tn : Int} {v : AV} {H' : LH} (h1 : ∀ s, AbsC s L tn → Tri Try.prog default f A (uM s) v H') (h0 : ∀ s, AbsC s L tn → s.xs = [] → Tri Try.prog default f A (uM0 s) v H') : Tri Try.prog default f A [(0, clO L tn)] v H' := by
  refine Tri.open (σ := Bool × Ps) (R := clR L tn) (L := clL) (H0 := []) (fun z => ?_) (fun z => ?_) (fun z => ?_) (fun z hz => ?_)
  · obtain ⟨z, s⟩ := z
    cases z
    · exact (by kernel_rfl : ownL [] (uM s) = true)
    · exact (by kernel_rfl : ownL [] (uM0 s) = true)
  · obtain ⟨z, s⟩ := z
    cases z
    · exact uM_cl _ ⟨rfl, rfl⟩ s
    · exact uM0_cl _ rfl s
  · obtain ⟨z, s⟩ := z
    cases z
    · exact ⟨_, rfl⟩
    · exact ⟨_, rfl⟩
  · rw [List.append_nil]
    obtain ⟨z, s⟩ := z
    cases z
    · exact h1 s hz.1
    · exact h0 s hz.1 (hz.2 rfl)
theorem shut_clk {L : List Al} {tn : Int} (s : Ps) (h : AbsC s L tn) (v : AV) (hv : ∀ K : Nat → Bool, AV.cls K [v]) : Goes [v] (uM s) [v] [(0, clO L tn)] := by
  have := Goes.shut (σ := Bool × Ps) (R := clR L tn) (L := clL) (m := .clock L tn) (H0 := []) (vs := [v]) (false, s) ⟨h, fun e => by cases e⟩ (by kernel_rfl : ownL [] (uM s) = true) ⟨_, _, rfl, rfl⟩ (hv _) (fun x hx => by cases hx)
  rwa [List.append_nil] at this
theorem shut_clk0 {L : List Al} {tn : Int} (s : Ps) (h : AbsC s L tn) (hx : s.xs = []) (v : AV) (hv : ∀ K : Nat → Bool, AV.cls K [v]) : Goes [v] (uM0 s) [v] [(0, clO L tn)] := by
  have := Goes.shut (σ := Bool × Ps) (R := clR L tn) (L := clL) (m := .clock L tn) (H0 := []) (vs := [v]) (true, s) ⟨h, fun _ => hx⟩ (by kernel_rfl : ownL [] (uM0 s) = true) ⟨_, _, rfl, rfl⟩ (hv _) (fun x hx => by cases hx)
  rwa [List.append_nil] at this
/-- Few enough. -/
def BigL (L : List Al) : Prop := L.length * 15 ≤ 140737488355328
theorem AbsC.big {s : Ps} {L : List Al} {tn : Int} (h : AbsC s L tn) (hB : BigL L) : Big s := by unfold Big; rw [← h.len]; exact hB
def hasId (L : List Al) (id : Int) : Bool := L.any fun x => decide (x.id = id)
theorem hasId_none {L : List Al} {id : Int} (h : ∀ x ∈ L, x.id ≠ id) : hasId L id = false := by
  unfold hasId
  rw [List.any_eq_false]
  intro x hx
  simpa using h x hx
theorem hasId_some {L : List Al} {id : Int} {x : Al} (h : (L.find? fun x => decide (x.id = id)) = some x) : hasId L id = true := by
  unfold hasId
  rw [List.any_eq_true]
  exact ⟨x, List.mem_of_find?_eq_some h, List.find?_some (p := fun x : Al => decide (x.id = id)) h⟩
theorem AbsC.can {s : Ps} {L : List Al} {tn : Int} (h : AbsC s L tn) (i : Nat) (hi : i < s.xs.length) : AbsC (canS s i (at' s i).c) (without L (at' s i).c) tn := by
  obtain ⟨q1, q2, q3⟩ := rem_spec s i h.heap hi
  have hk := remD_keep s i
  exact h.take (s' := canS s i (at' s i).c) q2 q3 rfl hk.ck hk.tn
theorem Acan_tri (L : List Al) (tn id : Int) (hB : BigL L) : Tri Try.prog default fCan [.ptr 0 0, iv id] [(0, clO L tn)] (.v (.bool (hasId L id))) [(0, clO (without L id) tn)] := by
  refine open_clk (fun s h => ?_) (fun s h hx => ?_)
  · rcases h.find id with ⟨i, hi, rfl, hm, hf⟩ | ⟨hm, hn⟩
    · rw [hasId_some hf]
      exact Tri.post (canF_tri s i _ (h.big hB) hi hm) (shut_clk _ (h.can i hi) _ fun K => ⟨trivial, trivial⟩)
    · rw [hasId_none hn, without_same hn]
      exact Tri.post (canN_tri s id hm) (shut_clk _ h _ fun K => ⟨trivial, trivial⟩)
  · rcases h.find id with ⟨i, hi, _⟩ | ⟨hm, hn⟩
    · rw [hx] at hi; cases hi
    · rw [hasId_none hn, without_same hn]
      exact Tri.post (canN0_tri s id hm) (shut_clk0 _ h hx _ fun K => ⟨trivial, trivial⟩)
/-- When an alarm is due. -/
def atOf (L : List Al) (id : Int) : Int := match L.find? fun x => decide (x.id = id) with
  | some x => x.tk
  | none => 0
theorem atOf_none {L : List Al} {id : Int} (h : ∀ x ∈ L, x.id ≠ id) : atOf L id = 0 := by
  unfold atOf
  rw [List.find?_eq_none.2 fun x hx => by simpa using h x hx]
theorem Aat_tri (L : List Al) (tn id : Int) : Tri Try.prog default fAt [.ptr 0 0, iv id] [(0, clO L tn)] (.tuple [iv (atOf L id), .v (.bool (hasId L id))]) [(0, clO L tn)] := by
  refine open_clk (fun s h => ?_) (fun s h hx => ?_)
  · rcases h.find id with ⟨i, hi, rfl, hm, hf⟩ | ⟨hm, hn⟩
    · have e : atOf L (at' s i).c = (at' s i).a := by unfold atOf; rw [hf]
      rw [hasId_some hf, e]
      exact Tri.post (atF_tri s i _ hi hm) (shut_clk _ h _ fun K => ⟨⟨trivial, trivial, trivial⟩, trivial⟩)
    · rw [hasId_none hn, atOf_none hn]
      exact Tri.post (atN_tri s id hm) (shut_clk _ h _ fun K => ⟨⟨trivial, trivial, trivial⟩, trivial⟩)
  · rcases h.find id with ⟨i, hi, _⟩ | ⟨hm, hn⟩
    · rw [hx] at hi; cases hi
    · rw [hasId_none hn, atOf_none hn]
      exact Tri.post (atN0_tri s id hm) (shut_clk0 _ h hx _ fun K => ⟨⟨trivial, trivial, trivial⟩, trivial⟩)
theorem Alen_tri (L : List Al) (tn : Int) : Tri Try.prog default fCLen [.ptr 0 0] [(0, clO L tn)] (iv (Int.ofNat L.length)) [(0, clO L tn)] := by
  refine open_clk (fun s h => ?_) (fun s h hx => ?_)
  · rw [h.len]
    exact Tri.post (clen_tri s) (shut_clk _ h _ fun K => ⟨trivial, trivial⟩)
  · rw [h.len, hx]
    exact Tri.post (clen0_tri s) (shut_clk0 _ h hx _ fun K => ⟨trivial, trivial⟩)
/-- The least tick. -/
def nextOf : List Al → Option Int
  | [] => none
  | x :: L => match nextOf L with
    | none => some x.tk
    | some t => some (min x.tk t)
theorem nextOf_ge : ∀ {L : List Al} {a : Int}, (∀ y ∈ L, a ≤ y.tk) → ∀ t, nextOf L = some t → a ≤ t
  | [], a, _, t, h => by cases h
  | x :: L, a, hL, t, h => by
    have hx := hL x List.mem_cons_self
    simp only [nextOf] at h
    cases hn : nextOf L with
    | none => rw [hn] at h; cases h; exact hx
    | some u =>
      rw [hn] at h; cases h
      have := nextOf_ge (fun y hy => hL y (List.mem_cons_of_mem _ hy)) u hn
      omega
theorem nextOf_root : ∀ (A B : List Al) (x : Al), (∀ y ∈ A, x.tk < y.tk) → (∀ y ∈ B, x.tk ≤ y.tk) → nextOf (A ++ x :: B) = some x.tk
  | [], B, x, _, hB => by
    simp only [List.nil_append, nextOf]
    cases hn : nextOf B with
    | none => rfl
    | some u =>
      have := nextOf_ge hB u hn
      simp only [Int.min_eq_left this]
  | y :: A, B, x, hA, hB => by
    simp only [List.cons_append, nextOf]
    rw [nextOf_root A B x (fun z hz => hA z (List.mem_cons_of_mem _ hz)) hB]
    have := hA y List.mem_cons_self
    simp only [Int.min_eq_right (Int.le_of_lt this)]
theorem Anext_tri (L : List Al) (tn : Int) : Tri Try.prog default fNext [.ptr 0 0] [(0, clO L tn)] (.tuple [iv ((nextOf L).getD 0), .v (.bool (nextOf L).isSome)]) [(0, clO L tn)] := by
  refine open_clk (fun s h => ?_) (fun s h hx => ?_)
  · by_cases h0 : 0 < s.xs.length
    · obtain ⟨A, B, e, hA, hB⟩ := h.root h0
      have : nextOf L = some (at' s 0).a := by rw [e]; exact nextOf_root A B ⟨(at' s 0).c, (at' s 0).a⟩ hA hB
      rw [this]
      exact Tri.post (nextF_tri s h0) (shut_clk _ h _ fun K => ⟨⟨trivial, trivial, trivial⟩, trivial⟩)
    · have hx : s.xs = [] := List.eq_nil_of_length_eq_zero (by omega)
      have hL : L = [] := List.eq_nil_of_length_eq_zero (by rw [h.len, hx]; rfl)
      subst hL
      exact Tri.post (nextE_tri s hx) (shut_clk _ h _ fun K => ⟨⟨trivial, trivial, trivial⟩, trivial⟩)
  · have hL : L = [] := List.eq_nil_of_length_eq_zero (by rw [h.len, hx]; rfl)
    subst hL
    exact Tri.post (nextE0_tri s) (shut_clk0 _ h hx _ fun K => ⟨⟨trivial, trivial, trivial⟩, trivial⟩)
theorem AbsC.empty : AbsC ⟨[], [], [], 0, 0⟩ [] 0 := ⟨(fun c _ hc => absurd hc (Nat.not_lt_zero _)), ⟨[], List.Perm.refl _, List.Pairwise.nil, rfl⟩, (fun x hx => absurd hx List.not_mem_nil), List.nodup_nil, MI.nil, (fun id b => ⟨(fun h => by cases h), fun ⟨x, hx, _⟩ => absurd hx List.not_mem_nil⟩), rfl⟩
theorem Anew_tri : Tri Try.prog default fNew [] [] (.ptr 1000 0) [(1000, clO [] 0)] := by
  refine tri_run (con := []) (hints := noHints) (lc := []) [1100, 1101, 1102] rfl (fun F _ => noC) (fun _ _ => noL) fun F => ?_
  refine cast (congrArg (VAll _) (oNew_eq F).symm) ⟨⟨?_, [.ptr 1000 0], renL 1000 (uM0 ⟨[], [], [], 0, 0⟩), [(1000, 1101), (1003, 1100)], by kernel_rfl, fit_mk _ (by kernel_rfl) (by kernel_rfl) (VW.refl _) ⟨⟨_, rfl, OW.refl _⟩, ⟨_, rfl, OW.refl _⟩, trivial⟩, ?_⟩⟩
  · simp only [Cnd.holds, and_self]
  · exact Goes.shutNew (σ := Bool × Ps) (R := clR [] 0) (L := clL) (m := .clock [] 0) 1000 (by decide) (vs := [.ptr 1000 0]) (true, ⟨[], [], [], 0, 0⟩) ⟨AbsC.empty, fun _ => rfl⟩ rfl rfl ⟨_, _, rfl, rfl⟩ ⟨rfl, trivial⟩
end Go.Proofs.Ytojfbgmeaadanaa.Alm

/- Alarms: Set: runs. -/
set_option linter.unusedVariables false
set_option linter.unusedSimpArgs false
set_option maxRecDepth 100000
namespace Go.Proofs.Ytojfbgmeaadanaa.Alm
open Go Go.RowKit Go.Proofs.Ytojfbgmeaadanaa.Eng Go.Proofs.Ytojfbgmeaadanaa.Kit
noncomputable section
def nmM (i r m : Nat) : Nat → Nat := fun k => match Nat.beq k 0 with
  | true => i
  | false => match Nat.beq k 1003 with
    | true => m
    | false => match Nat.beq k 1001 with
      | true => r
      | false => match Nat.beq k 1002 with
        | true => r + 1
        | false => k
def gMap : List AV → AP (Nat × Nat) := fun args => match args with
  | .ptr i 0 :: _ => .read i fun o => match o with
    | .cells (_ :: .map m :: _) _ => .ret (i, m)
    | _ => .fail "map"
  | _ => .fail "map"
def cCan (s t : Ps) (id : Int) (b : Bool) : List AV → Option (AP AV) := mkC gHead (fun _ => True) (fun p => nmM p.1 p.2.1 p.2.2) (fun _ => [.ptr 0 0, iv id]) (fun _ => uM s) (fun _ => .leaf .ret [.v (.bool b)] (uM t))
def cCan0 (s : Ps) (id : Int) : List AV → Option (AP AV) := mkC gMap (fun _ => True) (fun p => nmM p.1 p.2 p.2) (fun _ => [.ptr 0 0, iv id]) (fun _ => uM0 s) (fun _ => .leaf .ret [.v (.bool false)] (uM0 s))
/-- A new alarm, of which the map tells already. -/
def newA (id at_ tn : Int) : It := ⟨at_, tn, id, 0⟩
def mapN (es : List (AV × AV × Nat)) (id : Int) (a ck : Nat) : AO := .map (es ++ [(iv id, .ptr a 0, ck)]) (ck + 1)
def setH (t : Ps) (es : List (AV × AV × Nat)) (id at_ : Int) : LH := [(0, hdr 1001 1003 t.xs.length (roomOf t) (t.tn + 1)), (1001, rowO (blocks t)), (1002, famO (fam 0 t.xs)), (1003, mapN es id 1004 t.ck), (1004, alO (newA id at_ (t.tn + 1)) 0)]
def setH0 (t : Ps) (es : List (AV × AV × Nat)) (id at_ : Int) : LH := [(0, hdr0 1003 (t.tn + 1)), (1003, mapN es id 1004 t.ck), (1004, alO (newA id at_ (t.tn + 1)) 0)]
def cHPushA (t : Ps) (es : List (AV × AV × Nat)) (id at_ : Int) (L : List Al) (tn : Int) : List AV → Option (AP AV) := mkC gPush (fun _ => True) (fun q => nmP q.1 q.2.1 q.2.2.1 q.2.2.2) (fun _ => [hI, alP]) (fun _ => setH t es id at_) (fun _ => .leaf .ret [.tuple []] [(0, clO L tn)])
def cHPushA0 (t : Ps) (es : List (AV × AV × Nat)) (id at_ : Int) (L : List Al) (tn : Int) : List AV → Option (AP AV) := mkC gPush (fun _ => True) (fun q => nmP q.1 q.2.1 q.2.2.1 q.2.2.2) (fun _ => [hI, alP]) (fun _ => setH0 t es id at_) (fun _ => .leaf .ret [.tuple []] [(0, clO L tn)])
def hSet (tn id : Int) (es : List (AV × AV × Nat)) (ck : Nat) : ClaimT := hintL [(fSet, 1, 4, hv (iv (tn + 1))), (fSet, 3, 6, ho 1102 (mapN es id 1103 ck))]
def hSet0 (tn id : Int) (es : List (AV × AV × Nat)) (ck : Nat) : ClaimT := hintL [(fSet, 1, 4, hv (iv (tn + 1))), (fSet, 3, 6, ho 1100 (mapN es id 1101 ck))]
theorem oSet_eq (s t : Ps) (id at_ : Int) (b : Bool) (es : List (AV × AV × Nat)) (L : List Al) (tn : Int) (F : HP) : wRun [(fCan, cCan s t id b), (fHPush, cHPushA t es id at_ L tn)] (hSet t.tn id es t.ck) [] default fSet [.ptr 0 0, iv id, iv at_] (uM s) [0] F = VT.leaf (AV.tuple []) [some (AO.own (Md.clock L tn) (clH L tn))] 1104 (((Cnd.p True).a ((Cnd.p (VW [AV.ptr 0 0, AV.v (Value.int IntKind.i64 id)] [AV.ptr 0 0, AV.v (Value.int IntKind.i64 id)])).a ((Cnd.p (OW (AO.cells [AV.slice 1001 0 s.xs.length 1 (Cp.lo (roomOf s)), AV.map 1003, AV.v (Value.int IntKind.i64 s.tn)] 108) (AO.cells [AV.slice 1001 0 s.xs.length 1 (Cp.lo (roomOf s)), AV.map 1003, AV.v (Value.int IntKind.i64 s.tn)] 108))).a ((Cnd.p (OW (AO.cells (rowV pv (blocks s)) 110) (AO.cells (AV.rens (nmM 0 1001 1003) (rowV pv (blocks s))) 110))).a ((Cnd.p (OW (AO.any (famHP 57 (fam 0 s.xs))) (AO.any (famHP 57 (fam 0 s.xs))))).a ((Cnd.p (OW (AO.map (mE ptrV s.m) s.ck) (AO.map (renE (nmM 0 1001 1003) (mE ptrV s.m)) s.ck))).a Cnd.t)))))).a (((Cnd.p (true = true)).a ((Cnd.p (AV.v (Value.int IntKind.i64 t.tn) = AV.v (Value.int IntKind.i64 t.tn))).a Cnd.t)).a (((Cnd.p (Wk (AV.v (Value.int IntKind.i64 (IntKind.i64.wrap (t.tn + Int.ofNat 1)))) (AV.v (Value.int IntKind.i64 (t.tn + Int.ofNat 1))))).a Cnd.t).a (((Cnd.p (true = true)).a Cnd.t).a (((Cnd.p (true = true)).a ((Cnd.p (AV.v (Value.int IntKind.i64 (t.tn + Int.ofNat 1)) = AV.v (Value.int IntKind.i64 (t.tn + Int.ofNat 1)))).a Cnd.t)).a (((Cnd.p (true = true)).a Cnd.t).a (((Cnd.p (findKey Try.prog (envW [(15, cCan s t id b), (19, cHPushA t es id at_ L tn)] (hSet t.tn id es t.ck) [] default F) 3 (AV.v (Value.int IntKind.i64 id)) (renE (sgN (nmM 0 1001 1003) [1001, 1002, 1003] 1100) (mE ptrV t.m)) 0 = AP.ret (findS (AV.v (Value.int IntKind.i64 id)) (renE (sgN (nmM 0 1001 1003) [1001, 1002, 1003] 1100) (mE ptrV t.m)) 0))).a ((Cnd.p (staysS (AV.v (Value.int IntKind.i64 id)) (renE (sgN (nmM 0 1001 1003) [1001, 1002, 1003] 1100) (mE ptrV t.m)))).a ((Cnd.p (OW (AO.map (setE (AV.v (Value.int IntKind.i64 id)) (AV.ptr 1103 0) (renE (sgN (nmM 0 1001 1003) [1001, 1002, 1003] 1100) (mE ptrV t.m)) t.ck) (bumpE (AV.v (Value.int IntKind.i64 id)) (renE (sgN (nmM 0 1001 1003) [1001, 1002, 1003] 1100) (mE ptrV t.m)) t.ck)) (AO.map (es ++ [(AV.v (Value.int IntKind.i64 id), AV.ptr 1103 0, t.ck)]) (t.ck + 1)))).a Cnd.t))).a (((Cnd.p True).a ((Cnd.p (VW [AV.iface 59 (AV.ptr 0 0), AV.iface 55 (AV.ptr 1103 0)] [AV.iface 59 (AV.ptr 0 0), AV.iface 55 (AV.ptr 1103 0)])).a ((Cnd.p (OW (AO.cells [AV.slice 1100 0 t.xs.length 1 (Cp.lo (roomOf t)), AV.map 1102, AV.v (Value.int IntKind.i64 (t.tn + Int.ofNat 1))] 108) (AO.cells [AV.slice 1100 0 t.xs.length 1 (Cp.lo (roomOf t)), AV.map 1102, AV.v (Value.int IntKind.i64 (t.tn + Int.ofNat 1))] 108))).a ((Cnd.p (OW (AO.cells (AV.rens (sgN (nmM 0 1001 1003) [1001, 1002, 1003] 1100) (rowV pv (blocks t))) 110) (AO.cells (AV.rens (nmP 0 1100 1102 1103) (rowV pv (blocks t))) 110))).a ((Cnd.p (OW (AO.any (famHP 57 (fam 0 t.xs))) (AO.any (famHP 57 (fam 0 t.xs))))).a ((Cnd.p (OW (AO.map (es ++ [(AV.v (Value.int IntKind.i64 id), AV.ptr 1103 0, t.ck)]) (t.ck + 1)) (AO.map (renE (nmP 0 1100 1102 1103) (es ++ [(AV.v (Value.int IntKind.i64 id), AV.ptr 1004 0, t.ck)])) (t.ck + 1)))).a ((Cnd.p (OW (AO.cells [AV.v (Value.int IntKind.i64 id), AV.v (Value.int IntKind.i64 at_), AV.v (Value.int IntKind.i64 (t.tn + Int.ofNat 1)), AV.v (Value.int IntKind.i64 (Int.ofNat 0))] 114) (AO.cells [AV.v (Value.int IntKind.i64 id), AV.v (Value.int IntKind.i64 at_), AV.v (Value.int IntKind.i64 (t.tn + Int.ofNat 1)), AV.v (Value.int IntKind.i64 (Int.ofNat 0))] 114))).a Cnd.t))))))).a Cnd.t)))))))) := by kernel_rfl
theorem oSet0_eq (s : Ps) (id at_ : Int) (es : List (AV × AV × Nat)) (L : List Al) (tn : Int) (F : HP) : wRun [(fCan, cCan0 s id), (fHPush, cHPushA0 s es id at_ L tn)] (hSet0 s.tn id es s.ck) [] default fSet [.ptr 0 0, iv id, iv at_] (uM0 s) [0] F = VT.leaf (AV.tuple []) [some (AO.own (Md.clock L tn) (clH L tn))] 1102 (((Cnd.p True).a ((Cnd.p (VW [AV.ptr 0 0, AV.v (Value.int IntKind.i64 id)] [AV.ptr 0 0, AV.v (Value.int IntKind.i64 id)])).a ((Cnd.p (OW (AO.cells [AV.v (Value.slice none 0 0), AV.map 1003, AV.v (Value.int IntKind.i64 s.tn)] 108) (AO.cells [AV.v (Value.slice none 0 0), AV.map 1003, AV.v (Value.int IntKind.i64 s.tn)] 108))).a ((Cnd.p (OW (AO.map (mE ptrV s.m) s.ck) (AO.map (renE (nmM 0 1003 1003) (mE ptrV s.m)) s.ck))).a Cnd.t)))).a (((Cnd.p (true = true)).a ((Cnd.p (AV.v (Value.int IntKind.i64 s.tn) = AV.v (Value.int IntKind.i64 s.tn))).a Cnd.t)).a (((Cnd.p (Wk (AV.v (Value.int IntKind.i64 (IntKind.i64.wrap (s.tn + Int.ofNat 1)))) (AV.v (Value.int IntKind.i64 (s.tn + Int.ofNat 1))))).a Cnd.t).a (((Cnd.p (true = true)).a Cnd.t).a (((Cnd.p (true = true)).a ((Cnd.p (AV.v (Value.int IntKind.i64 (s.tn + Int.ofNat 1)) = AV.v (Value.int IntKind.i64 (s.tn + Int.ofNat 1)))).a Cnd.t)).a (((Cnd.p (true = true)).a Cnd.t).a (((Cnd.p (findKey Try.prog (envW [(15, cCan0 s id), (19, cHPushA0 s es id at_ L tn)] (hSet0 s.tn id es s.ck) [] default F) 3 (AV.v (Value.int IntKind.i64 id)) (renE (sgN (nmM 0 1003 1003) [1003] 1100) (mE ptrV s.m)) 0 = AP.ret (findS (AV.v (Value.int IntKind.i64 id)) (renE (sgN (nmM 0 1003 1003) [1003] 1100) (mE ptrV s.m)) 0))).a ((Cnd.p (staysS (AV.v (Value.int IntKind.i64 id)) (renE (sgN (nmM 0 1003 1003) [1003] 1100) (mE ptrV s.m)))).a ((Cnd.p (OW (AO.map (setE (AV.v (Value.int IntKind.i64 id)) (AV.ptr 1101 0) (renE (sgN (nmM 0 1003 1003) [1003] 1100) (mE ptrV s.m)) s.ck) (bumpE (AV.v (Value.int IntKind.i64 id)) (renE (sgN (nmM 0 1003 1003) [1003] 1100) (mE ptrV s.m)) s.ck)) (AO.map (es ++ [(AV.v (Value.int IntKind.i64 id), AV.ptr 1101 0, s.ck)]) (s.ck + 1)))).a Cnd.t))).a (((Cnd.p True).a ((Cnd.p (VW [AV.iface 59 (AV.ptr 0 0), AV.iface 55 (AV.ptr 1101 0)] [AV.iface 59 (AV.ptr 0 0), AV.iface 55 (AV.ptr 1101 0)])).a ((Cnd.p (OW (AO.cells [AV.v (Value.slice none 0 0), AV.map 1100, AV.v (Value.int IntKind.i64 (s.tn + Int.ofNat 1))] 108) (AO.cells [AV.v (Value.slice none 0 0), AV.map 1100, AV.v (Value.int IntKind.i64 (s.tn + Int.ofNat 1))] 108))).a ((Cnd.p (OW (AO.map (es ++ [(AV.v (Value.int IntKind.i64 id), AV.ptr 1101 0, s.ck)]) (s.ck + 1)) (AO.map (renE (nmP 0 1100 1100 1101) (es ++ [(AV.v (Value.int IntKind.i64 id), AV.ptr 1004 0, s.ck)])) (s.ck + 1)))).a ((Cnd.p (OW (AO.cells [AV.v (Value.int IntKind.i64 id), AV.v (Value.int IntKind.i64 at_), AV.v (Value.int IntKind.i64 (s.tn + Int.ofNat 1)), AV.v (Value.int IntKind.i64 (Int.ofNat 0))] 114) (AO.cells [AV.v (Value.int IntKind.i64 id), AV.v (Value.int IntKind.i64 at_), AV.v (Value.int IntKind.i64 (s.tn + Int.ofNat 1)), AV.v (Value.int IntKind.i64 (Int.ofNat 0))] 114))).a Cnd.t))))).a Cnd.t)))))))) := by kernel_rfl
end
end Go.Proofs.Ytojfbgmeaadanaa.Alm

/- Alarms: Set. -/
set_option linter.unusedVariables false
set_option linter.unusedSimpArgs false
set_option maxRecDepth 100000
namespace Go.Proofs.Ytojfbgmeaadanaa.Alm
open Go Go.RowKit Go.Proofs.Ytojfbgmeaadanaa.Eng Go.Proofs.Ytojfbgmeaadanaa.Kit
theorem ers_last {N : Names} {k u v : AV} {c : Nat} (h : ∀ y, VR N u y → VR N v y) : ∀ {A : List (AV × AV × Nat)} {ys : List MapEntry}, ERs N (A ++ [(k, u, c)]) ys → ERs N (A ++ [(k, v, c)]) ys
  | [], ys, ⟨e, r, ⟨h1, h2, h3⟩, h4, h5⟩ => ⟨e, r, ⟨h1, h _ h2, h3⟩, h4, h5⟩
  | x :: A, ys, ⟨e, r, h1, h2, h3⟩ => ⟨e, r, h1, ers_last h h2, h3⟩
theorem mfind_none {m : IMap Nat} {id : Int} (h : mlook id m = none) : mfind id m 0 = none := by
  have := mfind_isSome id m 0
  rw [h] at this
  cases hf : mfind id m 0 with
  | none => rfl
  | some p => rw [hf] at this; cases this
theorem mset_new {m : IMap Nat} {id : Int} {c b : Nat} (h : mlook id m = none) : mE ptrV (mset m c id b) = mE ptrV m ++ [(iv id, ptrV b, c)] ∧ mbump m c id = c + 1 := by
  rw [mset, mbump, mfind_none h]
  exact ⟨by simp [mE]; rfl, rfl⟩
/-- The clock to which Set adds. -/
def setS (t : Ps) (id : Int) (b : Nat) : Ps := { t with m := mset t.m t.ck id b, ck := mbump t.m t.ck id, tn := t.tn + 1 }
theorem set_plain (t : Ps) (id at_ : Int) (b : Nat) (hm : mlook id t.m = none) : Goes [hI, alP] ((1005, .same 1004 b) :: setH t (mE ptrV t.m) id at_) [hI, alP] (pL (setS t id b) ⟨at_, t.tn + 1, id, b⟩ 0) := by
  obtain ⟨e1, e2⟩ := mset_new (c := t.ck) (b := b) hm
  refine goes_plain (i := 1004) (j := 1005) (b := b) (by kernel_rfl) (by kernel_rfl) rfl (fun n h => ?_) (fun n _ h => ?_) (fun _ _ _ _ h => h) (fun n o o' h h' N D w r hN ho => ?_)
  · simp only [setH, pL, getO] at h ⊢
    repeat' split at h
    all_goals first
      | (cases h; done)
      | simp only [*, if_false]
  · simp only [setH, pL, getO] at h ⊢
    repeat' split at h
    all_goals first
      | (cases h; done)
      | simp only [*, if_false]
  · by_cases hn : n = 1003
    · subst hn
      cases h
      cases h'
      obtain ⟨l, es', a1, a2, a3, a4⟩ := ho
      show OR N 1003 (.map (mE ptrV (mset t.m t.ck id b)) (mbump t.m t.ck id)) D w
      rw [e1, e2]
      refine ⟨l, es', a1, a2, a3, ers_last (fun y hy => ?_) a4⟩
      simp only [VR] at hy ⊢
      obtain ⟨l2, b1, b2⟩ := hy
      rw [hN] at b1
      cases b1
      exact b2
    · have hn5 : n = 1005 ∨ n ≠ 1005 := by omega
      rcases hn5 with rfl | hn5
      · cases h; cases h'; exact ho
      · have : o = o' := by
          simp only [setH, pL, getO, if_neg hn, if_neg hn5] at h h'
          exact Option.some.inj (h.symm.trans h')
        subst this
        exact ho
theorem set_plain0 (t : Ps) (id at_ : Int) (b : Nat) (hm : mlook id t.m = none) : Goes [hI, alP] ((1005, .same 1004 b) :: setH0 t (mE ptrV t.m) id at_) [hI, alP] (pL0 (setS t id b) ⟨at_, t.tn + 1, id, b⟩ 0) := by
  obtain ⟨e1, e2⟩ := mset_new (c := t.ck) (b := b) hm
  refine goes_plain (i := 1004) (j := 1005) (b := b) (by kernel_rfl) (by kernel_rfl) rfl (fun n h => ?_) (fun n _ h => ?_) (fun _ _ _ _ h => h) (fun n o o' h h' N D w r hN ho => ?_)
  · simp only [setH0, pL0, getO] at h ⊢
    repeat' split at h
    all_goals first
      | (cases h; done)
      | simp only [*, if_false]
  · simp only [setH0, pL0, getO] at h ⊢
    repeat' split at h
    all_goals first
      | (cases h; done)
      | simp only [*, if_false]
  · by_cases hn : n = 1003
    · subst hn
      cases h
      cases h'
      obtain ⟨l, es', a1, a2, a3, a4⟩ := ho
      show OR N 1003 (.map (mE ptrV (mset t.m t.ck id b)) (mbump t.m t.ck id)) D w
      rw [e1, e2]
      refine ⟨l, es', a1, a2, a3, ers_last (fun y hy => ?_) a4⟩
      simp only [VR] at hy ⊢
      obtain ⟨l2, b1, b2⟩ := hy
      rw [hN] at b1
      cases b1
      exact b2
    · have hn5 : n = 1005 ∨ n ≠ 1005 := by omega
      rcases hn5 with rfl | hn5
      · cases h; cases h'; exact ho
      · have : o = o' := by
          simp only [setH0, pL0, getO, if_neg hn, if_neg hn5] at h h'
          exact Option.some.inj (h.symm.trans h')
        subst this
        exact ho
theorem AbsC.look {s : Ps} {L : List Al} {tn : Int} (h : AbsC s L tn) {id : Int} (hn : ∀ x ∈ L, x.id ≠ id) : mlook id s.m = none := by
  rcases h.find id with ⟨i, hi, hc, hm, hf⟩ | ⟨hm, _⟩
  · exact absurd rfl (hn _ (List.mem_of_find?_eq_some hf))
  · exact hm
theorem AbsC.set {t : Ps} {L : List Al} {tn : Int} (h : AbsC t L tn) (id at_ : Int) (b : Nat) (hn : ∀ x ∈ L, x.id ≠ id) : AbsC (hpushS (setS t id b) ⟨at_, t.tn + 1, id, b⟩) (L ++ [⟨id, at_⟩]) (tn + 1) := by
  have := h.push id at_ b hn
  rwa [← h.tn] at this ⊢
/-- There is room for one more. -/
def RoomL (L : List Al) : Prop := (L.length + 1) * 15 ≤ 140737488355328
theorem RoomL.big {L : List Al} (h : RoomL L) : BigL L := by unfold RoomL at h; unfold BigL; omega
theorem hpushA_tri (t : Ps) (id at_ : Int) {L : List Al} {tn : Int} (h : AbsC t L tn) (hn : ∀ x ∈ L, x.id ≠ id) (hR : RoomL L) : Tri Try.prog default fHPush [hI, alP] (setH t (mE ptrV t.m) id at_) (.tuple []) [(0, clO (L ++ [⟨id, at_⟩]) (tn + 1))] := by
  refine tri_same (i := 1004) (j := 1005) (cs := vmap (alC (newA id at_ (t.tn + 1)) 0)) (e := 2 * tAl) (by kernel_rfl) (by decide) rfl (Nat.mul_mod_right 2 _) rfl fun b => ?_
  refine Tri.pre (set_plain t id at_ b (h.look hn)) (Tri.post (hpush_tri (setS t id b) _ 0 ?_) (shut_clk _ (h.set id at_ b hn) _ fun K => ⟨trivial, trivial⟩))
  unfold Room
  show (t.xs.length + 1) * 15 ≤ _
  rw [← h.len]; exact hR
theorem hpushA0_tri (t : Ps) (id at_ : Int) {L : List Al} {tn : Int} (h : AbsC t L tn) (hx : t.xs = []) (hn : ∀ x ∈ L, x.id ≠ id) : Tri Try.prog default fHPush [hI, alP] (setH0 t (mE ptrV t.m) id at_) (.tuple []) [(0, clO (L ++ [⟨id, at_⟩]) (tn + 1))] := by
  refine tri_same (i := 1004) (j := 1005) (cs := vmap (alC (newA id at_ (t.tn + 1)) 0)) (e := 2 * tAl) (by kernel_rfl) (by decide) rfl (Nat.mul_mod_right 2 _) rfl fun b => ?_
  exact Tri.pre (set_plain0 t id at_ b (h.look hn)) (Tri.post (hpush0_tri (setS t id b) _ 0 hx) (shut_clk _ (h.set id at_ b hn) _ fun K => ⟨trivial, trivial⟩))
end Go.Proofs.Ytojfbgmeaadanaa.Alm

/- Alarms: Set on a clock whole. -/
set_option linter.unusedVariables false
set_option linter.unusedSimpArgs false
set_option maxRecDepth 100000
namespace Go.Proofs.Ytojfbgmeaadanaa.Alm
open Go Go.RowKit Go.Proofs.Ytojfbgmeaadanaa.Eng Go.Proofs.Ytojfbgmeaadanaa.Kit
theorem gMap_ro : ∀ args, RO (gMap args) := by
  intro args
  unfold gMap
  repeat' split
  all_goals first
    | exact RO.fail _
    | (refine RO.read _ _ fun o => ?_
       repeat' split
       all_goals first | exact RO.ret _ | exact RO.fail _)
theorem clE_snoc (K : Nat → Bool) {k v : AV} {c : Nat} (hk : AV.cl K k) (hv : AV.cl K v) : ∀ {es : List (AV × AV × Nat)}, clE K es → clE K (es ++ [(k, v, c)])
  | [], _ => ⟨hk, hv, trivial⟩
  | x :: es, h => ⟨h.1, h.2.1, clE_snoc K hk hv h.2.2⟩
theorem renE_append (σ : Nat → Nat) : ∀ (a b : List (AV × AV × Nat)), renE σ (a ++ b) = renE σ a ++ renE σ b
  | [], b => rfl
  | x :: a, b => by rw [List.cons_append, renE, renE, renE_append σ a b, List.cons_append]
theorem setE_new {m : IMap Nat} {id : Int} {v : AV} {c : Nat} (h : mlook id m = none) : setE (.v (.int .i64 id)) v (mE ptrV m) c = mE ptrV m ++ [(iv id, v, c)] := by
  rw [setE, findS_mE, mfind_none h]; rfl
theorem cCan_ok {s t : Ps} {id : Int} {b : Bool} (h : Tri Try.prog default fCan [.ptr 0 0, iv id] (uM s) (.v (.bool b)) (uM t)) (F : HP) : C1OK Try.prog F fCan (cCan s t id b) :=
  mkC_ok (W := default) oldDef (fun _ => .v (.bool b)) gHead_ro (fun _ => rfl) (fun _ _ => h)
    fun q => ⟨by kernel_rfl, by kernel_rfl, ⟨rfl, trivial, trivial⟩, uM_cl _ ⟨rfl, rfl⟩ _, ⟨trivial, trivial⟩, uM_cl _ ⟨rfl, rfl⟩ _⟩
theorem cCan0_ok {s : Ps} {id : Int} (h : Tri Try.prog default fCan [.ptr 0 0, iv id] (uM0 s) (.v (.bool false)) (uM0 s)) (F : HP) : C1OK Try.prog F fCan (cCan0 s id) :=
  mkC_ok (W := default) oldDef (fun _ => .v (.bool false)) gMap_ro (fun _ => rfl) (fun _ _ => h)
    fun q => ⟨by kernel_rfl, by kernel_rfl, ⟨rfl, trivial, trivial⟩, uM0_cl _ rfl _, ⟨trivial, trivial⟩, uM0_cl _ rfl _⟩
theorem mapN_cl (K : Nat → Bool) (m : IMap Nat) (id : Int) (ck : Nat) (h : K 1004 = true) : (mapN (mE ptrV m) id 1004 ck).cl K := clE_snoc (k := iv id) (v := .ptr 1004 0) K trivial h (map_clE K m)
theorem cHPushA_ok {t : Ps} {id at_ : Int} {L : List Al} {tn : Int} (h : Tri Try.prog default fHPush [hI, alP] (setH t (mE ptrV t.m) id at_) (.tuple []) [(0, clO L tn)]) (F : HP) : C1OK Try.prog F fHPush (cHPushA t (mE ptrV t.m) id at_ L tn) :=
  mkC_ok (W := default) oldDef (fun _ => .tuple []) gPush_ro (fun _ => rfl) (fun _ _ => h)
    fun q => ⟨by kernel_rfl, by kernel_rfl, ⟨rfl, rfl, trivial⟩, all_cons ⟨rfl, rfl, trivial, trivial⟩ (all_cons (cls_rowV _ _) (all_cons trivial (all_cons (mapN_cl _ _ _ _ rfl) (all_cons ⟨trivial, trivial, trivial, trivial, trivial⟩ all_nil)))), ⟨trivial, trivial⟩, all_cons trivial all_nil⟩
theorem cHPushA0_ok {t : Ps} {id at_ : Int} {L : List Al} {tn : Int} (h : Tri Try.prog default fHPush [hI, alP] (setH0 t (mE ptrV t.m) id at_) (.tuple []) [(0, clO L tn)]) (F : HP) : C1OK Try.prog F fHPush (cHPushA0 t (mE ptrV t.m) id at_ L tn) :=
  mkC_ok (W := default) oldDef (fun _ => .tuple []) gPush_ro (fun _ => rfl) (fun _ _ => h)
    fun q => ⟨by kernel_rfl, by kernel_rfl, ⟨rfl, rfl, trivial⟩, all_cons ⟨trivial, rfl, trivial, trivial⟩ (all_cons (mapN_cl _ _ _ _ rfl) (all_cons ⟨trivial, trivial, trivial, trivial, trivial⟩ all_nil)), ⟨trivial, trivial⟩, all_cons trivial all_nil⟩
/-- The turns are few. -/
def TnOK (tn : Int) : Prop := 0 ≤ tn ∧ tn ≤ 9382499223688
theorem tn_wrap {tn : Int} (h : TnOK tn) : IntKind.i64.wrap (tn + Int.ofNat 1) = tn + Int.ofNat 1 := by
  obtain ⟨h1, h2⟩ := h
  exact IntWalk.i64_in _ (by simp only [Int.ofNat_eq_natCast]; omega)
theorem fits_own1 {v : AV} {o : AO} (hv : ∀ σ, AV.ren σ v = v) (ho : ∀ σ, o.ren σ = o) : Fits [0] [v] [some o] [v] [(0, o)] := by
  refine (fit_mk (vs := [v]) (vs' := [v]) (H' := [(0, o)]) [] rfl rfl ?_ ⟨⟨_, rfl, OW.of_eq (ho _).symm⟩, trivial⟩).fits rfl
  show VW [v] [AV.ren _ v]
  rw [hv]; exact VW.refl _
theorem setC_tri (s t : Ps) (id at_ : Int) (b : Bool) {L : List Al} {tn : Int} (hc : Tri Try.prog default fCan [.ptr 0 0, iv id] (uM s) (.v (.bool b)) (uM t)) (hpa : Tri Try.prog default fHPush [hI, alP] (setH t (mE ptrV t.m) id at_) (.tuple []) [(0, clO L tn)]) (hm : mlook id t.m = none) (hT : TnOK t.tn) :
    Tri Try.prog default fSet [.ptr 0 0, iv id, iv at_] (uM s) (.tuple []) [(0, clO L tn)] := by
  refine tri_run (con := [(fCan, cCan s t id b), (fHPush, cHPushA t (mE ptrV t.m) id at_ L tn)]) (hints := hSet t.tn id (mE ptrV t.m) t.ck) (lc := []) [0] rfl
    (fun F _ => con_cons (cCan_ok hc F) (con_cons (cHPushA_ok hpa F) noC)) (fun _ _ => noL) fun F => ?_
  refine cast (congrArg (VAll _) (oSet_eq s t id at_ b (mE ptrV t.m) L tn F).symm) ⟨⟨?_, fits_own1 (fun _ => rfl) (fun _ => rfl)⟩⟩
  have hw := tn_wrap hT
  have e1 : bumpE (.v (.int .i64 id)) (mE ptrV t.m) t.ck = t.ck + 1 := by rw [bumpE_mE, mbump, mfind_none hm]
  simp only [Cnd.holds, rens_rowV, map_renE, renE_append, setE_new hm, e1, true_and, and_true]
  and_intros
  all_goals first
    | (with_reducible exact rfl)
    | (with_reducible exact Wk.refl _)
    | (with_reducible exact VW.refl _)
    | (with_reducible exact OW.refl _)
    | exact findKey_mE intT _ _ _
    | exact staysS_mE _ _
    | exact wk_int hw
    | exact OW.refl _
theorem setC0_tri (s : Ps) (id at_ : Int) {L : List Al} {tn : Int} (hpa : Tri Try.prog default fHPush [hI, alP] (setH0 s (mE ptrV s.m) id at_) (.tuple []) [(0, clO L tn)]) (hm : mlook id s.m = none) (hT : TnOK s.tn) :
    Tri Try.prog default fSet [.ptr 0 0, iv id, iv at_] (uM0 s) (.tuple []) [(0, clO L tn)] := by
  refine tri_run (con := [(fCan, cCan0 s id), (fHPush, cHPushA0 s (mE ptrV s.m) id at_ L tn)]) (hints := hSet0 s.tn id (mE ptrV s.m) s.ck) (lc := []) [0] rfl
    (fun F _ => con_cons (cCan0_ok (canN0_tri s id hm) F) (con_cons (cHPushA0_ok hpa F) noC)) (fun _ _ => noL) fun F => ?_
  refine cast (congrArg (VAll _) (oSet0_eq s id at_ (mE ptrV s.m) L tn F).symm) ⟨⟨?_, fits_own1 (fun _ => rfl) (fun _ => rfl)⟩⟩
  have hw := tn_wrap hT
  have e1 : bumpE (.v (.int .i64 id)) (mE ptrV s.m) s.ck = s.ck + 1 := by rw [bumpE_mE, mbump, mfind_none hm]
  simp only [Cnd.holds, rens_rowV, map_renE, renE_append, setE_new hm, e1, true_and, and_true]
  and_intros
  all_goals first
    | (with_reducible exact rfl)
    | (with_reducible exact Wk.refl _)
    | (with_reducible exact VW.refl _)
    | (with_reducible exact OW.refl _)
    | exact findKey_mE intT _ _ _
    | exact staysS_mE _ _
    | exact wk_int hw
    | exact OW.refl _
theorem without_ne (L : List Al) (id : Int) : ∀ x ∈ without L id, x.id ≠ id := fun x hx => by
  have := (List.mem_filter.1 hx).2
  simpa using this
theorem without_len (L : List Al) (id : Int) : (without L id).length ≤ L.length := List.length_filter_le _ _
theorem Aset_tri (L : List Al) (tn id at_ : Int) (hR : RoomL L) (hT : TnOK tn) : Tri Try.prog default fSet [.ptr 0 0, iv id, iv at_] [(0, clO L tn)] (.tuple []) [(0, clO (without L id ++ [⟨id, at_⟩]) (tn + 1))] := by
  have hR' : RoomL (without L id) := by have := without_len L id; unfold RoomL at hR ⊢; exact Nat.le_trans (Nat.mul_le_mul_right 15 (Nat.succ_le_succ this)) hR
  refine open_clk (fun s h => ?_) (fun s h hx => ?_)
  · rcases h.find id with ⟨i, hi, hc, hm, hf⟩ | ⟨hm, hn⟩
    · subst hc
      exact setC_tri s (canS s i (at' s i).c) _ at_ true (canF_tri s i _ (h.big hR.big) hi hm) (hpushA_tri _ _ at_ (h.can i hi) (without_ne L _) hR') ((h.can i hi).look (without_ne L _)) ((h.can i hi).tn ▸ hT)
    · rw [without_same hn]
      exact setC_tri s s id at_ false (canN_tri s id hm) (hpushA_tri s id at_ h hn hR) hm (h.tn ▸ hT)
  · rcases h.find id with ⟨i, hi, _⟩ | ⟨hm, hn⟩
    · rw [hx] at hi; cases hi
    · rw [without_same hn]
      exact setC0_tri s id at_ (hpushA0_tri s id at_ h hx hn) hm (h.tn ▸ hT)
end Go.Proofs.Ytojfbgmeaadanaa.Alm

/- Alarms: Due: runs. -/
set_option linter.unusedVariables false
set_option linter.unusedSimpArgs false
set_option maxRecDepth 100000
namespace Go.Proofs.Ytojfbgmeaadanaa.Alm
open Go Go.RowKit Go.Proofs.Ytojfbgmeaadanaa.Eng Go.Proofs.Ytojfbgmeaadanaa.Kit
noncomputable section
def encI (x : Int) : List Value := [.int .i64 x]
abbrev tInt : TypeId := 2 * 3
def idsO (ids : List Int) : AO := .cells (rowV encI ids) tInt
def cHPop (s d : Ps) : List AV → Option (AP AV) := mkC gHead (fun _ => Big s ∧ 0 < s.xs.length ∧ hpopD s = d) (fun p => nmU p.1 p.2.1 p.2.2) (fun _ => [hI]) (fun _ => hremH s 0) (fun _ => .leaf .ret [alP] (uL (popS d) ++ outL (lastOf d) (d.xs.length - 1)))
def dueA (now : Int) (V : AV) : List (Nat × AV) := [(0, .ptr 0 0), (1, iv now), (4, V)]
def nilV : AV := .v (.slice none 0 0)
def idsV (n : Nat) : AV := .slice 1010 0 n 1 (.lo n)
def hDueE : ClaimT := hintL [(fDue, 1, 5, hv (.lit false))]
def hDueL : ClaimT := hintL [(fDue, 1, 5, hv (.lit true)), (fDue, 1, 12, hp 1005), (fDue, 1, 17, hv (.lit false))]
def hDueS : ClaimT := hintL [(fDue, 1, 5, hv (.lit true)), (fDue, 1, 12, hp 1005), (fDue, 1, 17, hv (.lit true))]
theorem oDueE_eq (s : Ps) (now : Int) (F : HP) : wLoop [] hDueE [] default fDue (loopN fDue 1) (tms 0 47 (dueA now nilV)) (uM s) [0, 1001, 1002, 1003, 1004, 1005, 1010, 1102, 1103] [0, 1, 4] F = VT.leaf (AX.exit 0, [AV.ptr 0 0, AV.v (Value.int IntKind.i64 now), AV.v (Value.slice none 0 0)], 47) [some (AO.cells [AV.slice 1001 0 s.xs.length 1 (Cp.lo (roomOf s)), AV.map 1003, AV.v (Value.int IntKind.i64 s.tn)] 108), some (AO.cells (rowV pv (blocks s)) 110), some (AO.any (famHP 57 (fam 0 s.xs))), some (AO.map (mE ptrV s.m) s.ck), none, none, none, none, none] 1100 (((Cnd.p (true = true)).a Cnd.t).a (((Cnd.p (Wk (AV.v (Value.bool (decide (↑s.xs.length > Int.ofNat 0)))) (AV.lit false))).a Cnd.t).a Cnd.t)) := by kernel_rfl
theorem oDueE1_eq (s : Ps) (now : Int) (ids : List Int) (F : HP) : wLoop [] hDueE [] default fDue (loopN fDue 1) (tms 0 47 (dueA now (idsV ids.length))) (uM s ++ [(1010, idsO ids)]) [0, 1001, 1002, 1003, 1004, 1005, 1010, 1102, 1103] [0, 1, 4] F = VT.leaf (AX.exit 0, [AV.ptr 0 0, AV.v (Value.int IntKind.i64 now), AV.slice 1010 0 ids.length 1 (Cp.lo ids.length)], 47) [some (AO.cells [AV.slice 1001 0 s.xs.length 1 (Cp.lo (roomOf s)), AV.map 1003, AV.v (Value.int IntKind.i64 s.tn)] 108), some (AO.cells (rowV pv (blocks s)) 110), some (AO.any (famHP 57 (fam 0 s.xs))), some (AO.map (mE ptrV s.m) s.ck), none, none, some (AO.cells (rowV encI ids) 6), none, none] 1100 (((Cnd.p (true = true)).a Cnd.t).a (((Cnd.p (Wk (AV.v (Value.bool (decide (↑s.xs.length > Int.ofNat 0)))) (AV.lit false))).a Cnd.t).a Cnd.t)) := by kernel_rfl
theorem oDueL_eq (s : Ps) (now : Int) (F : HP) : wLoop [] hDueL [] default fDue (loopN fDue 1) (tms 0 47 (dueA now nilV)) (oC s 0) [0, 1001, 1002, 1003, 1004, 1005, 1010, 1102, 1103] [0, 1, 4] F = VT.leaf (AX.exit 0, [AV.ptr 0 0, AV.v (Value.int IntKind.i64 now), AV.v (Value.slice none 0 0)], 47) [some (AO.cells [AV.slice 1001 0 s.xs.length 1 (Cp.lo (roomOf s)), AV.map 1003, AV.v (Value.int IntKind.i64 s.tn)] 108), some (AO.cells (rowV pv (blocks s)) 110), some (AO.any (famHP 57 ((fam 0 s.xs).eraseIdx 0))), some (AO.map (mE ptrV s.m) s.ck), some (AO.cells [AV.v (Value.int IntKind.i64 (at' s 0).c), AV.v (Value.int IntKind.i64 (at' s 0).a), AV.v (Value.int IntKind.i64 (at' s 0).b), AV.v (Value.int IntKind.i64 (Int.ofNat 0))] 114), some (AO.same 1004 (at' s 0).k), none, none, none] 1100 (((Cnd.p (true = true)).a Cnd.t).a (((Cnd.p (Wk (AV.v (Value.bool (decide (↑s.xs.length > Int.ofNat 0)))) (AV.lit true))).a Cnd.t).a (((Cnd.p (true = true)).a Cnd.t).a (((Cnd.p (Nat.blt 0 s.xs.length = true)).a Cnd.t).a (((Cnd.p (Nat.blt 0 (rowV pv (blocks s)).length = true)).a ((Cnd.p (Wk ((rowV pv (blocks s)).getD 0 (AV.v (Value.tuple (Array.mk [])))) (AV.v (Value.pointer (some (Addr.mk (at' s 0).k 0 none)))))).a Cnd.t)).a (((Cnd.p (true = true)).a ((Cnd.p (AV.v (Value.int IntKind.i64 (at' s 0).a) = AV.v (Value.int IntKind.i64 (at' s 0).a))).a Cnd.t)).a (((Cnd.p (Wk (AV.v (Value.bool (decide ((at' s 0).a ≤ now)))) (AV.lit false))).a Cnd.t).a Cnd.t))))))) := by kernel_rfl
theorem oDueS_eq (s d : Ps) (now : Int) (F : HP) : wLoop [(fHPop, cHPop s d)] hDueS [] default fDue (loopN fDue 1) (tms 0 47 (dueA now nilV)) (oC s 0) [0, 1001, 1002, 1003, 1004, 1005, 1010, 1102, 1103] [0, 1, 4] F = VT.leaf (AX.normal, [AV.ptr 0 0, AV.v (Value.int IntKind.i64 now), AV.slice 1103 0 1 1 (Cp.lo 1)], 47) [some (AO.cells [AV.slice 1001 0 d.xs.dropLast.length 1 (Cp.lo (roomOf (popS d))), AV.map 1003, AV.v (Value.int IntKind.i64 d.tn)] 108), some (AO.cells (AV.rens (sgN (nmU 0 1001 1003) [1004, 1005] 1100) (rowV pv (blocks (popS d)))) 110), some (AO.any (famHP 57 (fam 0 d.xs.dropLast))), some (AO.map (delE (AV.v (Value.int IntKind.i64 (lastOf d).c)) (renE (sgN (nmU 0 1001 1003) [1004, 1005] 1100) (mE ptrV d.m))) d.ck), none, none, none, some (AO.cells [AV.v (Value.int IntKind.i64 (lastOf d).c)] 6), some (AO.cells [AV.v (Value.int IntKind.i64 (lastOf d).c)] 6)] 1104 (((Cnd.p (true = true)).a Cnd.t).a (((Cnd.p (Wk (AV.v (Value.bool (decide (↑s.xs.length > Int.ofNat 0)))) (AV.lit true))).a Cnd.t).a (((Cnd.p (true = true)).a Cnd.t).a (((Cnd.p (Nat.blt 0 s.xs.length = true)).a Cnd.t).a (((Cnd.p (Nat.blt 0 (rowV pv (blocks s)).length = true)).a ((Cnd.p (Wk ((rowV pv (blocks s)).getD 0 (AV.v (Value.tuple (Array.mk [])))) (AV.v (Value.pointer (some (Addr.mk (at' s 0).k 0 none)))))).a Cnd.t)).a (((Cnd.p (true = true)).a ((Cnd.p (AV.v (Value.int IntKind.i64 (at' s 0).a) = AV.v (Value.int IntKind.i64 (at' s 0).a))).a Cnd.t)).a (((Cnd.p (Wk (AV.v (Value.bool (decide ((at' s 0).a ≤ now)))) (AV.lit true))).a Cnd.t).a (((Cnd.p (Big s ∧ 0 < s.xs.length ∧ hpopD s = d)).a ((Cnd.p (VW [AV.iface 59 (AV.ptr 0 0)] [AV.iface 59 (AV.ptr 0 0)])).a ((Cnd.p (OW (AO.cells [AV.slice 1001 0 s.xs.length 1 (Cp.lo (roomOf s)), AV.map 1003, AV.v (Value.int IntKind.i64 s.tn)] 108) (AO.cells [AV.slice 1001 0 s.xs.length 1 (Cp.lo (roomOf s)), AV.map 1003, AV.v (Value.int IntKind.i64 s.tn)] 108))).a ((Cnd.p (OW (AO.cells (rowV pv (blocks s)) 110) (AO.cells (AV.rens (nmU 0 1001 1003) (rowV pv (blocks s))) 110))).a ((Cnd.p (OW (AO.any (famHP 57 ((fam 0 s.xs).eraseIdx 0))) (AO.any (famHP 57 ((fam 0 s.xs).eraseIdx 0))))).a ((Cnd.p (OW (AO.map (mE ptrV s.m) s.ck) (AO.map (renE (nmU 0 1001 1003) (mE ptrV s.m)) s.ck))).a ((Cnd.p (OW (AO.cells [AV.v (Value.int IntKind.i64 (at' s 0).c), AV.v (Value.int IntKind.i64 (at' s 0).a), AV.v (Value.int IntKind.i64 (at' s 0).b), AV.v (Value.int IntKind.i64 (Int.ofNat 0))] 114) (AO.cells [AV.v (Value.int IntKind.i64 (at' s 0).c), AV.v (Value.int IntKind.i64 (at' s 0).a), AV.v (Value.int IntKind.i64 (at' s 0).b), AV.v (Value.int IntKind.i64 (Int.ofNat 0))] 114))).a ((Cnd.p (OW (AO.same 1004 (at' s 0).k) (AO.same 1004 (at' s 0).k))).a Cnd.t)))))))).a (((Cnd.p (true = true)).a Cnd.t).a (((Cnd.p (true = true)).a ((Cnd.p (AV.v (Value.int IntKind.i64 (lastOf d).c) = AV.v (Value.int IntKind.i64 (lastOf d).c))).a Cnd.t)).a (((Cnd.p (findKey Try.prog (envW [(20, cHPop s d)] hDueS [] default F) 3 (AV.v (Value.int IntKind.i64 (lastOf d).c)) (renE (sgN (nmU 0 1001 1003) [1004, 1005] 1100) (mE ptrV d.m)) 0 = AP.ret (findS (AV.v (Value.int IntKind.i64 (lastOf d).c)) (renE (sgN (nmU 0 1001 1003) [1004, 1005] 1100) (mE ptrV d.m)) 0))).a Cnd.t).a (((Cnd.p (true = true)).a ((Cnd.p (AV.v (Value.int IntKind.i64 (lastOf d).c) = AV.v (Value.int IntKind.i64 (lastOf d).c))).a Cnd.t)).a (((Cnd.p (true = true)).a ((Cnd.p (true = true)).a ((Cnd.p (true = true)).a ((Cnd.p (true = true)).a ((Cnd.p (true = true)).a ((Cnd.p (true = true)).a Cnd.t)))))).a Cnd.t))))))))))))) := by kernel_rfl
theorem oDueL1_eq (s : Ps) (now : Int) (ids : List Int) (F : HP) : wLoop [] hDueL [] default fDue (loopN fDue 1) (tms 0 47 (dueA now (idsV ids.length))) (oC s 0 ++ [(1010, idsO ids)]) [0, 1001, 1002, 1003, 1004, 1005, 1010, 1102, 1103] [0, 1, 4] F = VT.leaf (AX.exit 0, [AV.ptr 0 0, AV.v (Value.int IntKind.i64 now), AV.slice 1010 0 ids.length 1 (Cp.lo ids.length)], 47) [some (AO.cells [AV.slice 1001 0 s.xs.length 1 (Cp.lo (roomOf s)), AV.map 1003, AV.v (Value.int IntKind.i64 s.tn)] 108), some (AO.cells (rowV pv (blocks s)) 110), some (AO.any (famHP 57 ((fam 0 s.xs).eraseIdx 0))), some (AO.map (mE ptrV s.m) s.ck), some (AO.cells [AV.v (Value.int IntKind.i64 (at' s 0).c), AV.v (Value.int IntKind.i64 (at' s 0).a), AV.v (Value.int IntKind.i64 (at' s 0).b), AV.v (Value.int IntKind.i64 (Int.ofNat 0))] 114), some (AO.same 1004 (at' s 0).k), some (AO.cells (rowV encI ids) 6), none, none] 1100 (((Cnd.p (true = true)).a Cnd.t).a (((Cnd.p (Wk (AV.v (Value.bool (decide (↑s.xs.length > Int.ofNat 0)))) (AV.lit true))).a Cnd.t).a (((Cnd.p (true = true)).a Cnd.t).a (((Cnd.p (Nat.blt 0 s.xs.length = true)).a Cnd.t).a (((Cnd.p (Nat.blt 0 (rowV pv (blocks s)).length = true)).a ((Cnd.p (Wk ((rowV pv (blocks s)).getD 0 (AV.v (Value.tuple (Array.mk [])))) (AV.v (Value.pointer (some (Addr.mk (at' s 0).k 0 none)))))).a Cnd.t)).a (((Cnd.p (true = true)).a ((Cnd.p (AV.v (Value.int IntKind.i64 (at' s 0).a) = AV.v (Value.int IntKind.i64 (at' s 0).a))).a Cnd.t)).a (((Cnd.p (Wk (AV.v (Value.bool (decide ((at' s 0).a ≤ now)))) (AV.lit false))).a Cnd.t).a Cnd.t))))))) := by kernel_rfl
def hDueS1 (ids : List Int) : ClaimT := hintL [(fDue, 1, 5, hv (.lit true)), (fDue, 1, 12, hp 1005), (fDue, 1, 17, hv (.lit true)), (fDue, 4, 6, ho 1103 (idsO ids))]
theorem oDueS1_eq (s d : Ps) (now : Int) (ids ids2 : List Int) (F : HP) : wLoop [(fHPop, cHPop s d)] (hDueS1 ids2) [] default fDue (loopN fDue 1) (tms 0 47 (dueA now (idsV ids.length))) (oC s 0 ++ [(1010, idsO ids)]) [0, 1001, 1002, 1003, 1004, 1005, 1010, 1102, 1103] [0, 1, 4] F = VT.leaf (AX.normal, [AV.ptr 0 0, AV.v (Value.int IntKind.i64 now), AV.slice 1103 0 (ids.length + 1) 1 (Cp.lo (ids.length + 1))], 47) [some (AO.cells [AV.slice 1001 0 d.xs.dropLast.length 1 (Cp.lo (roomOf (popS d))), AV.map 1003, AV.v (Value.int IntKind.i64 d.tn)] 108), some (AO.cells (AV.rens (sgN (nmU 0 1001 1003) [1004, 1005] 1100) (rowV pv (blocks (popS d)))) 110), some (AO.any (famHP 57 (fam 0 d.xs.dropLast))), some (AO.map (delE (AV.v (Value.int IntKind.i64 (lastOf d).c)) (renE (sgN (nmU 0 1001 1003) [1004, 1005] 1100) (mE ptrV d.m))) d.ck), none, none, none, some (AO.cells [AV.v (Value.int IntKind.i64 (lastOf d).c)] 6), some (AO.cells (rowV encI ids2) 6)] 1104 (((Cnd.p (true = true)).a Cnd.t).a (((Cnd.p (Wk (AV.v (Value.bool (decide (↑s.xs.length > Int.ofNat 0)))) (AV.lit true))).a Cnd.t).a (((Cnd.p (true = true)).a Cnd.t).a (((Cnd.p (Nat.blt 0 s.xs.length = true)).a Cnd.t).a (((Cnd.p (Nat.blt 0 (rowV pv (blocks s)).length = true)).a ((Cnd.p (Wk ((rowV pv (blocks s)).getD 0 (AV.v (Value.tuple (Array.mk [])))) (AV.v (Value.pointer (some (Addr.mk (at' s 0).k 0 none)))))).a Cnd.t)).a (((Cnd.p (true = true)).a ((Cnd.p (AV.v (Value.int IntKind.i64 (at' s 0).a) = AV.v (Value.int IntKind.i64 (at' s 0).a))).a Cnd.t)).a (((Cnd.p (Wk (AV.v (Value.bool (decide ((at' s 0).a ≤ now)))) (AV.lit true))).a Cnd.t).a (((Cnd.p (Big s ∧ 0 < s.xs.length ∧ hpopD s = d)).a ((Cnd.p (VW [AV.iface 59 (AV.ptr 0 0)] [AV.iface 59 (AV.ptr 0 0)])).a ((Cnd.p (OW (AO.cells [AV.slice 1001 0 s.xs.length 1 (Cp.lo (roomOf s)), AV.map 1003, AV.v (Value.int IntKind.i64 s.tn)] 108) (AO.cells [AV.slice 1001 0 s.xs.length 1 (Cp.lo (roomOf s)), AV.map 1003, AV.v (Value.int IntKind.i64 s.tn)] 108))).a ((Cnd.p (OW (AO.cells (rowV pv (blocks s)) 110) (AO.cells (AV.rens (nmU 0 1001 1003) (rowV pv (blocks s))) 110))).a ((Cnd.p (OW (AO.any (famHP 57 ((fam 0 s.xs).eraseIdx 0))) (AO.any (famHP 57 ((fam 0 s.xs).eraseIdx 0))))).a ((Cnd.p (OW (AO.map (mE ptrV s.m) s.ck) (AO.map (renE (nmU 0 1001 1003) (mE ptrV s.m)) s.ck))).a ((Cnd.p (OW (AO.cells [AV.v (Value.int IntKind.i64 (at' s 0).c), AV.v (Value.int IntKind.i64 (at' s 0).a), AV.v (Value.int IntKind.i64 (at' s 0).b), AV.v (Value.int IntKind.i64 (Int.ofNat 0))] 114) (AO.cells [AV.v (Value.int IntKind.i64 (at' s 0).c), AV.v (Value.int IntKind.i64 (at' s 0).a), AV.v (Value.int IntKind.i64 (at' s 0).b), AV.v (Value.int IntKind.i64 (Int.ofNat 0))] 114))).a ((Cnd.p (OW (AO.same 1004 (at' s 0).k) (AO.same 1004 (at' s 0).k))).a Cnd.t)))))))).a (((Cnd.p (true = true)).a Cnd.t).a (((Cnd.p (true = true)).a ((Cnd.p (AV.v (Value.int IntKind.i64 (lastOf d).c) = AV.v (Value.int IntKind.i64 (lastOf d).c))).a Cnd.t)).a (((Cnd.p (findKey Try.prog (envW [(20, cHPop s d)] (hDueS1 ids2) [] default F) 3 (AV.v (Value.int IntKind.i64 (lastOf d).c)) (renE (sgN (nmU 0 1001 1003) [1004, 1005] 1100) (mE ptrV d.m)) 0 = AP.ret (findS (AV.v (Value.int IntKind.i64 (lastOf d).c)) (renE (sgN (nmU 0 1001 1003) [1004, 1005] 1100) (mE ptrV d.m)) 0))).a Cnd.t).a (((Cnd.p (true = true)).a ((Cnd.p (AV.v (Value.int IntKind.i64 (lastOf d).c) = AV.v (Value.int IntKind.i64 (lastOf d).c))).a Cnd.t)).a (((Cnd.p (true = true)).a ((Cnd.p (true = true)).a ((Cnd.p (true = true)).a ((Cnd.p (true = true)).a ((Cnd.p ((0 + ids.length * 1).ble (rowV encI ids).length = true)).a ((Cnd.p (((ids.length + 1) * 8).ble 140737488355328 = true)).a ((Cnd.p ((ids.length + 1).ble 9223372036854775807 = true)).a ((Cnd.p ((List.take (ids.length * 1) (List.drop 0 (rowV encI ids))).length.beq (ids.length * 1) = true)).a ((Cnd.p (OW (AO.cells (List.take (ids.length * 1) (List.drop 0 (rowV encI ids)) ++ [AV.v (Value.int IntKind.i64 (lastOf d).c)]) 6) (AO.cells (rowV encI ids2) 6))).a Cnd.t))))))))).a Cnd.t))))))))))))) := by kernel_rfl
end
end Go.Proofs.Ytojfbgmeaadanaa.Alm

/- Alarms: Due: its loop. -/
set_option linter.unusedVariables false
set_option linter.unusedSimpArgs false
set_option maxRecDepth 100000
namespace Go.Proofs.Ytojfbgmeaadanaa.Alm
open Go Go.RowKit Go.Proofs.Ytojfbgmeaadanaa.Eng Go.Proofs.Ytojfbgmeaadanaa.Kit
/-- One alarm comes due. -/
def dueS (s : Ps) : Ps := { popS (hpopD s) with m := mdel s.m (at' s 0).c }
def dueR (now : Int) : Nat → Ps → List Int → Ps × List Int
  | 0, s, ids => (s, ids)
  | n + 1, s, ids => if (at' s 0).a ≤ now then dueR now n (dueS s) (ids ++ [(at' s 0).c]) else (s, ids)
noncomputable section
def idsA (ids : List Int) : AV := match ids with
  | [] => nilV
  | _ => idsV ids.length
def idsH (ids : List Int) : LH := match ids with
  | [] => []
  | _ => [(1010, idsO ids)]
/-- Where the first alarm is looked at. -/
def dueH (s : Ps) (ids : List Int) : LH := match s.xs with
  | [] => uM s ++ idsH ids
  | _ => oC s 0 ++ idsH ids
end
theorem hpopH_tri (s : Ps) (hB : Big s) (h0 : 0 < s.xs.length) : Tri Try.prog default fHPop [hI] (hremH s 0) alP (uL (popS (hpopD s)) ++ outL (lastOf (hpopD s)) ((hpopD s).xs.length - 1)) := by
  have p := perm_at _ 0 _ (fam_at s 0 h0)
  refine Tri.pre (Goes.trans (H' := [(0, hdr 1 3 s.xs.length (roomOf s) s.tn), (1, rowO (blocks s)), (2, famO (((at' s 0).k, alC (at' s 0) 0) :: (fam 0 s.xs).eraseIdx 0)), (3, mapO s)]) ?_
    (goes_lw (H' := uL s) (by kernel_rfl) (by kernel_rfl) ⟨rfl, OW.refl _, rfl, OW.refl _, rfl, ow_fam p.symm, rfl, OW.refl _, trivial⟩ (VW.refl _))) (hpop_tri s hB h0)
  exact goes_in (k := 2) (i := 1004) (j := 1005) (e := tAl) (b := (at' s 0).k) (c := alC (at' s 0) 0) (l := (fam 0 s.xs).eraseIdx 0) (by kernel_rfl) (by kernel_rfl) rfl rfl rfl rfl rfl rfl (by decide)
      (fun n h1 h2 h3 => by simp only [hremH, getO, h1, h2, h3, if_false]) ⟨rfl, trivial⟩ (all_cons ⟨rfl, rfl, trivial, trivial⟩ (all_cons (cls_rowV _ _) (all_cons trivial (all_cons (map_clE _ _) all_nil))))
theorem cHPop_ok (s d : Ps) (F : HP) : C1OK Try.prog F fHPop (cHPop s d) :=
  mkC_ok (W := default) oldDef (fun _ => alP) gHead_ro (fun _ => rfl) (fun q hq => by obtain ⟨h1, h2, rfl⟩ := hq; exact hpopH_tri s h1 h2)
    fun q => ⟨by kernel_rfl, by kernel_rfl, ⟨rfl, trivial⟩, all_cons ⟨rfl, rfl, trivial, trivial⟩ (all_cons (cls_rowV _ _) (all_cons trivial (all_cons (map_clE _ _) (all_cons ⟨trivial, trivial, trivial, trivial, trivial⟩ (all_cons rfl all_nil))))), ⟨rfl, trivial⟩,
      all_cons ⟨rfl, rfl, trivial, trivial⟩ (all_cons (cls_rowV _ _) (all_cons trivial (all_cons (map_clE _ _) (all_cons ⟨trivial, trivial, trivial, trivial, trivial⟩ (all_cons rfl all_nil)))))⟩
theorem due_len (s : Ps) (h0 : 0 < s.xs.length) : (dueS s).xs.length = s.xs.length - 1 := by
  have hk : Keep s (hpopD s) := (swap_keep ..).trans (down_keeps ..)
  show (popS (hpopD s)).xs.length = _
  rw [pop_len, hk.len]
/-- The first alarm is laid beside the others, the ids told behind. -/
theorem open_ids (s : Ps) (hi : 0 < s.xs.length) (ids : List Int) (vs : List AV) : Goes vs (uM s ++ [(1010, idsO ids)]) vs (oC s 0 ++ [(1010, idsO ids)]) := by
  have p := perm_at _ 0 _ (fam_at s 0 hi)
  have hl : LW [(0, hdr 1001 1003 s.xs.length (roomOf s) s.tn), (1001, rowO (blocks s)), (1002, famO (fam 0 s.xs)), (1003, mapO s), (1010, idsO ids)] [(0, hdr 1001 1003 s.xs.length (roomOf s) s.tn), (1001, rowO (blocks s)), (1002, famO (((at' s 0).k, alC (at' s 0) 0) :: (fam 0 s.xs).eraseIdx 0)), (1003, mapO s), (1010, idsO ids)] :=
    ⟨rfl, OW.refl _, rfl, OW.refl _, rfl, ow_fam p, rfl, OW.refl _, rfl, OW.refl _, trivial⟩
  refine (goes_lw (H := uM s ++ [(1010, idsO ids)]) (by kernel_rfl) (by kernel_rfl) hl (VW.refl _)).trans ?_
  exact goes_out (k := 1002) (i := 1004) (j := 1005) (e := tAl) (b := (at' s 0).k) (c := alC (at' s 0) 0) (l := (fam 0 s.xs).eraseIdx 0) (by kernel_rfl) (by kernel_rfl) rfl rfl rfl rfl (by decide) rfl rfl (by decide)
      (fun n h1 h2 h3 => by simp only [oC, List.cons_append, List.nil_append, getO, h1, h2, h3, if_false]) (fun _ _ _ _ h => h)
theorem open_due (s : Ps) (ids : List Int) (vs : List AV) : Goes vs (uM s ++ idsH ids) vs (dueH s ids) := by
  unfold dueH
  cases hx : s.xs with
  | nil => exact Goes.refl _ _
  | cons x l =>
    have h0 : 0 < s.xs.length := by rw [hx]; exact Nat.succ_pos _
    cases ids with
    | nil => exact (List.append_nil (uM s)).symm ▸ (List.append_nil (oC s 0)).symm ▸ open_one s 0 h0 vs
    | cons y ids => exact open_ids s h0 _ vs
end Go.Proofs.Ytojfbgmeaadanaa.Alm

/- Alarms: Due: its loop, walked. -/
set_option linter.unusedVariables false
set_option linter.unusedSimpArgs false
set_option maxRecDepth 100000
namespace Go.Proofs.Ytojfbgmeaadanaa.Alm
open Go Go.RowKit Go.Proofs.Ytojfbgmeaadanaa.Eng Go.Proofs.Ytojfbgmeaadanaa.Kit
theorem idsA_ne {ids : List Int} (h : ids ≠ []) : idsA ids = idsV ids.length := by
  cases ids with
  | nil => exact absurd rfl h
  | cons x l => rfl
theorem idsH_ne {ids : List Int} (h : ids ≠ []) : idsH ids = [(1010, idsO ids)] := by
  cases ids with
  | nil => exact absurd rfl h
  | cons x l => rfl
theorem due_big {s : Ps} (hB : Big s) : Big (dueS s) := by
  have hk : Keep s (hpopD s) := (swap_keep ..).trans (down_keeps ..)
  unfold Big at hB ⊢
  show (popS (hpopD s)).xs.length * 15 ≤ _
  rw [pop_len, hk.len]
  exact Nat.le_trans (Nat.mul_le_mul_right 15 (Nat.sub_le _ _)) hB
theorem due_cl (K : Nat → Bool) (h0 : K 0 = true) (h1 : K 1010 = true) (now : Int) (ids : List Int) : ∀ x ∈ dueA now (idsA ids), AV.cl K x.2 := by
  refine all_cons h0 (all_cons trivial (all_cons ?_ all_nil))
  cases ids with
  | nil => exact trivial
  | cons x l => exact h1
theorem due_cl0 (K : Nat → Bool) (h0 : K 0 = true) (now : Int) : ∀ x ∈ dueA now nilV, AV.cl K x.2 := all_cons h0 (all_cons trivial (all_cons trivial all_nil))
/-- The first alarm is laid back. -/
theorem shut_ids (s : Ps) (hi : 0 < s.xs.length) (ids : List Int) (vs : List AV) (hv : ∀ K : Nat → Bool, K 0 = true → K 1010 = true → AV.cls K vs) : Goes vs (oC s 0 ++ [(1010, idsO ids)]) vs (uM s ++ [(1010, idsO ids)]) := by
  have p := perm_at _ 0 _ (fam_at s 0 hi)
  refine Goes.trans (H' := [(0, hdr 1001 1003 s.xs.length (roomOf s) s.tn), (1001, rowO (blocks s)), (1002, famO (((at' s 0).k, alC (at' s 0) 0) :: (fam 0 s.xs).eraseIdx 0)), (1003, mapO s), (1010, idsO ids)]) ?_
    (goes_lw (by kernel_rfl) (by kernel_rfl) ⟨rfl, OW.refl _, rfl, OW.refl _, rfl, ow_fam p.symm, rfl, OW.refl _, rfl, OW.refl _, trivial⟩ (VW.refl _))
  exact goes_in (k := 1002) (i := 1004) (j := 1005) (e := tAl) (b := (at' s 0).k) (c := alC (at' s 0) 0) (l := (fam 0 s.xs).eraseIdx 0) (by kernel_rfl) (by kernel_rfl) rfl rfl rfl rfl rfl rfl (by decide)
      (fun n h1 h2 h3 => by simp only [oC, List.cons_append, List.nil_append, getO, h1, h2, h3, if_false]) (hv _ rfl rfl) (all_cons ⟨rfl, rfl, trivial, trivial⟩ (all_cons (cls_rowV _ _) (all_cons trivial (all_cons (map_clE _ _) (all_cons (cls_rowV _ _) all_nil)))))
theorem shut_one' (s : Ps) (i : Nat) (hi : i < s.xs.length) (vs : List AV) (hv : ∀ K : Nat → Bool, K 0 = true → AV.cls K vs) : Goes vs (oC s i) vs (uM s) := by
  have p := perm_at _ i _ (fam_at s i hi)
  refine Goes.trans (H' := [(0, hdr 1001 1003 s.xs.length (roomOf s) s.tn), (1001, rowO (blocks s)), (1002, famO (((at' s i).k, alC (at' s i) i) :: (fam 0 s.xs).eraseIdx i)), (1003, mapO s)]) ?_
    (goes_lw (by kernel_rfl) (by kernel_rfl) ⟨rfl, OW.refl _, rfl, OW.refl _, rfl, ow_fam p.symm, rfl, OW.refl _, trivial⟩ (VW.refl _))
  exact goes_in (k := 1002) (i := 1004) (j := 1005) (e := tAl) (b := (at' s i).k) (c := alC (at' s i) i) (l := (fam 0 s.xs).eraseIdx i) (by kernel_rfl) (by kernel_rfl) rfl rfl rfl rfl rfl rfl (by decide)
      (fun n h1 h2 h3 => by simp only [oC, getO, h1, h2, h3, if_false]) (hv _ rfl) (all_cons ⟨rfl, rfl, trivial, trivial⟩ (all_cons (cls_rowV _ _) (all_cons trivial (all_cons (map_clE _ _) all_nil))))
abbrev ksD : List Nat := [0, 1001, 1002, 1003, 1004, 1005, 1010, 1102, 1103]
theorem uM_objs {s : Ps} {R : List AV} (hR : R = rowV pv (blocks s)) (r : List (Option AO)) : ObjsOK (0 :: 1001 :: 1002 :: 1003 :: [1004, 1005, 1010, 1102, 1103]) (some (hdr 1001 1003 s.xs.length (roomOf s) s.tn) :: some (.cells R tPtr) :: some (famO (fam 0 s.xs)) :: some (mapO s) :: r) [(1001, 1001), (1002, 1002), (1003, 1003)] (uM s) :=
  ⟨⟨_, rfl, OW.refl _⟩, ⟨_, rfl, OW.of_eq (by rw [hR]; exact (calm_row _ _).symm)⟩, ⟨_, rfl, OW.refl _⟩, ⟨_, rfl, OW.of_eq (map_ren s _).symm⟩, trivial⟩
theorem calm_ids (ids : List Int) (σ : Nat → Nat) : (idsO ids).ren σ = idsO ids := row_renA σ ids tInt
def RoomD (n0 : Nat) : Prop := n0 * 8 ≤ 140737488355328
theorem len_idsO (ids : List Int) : (rowV encI ids).length = ids.length := by rw [rowV_length (k := 1) fun _ => rfl, Nat.mul_one]
theorem due_loop (now : Int) (n0 : Nat) (hn0 : RoomD n0) (s : Ps) (ids : List Int) (hB : Big s) (hh : HeapTo (at' s) s.xs.length) (hle : ids.length + s.xs.length ≤ n0) :
    LTri Try.prog default (loopN fDue 1) (tms 0 47 (dueA now (idsA ids))) (dueH s ids) (.exit 0) (tms 0 47 (dueA now (idsA (dueR now s.xs.length s ids).2))) (uM (dueR now s.xs.length s ids).1 ++ idsH (dueR now s.xs.length s ids).2) := by
  obtain ⟨T, hT⟩ : ∃ T, dueR now s.xs.length s ids = T := ⟨_, rfl⟩
  rw [hT]
  refine ltri_runF (W := default) (g := fDue) (b := loopN fDue 1) (σ := {z : Ps × List Int // Big z.1 ∧ HeapTo (at' z.1) z.1.xs.length ∧ z.2.length + z.1.xs.length ≤ n0 ∧ dueR now z.1.xs.length z.1 z.2 = T}) 47 (fun z => dueA now (idsA z.1.2)) (fun z => dueH z.1.1 z.1.2) (.exit 0) (dueA now (idsA T.2)) (uM T.1 ++ idsH T.2) (fun z => z.1.1.xs.length) ksD [0, 1, 4] (by intro h; cases h) (fun z => ?_) ?_ ⟨(s, ids), hB, hh, hle, hT⟩
  · obtain ⟨⟨s, ids⟩, _⟩ := z
    show namesLt 1100 (dueH s ids) = true
    unfold dueH
    cases s.xs with
    | nil => cases ids with
      | nil => kernel_rfl
      | cons x l => kernel_rfl
    | cons y r => cases ids with
      | nil => kernel_rfl
      | cons x l => kernel_rfl
  rintro ⟨⟨s, ids⟩, hB, hh, hle, he⟩
  have hB : Big s := hB
  have hh : HeapTo (at' s) s.xs.length := hh
  have hle : ids.length + s.xs.length ≤ n0 := hle
  have he : dueR now s.xs.length s ids = T := he
  show ∃ (con : ConsL) (hints : ClaimT) (lc : LcL), _ ∧ _ ∧ ∀ F, VAll _ (wLoop con hints lc _ _ _ (tms 0 47 (dueA now (idsA ids))) (dueH s ids) _ _ F)
  have hneg : s.xs.length = 0 → decide ((s.xs.length : Int) > Int.ofNat 0) = false := fun h => by rw [h]; rfl
  have hpos : 0 < s.xs.length → decide ((s.xs.length : Int) > Int.ofNat 0) = true := fun h => by
    simp only [Int.ofNat_eq_natCast, gt_iff_lt, decide_eq_true_eq]; omega
  by_cases h0 : 0 < s.xs.length
  case neg =>
    have hz : s.xs.length = 0 := by omega
    have hx : s.xs = [] := List.eq_nil_of_length_eq_zero hz
    rw [hz] at he
    have he : (s, ids) = T := he
    subst he
    have hH : dueH s ids = uM s ++ idsH ids := by unfold dueH; rw [hx]
    rw [hH]
    by_cases hi : ids = []
    · subst hi
      refine ⟨[], hDueE, [], fun _ _ => noC, fun _ _ => noL, fun F => ?_⟩
      rw [show uM s ++ idsH [] = uM s from List.append_nil _]
      refine cast (congrArg (VAll _) (oDueE_eq s now F).symm) ⟨⟨?_, rfl, .inr ⟨rfl, FitT.fits (l := [(1001, 1001), (1002, 1002), (1003, 1003)]) ⟨by kernel_rfl, by kernel_rfl, ⟨Wk.refl _, Wk.refl _, Wk.refl _, trivial⟩, uM_objs rfl _⟩ (by kernel_rfl)⟩⟩⟩
      simp only [Cnd.holds, true_and, and_true]
      exact wk_litE (hneg hz)
    · refine ⟨[], hDueE, [], fun _ _ => noC, fun _ _ => noL, fun F => ?_⟩
      rw [idsA_ne hi, idsH_ne hi]
      refine cast (congrArg (VAll _) (oDueE1_eq s now ids F).symm) ⟨⟨?_, rfl, .inr ⟨rfl, FitT.fits (l := [(1001, 1001), (1002, 1002), (1003, 1003), (1010, 1010)]) ⟨by kernel_rfl, by kernel_rfl, ⟨Wk.refl _, Wk.refl _, Wk.refl _, trivial⟩, ?_⟩ (by kernel_rfl)⟩⟩⟩
      · simp only [Cnd.holds, true_and, and_true]
        exact wk_litE (hneg hz)
      · exact ⟨⟨_, rfl, OW.refl _⟩, ⟨_, rfl, OW.of_eq (calm_row _ _).symm⟩, ⟨_, rfl, OW.refl _⟩, ⟨_, rfl, OW.of_eq (map_ren s _).symm⟩, ⟨_, rfl, OW.of_eq (calm_ids _ _).symm⟩, trivial⟩
  case pos =>
    have hH : dueH s ids = oC s 0 ++ idsH ids := by
      unfold dueH
      cases hx : s.xs with
      | nil => rw [hx] at h0; cases h0
      | cons x l => rfl
    rw [hH]
    have p1 : ∀ d, (rowV pv (blocks s)).getD 0 d = ptrV (at' s 0).k := fun d => row_ptr _ 0 d _ (blocks_at s 0 h0)
    have l1 : 0 < s.xs.length + s.g.length := by omega
    obtain ⟨q1, q2, q3, hk⟩ := hpop_spec s hh h0
    have hlen := due_len s h0
    obtain ⟨n, hn⟩ : ∃ n, s.xs.length = n + 1 := ⟨s.xs.length - 1, by omega⟩
    by_cases hd : (at' s 0).a ≤ now
    case neg =>
      have he : (s, ids) = T := by rw [hn, dueR, if_neg hd] at he; exact he
      subst he
      have hdf : decide ((at' s 0).a ≤ now) = false := decide_eq_false hd
      by_cases hi : ids = []
      · subst hi
        refine ⟨[], hDueL, [], fun _ _ => noC, fun _ _ => noL, fun F => ?_⟩
        rw [show oC s 0 ++ idsH [] = oC s 0 from List.append_nil _, show uM s ++ idsH [] = uM s from List.append_nil _]
        refine cast (congrArg (VAll _) (oDueL_eq s now F).symm) ⟨⟨?_, rfl, .inr ⟨rfl, dueA now nilV, oC s 0, [(1001, 1001), (1002, 1002), (1003, 1003), (1004, 1004), (1005, 1005)], by kernel_rfl, ⟨by kernel_rfl, by kernel_rfl, ⟨Wk.refl _, Wk.refl _, Wk.refl _, trivial⟩, ?_⟩, shut_one' s 0 h0 _ fun K k0 => cls_tms (due_cl0 K k0 now) _ _⟩⟩⟩
        · simp only [Cnd.holds, p1, row_len1, blocks_len, l1, h0, Nat.blt_eq, true_and, and_true]
          exact ⟨wk_litE (hpos h0), Wk.refl _, wk_litE hdf⟩
        · exact ⟨⟨_, rfl, OW.refl _⟩, ⟨_, rfl, OW.of_eq (calm_row _ _).symm⟩, ⟨_, rfl, OW.refl _⟩, ⟨_, rfl, OW.of_eq (map_ren s _).symm⟩, ⟨_, rfl, OW.refl _⟩, ⟨_, rfl, OW.refl _⟩, trivial⟩
      · refine ⟨[], hDueL, [], fun _ _ => noC, fun _ _ => noL, fun F => ?_⟩
        rw [idsA_ne hi, idsH_ne hi]
        refine cast (congrArg (VAll _) (oDueL1_eq s now ids F).symm) ⟨⟨?_, rfl, .inr ⟨rfl, dueA now (idsV ids.length), oC s 0 ++ [(1010, idsO ids)], [(1001, 1001), (1002, 1002), (1003, 1003), (1004, 1004), (1005, 1005), (1010, 1010)], by kernel_rfl, ⟨by kernel_rfl, by kernel_rfl, ⟨Wk.refl _, Wk.refl _, Wk.refl _, trivial⟩, ?_⟩, ?_⟩⟩⟩
        · simp only [Cnd.holds, p1, row_len1, blocks_len, l1, h0, Nat.blt_eq, true_and, and_true]
          exact ⟨wk_litE (hpos h0), Wk.refl _, wk_litE hdf⟩
        · exact ⟨⟨_, rfl, OW.refl _⟩, ⟨_, rfl, OW.of_eq (calm_row _ _).symm⟩, ⟨_, rfl, OW.refl _⟩, ⟨_, rfl, OW.of_eq (map_ren s _).symm⟩, ⟨_, rfl, OW.refl _⟩, ⟨_, rfl, OW.refl _⟩, ⟨_, rfl, OW.of_eq (calm_ids _ _).symm⟩, trivial⟩
        · exact shut_ids s h0 ids _ fun K k0 k1 => cls_tms (idsA_ne hi ▸ due_cl K k0 k1 now ids) _ _
    case pos =>
      have he : dueR now n (dueS s) (ids ++ [(at' s 0).c]) = T := by rw [hn, dueR, if_pos hd] at he; exact he
      have hnn : (dueS s).xs.length = n := by rw [hlen, hn]; rfl
      have hdt : decide ((at' s 0).a ≤ now) = true := decide_eq_true hd
      obtain ⟨z', hz'⟩ : ∃ z' : {z : Ps × List Int // Big z.1 ∧ HeapTo (at' z.1) z.1.xs.length ∧ z.2.length + z.1.xs.length ≤ n0 ∧ dueR now z.1.xs.length z.1 z.2 = T}, z'.1 = (dueS s, ids ++ [(at' s 0).c]) := ⟨⟨(dueS s, ids ++ [(at' s 0).c]), due_big hB, q2, by
        show (ids ++ [(at' s 0).c]).length + (dueS s).xs.length ≤ n0
        rw [List.length_append, hnn]; simp only [List.length_singleton]; omega, by rw [← hnn] at he; exact he⟩, rfl⟩
      have hmu : (dueS s).xs.length < s.xs.length := by omega
      have hnew : ids ++ [(at' s 0).c] ≠ [] := by simp
      have hobj : ∀ (os : List (Option AO)), getK ksD os 0 = some (hdr 1001 1003 (popS (hpopD s)).xs.length (roomOf (popS (hpopD s))) (hpopD s).tn) → getK ksD os 1001 = some (.cells (AV.rens (sgN (nmU 0 1001 1003) [1004, 1005] 1100) (rowV pv (blocks (popS (hpopD s))))) tPtr) → getK ksD os 1002 = some (famO (fam 0 (hpopD s).xs.dropLast)) →
          getK ksD os 1003 = some (.map (delE (.v (.int .i64 (lastOf (hpopD s)).c)) (renE (sgN (nmU 0 1001 1003) [1004, 1005] 1100) (mE ptrV (hpopD s).m))) (hpopD s).ck) → getK ksD os 1103 = some (idsO (ids ++ [(at' s 0).c])) → ObjsOK ksD os [(1001, 1001), (1002, 1002), (1003, 1003), (1010, 1103)] (uM (dueS s) ++ [(1010, idsO (ids ++ [(at' s 0).c]))]) := by
        intro os o0 o1 o2 o3 o4
        refine ⟨⟨_, o0, OW.refl _⟩, ⟨_, o1, OW.of_eq ?_⟩, ⟨_, o2, OW.refl _⟩, ⟨_, o3, OW.of_eq ?_⟩, ⟨_, o4, OW.of_eq (calm_ids _ _).symm⟩, trivial⟩
        · show _ = (rowO (blocks (dueS s))).ren _
          rw [calm_row, rens_rowV]
          rfl
        · show _ = (mapO (dueS s)).ren _
          rw [map_ren, map_renE, delE_mE, hk.m, q1]
          rfl
      by_cases hi : ids = []
      · subst hi
        refine ⟨[(fHPop, cHPop s (hpopD s))], hDueS, [], fun F _ => con_cons (cHPop_ok s _ F) noC, fun _ _ => noL, fun F => ?_⟩
        rw [show oC s 0 ++ idsH [] = oC s 0 from List.append_nil _]
        refine cast (congrArg (VAll _) (oDueS_eq s (hpopD s) now F).symm) ⟨⟨?_, rfl, .inl ⟨rfl, z', by rw [hz']; exact hmu, ?_⟩⟩⟩
        · simp only [Cnd.holds, p1, row_len1, blocks_len, l1, h0, Nat.blt_eq, rens_rowV, map_renE, true_and, and_true]
          and_intros
          all_goals first
            | (with_reducible exact hB)
            | (with_reducible exact rfl)
            | (with_reducible exact Wk.refl _)
            | (with_reducible exact VW.refl _)
            | (with_reducible exact OW.refl _)
            | exact findKey_mE intT _ _ _
            | exact wk_litE (hpos h0)
            | exact wk_litE hdt
            | exact Wk.refl _
        · rw [hz', q1]
          refine ⟨dueA now (idsV 1), uM (dueS s) ++ [(1010, idsO [(at' s 0).c])], [(1001, 1001), (1002, 1002), (1003, 1003), (1010, 1103)], by kernel_rfl, ⟨by kernel_rfl, by kernel_rfl, ⟨Wk.refl _, Wk.refl _, Wk.refl _, trivial⟩, hobj _ rfl rfl rfl (by rw [q1]; rfl) rfl⟩, ?_⟩
          exact open_due (dueS s) [(at' s 0).c] _
      · refine ⟨[(fHPop, cHPop s (hpopD s))], hDueS1 (ids ++ [(at' s 0).c]), [], fun F _ => con_cons (cHPop_ok s _ F) noC, fun _ _ => noL, fun F => ?_⟩
        rw [idsA_ne hi, idsH_ne hi]
        refine cast (congrArg (VAll _) (oDueS1_eq s (hpopD s) now ids (ids ++ [(at' s 0).c]) F).symm) ⟨⟨?_, rfl, .inl ⟨rfl, z', by rw [hz']; exact hmu, ?_⟩⟩⟩
        · have w1 : List.take (ids.length * 1) (List.drop 0 (rowV encI ids)) = rowV encI ids := row_whole (k := 1) (enc := encI) (fun _ => rfl) ids _ rfl
          have w2 : rowV encI ids ++ [AV.v (Value.int IntKind.i64 (at' s 0).c)] = rowV encI (ids ++ [(at' s 0).c]) := by rw [rowV_append]; rfl
          have w3 : ids.length + 1 ≤ n0 := by omega
          have w4 : (ids.length + 1) * 8 ≤ 140737488355328 := Nat.le_trans (Nat.mul_le_mul_right 8 w3) hn0
          have w5 : ids.length + 1 ≤ 9223372036854775807 := by
            clear w2 w1
            unfold RoomD at hn0; omega
          rw [q1, w1, w2]
          simp only [Cnd.holds, p1, row_len1, blocks_len, len_idsO, l1, h0, w4, w5, Nat.blt_eq, Nat.ble_eq, Nat.mul_one, Nat.zero_add, Nat.le_refl, Nat.beq_refl, rens_rowV, map_renE, true_and, and_true]
          and_intros
          all_goals first
            | (with_reducible exact hB)
            | (with_reducible exact rfl)
            | (with_reducible exact Wk.refl _)
            | (with_reducible exact VW.refl _)
            | (with_reducible exact OW.refl _)
            | exact findKey_mE intT _ _ _
            | exact wk_litE (hpos h0)
            | exact wk_litE hdt
            | exact Wk.refl _
        · rw [hz']
          refine ⟨dueA now (idsV (ids.length + 1)), uM (dueS s) ++ [(1010, idsO (ids ++ [(at' s 0).c]))], [(1001, 1001), (1002, 1002), (1003, 1003), (1010, 1103)], by kernel_rfl, ⟨by kernel_rfl, by kernel_rfl, ⟨Wk.refl _, Wk.refl _, Wk.refl _, trivial⟩, hobj _ rfl rfl rfl rfl rfl⟩, ?_⟩
          have := open_due (dueS s) (ids ++ [(at' s 0).c]) (tms 0 47 (dueA now (idsV (ids.length + 1))))
          rw [idsH_ne hnew] at this
          rw [idsA_ne hnew, show (ids ++ [(at' s 0).c]).length = ids.length + 1 from by simp]
          exact this
end Go.Proofs.Ytojfbgmeaadanaa.Alm

/- Alarms: Due: the function's runs. -/
set_option linter.unusedVariables false
set_option linter.unusedSimpArgs false
set_option maxRecDepth 100000
namespace Go.Proofs.Ytojfbgmeaadanaa.Alm
open Go Go.RowKit Go.Proofs.Ytojfbgmeaadanaa.Eng Go.Proofs.Ytojfbgmeaadanaa.Kit
noncomputable section
def lDueE (s t : Ps) (now : Int) : List AV → AP (AX × List AV) := mkL gHead (fun _ => True) (fun p => nmM p.1 p.2.1 p.2.2) (fun _ => tms 0 47 (dueA now nilV)) (fun _ => uM s) (fun _ => .leaf (.exit 0) (tms 0 47 (dueA now nilV)) (uM t))
def lDueN (s t : Ps) (now : Int) (ids : List Int) : List AV → AP (AX × List AV) := mkL gHead (fun _ => True) (fun p => nmM p.1 p.2.1 p.2.2) (fun _ => tms 0 47 (dueA now nilV)) (fun _ => uM s) (fun _ => .leaf (.exit 0) (tms 0 47 (dueA now (idsV ids.length))) (uM t ++ [(1010, idsO ids)]))
theorem oDueFE_eq (s t : Ps) (now : Int) (F : HP) : wRun [] noHints [(fDue, 1, loopN fDue 1, lDueE s t now)] default fDue [.ptr 0 0, iv now] (uM s) [0, 1001, 1002, 1003, 1100, 1101, 1102, 1103, 1104, 1105] F = VT.leaf (AV.v (Value.slice none 0 0)) [some (AO.cells [AV.slice 1100 0 t.xs.length 1 (Cp.lo (roomOf t)), AV.map 1102, AV.v (Value.int IntKind.i64 t.tn)] 108), none, none, none, some (AO.cells (AV.rens (sgN (nmM 0 1001 1003) [1001, 1002, 1003] 1100) (rowV pv (blocks t))) 110), some (AO.any (famHP 57 (fam 0 t.xs))), some (AO.map (renE (sgN (nmM 0 1001 1003) [1001, 1002, 1003] 1100) (mE ptrV t.m)) t.ck), none, none, none] 1103 ((Cnd.p ((fDue, 1, loopN fDue 1, lDueE s t now).snd.snd.fst = (fDue, 1, loopN fDue 1, lDueE s t now).snd.snd.fst)).a ((Cnd.p True).a ((Cnd.p (VW [AV.ptr 0 0, AV.v (Value.int IntKind.i64 now), AV.v (Value.tuple (Array.mk [])), AV.v (Value.tuple (Array.mk [])), AV.v (Value.slice none 0 0), AV.v (Value.tuple (Array.mk [])), AV.v (Value.tuple (Array.mk [])), AV.v (Value.tuple (Array.mk [])), AV.v (Value.tuple (Array.mk [])), AV.v (Value.tuple (Array.mk [])), AV.v (Value.tuple (Array.mk [])), AV.v (Value.tuple (Array.mk [])), AV.v (Value.tuple (Array.mk [])), AV.v (Value.tuple (Array.mk [])), AV.v (Value.tuple (Array.mk [])), AV.v (Value.tuple (Array.mk [])), AV.v (Value.tuple (Array.mk [])), AV.v (Value.tuple (Array.mk [])), AV.v (Value.tuple (Array.mk [])), AV.v (Value.tuple (Array.mk [])), AV.v (Value.tuple (Array.mk [])), AV.v (Value.tuple (Array.mk [])), AV.v (Value.tuple (Array.mk [])), AV.v (Value.tuple (Array.mk [])), AV.v (Value.tuple (Array.mk [])), AV.v (Value.tuple (Array.mk [])), AV.v (Value.tuple (Array.mk [])), AV.v (Value.tuple (Array.mk [])), AV.v (Value.tuple (Array.mk [])), AV.v (Value.tuple (Array.mk [])), AV.v (Value.tuple (Array.mk [])), AV.v (Value.tuple (Array.mk [])), AV.v (Value.tuple (Array.mk [])), AV.v (Value.tuple (Array.mk [])), AV.v (Value.tuple (Array.mk [])), AV.v (Value.tuple (Array.mk [])), AV.v (Value.tuple (Array.mk [])), AV.v (Value.tuple (Array.mk [])), AV.v (Value.tuple (Array.mk [])), AV.v (Value.tuple (Array.mk [])), AV.v (Value.tuple (Array.mk [])), AV.v (Value.tuple (Array.mk [])), AV.v (Value.tuple (Array.mk [])), AV.v (Value.tuple (Array.mk [])), AV.v (Value.tuple (Array.mk [])), AV.v (Value.tuple (Array.mk [])), AV.v (Value.tuple (Array.mk []))] [AV.ptr 0 0, AV.v (Value.int IntKind.i64 now), AV.any, AV.any, AV.v (Value.slice none 0 0), AV.any, AV.any, AV.any, AV.any, AV.any, AV.any, AV.any, AV.any, AV.any, AV.any, AV.any, AV.any, AV.any, AV.any, AV.any, AV.any, AV.any, AV.any, AV.any, AV.any, AV.any, AV.any, AV.any, AV.any, AV.any, AV.any, AV.any, AV.any, AV.any, AV.any, AV.any, AV.any, AV.any, AV.any, AV.any, AV.any, AV.any, AV.any, AV.any, AV.any, AV.any, AV.any])).a ((Cnd.p (OW (AO.cells [AV.slice 1001 0 s.xs.length 1 (Cp.lo (roomOf s)), AV.map 1003, AV.v (Value.int IntKind.i64 s.tn)] 108) (AO.cells [AV.slice 1001 0 s.xs.length 1 (Cp.lo (roomOf s)), AV.map 1003, AV.v (Value.int IntKind.i64 s.tn)] 108))).a ((Cnd.p (OW (AO.cells (rowV pv (blocks s)) 110) (AO.cells (AV.rens (nmM 0 1001 1003) (rowV pv (blocks s))) 110))).a ((Cnd.p (OW (AO.any (famHP 57 (fam 0 s.xs))) (AO.any (famHP 57 (fam 0 s.xs))))).a ((Cnd.p (OW (AO.map (mE ptrV s.m) s.ck) (AO.map (renE (nmM 0 1001 1003) (mE ptrV s.m)) s.ck))).a Cnd.t))))))) := by kernel_rfl
theorem oDueFN_eq (s t : Ps) (now : Int) (ids : List Int) (F : HP) : wRun [] noHints [(fDue, 1, loopN fDue 1, lDueN s t now ids)] default fDue [.ptr 0 0, iv now] (uM s) [0, 1001, 1002, 1003, 1100, 1101, 1102, 1103, 1104, 1105] F = VT.leaf (AV.slice 1103 0 ids.length 1 (Cp.lo ids.length)) [some (AO.cells [AV.slice 1100 0 t.xs.length 1 (Cp.lo (roomOf t)), AV.map 1102, AV.v (Value.int IntKind.i64 t.tn)] 108), none, none, none, some (AO.cells (AV.rens (sgN (nmM 0 1001 1003) [1001, 1002, 1003, 1010] 1100) (rowV pv (blocks t))) 110), some (AO.any (famHP 57 (fam 0 t.xs))), some (AO.map (renE (sgN (nmM 0 1001 1003) [1001, 1002, 1003, 1010] 1100) (mE ptrV t.m)) t.ck), some (AO.cells (AV.rens (sgN (nmM 0 1001 1003) [1001, 1002, 1003, 1010] 1100) (rowV encI ids)) 6), none, none] 1104 ((Cnd.p ((fDue, 1, loopN fDue 1, lDueN s t now ids).snd.snd.fst = (fDue, 1, loopN fDue 1, lDueN s t now ids).snd.snd.fst)).a ((Cnd.p True).a ((Cnd.p (VW [AV.ptr 0 0, AV.v (Value.int IntKind.i64 now), AV.v (Value.tuple (Array.mk [])), AV.v (Value.tuple (Array.mk [])), AV.v (Value.slice none 0 0), AV.v (Value.tuple (Array.mk [])), AV.v (Value.tuple (Array.mk [])), AV.v (Value.tuple (Array.mk [])), AV.v (Value.tuple (Array.mk [])), AV.v (Value.tuple (Array.mk [])), AV.v (Value.tuple (Array.mk [])), AV.v (Value.tuple (Array.mk [])), AV.v (Value.tuple (Array.mk [])), AV.v (Value.tuple (Array.mk [])), AV.v (Value.tuple (Array.mk [])), AV.v (Value.tuple (Array.mk [])), AV.v (Value.tuple (Array.mk [])), AV.v (Value.tuple (Array.mk [])), AV.v (Value.tuple (Array.mk [])), AV.v (Value.tuple (Array.mk [])), AV.v (Value.tuple (Array.mk [])), AV.v (Value.tuple (Array.mk [])), AV.v (Value.tuple (Array.mk [])), AV.v (Value.tuple (Array.mk [])), AV.v (Value.tuple (Array.mk [])), AV.v (Value.tuple (Array.mk [])), AV.v (Value.tuple (Array.mk [])), AV.v (Value.tuple (Array.mk [])), AV.v (Value.tuple (Array.mk [])), AV.v (Value.tuple (Array.mk [])), AV.v (Value.tuple (Array.mk [])), AV.v (Value.tuple (Array.mk [])), AV.v (Value.tuple (Array.mk [])), AV.v (Value.tuple (Array.mk [])), AV.v (Value.tuple (Array.mk [])), AV.v (Value.tuple (Array.mk [])), AV.v (Value.tuple (Array.mk [])), AV.v (Value.tuple (Array.mk [])), AV.v (Value.tuple (Array.mk [])), AV.v (Value.tuple (Array.mk [])), AV.v (Value.tuple (Array.mk [])), AV.v (Value.tuple (Array.mk [])), AV.v (Value.tuple (Array.mk [])), AV.v (Value.tuple (Array.mk [])), AV.v (Value.tuple (Array.mk [])), AV.v (Value.tuple (Array.mk [])), AV.v (Value.tuple (Array.mk []))] [AV.ptr 0 0, AV.v (Value.int IntKind.i64 now), AV.any, AV.any, AV.v (Value.slice none 0 0), AV.any, AV.any, AV.any, AV.any, AV.any, AV.any, AV.any, AV.any, AV.any, AV.any, AV.any, AV.any, AV.any, AV.any, AV.any, AV.any, AV.any, AV.any, AV.any, AV.any, AV.any, AV.any, AV.any, AV.any, AV.any, AV.any, AV.any, AV.any, AV.any, AV.any, AV.any, AV.any, AV.any, AV.any, AV.any, AV.any, AV.any, AV.any, AV.any, AV.any, AV.any, AV.any])).a ((Cnd.p (OW (AO.cells [AV.slice 1001 0 s.xs.length 1 (Cp.lo (roomOf s)), AV.map 1003, AV.v (Value.int IntKind.i64 s.tn)] 108) (AO.cells [AV.slice 1001 0 s.xs.length 1 (Cp.lo (roomOf s)), AV.map 1003, AV.v (Value.int IntKind.i64 s.tn)] 108))).a ((Cnd.p (OW (AO.cells (rowV pv (blocks s)) 110) (AO.cells (AV.rens (nmM 0 1001 1003) (rowV pv (blocks s))) 110))).a ((Cnd.p (OW (AO.any (famHP 57 (fam 0 s.xs))) (AO.any (famHP 57 (fam 0 s.xs))))).a ((Cnd.p (OW (AO.map (mE ptrV s.m) s.ck) (AO.map (renE (nmM 0 1001 1003) (mE ptrV s.m)) s.ck))).a Cnd.t))))))) := by kernel_rfl
theorem oDueF0_eq (s : Ps) (now : Int) (F : HP) : wRun [] (hintL [(fDue, 1, 5, hv (.lit false))]) [] default fDue [.ptr 0 0, iv now] (uM0 s) [0, 1003] F = VT.leaf (AV.v (Value.slice none 0 0)) [some (AO.cells [AV.v (Value.slice none 0 0), AV.map 1003, AV.v (Value.int IntKind.i64 s.tn)] 108), some (AO.map (mE ptrV s.m) s.ck)] 1100 (((Cnd.p (true = true)).a Cnd.t).a (((Cnd.p (Wk (AV.v (Value.bool false)) (AV.lit false))).a Cnd.t).a Cnd.t)) := by kernel_rfl
end
end Go.Proofs.Ytojfbgmeaadanaa.Alm

/- Alarms: Due on a clock whole. -/
set_option linter.unusedVariables false
set_option linter.unusedSimpArgs false
set_option maxRecDepth 100000
namespace Go.Proofs.Ytojfbgmeaadanaa.Alm
open Go Go.RowKit Go.Proofs.Ytojfbgmeaadanaa.Eng Go.Proofs.Ytojfbgmeaadanaa.Kit
/-- What is due, in order; what stays. -/
def dueN (now : Int) : Nat → List Al → List Int × List Al
  | 0, L => ([], L)
  | n + 1, L => match nextOf L with
    | none => ([], L)
    | some t => if t ≤ now then (match L.find? fun x => decide (x.tk = t) with
      | none => ([], L)
      | some x => (x.id :: (dueN now n (without L x.id)).1, (dueN now n (without L x.id)).2)) else ([], L)
def dueL (L : List Al) (now : Int) : List Int × List Al := dueN now L.length L
theorem AbsC.next {s : Ps} {L : List Al} {tn : Int} (h : AbsC s L tn) (h0 : 0 < s.xs.length) : nextOf L = some (at' s 0).a ∧ (L.find? fun x => decide (x.tk = (at' s 0).a)) = some ⟨(at' s 0).c, (at' s 0).a⟩ := by
  obtain ⟨A, B, e, hA, hB⟩ := h.root h0
  refine ⟨by rw [e]; exact nextOf_root A B ⟨(at' s 0).c, (at' s 0).a⟩ hA hB, ?_⟩
  rw [e, List.find?_append]
  have : (A.find? fun x => decide (x.tk = (at' s 0).a)) = none := List.find?_eq_none.2 fun x hx => by
    have := hA x hx
    simp only [decide_eq_true_eq]; omega
  rw [this]
  simp
theorem AbsC.due {s : Ps} {L : List Al} {tn : Int} (h : AbsC s L tn) (h0 : 0 < s.xs.length) : AbsC (dueS s) (without L (at' s 0).c) tn := by
  obtain ⟨q1, q2, q3, hk⟩ := hpop_spec s h.heap h0
  exact h.take (s' := dueS s) q2 q3 rfl hk.ck hk.tn
theorem due_abs (now : Int) : ∀ (n : Nat) (s : Ps) (L : List Al) (tn : Int) (ids : List Int), AbsC s L tn → s.xs.length = n → (dueR now n s ids).2 = ids ++ (dueN now n L).1 ∧ AbsC (dueR now n s ids).1 (dueN now n L).2 tn
  | 0, s, L, tn, ids, h, hn => ⟨(List.append_nil _).symm, h⟩
  | n + 1, s, L, tn, ids, h, hn => by
    have h0 : 0 < s.xs.length := by omega
    obtain ⟨e1, e2⟩ := h.next h0
    by_cases hd : (at' s 0).a ≤ now
    · have := due_abs now n (dueS s) _ tn (ids ++ [(at' s 0).c]) (h.due h0) (by rw [due_len s h0, hn]; rfl)
      simp only [dueR, dueN, e1, e2, if_pos hd]
      refine ⟨?_, this.2⟩
      rw [this.1, List.append_assoc]; rfl
    · simp only [dueR, dueN, e1, if_neg hd, List.append_nil, true_and]
      exact h
theorem lDueE_ok {s t : Ps} {now : Int} (h : LTri Try.prog default (loopN fDue 1) (tms 0 47 (dueA now nilV)) (uM s) (.exit 0) (tms 0 47 (dueA now nilV)) (uM t)) (F : HP) : L1OK Try.prog F (loopN fDue 1) (lDueE s t now) :=
  mkL_ok (W := default) oldDef gHead_ro (fun _ _ => h) fun _ => closedT rfl rfl (due_cl0 _ rfl now) (uM_cl _ ⟨rfl, rfl⟩ s) (due_cl0 _ rfl now) (uM_cl _ ⟨rfl, rfl⟩ t)
theorem cl_app {K : Nat → Bool} {H H' : LH} (h : ∀ x ∈ H, x.2.cl K) (h' : ∀ x ∈ H', x.2.cl K) : ∀ x ∈ H ++ H', x.2.cl K := fun x hx => by
  rcases List.mem_append.1 hx with hx | hx
  · exact h x hx
  · exact h' x hx
theorem ids_cl (K : Nat → Bool) (ids : List Int) : ∀ x ∈ [(1010, idsO ids)], x.2.cl K := all_cons (cls_rowV _ _) all_nil
theorem lDueN_ok {s t : Ps} {now : Int} {ids : List Int} (h : LTri Try.prog default (loopN fDue 1) (tms 0 47 (dueA now nilV)) (uM s) (.exit 0) (tms 0 47 (dueA now (idsV ids.length))) (uM t ++ [(1010, idsO ids)])) (F : HP) : L1OK Try.prog F (loopN fDue 1) (lDueN s t now ids) :=
  mkL_ok (W := default) oldDef gHead_ro (fun _ _ => h) fun _ => by
    have k0 : kR (uM s) (uM t ++ [(1010, idsO ids)]) 0 = true := by kernel_rfl
    have k1 : kR (uM s) (uM t ++ [(1010, idsO ids)]) 1010 = true := by kernel_rfl
    have kc : ∀ x ∈ dueA now (idsV ids.length), AV.cl (kR (uM s) (uM t ++ [(1010, idsO ids)])) x.2 := all_cons k0 (all_cons trivial (all_cons k1 all_nil))
    exact closedT (H' := uM t ++ [(1010, idsO ids)]) rfl (by kernel_rfl) (due_cl0 _ rfl now) (uM_cl _ ⟨rfl, rfl⟩ s) kc (cl_app (uM_cl _ ⟨by kernel_rfl, by kernel_rfl⟩ t) (ids_cl _ _))
theorem dueFE_tri (s t : Ps) (now : Int) (h : LTri Try.prog default (loopN fDue 1) (tms 0 47 (dueA now nilV)) (uM s) (.exit 0) (tms 0 47 (dueA now nilV)) (uM t)) : Tri Try.prog default fDue [.ptr 0 0, iv now] (uM s) nilV (uM t) := by
  refine tri_run (con := []) (hints := noHints) (lc := [(fDue, 1, loopN fDue 1, lDueE s t now)]) [0, 1001, 1002, 1003, 1100, 1101, 1102, 1103, 1104, 1105] rfl (fun F _ => noC) (fun F _ => one_l (lDueE_ok h F)) fun F => ?_
  refine cast (congrArg (VAll _) (oDueFE_eq s t now F).symm) ⟨⟨?_, (fit_mk (vs := [nilV]) (vs' := [nilV]) (H' := uM t) [(1001, 1100), (1002, 1101), (1003, 1102)] (by kernel_rfl) (by kernel_rfl) (VW.refl _) ⟨⟨_, rfl, OW.refl _⟩, ⟨_, rfl, OW.of_eq ?_⟩, ⟨_, rfl, OW.refl _⟩, ⟨_, rfl, OW.of_eq ?_⟩, trivial⟩).fits rfl⟩⟩
  · simp only [Cnd.holds, rens_rowV, map_renE, true_and, and_true]
    all_goals and_intros
    all_goals first
      | (with_reducible exact rfl)
      | (with_reducible exact OW.refl _)
      | (repeat (first | exact VW.nil | refine VW.cons (Wk.refl _) ?_ | refine VW.cons (Wk.any _) ?_))
      | exact OW.refl _
  · show _ = (rowO (blocks t)).ren _
    rw [calm_row, rens_rowV]; rfl
  · show _ = (mapO t).ren _
    rw [map_ren, map_renE]; rfl
theorem dueFN_tri (s t : Ps) (now : Int) (ids : List Int) (h : LTri Try.prog default (loopN fDue 1) (tms 0 47 (dueA now nilV)) (uM s) (.exit 0) (tms 0 47 (dueA now (idsV ids.length))) (uM t ++ [(1010, idsO ids)])) : Tri Try.prog default fDue [.ptr 0 0, iv now] (uM s) (idsV ids.length) (uM t ++ [(1010, idsO ids)]) := by
  refine tri_run (con := []) (hints := noHints) (lc := [(fDue, 1, loopN fDue 1, lDueN s t now ids)]) [0, 1001, 1002, 1003, 1100, 1101, 1102, 1103, 1104, 1105] rfl (fun F _ => noC) (fun F _ => one_l (lDueN_ok h F)) fun F => ?_
  refine cast (congrArg (VAll _) (oDueFN_eq s t now ids F).symm) ⟨⟨?_, (fit_mk (vs := [.slice 1103 0 ids.length 1 (.lo ids.length)]) (vs' := [idsV ids.length]) (H' := uM t ++ [(1010, idsO ids)]) [(1001, 1100), (1002, 1101), (1003, 1102), (1010, 1103)] (by kernel_rfl) (by kernel_rfl) (VW.refl _) ?_).fits (by kernel_rfl)⟩⟩
  · simp only [Cnd.holds, rens_rowV, map_renE, true_and, and_true]
    all_goals and_intros
    all_goals first
      | (with_reducible exact rfl)
      | (with_reducible exact OW.refl _)
      | (repeat (first | exact VW.nil | refine VW.cons (Wk.refl _) ?_ | refine VW.cons (Wk.any _) ?_))
      | exact OW.refl _
  refine ⟨⟨_, rfl, OW.refl _⟩, ⟨_, rfl, OW.of_eq ?_⟩, ⟨_, rfl, OW.refl _⟩, ⟨_, rfl, OW.of_eq ?_⟩, ⟨_, rfl, OW.of_eq ?_⟩, trivial⟩
  · show _ = (rowO (blocks t)).ren _
    rw [calm_row, rens_rowV]; rfl
  · show _ = (mapO t).ren _
    rw [map_ren, map_renE]; rfl
  · show _ = (idsO ids).ren _
    rw [calm_ids, rens_rowV]; rfl
theorem dueF0_tri (s : Ps) (now : Int) : Tri Try.prog default fDue [.ptr 0 0, iv now] (uM0 s) nilV (uM0 s) := by
  refine tri_run (con := []) (hints := hintL [(fDue, 1, 5, hv (.lit false))]) (lc := []) [0, 1003] rfl (fun F _ => noC) (fun _ _ => noL) fun F => ?_
  refine cast (congrArg (VAll _) (oDueF0_eq s now F).symm) ⟨⟨?_, uM0_keep (fun _ => rfl)⟩⟩
  simp only [Cnd.holds, true_and, and_true]
  exact wk_lit _
theorem due_tri (s : Ps) (now : Int) (hB : Big s) (hh : HeapTo (at' s) s.xs.length) (T : Ps × List Int) (hT : dueR now s.xs.length s [] = T) : Tri Try.prog default fDue [.ptr 0 0, iv now] (uM s) (idsA T.2) (uM T.1 ++ idsH T.2) := by
  have hr : RoomD s.xs.length := by unfold Big at hB; unfold RoomD; omega
  have hl := due_loop now s.xs.length hr s [] hB hh (by simp)
  rw [hT] at hl
  have hl := LTri.pre (open_due s [] (tms 0 47 (dueA now (idsA [])))) hl
  rw [show uM s ++ idsH [] = uM s from List.append_nil _] at hl
  obtain ⟨t, ids⟩ := T
  simp only at hl ⊢
  by_cases hi : ids = []
  · subst hi
    rw [show uM t ++ idsH [] = uM t from List.append_nil _] at hl ⊢
    exact dueFE_tri s t now hl
  · rw [idsA_ne hi, idsH_ne hi] at hl ⊢
    exact dueFN_tri s t now ids hl
theorem shut_clkI {L : List Al} {tn : Int} (s : Ps) (h : AbsC s L tn) (ids : List Int) : Goes [idsA ids] (uM s ++ idsH ids) [idsA ids] ((0, clO L tn) :: idsH ids) := by
  cases ids with
  | nil => exact (List.append_nil (uM s)).symm ▸ shut_clk s h nilV fun K => ⟨trivial, trivial⟩
  | cons x ids => exact Goes.shut (σ := Bool × Ps) (R := clR L tn) (L := clL) (m := .clock L tn) (H0 := [(1010, idsO (x :: ids))]) (vs := [idsV (x :: ids).length]) (false, s) ⟨h, fun e => by cases e⟩ (by kernel_rfl : ownL [(1010, idsO (x :: ids))] (uM s) = true) ⟨_, _, rfl, rfl⟩ ⟨rfl, trivial⟩ (ids_cl _ _)
theorem Adue_tri (L : List Al) (tn now : Int) (hB : BigL L) : Tri Try.prog default fDue [.ptr 0 0, iv now] [(0, clO L tn)] (idsA (dueL L now).1) ((0, clO (dueL L now).2 tn) :: idsH (dueL L now).1) := by
  refine open_clk (fun s h => ?_) (fun s h hx => ?_)
  · obtain ⟨e1, e2⟩ := due_abs now s.xs.length s L tn [] h rfl
    have := due_tri s now (h.big hB) h.heap _ rfl
    rw [e1, List.nil_append, ← h.len] at this
    rw [← h.len] at e2
    exact Tri.post this (shut_clkI _ e2 _)
  · have hL : L = [] := List.eq_nil_of_length_eq_zero (by rw [h.len, hx]; rfl)
    subst hL
    exact Tri.post (dueF0_tri s now) (shut_clk0 _ h hx _ fun K => ⟨trivial, trivial⟩)
end Go.Proofs.Ytojfbgmeaadanaa.Alm

/- Alarms: contracts for callers; SameInts: runs. -/
set_option linter.unusedVariables false
set_option linter.unusedSimpArgs false
set_option maxRecDepth 100000
namespace Go.Proofs.Ytojfbgmeaadanaa.Alm
open Go Go.RowKit Go.Proofs.Ytojfbgmeaadanaa.Eng Go.Proofs.Ytojfbgmeaadanaa.Kit
/-- An alarm is set. -/
def setL (L : List Al) (id at_ : Int) : List Al := without L id ++ [⟨id, at_⟩]
def noneDue (L : List Al) (now : Int) : Bool := (dueL L now).1.isEmpty
noncomputable section
def intA : AV → Int
  | .v (.int .i64 a) => a
  | _ => 0
def gClk : List AV → AP (Nat × List Al × Int × Int × Int) := fun args => match args with
  | .ptr i 0 :: r => .read i fun o => match o with
    | .own (.clock L tn) _ => .ret (i, L, tn, intA (getL r 0), intA (getL r 1))
    | _ => .fail "clock"
  | _ => .fail "clock"
def cANew : List AV → Option (AP AV) := mkC (fun _ => .ret ()) (fun _ => True) (fun _ i => i) (fun _ => []) (fun _ => []) (fun _ => .leaf .ret [.ptr 1000 0] [(1000, clO [] 0)])
def cASet : List AV → Option (AP AV) := mkC gClk (fun p => RoomL p.2.1 ∧ TnOK p.2.2.1) (fun p _ => p.1) (fun p => [.ptr 0 0, iv p.2.2.2.1, iv p.2.2.2.2]) (fun p => [(0, clO p.2.1 p.2.2.1)]) (fun p => .leaf .ret [.tuple []] [(0, clO (setL p.2.1 p.2.2.2.1 p.2.2.2.2) (p.2.2.1 + 1))])
def cACan : List AV → Option (AP AV) := mkC gClk (fun p => BigL p.2.1) (fun p _ => p.1) (fun p => [.ptr 0 0, iv p.2.2.2.1]) (fun p => [(0, clO p.2.1 p.2.2.1)]) (fun p => .leaf .ret [.v (.bool (hasId p.2.1 p.2.2.2.1))] [(0, clO (without p.2.1 p.2.2.2.1) p.2.2.1)])
def cAAt : List AV → Option (AP AV) := mkC gClk (fun p => True) (fun p _ => p.1) (fun p => [.ptr 0 0, iv p.2.2.2.1]) (fun p => [(0, clO p.2.1 p.2.2.1)]) (fun p => .leaf .ret [.tuple [iv (atOf p.2.1 p.2.2.2.1), .v (.bool (hasId p.2.1 p.2.2.2.1))]] [(0, clO p.2.1 p.2.2.1)])
def cANext : List AV → Option (AP AV) := mkC gClk (fun p => True) (fun p _ => p.1) (fun p => [.ptr 0 0]) (fun p => [(0, clO p.2.1 p.2.2.1)]) (fun p => .leaf .ret [.tuple [iv ((nextOf p.2.1).getD 0), .v (.bool (nextOf p.2.1).isSome)]] [(0, clO p.2.1 p.2.2.1)])
def cALen : List AV → Option (AP AV) := mkC gClk (fun p => True) (fun p _ => p.1) (fun p => [.ptr 0 0]) (fun p => [(0, clO p.2.1 p.2.2.1)]) (fun p => .leaf .ret [iv (Int.ofNat p.2.1.length)] [(0, clO p.2.1 p.2.2.1)])
def rtDue (p : Nat × List Al × Int × Int × Int) : RT := .ite (noneDue p.2.1 p.2.2.2.1) (.leaf .ret [nilV] [(0, clO (dueL p.2.1 p.2.2.2.1).2 p.2.2.1)]) (.leaf .ret [idsV (dueL p.2.1 p.2.2.2.1).1.length] [(0, clO (dueL p.2.1 p.2.2.2.1).2 p.2.2.1), (1010, idsO (dueL p.2.1 p.2.2.2.1).1)])
def cADue : List AV → Option (AP AV) := mkC gClk (fun p => BigL p.2.1) (fun p _ => p.1) (fun p => [.ptr 0 0, iv p.2.2.2.1]) (fun p => [(0, clO p.2.1 p.2.2.1)]) rtDue
abbrev fSpeaks : Nat := 6
def cASpeaks : List AV → Option (AP AV) := mkC (fun _ => .ret ()) (fun _ => True) (fun _ i => i) (fun _ => []) (fun _ => []) (fun _ => .leaf .ret [.v (.bool true)] [])
/-! SameInts of one list told twice. -/
abbrev fSame : Nat := 10
def isl (i : Nat) (l : List Int) : AV := .slice i 0 l.length 1 (.lo l.length)
def aSame (l : List Int) (i : Nat) : List (Nat × AV) := [(0, isl 0 l), (1, isl 1 l), (5, iv (Int.ofNat i))]
def oSame (l : List Int) : LH := [(0, idsO l), (1, idsO l)]
def hSame (i : Nat) (x : Int) : ClaimT := hintL [(fSame, 6, 3, hv (iv x)), (fSame, 6, 7, hv (iv x)), (fSame, 6, 8, hv (.lit false)), (fSame, 5, 1, hv (iv (Int.ofNat (i + 1))))]
theorem oLoopSame_eq (l : List Int) (i : Nat) (x : Int) (F : HP) : wLoop [] (hSame i x) [] default fSame (loopN fSame 4) (tms 0 26 (aSame l i)) (oSame l) [0, 1] [0, 1, 5] F = VT.ite (decide (Int.ofNat i < ↑l.length)) (VT.leaf (AX.normal, [AV.slice 0 0 l.length 1 (Cp.lo l.length), AV.slice 1 0 l.length 1 (Cp.lo l.length), AV.v (Value.int IntKind.i64 (Int.ofNat (i + 1)))], 26) [some (AO.cells (rowV encI l) 6), some (AO.cells (rowV encI l) 6)] 1100 (((Cnd.p (i.blt l.length = true)).a Cnd.t).a (((Cnd.p ((0 + i * 1).blt (rowV encI l).length = true)).a ((Cnd.p ((rowV encI l).getD (0 + i * 1) (AV.v (Value.tuple (Array.mk []))) = AV.v (Value.int IntKind.i64 ((rowV encI l).getD (0 + i * 1) (AV.v (Value.tuple (Array.mk [])))).intOf))).a ((Cnd.p (Wk (AV.v (Value.int IntKind.i64 ((rowV encI l).getD (0 + i * 1) (AV.v (Value.tuple (Array.mk [])))).intOf)) (AV.v (Value.int IntKind.i64 x)))).a Cnd.t))).a (((Cnd.p (i.blt l.length = true)).a Cnd.t).a (((Cnd.p ((0 + i * 1).blt (rowV encI l).length = true)).a ((Cnd.p ((rowV encI l).getD (0 + i * 1) (AV.v (Value.tuple (Array.mk []))) = AV.v (Value.int IntKind.i64 ((rowV encI l).getD (0 + i * 1) (AV.v (Value.tuple (Array.mk [])))).intOf))).a ((Cnd.p (Wk (AV.v (Value.int IntKind.i64 ((rowV encI l).getD (0 + i * 1) (AV.v (Value.tuple (Array.mk [])))).intOf)) (AV.v (Value.int IntKind.i64 x)))).a Cnd.t))).a (((Cnd.p (Wk (AV.v (Value.bool (x != x))) (AV.lit false))).a Cnd.t).a (((Cnd.p (Wk (AV.v (Value.int IntKind.i64 (IntKind.i64.wrap (Int.ofNat i + Int.ofNat 1)))) (AV.v (Value.int IntKind.i64 (Int.ofNat (i + 1)))))).a Cnd.t).a Cnd.t))))))) (VT.leaf (AX.exit 0, [AV.slice 0 0 l.length 1 (Cp.lo l.length), AV.slice 1 0 l.length 1 (Cp.lo l.length), AV.v (Value.int IntKind.i64 (Int.ofNat i))], 26) [some (AO.cells (rowV encI l) 6), some (AO.cells (rowV encI l) 6)] 1100 Cnd.t) := by kernel_rfl
def gSame : List AV → AP (Nat × Nat) := fun tmps => match getL tmps 0 with
  | .slice r0 _ _ _ _ => match getL tmps 1 with
    | .slice r1 _ _ _ _ => .ret (r0, r1)
    | _ => .ret (r0, r0)
  | _ => match getL tmps 1 with
    | .slice r1 _ _ _ _ => .ret (r1, r1)
    | _ => .fail "same"
def nm2 (r0 r1 : Nat) : Nat → Nat := fun k => match Nat.beq k 0 with
  | true => r0
  | false => r1
def lSame (l : List Int) : List AV → AP (AX × List AV) := mkL gSame (fun _ => True) (fun p => nm2 p.1 p.2) (fun _ => tms 0 26 (aSame l 0)) (fun _ => oSame l) (fun _ => .leaf (.exit 0) (tms 0 26 (aSame l l.length)) (oSame l))
def hSame1 (n : Nat) : ClaimT := hintL [(fSame, 1, 1, hv (iv (Int.ofNat n))), (fSame, 1, 3, hv (iv (Int.ofNat n))), (fSame, 1, 4, hv (.lit false))]
theorem oSame_eq (l : List Int) (F : HP) : wRun [] (hSame1 l.length) [(fSame, 4, loopN fSame 4, lSame l)] default fSame [isl 0 l, isl 1 l] (oSame l) [0, 1] F = VT.leaf (AV.v (Value.bool true)) [some (AO.cells (AV.rens (sgN (nm2 0 1) [] 0) (rowV encI l)) 6), some (AO.cells (AV.rens (sgN (nm2 0 1) [] 0) (rowV encI l)) 6)] 1100 (((Cnd.p (Wk (AV.v (Value.int IntKind.i64 ↑l.length)) (AV.v (Value.int IntKind.i64 (Int.ofNat l.length))))).a Cnd.t).a (((Cnd.p (Wk (AV.v (Value.int IntKind.i64 ↑l.length)) (AV.v (Value.int IntKind.i64 (Int.ofNat l.length))))).a Cnd.t).a (((Cnd.p (Wk (AV.v (Value.bool (Int.ofNat l.length != Int.ofNat l.length))) (AV.lit false))).a Cnd.t).a ((Cnd.p ((fSame, 4, loopN fSame 4, lSame l).snd.snd.fst = (fSame, 4, loopN fSame 4, lSame l).snd.snd.fst)).a ((Cnd.p True).a ((Cnd.p (VW [AV.slice 0 0 l.length 1 (Cp.lo l.length), AV.slice 1 0 l.length 1 (Cp.lo l.length), AV.v (Value.tuple (Array.mk [])), AV.v (Value.tuple (Array.mk [])), AV.v (Value.bool false), AV.v (Value.int IntKind.i64 (Int.ofNat 0)), AV.slice 0 0 l.length 1 (Cp.lo l.length), AV.v (Value.int IntKind.i64 (Int.ofNat l.length)), AV.slice 1 0 l.length 1 (Cp.lo l.length), AV.v (Value.int IntKind.i64 (Int.ofNat l.length)), AV.lit false, AV.v (Value.tuple (Array.mk [])), AV.v (Value.tuple (Array.mk [])), AV.v (Value.tuple (Array.mk [])), AV.v (Value.tuple (Array.mk [])), AV.v (Value.tuple (Array.mk [])), AV.v (Value.tuple (Array.mk [])), AV.v (Value.tuple (Array.mk [])), AV.v (Value.tuple (Array.mk [])), AV.v (Value.tuple (Array.mk [])), AV.v (Value.tuple (Array.mk [])), AV.v (Value.tuple (Array.mk [])), AV.v (Value.tuple (Array.mk [])), AV.v (Value.tuple (Array.mk [])), AV.v (Value.tuple (Array.mk [])), AV.v (Value.tuple (Array.mk []))] [AV.slice 0 0 l.length 1 (Cp.lo l.length), AV.slice 1 0 l.length 1 (Cp.lo l.length), AV.any, AV.any, AV.any, AV.v (Value.int IntKind.i64 (Int.ofNat 0)), AV.any, AV.any, AV.any, AV.any, AV.any, AV.any, AV.any, AV.any, AV.any, AV.any, AV.any, AV.any, AV.any, AV.any, AV.any, AV.any, AV.any, AV.any, AV.any, AV.any])).a ((Cnd.p (OW (AO.cells (rowV encI l) 6) (AO.cells (AV.rens (nm2 0 1) (rowV encI l)) 6))).a ((Cnd.p (OW (AO.cells (rowV encI l) 6) (AO.cells (AV.rens (nm2 0 1) (rowV encI l)) 6))).a Cnd.t)))))))) := by kernel_rfl
def hSame0 : ClaimT := hintL [(fSame, 1, 4, hv (.lit false)), (fSame, 4, 3, hv (.lit false))]
theorem oSameL_eq (F : HP) : wRun [] hSame0 [] default fSame [nilV, isl 0 []] [(0, idsO [])] [0] F = VT.leaf (AV.v (Value.bool true)) [some (AO.cells [] 6)] 1100 (((Cnd.p (Wk (AV.v (Value.bool false)) (AV.lit false))).a Cnd.t).a (((Cnd.p (Wk (AV.v (Value.bool false)) (AV.lit false))).a Cnd.t).a Cnd.t)) := by kernel_rfl
theorem oSameR_eq (F : HP) : wRun [] hSame0 [] default fSame [isl 0 [], nilV] [(0, idsO [])] [0] F = VT.leaf (AV.v (Value.bool true)) [some (AO.cells [] 6)] 1100 (((Cnd.p (Wk (AV.v (Value.bool false)) (AV.lit false))).a Cnd.t).a (((Cnd.p (Wk (AV.v (Value.bool false)) (AV.lit false))).a Cnd.t).a Cnd.t)) := by kernel_rfl
def cSameB (l : List Int) : List AV → Option (AP AV) := mkC gSame (fun _ => True) (fun p => nm2 p.1 p.2) (fun _ => [isl 0 l, isl 1 l]) (fun _ => oSame l) (fun _ => .leaf .ret [.v (.bool true)] (oSame l))
def cSameR : List AV → Option (AP AV) := mkC gSame (fun _ => True) (fun p => nm2 p.1 p.2) (fun _ => [isl 0 [], nilV]) (fun _ => [(0, idsO [])]) (fun _ => .leaf .ret [.v (.bool true)] [(0, idsO [])])
def cSameL : List AV → Option (AP AV) := mkC gSame (fun _ => True) (fun p => nm2 p.1 p.2) (fun _ => [nilV, isl 0 []]) (fun _ => [(0, idsO [])]) (fun _ => .leaf .ret [.v (.bool true)] [(0, idsO [])])
/-- One list told twice, wherever it lies. -/
def cSame (l : List Int) : List AV → Option (AP AV) := fun args => match args with
  | [.slice .., .slice ..] => cSameB l args
  | [.slice .., _] => cSameR args
  | _ => cSameL args
end
end Go.Proofs.Ytojfbgmeaadanaa.Alm

/- Alarms: contracts for callers, proved. -/
set_option linter.unusedVariables false
set_option linter.unusedSimpArgs false
set_option maxRecDepth 100000
namespace Go.Proofs.Ytojfbgmeaadanaa.Alm
open Go Go.RowKit Go.Proofs.Ytojfbgmeaadanaa.Eng Go.Proofs.Ytojfbgmeaadanaa.Kit
theorem gClk_ro : ∀ args, RO (gClk args) := by
  intro args
  unfold gClk
  split
  · refine RO.read _ _ fun o => ?_
    split
    · exact RO.ret _
    · exact RO.fail _
  · exact RO.fail _
theorem gSame_ro : ∀ args, RO (gSame args) := by
  intro args
  unfold gSame
  repeat' split
  all_goals first | exact RO.ret _ | exact RO.fail _
theorem cANew_ok (F : HP) : C1OK Try.prog F fNew cANew :=
  mkC_ok (W := default) oldDef (fun _ => .ptr 1000 0) (fun _ => RO.ret _) (fun _ => rfl) (fun _ _ => Anew_tri) fun _ => ⟨rfl, rfl, trivial, all_nil, ⟨rfl, trivial⟩, all_cons trivial all_nil⟩
theorem cASet_ok (F : HP) : C1OK Try.prog F fSet cASet :=
  mkC_ok (W := default) oldDef (fun _ => .tuple []) gClk_ro (fun _ => rfl) (fun p h => Aset_tri p.2.1 p.2.2.1 p.2.2.2.1 p.2.2.2.2 h.1 h.2) fun _ => ⟨rfl, rfl, ⟨rfl, trivial, trivial, trivial⟩, all_cons trivial all_nil, ⟨trivial, trivial⟩, all_cons trivial all_nil⟩
theorem cACan_ok (F : HP) : C1OK Try.prog F fCan cACan :=
  mkC_ok (W := default) oldDef (fun p => .v (.bool (hasId p.2.1 p.2.2.2.1))) gClk_ro (fun _ => rfl) (fun p h => Acan_tri p.2.1 p.2.2.1 p.2.2.2.1 h) fun _ => ⟨rfl, rfl, ⟨rfl, trivial, trivial⟩, all_cons trivial all_nil, ⟨trivial, trivial⟩, all_cons trivial all_nil⟩
theorem cAAt_ok (F : HP) : C1OK Try.prog F fAt cAAt :=
  mkC_ok (W := default) oldDef (fun p => .tuple [iv (atOf p.2.1 p.2.2.2.1), .v (.bool (hasId p.2.1 p.2.2.2.1))]) gClk_ro (fun _ => rfl) (fun p h => Aat_tri p.2.1 p.2.2.1 p.2.2.2.1) fun _ => ⟨rfl, rfl, ⟨rfl, trivial, trivial⟩, all_cons trivial all_nil, ⟨⟨trivial, trivial, trivial⟩, trivial⟩, all_cons trivial all_nil⟩
theorem cANext_ok (F : HP) : C1OK Try.prog F fNext cANext :=
  mkC_ok (W := default) oldDef (fun p => .tuple [iv ((nextOf p.2.1).getD 0), .v (.bool (nextOf p.2.1).isSome)]) gClk_ro (fun _ => rfl) (fun p h => Anext_tri p.2.1 p.2.2.1) fun _ => ⟨rfl, rfl, ⟨rfl, trivial⟩, all_cons trivial all_nil, ⟨⟨trivial, trivial, trivial⟩, trivial⟩, all_cons trivial all_nil⟩
theorem cALen_ok (F : HP) : C1OK Try.prog F fCLen cALen :=
  mkC_ok (W := default) oldDef (fun p => iv (Int.ofNat p.2.1.length)) gClk_ro (fun _ => rfl) (fun p h => Alen_tri p.2.1 p.2.2.1) fun _ => ⟨rfl, rfl, ⟨rfl, trivial⟩, all_cons trivial all_nil, ⟨trivial, trivial⟩, all_cons trivial all_nil⟩
theorem none_due {L : List Al} {now : Int} (h : noneDue L now = true) : (dueL L now).1 = [] := List.isEmpty_iff.1 h
theorem some_due {L : List Al} {now : Int} (h : noneDue L now = false) : (dueL L now).1 ≠ [] := fun e => by
  unfold noneDue at h; rw [e] at h; cases h
theorem cADue_ok (F : HP) : C1OK Try.prog F fDue cADue := by
  refine mkC_ok (W := default) oldDef (fun p => idsA (dueL p.2.1 p.2.2.2.1).1) gClk_ro (fun p => ?_) (fun p h => ?_) fun p => ?_
  · simp only [rtDue, RT.pick]
    cases hd : noneDue p.2.1 p.2.2.2.1 with
    | true => rw [none_due hd]; rfl
    | false => rw [idsA_ne (some_due hd)]
  · have := Adue_tri p.2.1 p.2.2.1 p.2.2.2.1 h
    simp only [rtDue, RT.pick]
    cases hd : noneDue p.2.1 p.2.2.2.1 with
    | true => rw [none_due hd] at this ⊢; exact this
    | false => rw [idsH_ne (some_due hd)] at this; exact this
  · simp only [rtDue, RT.pick]
    cases hd : noneDue p.2.1 p.2.2.2.1 with
    | true => rw [none_due hd]; exact ⟨rfl, rfl, ⟨rfl, trivial, trivial⟩, all_cons trivial all_nil, ⟨trivial, trivial⟩, all_cons trivial all_nil⟩
    | false => rw [idsA_ne (some_due hd)]; exact ⟨rfl, rfl, ⟨rfl, trivial, trivial⟩, all_cons trivial all_nil, ⟨rfl, trivial⟩, all_cons trivial (ids_cl _ _)⟩
theorem speaks_calls (w : World) : Calls Try.prog fSpeaks (List.toArray []) w fun e w' => e = .returned (.bool true) ∧ Below w.heap.size w w' :=
  closed_call (args := []) mixed (fuel := 100000) (fun w => by kernel_rfl) w
theorem cASpeaks_ok (F : HP) : C1OK Try.prog F fSpeaks cASpeaks :=
  mkC_ok (W := default) oldDef (fun _ => .v (.bool true)) (fun _ => RO.ret _) (fun _ => rfl) (fun _ _ => tri_closed (args := []) speaks_calls) fun _ => ⟨rfl, rfl, trivial, all_nil, ⟨trivial, trivial⟩, all_nil⟩
/-! SameInts. -/
theorem row_int (l : List Int) (i : Nat) (d : AV) (h : i < l.length) : (rowV encI l).getD i d = iv (l.getD i 0) := by
  induction l generalizing i with
  | nil => cases h
  | cons x l ih =>
    cases i with
    | zero => rfl
    | succ i => exact ih i (by simpa using h)
/-- Few enough. -/
def RoomI (l : List Int) : Prop := l.length < 9223372036854775807
theorem same_fit (l : List Int) (k : Nat) : FitT [0, 1] [0, 1, 5] [isl 0 l, isl 1 l, iv (Int.ofNat k)] [some (idsO l), some (idsO l)] (aSame l k) (oSame l) [] := ⟨rfl, rfl, ⟨Wk.refl _, Wk.refl _, Wk.refl _, trivial⟩, ⟨⟨_, rfl, OW.of_eq (calm_ids _ _).symm⟩, ⟨_, rfl, OW.of_eq (calm_ids _ _).symm⟩, trivial⟩⟩
theorem same_loop (l : List Int) (hR : RoomI l) : LTri Try.prog default (loopN fSame 4) (tms 0 26 (aSame l 0)) (oSame l) (.exit 0) (tms 0 26 (aSame l l.length)) (oSame l) := by
  refine ltri_run (W := default) (g := fSame) (b := loopN fSame 4) (σ := {i : Nat // i ≤ l.length}) 26 (fun i => aSame l i.1) (fun _ => oSame l) (.exit 0) (aSame l l.length) (oSame l) (fun i => l.length - i.1) [0, 1] [0, 1, 5] (by intro h; cases h) (fun _ => rfl) rfl ?_ ⟨0, Nat.zero_le _⟩
  rintro ⟨i, hi⟩
  refine ⟨[], hSame i (l.getD i 0), [], fun _ _ => noC, fun _ _ => noL, fun F => ?_⟩
  refine cast (congrArg (VAll _) (oLoopSame_eq l i (l.getD i 0) F).symm) ?_
  rw [nat_ltC]
  refine ⟨⟨fun h1 => ⟨?_, rfl, .inl ⟨rfl, ⟨i + 1, of_decide_eq_true h1⟩, sub_down (of_decide_eq_true h1), [], same_fit l (i + 1)⟩⟩, fun h1 => ⟨trivial, rfl, .inr ⟨rfl, [], ?_⟩⟩⟩⟩
  · have h1 : i < l.length := of_decide_eq_true h1
    have hw := wrap_succ i (by unfold RoomI at hR; omega)
    have hg : ∀ d, (rowV encI l).getD i d = iv (l.getD i 0) := fun d => row_int l i d h1
    simp only [Cnd.holds, Nat.zero_add, Nat.mul_one, hg, len_idsO, Nat.blt_eq, h1, bne_self_eq_false, true_and, and_true]
    and_intros
    all_goals first
      | (with_reducible exact Wk.refl _)
      | (with_reducible exact wk_lit _)
      | (with_reducible exact wk_int hw)
      | exact rfl
      | exact Wk.refl _
  · have h1 : ¬ i < l.length := of_decide_eq_false h1
    have : i = l.length := by omega
    rw [this]; exact same_fit l _
theorem same_cl (K : Nat → Bool) (h0 : K 0 = true) (h1 : K 1 = true) (l : List Int) (i : Nat) : ∀ x ∈ aSame l i, AV.cl K x.2 := all_cons h0 (all_cons h1 (all_cons trivial all_nil))
theorem sameO_cl (K : Nat → Bool) (l : List Int) : ∀ x ∈ oSame l, x.2.cl K := all_cons (cls_rowV _ _) (all_cons (cls_rowV _ _) all_nil)
theorem lSame_ok (l : List Int) (hR : RoomI l) (F : HP) : L1OK Try.prog F (loopN fSame 4) (lSame l) :=
  mkL_ok (W := default) oldDef gSame_ro (fun _ _ => same_loop l hR) fun _ => closedT rfl rfl (same_cl _ rfl rfl l 0) (sameO_cl _ l) (same_cl _ rfl rfl l _) (sameO_cl _ l)
theorem same_tri (l : List Int) (hR : RoomI l) : Tri Try.prog default fSame [isl 0 l, isl 1 l] (oSame l) (.v (.bool true)) (oSame l) := by
  refine tri_run (con := []) (hints := hSame1 l.length) (lc := [(fSame, 4, loopN fSame 4, lSame l)]) [0, 1] rfl (fun _ _ => noC) (fun F _ => one_l (lSame_ok l hR F)) fun F => ?_
  refine cast (congrArg (VAll _) (oSame_eq l F).symm) ⟨⟨?_, (fit_mk (vs' := [.v (.bool true)]) (H' := oSame l) [] rfl rfl (VW.refl _) ⟨⟨_, rfl, OW.of_eq ?_⟩, ⟨_, rfl, OW.of_eq ?_⟩, trivial⟩).fits rfl⟩⟩
  · simp only [Cnd.holds, rens_rowV, bne_self_eq_false, true_and, and_true]
    and_intros
    all_goals first
      | (with_reducible exact rfl)
      | (with_reducible exact Wk.refl _)
      | (with_reducible exact OW.refl _)
      | (with_reducible exact wk_lit _)
      | exact Wk.refl _
      | (repeat (first | exact VW.nil | refine VW.cons (Wk.refl _) ?_ | refine VW.cons (Wk.any _) ?_))
      | exact Wk.refl _
  all_goals
    show _ = (idsO l).ren _
    rw [calm_ids, rens_rowV]; rfl
theorem sameL_tri : Tri Try.prog default fSame [nilV, isl 0 []] [(0, idsO [])] (.v (.bool true)) [(0, idsO [])] := by
  refine tri_run (con := []) (hints := hSame0) (lc := []) [0] rfl (fun _ _ => noC) (fun F _ => noL) fun F => ?_
  exact cast (congrArg (VAll _) (oSameL_eq F).symm) ⟨⟨⟨⟨wk_lit _, trivial⟩, ⟨wk_lit _, trivial⟩, trivial⟩, fits_own1 (fun _ => rfl) (fun _ => rfl)⟩⟩
theorem sameR_tri : Tri Try.prog default fSame [isl 0 [], nilV] [(0, idsO [])] (.v (.bool true)) [(0, idsO [])] := by
  refine tri_run (con := []) (hints := hSame0) (lc := []) [0] rfl (fun _ _ => noC) (fun F _ => noL) fun F => ?_
  exact cast (congrArg (VAll _) (oSameR_eq F).symm) ⟨⟨⟨⟨wk_lit _, trivial⟩, ⟨wk_lit _, trivial⟩, trivial⟩, fits_own1 (fun _ => rfl) (fun _ => rfl)⟩⟩
theorem cSameB_ok (l : List Int) (hR : RoomI l) (F : HP) : C1OK Try.prog F fSame (cSameB l) :=
  mkC_ok (W := default) oldDef (fun _ => .v (.bool true)) gSame_ro (fun _ => rfl) (fun _ _ => same_tri l hR) (fun _ => ⟨rfl, rfl, ⟨rfl, rfl, trivial⟩, sameO_cl _ l, ⟨trivial, trivial⟩, sameO_cl _ l⟩)
theorem cSameR_ok (F : HP) : C1OK Try.prog F fSame cSameR :=
  mkC_ok (W := default) oldDef (fun _ => .v (.bool true)) gSame_ro (fun _ => rfl) (fun _ _ => sameR_tri) (fun _ => ⟨rfl, rfl, ⟨rfl, trivial, trivial⟩, all_cons trivial all_nil, ⟨trivial, trivial⟩, all_cons trivial all_nil⟩)
theorem cSameL_ok (F : HP) : C1OK Try.prog F fSame cSameL :=
  mkC_ok (W := default) oldDef (fun _ => .v (.bool true)) gSame_ro (fun _ => rfl) (fun _ _ => sameL_tri) (fun _ => ⟨rfl, rfl, ⟨trivial, rfl, trivial⟩, all_cons trivial all_nil, ⟨trivial, trivial⟩, all_cons trivial all_nil⟩)
theorem cSame_ok (l : List Int) (hR : RoomI l) (F : HP) : C1OK Try.prog F fSame (cSame l) := by
  intro st W0 N h w args vargs v h' n n' lg lg' c p hp he hc r ha hf
  unfold cSame at hp
  split at hp
  · exact cSameB_ok l hR F st W0 N h w _ vargs v h' n n' lg lg' c p hp he hc r ha hf
  · exact cSameR_ok F st W0 N h w _ vargs v h' n n' lg lg' c p hp he hc r ha hf
  · exact cSameL_ok F st W0 N h w _ vargs v h' n n' lg lg' c p hp he hc r ha hf
end Go.Proofs.Ytojfbgmeaadanaa.Alm

/- AlarmsSplit: runs. -/
set_option linter.unusedVariables false
set_option linter.unusedSimpArgs false
set_option maxRecDepth 100000
namespace Go.Proofs.Ytojfbgmeaadanaa.Alm
open Go Go.RowKit Go.Proofs.Ytojfbgmeaadanaa.Eng Go.Proofs.Ytojfbgmeaadanaa.Kit
noncomputable section
abbrev fSplit : Nat := 3
def enc2 (x : Al) : List Value := [.int .i64 x.id, .int .i64 x.tk]
def conA (l : List Int) : ConsL := [(fNew, cANew), (fSet, cASet), (fDue, cADue), (fCLen, cALen), (fCan, cACan), (fAt, cAAt), (fNext, cANext), (fSame, cSame l), (fSpeaks, cASpeaks)]
def aSp (V : AV) (n k : Nat) (a b : Int) : List (Nat × AV) := [(1, iv a), (2, iv b), (7, .ptr 0 0), (8, .ptr 1 0), (30, V), (31, iv (Int.ofNat n)), (32, iv (Int.ofNat k))]
def zSp (a b : Int) : List (Nat × AV) := [(1, iv a), (2, iv b), (7, .ptr 0 0), (8, .ptr 1 0)]
def oSp (L : List Al) (k : Nat) : LH := [(0, clO L (Int.ofNat k)), (1, clO L (Int.ofNat k))]
def hSp (k : Nat) (x : Al) : ClaimT := hintL [(fSplit, 7, 0, hv (.lit true)), (fSplit, 8, 1, hv (.agg (vmap (enc2 x)))), (fSplit, 11, 0, hv (iv (Int.ofNat (k + 1))))]
def hSpE : ClaimT := hintL [(fSplit, 7, 0, hv (.lit false))]
theorem oSpRound_eq (W : World) (ad : Addr) (n c k : Nat) (a b : Int) (L : List Al) (x : Al) (F : HP) : wLoop (conA []) (hSp k x) [] W fSplit (loopN fSplit 7) (tms 0 71 (aSp (slV (some ad) n c) n k a b)) (oSp L k) [0, 1] [1, 2, 7, 8, 30, 31, 32] F = VT.leaf (AX.normal, [AV.v (Value.int IntKind.i64 a), AV.v (Value.int IntKind.i64 b), AV.ptr 0 0, AV.ptr 1 0, AV.v (Value.slice (some ad) n c), AV.v (Value.int IntKind.i64 (Int.ofNat n)), AV.v (Value.int IntKind.i64 (Int.ofNat (k + 1)))], 71) [some (AO.own (Md.clock (setL L (intA (AV.v (Value.int IntKind.i64 x.id))) (intA (AV.v (Value.int IntKind.i64 x.tk)))) (Int.ofNat k + Int.ofNat 1)) (clH (setL L (intA (AV.v (Value.int IntKind.i64 x.id))) (intA (AV.v (Value.int IntKind.i64 x.tk)))) (Int.ofNat k + Int.ofNat 1))), some (AO.own (Md.clock (setL L (intA (AV.v (Value.int IntKind.i64 x.id))) (intA (AV.v (Value.int IntKind.i64 x.tk)))) (Int.ofNat k + Int.ofNat 1)) (clH (setL L (intA (AV.v (Value.int IntKind.i64 x.id))) (intA (AV.v (Value.int IntKind.i64 x.tk)))) (Int.ofNat k + Int.ofNat 1)))] 1101 (((Cnd.p (Wk (AV.v (Value.bool (decide (Int.ofNat k < Int.ofNat n)))) (AV.lit true))).a Cnd.t).a (((Cnd.p (k.blt n = true)).a Cnd.t).a (((Cnd.p (([0, 1].all fun j => (W.cell? ((ad.add (k * 2)).add j)).isSome) = true)).a ((Cnd.p ([AV.v ((W.cell? ((ad.add (k * 2)).add 0)).getD (Value.tuple (Array.mk []))), AV.v ((W.cell? (Addr.mk (ad.add (k * 2)).block ((ad.add (k * 2)).off + 1) none)).getD (Value.tuple (Array.mk [])))] = [AV.v (Value.int IntKind.i64 (AV.v ((W.cell? ((ad.add (k * 2)).add 0)).getD (Value.tuple (Array.mk [])))).intOf), AV.v (Value.int IntKind.i64 (AV.v ((W.cell? (Addr.mk (ad.add (k * 2)).block ((ad.add (k * 2)).off + 1) none)).getD (Value.tuple (Array.mk [])))).intOf)])).a ((Cnd.p (Wk (AV.agg [AV.v (Value.int IntKind.i64 (AV.v ((W.cell? ((ad.add (k * 2)).add 0)).getD (Value.tuple (Array.mk [])))).intOf), AV.v (Value.int IntKind.i64 (AV.v ((W.cell? (Addr.mk (ad.add (k * 2)).block ((ad.add (k * 2)).off + 1) none)).getD (Value.tuple (Array.mk [])))).intOf)]) (AV.agg [AV.v (Value.int IntKind.i64 x.id), AV.v (Value.int IntKind.i64 x.tk)]))).a Cnd.t))).a (((Cnd.p (true = true)).a Cnd.t).a (((Cnd.p (true = true)).a ((Cnd.p (AV.v (Value.int IntKind.i64 x.id) = AV.v (Value.int IntKind.i64 x.id))).a Cnd.t)).a (((Cnd.p (true = true)).a ((Cnd.p (AV.v (Value.int IntKind.i64 x.tk) = AV.v (Value.int IntKind.i64 x.tk))).a Cnd.t)).a (((Cnd.p (RoomL L ∧ TnOK (Int.ofNat k))).a ((Cnd.p (VW [AV.ptr 0 0, AV.v (Value.int IntKind.i64 x.id), AV.v (Value.int IntKind.i64 x.tk)] [AV.ptr 0 0, AV.v (Value.int IntKind.i64 (intA (AV.v (Value.int IntKind.i64 x.id)))), AV.v (Value.int IntKind.i64 (intA (AV.v (Value.int IntKind.i64 x.tk))))])).a ((Cnd.p (OW (AO.own (Md.clock L (Int.ofNat k)) (clH L (Int.ofNat k))) (AO.own (Md.clock L (Int.ofNat k)) (clH L (Int.ofNat k))))).a Cnd.t))).a (((Cnd.p (true = true)).a ((Cnd.p (AV.v (Value.int IntKind.i64 x.id) = AV.v (Value.int IntKind.i64 x.id))).a Cnd.t)).a (((Cnd.p (true = true)).a ((Cnd.p (AV.v (Value.int IntKind.i64 x.tk) = AV.v (Value.int IntKind.i64 x.tk))).a Cnd.t)).a (((Cnd.p (RoomL L ∧ TnOK (Int.ofNat k))).a ((Cnd.p (VW [AV.ptr 1 0, AV.v (Value.int IntKind.i64 x.id), AV.v (Value.int IntKind.i64 x.tk)] [AV.ptr 1 0, AV.v (Value.int IntKind.i64 (intA (AV.v (Value.int IntKind.i64 x.id)))), AV.v (Value.int IntKind.i64 (intA (AV.v (Value.int IntKind.i64 x.tk))))])).a ((Cnd.p (OW (AO.own (Md.clock L (Int.ofNat k)) (clH L (Int.ofNat k))) (AO.own (Md.clock L (Int.ofNat k)) (clH L (Int.ofNat k))))).a Cnd.t))).a (((Cnd.p (Wk (AV.v (Value.int IntKind.i64 (IntKind.i64.wrap (Int.ofNat k + Int.ofNat 1)))) (AV.v (Value.int IntKind.i64 (Int.ofNat (k + 1)))))).a Cnd.t).a Cnd.t))))))))))) := by kernel_rfl
theorem oSpEnd_eq (W : World) (V : AV) (n k : Nat) (a b : Int) (L : List Al) (F : HP) : wLoop (conA []) hSpE [] W fSplit (loopN fSplit 7) (tms 0 71 (aSp V n k a b)) (oSp L k) [0, 1] [1, 2, 7, 8, 30, 31, 32] F = VT.leaf (AX.exit 0, [AV.v (Value.int IntKind.i64 a), AV.v (Value.int IntKind.i64 b), AV.ptr 0 0, AV.ptr 1 0, getL [AV.any, AV.v (Value.int IntKind.i64 a), AV.v (Value.int IntKind.i64 b), AV.any, AV.any, AV.any, AV.any, AV.ptr 0 0, AV.ptr 1 0, AV.any, AV.any, AV.any, AV.any, AV.any, AV.any, AV.any, AV.any, AV.any, AV.any, AV.any, AV.any, AV.any, AV.any, AV.any, AV.any, AV.any, AV.any, AV.any, AV.any, AV.any, V, AV.v (Value.int IntKind.i64 (Int.ofNat n)), AV.v (Value.int IntKind.i64 (Int.ofNat k)), AV.lit false, AV.any, AV.any, AV.any, AV.any, AV.any, AV.any, AV.any, AV.any, AV.any, AV.any, AV.any, AV.any, AV.any, AV.any, AV.any, AV.any, AV.any, AV.any, AV.any, AV.any, AV.any, AV.any, AV.any, AV.any, AV.any, AV.any, AV.any, AV.any, AV.any, AV.any, AV.any, AV.any, AV.any, AV.any, AV.any, AV.any, AV.any] 30, AV.v (Value.int IntKind.i64 (Int.ofNat n)), AV.v (Value.int IntKind.i64 (Int.ofNat k))], 71) [some (AO.own (Md.clock L (Int.ofNat k)) (clH L (Int.ofNat k))), some (AO.own (Md.clock L (Int.ofNat k)) (clH L (Int.ofNat k)))] 1100 (((Cnd.p (Wk (AV.v (Value.bool (decide (Int.ofNat k < Int.ofNat n)))) (AV.lit false))).a Cnd.t).a Cnd.t) := by kernel_rfl
def gTwoP (i j : Nat) : List AV → AP (Nat × Nat) := fun tmps => match getL tmps i with
  | .ptr r0 _ => match getL tmps j with
    | .ptr r1 _ => .ret (r0, r1)
    | _ => .fail "two"
  | _ => .fail "two"
def lSp (V : AV) (n : Nat) (a b : Int) (L : List Al) : List AV → AP (AX × List AV) := mkL (gTwoP 7 8) (fun _ => True) (fun p => nm2 p.1 p.2) (fun _ => tms 0 71 (aSp V n 0 a b)) (fun _ => oSp [] 0) (fun _ => .leaf (.exit 0) (tms 0 71 (zSp a b)) (oSp L n))
def hSpL : ClaimT := hintL [(fSplit, 1, 1, hv (.lit false)), (fSplit, 4, 1, hv (.lit false)), (fSplit, 4, 4, hv (.lit false)), (fSplit, 4, 9, hv (.lit false)), (fSplit, 14, 4, hv (.lit true)), (fSplit, 14, 10, hv (.lit true))]
theorem oSpG_eq (W : World) (V : AV) (n : Nat) (a b : Int) (L : List Al) (F : HP) : wRun (conA []) (hintL [(fSplit, 1, 1, hv (.lit false)), (fSplit, 4, 1, hv (.lit false)), (fSplit, 4, 4, hv (.lit false)), (fSplit, 4, 9, hv (.lit true))]) [(fSplit, 7, loopN fSplit 7, lSp V n a b L)] W fSplit [V, iv a, iv b] [] [] F = VT.leaf (AV.v (Value.bool (decide (a > b)))) [] 1102 (((Cnd.p True).a ((Cnd.p (VW [] [])).a Cnd.t)).a (((Cnd.p (Wk (AV.v (Value.bool false)) (AV.lit false))).a Cnd.t).a (((Cnd.p True).a ((Cnd.p (VW [] [])).a Cnd.t)).a (((Cnd.p True).a ((Cnd.p (VW [] [])).a Cnd.t)).a (((Cnd.p (Wk (AV.v (Value.bool false)) (AV.lit false))).a Cnd.t).a (((Cnd.p (Wk (AV.v (Value.bool false)) (AV.lit false))).a Cnd.t).a (((Cnd.p (Wk (AV.v (Value.bool (decide (a > b)))) (AV.lit true))).a Cnd.t).a Cnd.t))))))) := by kernel_rfl
theorem oSpL_eq (W : World) (oa : Option Addr) (n c : Nat) (a b : Int) (L : List Al) (l : List Int) (F : HP) : wRun (conA l) hSpL [(fSplit, 7, loopN fSplit 7, lSp (slV oa n c) n a b L)] W fSplit [slV oa n c, iv a, iv b] [] [] F = VT.ite (noneDue L a) (VT.ite (noneDue (dueL L a).snd b) (VT.ite (noneDue L b) (VT.leaf (AV.v (Value.bool true)) [] 1103 (((Cnd.p True).a ((Cnd.p (VW [] [])).a Cnd.t)).a (((Cnd.p (Wk (AV.v (Value.bool false)) (AV.lit false))).a Cnd.t).a (((Cnd.p True).a ((Cnd.p (VW [] [])).a Cnd.t)).a (((Cnd.p True).a ((Cnd.p (VW [] [])).a Cnd.t)).a (((Cnd.p (Wk (AV.v (Value.bool false)) (AV.lit false))).a Cnd.t).a (((Cnd.p (Wk (AV.v (Value.bool false)) (AV.lit false))).a Cnd.t).a (((Cnd.p (Wk (AV.v (Value.bool (decide (a > b)))) (AV.lit false))).a Cnd.t).a ((Cnd.p ((fSplit, 7, loopN fSplit 7, lSp (slV oa n c) n a b L).snd.snd.fst = (fSplit, 7, loopN fSplit 7, lSp (slV oa n c) n a b L).snd.snd.fst)).a ((Cnd.p True).a ((Cnd.p (VW [AV.v (Value.slice oa n c), AV.v (Value.int IntKind.i64 a), AV.v (Value.int IntKind.i64 b), AV.v (Value.tuple (Array.mk [])), AV.v (Value.tuple (Array.mk [])), AV.v (Value.tuple (Array.mk [])), AV.v (Value.bool false), AV.ptr 1100 0, AV.ptr 1101 0, AV.v (Value.tuple (Array.mk [])), AV.v (Value.tuple (Array.mk [])), AV.v (Value.tuple (Array.mk [])), AV.v (Value.bool true), AV.lit false, AV.ptr 1100 0, AV.ptr 1101 0, AV.ptr 1100 0, AV.lit false, AV.lit false, AV.ptr 1101 0, AV.lit false, AV.lit false, AV.lit false, AV.v (Value.int IntKind.i64 a), AV.v (Value.int IntKind.i64 b), AV.lit false, AV.lit false, AV.v (Value.tuple (Array.mk [])), AV.v (Value.tuple (Array.mk [])), AV.v (Value.tuple (Array.mk [])), AV.v (Value.slice oa n c), AV.v (Value.int IntKind.i64 ↑n), AV.v (Value.int IntKind.i64 (Int.ofNat 0)), AV.v (Value.tuple (Array.mk [])), AV.v (Value.tuple (Array.mk [])), AV.v (Value.tuple (Array.mk [])), AV.v (Value.tuple (Array.mk [])), AV.v (Value.tuple (Array.mk [])), AV.v (Value.tuple (Array.mk [])), AV.v (Value.tuple (Array.mk [])), AV.v (Value.tuple (Array.mk [])), AV.v (Value.tuple (Array.mk [])), AV.v (Value.tuple (Array.mk [])), AV.v (Value.tuple (Array.mk [])), AV.v (Value.tuple (Array.mk [])), AV.v (Value.tuple (Array.mk [])), AV.v (Value.tuple (Array.mk [])), AV.v (Value.tuple (Array.mk [])), AV.v (Value.tuple (Array.mk [])), AV.v (Value.tuple (Array.mk [])), AV.v (Value.tuple (Array.mk [])), AV.v (Value.tuple (Array.mk [])), AV.v (Value.tuple (Array.mk [])), AV.v (Value.tuple (Array.mk [])), AV.v (Value.tuple (Array.mk [])), AV.v (Value.tuple (Array.mk [])), AV.v (Value.tuple (Array.mk [])), AV.v (Value.tuple (Array.mk [])), AV.v (Value.tuple (Array.mk [])), AV.v (Value.tuple (Array.mk [])), AV.v (Value.tuple (Array.mk [])), AV.v (Value.tuple (Array.mk [])), AV.v (Value.tuple (Array.mk [])), AV.v (Value.tuple (Array.mk [])), AV.v (Value.tuple (Array.mk [])), AV.v (Value.tuple (Array.mk [])), AV.v (Value.tuple (Array.mk [])), AV.v (Value.tuple (Array.mk [])), AV.v (Value.tuple (Array.mk [])), AV.v (Value.tuple (Array.mk [])), AV.v (Value.tuple (Array.mk []))] [AV.any, AV.v (Value.int IntKind.i64 a), AV.v (Value.int IntKind.i64 b), AV.any, AV.any, AV.any, AV.any, AV.ptr 1100 0, AV.ptr 1101 0, AV.any, AV.any, AV.any, AV.any, AV.any, AV.any, AV.any, AV.any, AV.any, AV.any, AV.any, AV.any, AV.any, AV.any, AV.any, AV.any, AV.any, AV.any, AV.any, AV.any, AV.any, AV.v (Value.slice oa n c), AV.v (Value.int IntKind.i64 (Int.ofNat n)), AV.v (Value.int IntKind.i64 (Int.ofNat 0)), AV.any, AV.any, AV.any, AV.any, AV.any, AV.any, AV.any, AV.any, AV.any, AV.any, AV.any, AV.any, AV.any, AV.any, AV.any, AV.any, AV.any, AV.any, AV.any, AV.any, AV.any, AV.any, AV.any, AV.any, AV.any, AV.any, AV.any, AV.any, AV.any, AV.any, AV.any, AV.any, AV.any, AV.any, AV.any, AV.any, AV.any, AV.any])).a ((Cnd.p (OW (AO.own (Md.clock [] (Int.ofNat 0)) (clH [] (Int.ofNat 0))) (AO.own (Md.clock [] (Int.ofNat 0)) (clH [] (Int.ofNat 0))))).a ((Cnd.p (OW (AO.own (Md.clock [] (Int.ofNat 0)) (clH [] (Int.ofNat 0))) (AO.own (Md.clock [] (Int.ofNat 0)) (clH [] (Int.ofNat 0))))).a (((Cnd.p (BigL L)).a ((Cnd.p (VW [AV.ptr 1100 0, AV.v (Value.int IntKind.i64 a)] [AV.ptr 1100 0, AV.v (Value.int IntKind.i64 a)])).a ((Cnd.p (OW (AO.own (Md.clock L (Int.ofNat n)) (clH L (Int.ofNat n))) (AO.own (Md.clock L (Int.ofNat n)) (clH L (Int.ofNat n))))).a Cnd.t))).a (((Cnd.p (0 = 0)).a Cnd.t).a (((Cnd.p (BigL (dueL L a).snd)).a ((Cnd.p (VW [AV.ptr 1100 0, AV.v (Value.int IntKind.i64 b)] [AV.ptr 1100 0, AV.v (Value.int IntKind.i64 b)])).a ((Cnd.p (OW (AO.own (Md.clock (dueL L a).snd (Int.ofNat n)) (clH (dueL L a).snd (Int.ofNat n))) (AO.own (Md.clock (dueL L a).snd (Int.ofNat n)) (clH (dueL L a).snd (Int.ofNat n))))).a Cnd.t))).a (((Cnd.p (0 = 0)).a Cnd.t).a (((Cnd.p (BigL L)).a ((Cnd.p (VW [AV.ptr 1101 0, AV.v (Value.int IntKind.i64 b)] [AV.ptr 1101 0, AV.v (Value.int IntKind.i64 b)])).a ((Cnd.p (OW (AO.own (Md.clock L (Int.ofNat n)) (clH L (Int.ofNat n))) (AO.own (Md.clock L (Int.ofNat n)) (clH L (Int.ofNat n))))).a Cnd.t))).a (((Cnd.p True).a ((Cnd.p (VW [AV.slice 1102 0 0 1 (Cp.ex 0), AV.v (Value.slice none 0 0)] [AV.slice 1102 0 0 1 (Cp.lo 0), AV.v (Value.slice none 0 0)])).a ((Cnd.p (OW (AO.cells [] 6) (AO.cells [] 6))).a ((Cnd.p (Wk (AV.v (Value.bool true)) (AV.lit true))).a Cnd.t)))).a (((Cnd.p True).a ((Cnd.p (VW [AV.ptr 1100 0] [AV.ptr 1100 0])).a ((Cnd.p (OW (AO.own (Md.clock (dueL (dueL L a).snd b).snd (Int.ofNat n)) (clH (dueL (dueL L a).snd b).snd (Int.ofNat n))) (AO.own (Md.clock (dueL (dueL L a).snd b).snd (Int.ofNat n)) (clH (dueL (dueL L a).snd b).snd (Int.ofNat n))))).a Cnd.t))).a (((Cnd.p True).a ((Cnd.p (VW [AV.ptr 1101 0] [AV.ptr 1101 0])).a ((Cnd.p (OW (AO.own (Md.clock (dueL L b).snd (Int.ofNat n)) (clH (dueL L b).snd (Int.ofNat n))) (AO.own (Md.clock (dueL L b).snd (Int.ofNat n)) (clH (dueL L b).snd (Int.ofNat n))))).a Cnd.t))).a (((Cnd.p (Wk (AV.v (Value.bool (Int.ofNat (dueL (dueL L a).snd b).snd.length == Int.ofNat (dueL L b).snd.length))) (AV.lit true))).a Cnd.t).a Cnd.t)))))))))))))))))))))) (VT.leaf (AV.v (Value.bool true)) [] 1104 (((Cnd.p True).a ((Cnd.p (VW [] [])).a Cnd.t)).a (((Cnd.p (Wk (AV.v (Value.bool false)) (AV.lit false))).a Cnd.t).a (((Cnd.p True).a ((Cnd.p (VW [] [])).a Cnd.t)).a (((Cnd.p True).a ((Cnd.p (VW [] [])).a Cnd.t)).a (((Cnd.p (Wk (AV.v (Value.bool false)) (AV.lit false))).a Cnd.t).a (((Cnd.p (Wk (AV.v (Value.bool false)) (AV.lit false))).a Cnd.t).a (((Cnd.p (Wk (AV.v (Value.bool (decide (a > b)))) (AV.lit false))).a Cnd.t).a ((Cnd.p ((fSplit, 7, loopN fSplit 7, lSp (slV oa n c) n a b L).snd.snd.fst = (fSplit, 7, loopN fSplit 7, lSp (slV oa n c) n a b L).snd.snd.fst)).a ((Cnd.p True).a ((Cnd.p (VW [AV.v (Value.slice oa n c), AV.v (Value.int IntKind.i64 a), AV.v (Value.int IntKind.i64 b), AV.v (Value.tuple (Array.mk [])), AV.v (Value.tuple (Array.mk [])), AV.v (Value.tuple (Array.mk [])), AV.v (Value.bool false), AV.ptr 1100 0, AV.ptr 1101 0, AV.v (Value.tuple (Array.mk [])), AV.v (Value.tuple (Array.mk [])), AV.v (Value.tuple (Array.mk [])), AV.v (Value.bool true), AV.lit false, AV.ptr 1100 0, AV.ptr 1101 0, AV.ptr 1100 0, AV.lit false, AV.lit false, AV.ptr 1101 0, AV.lit false, AV.lit false, AV.lit false, AV.v (Value.int IntKind.i64 a), AV.v (Value.int IntKind.i64 b), AV.lit false, AV.lit false, AV.v (Value.tuple (Array.mk [])), AV.v (Value.tuple (Array.mk [])), AV.v (Value.tuple (Array.mk [])), AV.v (Value.slice oa n c), AV.v (Value.int IntKind.i64 ↑n), AV.v (Value.int IntKind.i64 (Int.ofNat 0)), AV.v (Value.tuple (Array.mk [])), AV.v (Value.tuple (Array.mk [])), AV.v (Value.tuple (Array.mk [])), AV.v (Value.tuple (Array.mk [])), AV.v (Value.tuple (Array.mk [])), AV.v (Value.tuple (Array.mk [])), AV.v (Value.tuple (Array.mk [])), AV.v (Value.tuple (Array.mk [])), AV.v (Value.tuple (Array.mk [])), AV.v (Value.tuple (Array.mk [])), AV.v (Value.tuple (Array.mk [])), AV.v (Value.tuple (Array.mk [])), AV.v (Value.tuple (Array.mk [])), AV.v (Value.tuple (Array.mk [])), AV.v (Value.tuple (Array.mk [])), AV.v (Value.tuple (Array.mk [])), AV.v (Value.tuple (Array.mk [])), AV.v (Value.tuple (Array.mk [])), AV.v (Value.tuple (Array.mk [])), AV.v (Value.tuple (Array.mk [])), AV.v (Value.tuple (Array.mk [])), AV.v (Value.tuple (Array.mk [])), AV.v (Value.tuple (Array.mk [])), AV.v (Value.tuple (Array.mk [])), AV.v (Value.tuple (Array.mk [])), AV.v (Value.tuple (Array.mk [])), AV.v (Value.tuple (Array.mk [])), AV.v (Value.tuple (Array.mk [])), AV.v (Value.tuple (Array.mk [])), AV.v (Value.tuple (Array.mk [])), AV.v (Value.tuple (Array.mk [])), AV.v (Value.tuple (Array.mk [])), AV.v (Value.tuple (Array.mk [])), AV.v (Value.tuple (Array.mk [])), AV.v (Value.tuple (Array.mk [])), AV.v (Value.tuple (Array.mk [])), AV.v (Value.tuple (Array.mk [])), AV.v (Value.tuple (Array.mk []))] [AV.any, AV.v (Value.int IntKind.i64 a), AV.v (Value.int IntKind.i64 b), AV.any, AV.any, AV.any, AV.any, AV.ptr 1100 0, AV.ptr 1101 0, AV.any, AV.any, AV.any, AV.any, AV.any, AV.any, AV.any, AV.any, AV.any, AV.any, AV.any, AV.any, AV.any, AV.any, AV.any, AV.any, AV.any, AV.any, AV.any, AV.any, AV.any, AV.v (Value.slice oa n c), AV.v (Value.int IntKind.i64 (Int.ofNat n)), AV.v (Value.int IntKind.i64 (Int.ofNat 0)), AV.any, AV.any, AV.any, AV.any, AV.any, AV.any, AV.any, AV.any, AV.any, AV.any, AV.any, AV.any, AV.any, AV.any, AV.any, AV.any, AV.any, AV.any, AV.any, AV.any, AV.any, AV.any, AV.any, AV.any, AV.any, AV.any, AV.any, AV.any, AV.any, AV.any, AV.any, AV.any, AV.any, AV.any, AV.any, AV.any, AV.any, AV.any])).a ((Cnd.p (OW (AO.own (Md.clock [] (Int.ofNat 0)) (clH [] (Int.ofNat 0))) (AO.own (Md.clock [] (Int.ofNat 0)) (clH [] (Int.ofNat 0))))).a ((Cnd.p (OW (AO.own (Md.clock [] (Int.ofNat 0)) (clH [] (Int.ofNat 0))) (AO.own (Md.clock [] (Int.ofNat 0)) (clH [] (Int.ofNat 0))))).a (((Cnd.p (BigL L)).a ((Cnd.p (VW [AV.ptr 1100 0, AV.v (Value.int IntKind.i64 a)] [AV.ptr 1100 0, AV.v (Value.int IntKind.i64 a)])).a ((Cnd.p (OW (AO.own (Md.clock L (Int.ofNat n)) (clH L (Int.ofNat n))) (AO.own (Md.clock L (Int.ofNat n)) (clH L (Int.ofNat n))))).a Cnd.t))).a (((Cnd.p (0 = 0)).a Cnd.t).a (((Cnd.p (BigL (dueL L a).snd)).a ((Cnd.p (VW [AV.ptr 1100 0, AV.v (Value.int IntKind.i64 b)] [AV.ptr 1100 0, AV.v (Value.int IntKind.i64 b)])).a ((Cnd.p (OW (AO.own (Md.clock (dueL L a).snd (Int.ofNat n)) (clH (dueL L a).snd (Int.ofNat n))) (AO.own (Md.clock (dueL L a).snd (Int.ofNat n)) (clH (dueL L a).snd (Int.ofNat n))))).a Cnd.t))).a (((Cnd.p (0 = 0)).a Cnd.t).a (((Cnd.p (BigL L)).a ((Cnd.p (VW [AV.ptr 1101 0, AV.v (Value.int IntKind.i64 b)] [AV.ptr 1101 0, AV.v (Value.int IntKind.i64 b)])).a ((Cnd.p (OW (AO.own (Md.clock L (Int.ofNat n)) (clH L (Int.ofNat n))) (AO.own (Md.clock L (Int.ofNat n)) (clH L (Int.ofNat n))))).a Cnd.t))).a (((Cnd.p True).a ((Cnd.p (VW [AV.slice 1102 0 0 1 (Cp.ex 0), AV.slice 1103 0 (dueL L b).fst.length 1 (Cp.lo (dueL L b).fst.length)] [AV.slice 1102 0 l.length 1 (Cp.lo l.length), AV.slice 1103 0 l.length 1 (Cp.lo l.length)])).a ((Cnd.p (OW (AO.cells [] 6) (AO.cells (AV.rens (nm2 1102 1103) (rowV encI l)) 6))).a ((Cnd.p (OW (AO.cells (AV.rens (sgN (fun x => 1101) [1010] 1103) (rowV encI (dueL L b).fst)) 6) (AO.cells (AV.rens (nm2 1102 1103) (rowV encI l)) 6))).a ((Cnd.p (Wk (AV.v (Value.bool true)) (AV.lit true))).a Cnd.t))))).a (((Cnd.p True).a ((Cnd.p (VW [AV.ptr 1100 0] [AV.ptr 1100 0])).a ((Cnd.p (OW (AO.own (Md.clock (dueL (dueL L a).snd b).snd (Int.ofNat n)) (clH (dueL (dueL L a).snd b).snd (Int.ofNat n))) (AO.own (Md.clock (dueL (dueL L a).snd b).snd (Int.ofNat n)) (clH (dueL (dueL L a).snd b).snd (Int.ofNat n))))).a Cnd.t))).a (((Cnd.p True).a ((Cnd.p (VW [AV.ptr 1101 0] [AV.ptr 1101 0])).a ((Cnd.p (OW (AO.own (Md.clock (dueL L b).snd (Int.ofNat n)) (clH (dueL L b).snd (Int.ofNat n))) (AO.own (Md.clock (dueL L b).snd (Int.ofNat n)) (clH (dueL L b).snd (Int.ofNat n))))).a Cnd.t))).a (((Cnd.p (Wk (AV.v (Value.bool (Int.ofNat (dueL (dueL L a).snd b).snd.length == Int.ofNat (dueL L b).snd.length))) (AV.lit true))).a Cnd.t).a Cnd.t))))))))))))))))))))))) (VT.ite (noneDue L b) (VT.leaf (AV.v (Value.bool true)) [] 1105 (((Cnd.p True).a ((Cnd.p (VW [] [])).a Cnd.t)).a (((Cnd.p (Wk (AV.v (Value.bool false)) (AV.lit false))).a Cnd.t).a (((Cnd.p True).a ((Cnd.p (VW [] [])).a Cnd.t)).a (((Cnd.p True).a ((Cnd.p (VW [] [])).a Cnd.t)).a (((Cnd.p (Wk (AV.v (Value.bool false)) (AV.lit false))).a Cnd.t).a (((Cnd.p (Wk (AV.v (Value.bool false)) (AV.lit false))).a Cnd.t).a (((Cnd.p (Wk (AV.v (Value.bool (decide (a > b)))) (AV.lit false))).a Cnd.t).a ((Cnd.p ((fSplit, 7, loopN fSplit 7, lSp (slV oa n c) n a b L).snd.snd.fst = (fSplit, 7, loopN fSplit 7, lSp (slV oa n c) n a b L).snd.snd.fst)).a ((Cnd.p True).a ((Cnd.p (VW [AV.v (Value.slice oa n c), AV.v (Value.int IntKind.i64 a), AV.v (Value.int IntKind.i64 b), AV.v (Value.tuple (Array.mk [])), AV.v (Value.tuple (Array.mk [])), AV.v (Value.tuple (Array.mk [])), AV.v (Value.bool false), AV.ptr 1100 0, AV.ptr 1101 0, AV.v (Value.tuple (Array.mk [])), AV.v (Value.tuple (Array.mk [])), AV.v (Value.tuple (Array.mk [])), AV.v (Value.bool true), AV.lit false, AV.ptr 1100 0, AV.ptr 1101 0, AV.ptr 1100 0, AV.lit false, AV.lit false, AV.ptr 1101 0, AV.lit false, AV.lit false, AV.lit false, AV.v (Value.int IntKind.i64 a), AV.v (Value.int IntKind.i64 b), AV.lit false, AV.lit false, AV.v (Value.tuple (Array.mk [])), AV.v (Value.tuple (Array.mk [])), AV.v (Value.tuple (Array.mk [])), AV.v (Value.slice oa n c), AV.v (Value.int IntKind.i64 ↑n), AV.v (Value.int IntKind.i64 (Int.ofNat 0)), AV.v (Value.tuple (Array.mk [])), AV.v (Value.tuple (Array.mk [])), AV.v (Value.tuple (Array.mk [])), AV.v (Value.tuple (Array.mk [])), AV.v (Value.tuple (Array.mk [])), AV.v (Value.tuple (Array.mk [])), AV.v (Value.tuple (Array.mk [])), AV.v (Value.tuple (Array.mk [])), AV.v (Value.tuple (Array.mk [])), AV.v (Value.tuple (Array.mk [])), AV.v (Value.tuple (Array.mk [])), AV.v (Value.tuple (Array.mk [])), AV.v (Value.tuple (Array.mk [])), AV.v (Value.tuple (Array.mk [])), AV.v (Value.tuple (Array.mk [])), AV.v (Value.tuple (Array.mk [])), AV.v (Value.tuple (Array.mk [])), AV.v (Value.tuple (Array.mk [])), AV.v (Value.tuple (Array.mk [])), AV.v (Value.tuple (Array.mk [])), AV.v (Value.tuple (Array.mk [])), AV.v (Value.tuple (Array.mk [])), AV.v (Value.tuple (Array.mk [])), AV.v (Value.tuple (Array.mk [])), AV.v (Value.tuple (Array.mk [])), AV.v (Value.tuple (Array.mk [])), AV.v (Value.tuple (Array.mk [])), AV.v (Value.tuple (Array.mk [])), AV.v (Value.tuple (Array.mk [])), AV.v (Value.tuple (Array.mk [])), AV.v (Value.tuple (Array.mk [])), AV.v (Value.tuple (Array.mk [])), AV.v (Value.tuple (Array.mk [])), AV.v (Value.tuple (Array.mk [])), AV.v (Value.tuple (Array.mk [])), AV.v (Value.tuple (Array.mk [])), AV.v (Value.tuple (Array.mk [])), AV.v (Value.tuple (Array.mk []))] [AV.any, AV.v (Value.int IntKind.i64 a), AV.v (Value.int IntKind.i64 b), AV.any, AV.any, AV.any, AV.any, AV.ptr 1100 0, AV.ptr 1101 0, AV.any, AV.any, AV.any, AV.any, AV.any, AV.any, AV.any, AV.any, AV.any, AV.any, AV.any, AV.any, AV.any, AV.any, AV.any, AV.any, AV.any, AV.any, AV.any, AV.any, AV.any, AV.v (Value.slice oa n c), AV.v (Value.int IntKind.i64 (Int.ofNat n)), AV.v (Value.int IntKind.i64 (Int.ofNat 0)), AV.any, AV.any, AV.any, AV.any, AV.any, AV.any, AV.any, AV.any, AV.any, AV.any, AV.any, AV.any, AV.any, AV.any, AV.any, AV.any, AV.any, AV.any, AV.any, AV.any, AV.any, AV.any, AV.any, AV.any, AV.any, AV.any, AV.any, AV.any, AV.any, AV.any, AV.any, AV.any, AV.any, AV.any, AV.any, AV.any, AV.any, AV.any])).a ((Cnd.p (OW (AO.own (Md.clock [] (Int.ofNat 0)) (clH [] (Int.ofNat 0))) (AO.own (Md.clock [] (Int.ofNat 0)) (clH [] (Int.ofNat 0))))).a ((Cnd.p (OW (AO.own (Md.clock [] (Int.ofNat 0)) (clH [] (Int.ofNat 0))) (AO.own (Md.clock [] (Int.ofNat 0)) (clH [] (Int.ofNat 0))))).a (((Cnd.p (BigL L)).a ((Cnd.p (VW [AV.ptr 1100 0, AV.v (Value.int IntKind.i64 a)] [AV.ptr 1100 0, AV.v (Value.int IntKind.i64 a)])).a ((Cnd.p (OW (AO.own (Md.clock L (Int.ofNat n)) (clH L (Int.ofNat n))) (AO.own (Md.clock L (Int.ofNat n)) (clH L (Int.ofNat n))))).a Cnd.t))).a (((Cnd.p (0 = 0)).a Cnd.t).a (((Cnd.p (BigL (dueL L a).snd)).a ((Cnd.p (VW [AV.ptr 1100 0, AV.v (Value.int IntKind.i64 b)] [AV.ptr 1100 0, AV.v (Value.int IntKind.i64 b)])).a ((Cnd.p (OW (AO.own (Md.clock (dueL L a).snd (Int.ofNat n)) (clH (dueL L a).snd (Int.ofNat n))) (AO.own (Md.clock (dueL L a).snd (Int.ofNat n)) (clH (dueL L a).snd (Int.ofNat n))))).a Cnd.t))).a (((Cnd.p ((dueL (dueL L a).snd b).fst.length.ble (dueL (dueL L a).snd b).fst.length = true)).a ((Cnd.p ((List.take ((dueL (dueL L a).snd b).fst.length * 1) (List.drop 0 (AV.rens (sgN (fun x => 1100) [1010] 1103) (rowV encI (dueL (dueL L a).snd b).fst)))).length.beq ((dueL (dueL L a).snd b).fst.length * 1) = true)).a ((Cnd.p ((List.take ((dueL (dueL L a).snd b).fst.length * 1) (List.drop 0 (AV.rens (sgN (fun x => 1100) [1010] 1103) (rowV encI (dueL (dueL L a).snd b).fst)))).all AV.one = true)).a ((Cnd.p (Nat.blt 0 (dueL (dueL L a).snd b).fst.length = true)).a ((Cnd.p (true = true)).a ((Cnd.p (((0 + (dueL (dueL L a).snd b).fst.length) * 8).ble 140737488355328 = true)).a ((Cnd.p ((0 + (dueL (dueL L a).snd b).fst.length).ble 9223372036854775807 = true)).a ((Cnd.p (true = true)).a ((Cnd.p (Nat.blt 0 (0 + (dueL (dueL L a).snd b).fst.length) = true)).a Cnd.t))))))))).a (((Cnd.p (BigL L)).a ((Cnd.p (VW [AV.ptr 1101 0, AV.v (Value.int IntKind.i64 b)] [AV.ptr 1101 0, AV.v (Value.int IntKind.i64 b)])).a ((Cnd.p (OW (AO.own (Md.clock L (Int.ofNat n)) (clH L (Int.ofNat n))) (AO.own (Md.clock L (Int.ofNat n)) (clH L (Int.ofNat n))))).a Cnd.t))).a (((Cnd.p True).a ((Cnd.p (VW [AV.slice 1104 0 (0 + (dueL (dueL L a).snd b).fst.length) 1 (Cp.lo (0 + (dueL (dueL L a).snd b).fst.length)), AV.v (Value.slice none 0 0)] [AV.slice 1104 0 0 1 (Cp.lo 0), AV.v (Value.slice none 0 0)])).a ((Cnd.p (OW (AO.cells ([] ++ List.take ((dueL (dueL L a).snd b).fst.length * 1) (List.drop 0 (AV.rens (sgN (fun x => 1100) [1010] 1103) (rowV encI (dueL (dueL L a).snd b).fst)))) 6) (AO.cells [] 6))).a ((Cnd.p (Wk (AV.v (Value.bool true)) (AV.lit true))).a Cnd.t)))).a (((Cnd.p True).a ((Cnd.p (VW [AV.ptr 1100 0] [AV.ptr 1100 0])).a ((Cnd.p (OW (AO.own (Md.clock (dueL (dueL L a).snd b).snd (Int.ofNat n)) (clH (dueL (dueL L a).snd b).snd (Int.ofNat n))) (AO.own (Md.clock (dueL (dueL L a).snd b).snd (Int.ofNat n)) (clH (dueL (dueL L a).snd b).snd (Int.ofNat n))))).a Cnd.t))).a (((Cnd.p True).a ((Cnd.p (VW [AV.ptr 1101 0] [AV.ptr 1101 0])).a ((Cnd.p (OW (AO.own (Md.clock (dueL L b).snd (Int.ofNat n)) (clH (dueL L b).snd (Int.ofNat n))) (AO.own (Md.clock (dueL L b).snd (Int.ofNat n)) (clH (dueL L b).snd (Int.ofNat n))))).a Cnd.t))).a (((Cnd.p (Wk (AV.v (Value.bool (Int.ofNat (dueL (dueL L a).snd b).snd.length == Int.ofNat (dueL L b).snd.length))) (AV.lit true))).a Cnd.t).a Cnd.t)))))))))))))))))))))) (VT.leaf (AV.v (Value.bool true)) [] 1106 (((Cnd.p True).a ((Cnd.p (VW [] [])).a Cnd.t)).a (((Cnd.p (Wk (AV.v (Value.bool false)) (AV.lit false))).a Cnd.t).a (((Cnd.p True).a ((Cnd.p (VW [] [])).a Cnd.t)).a (((Cnd.p True).a ((Cnd.p (VW [] [])).a Cnd.t)).a (((Cnd.p (Wk (AV.v (Value.bool false)) (AV.lit false))).a Cnd.t).a (((Cnd.p (Wk (AV.v (Value.bool false)) (AV.lit false))).a Cnd.t).a (((Cnd.p (Wk (AV.v (Value.bool (decide (a > b)))) (AV.lit false))).a Cnd.t).a ((Cnd.p ((fSplit, 7, loopN fSplit 7, lSp (slV oa n c) n a b L).snd.snd.fst = (fSplit, 7, loopN fSplit 7, lSp (slV oa n c) n a b L).snd.snd.fst)).a ((Cnd.p True).a ((Cnd.p (VW [AV.v (Value.slice oa n c), AV.v (Value.int IntKind.i64 a), AV.v (Value.int IntKind.i64 b), AV.v (Value.tuple (Array.mk [])), AV.v (Value.tuple (Array.mk [])), AV.v (Value.tuple (Array.mk [])), AV.v (Value.bool false), AV.ptr 1100 0, AV.ptr 1101 0, AV.v (Value.tuple (Array.mk [])), AV.v (Value.tuple (Array.mk [])), AV.v (Value.tuple (Array.mk [])), AV.v (Value.bool true), AV.lit false, AV.ptr 1100 0, AV.ptr 1101 0, AV.ptr 1100 0, AV.lit false, AV.lit false, AV.ptr 1101 0, AV.lit false, AV.lit false, AV.lit false, AV.v (Value.int IntKind.i64 a), AV.v (Value.int IntKind.i64 b), AV.lit false, AV.lit false, AV.v (Value.tuple (Array.mk [])), AV.v (Value.tuple (Array.mk [])), AV.v (Value.tuple (Array.mk [])), AV.v (Value.slice oa n c), AV.v (Value.int IntKind.i64 ↑n), AV.v (Value.int IntKind.i64 (Int.ofNat 0)), AV.v (Value.tuple (Array.mk [])), AV.v (Value.tuple (Array.mk [])), AV.v (Value.tuple (Array.mk [])), AV.v (Value.tuple (Array.mk [])), AV.v (Value.tuple (Array.mk [])), AV.v (Value.tuple (Array.mk [])), AV.v (Value.tuple (Array.mk [])), AV.v (Value.tuple (Array.mk [])), AV.v (Value.tuple (Array.mk [])), AV.v (Value.tuple (Array.mk [])), AV.v (Value.tuple (Array.mk [])), AV.v (Value.tuple (Array.mk [])), AV.v (Value.tuple (Array.mk [])), AV.v (Value.tuple (Array.mk [])), AV.v (Value.tuple (Array.mk [])), AV.v (Value.tuple (Array.mk [])), AV.v (Value.tuple (Array.mk [])), AV.v (Value.tuple (Array.mk [])), AV.v (Value.tuple (Array.mk [])), AV.v (Value.tuple (Array.mk [])), AV.v (Value.tuple (Array.mk [])), AV.v (Value.tuple (Array.mk [])), AV.v (Value.tuple (Array.mk [])), AV.v (Value.tuple (Array.mk [])), AV.v (Value.tuple (Array.mk [])), AV.v (Value.tuple (Array.mk [])), AV.v (Value.tuple (Array.mk [])), AV.v (Value.tuple (Array.mk [])), AV.v (Value.tuple (Array.mk [])), AV.v (Value.tuple (Array.mk [])), AV.v (Value.tuple (Array.mk [])), AV.v (Value.tuple (Array.mk [])), AV.v (Value.tuple (Array.mk [])), AV.v (Value.tuple (Array.mk [])), AV.v (Value.tuple (Array.mk [])), AV.v (Value.tuple (Array.mk [])), AV.v (Value.tuple (Array.mk [])), AV.v (Value.tuple (Array.mk []))] [AV.any, AV.v (Value.int IntKind.i64 a), AV.v (Value.int IntKind.i64 b), AV.any, AV.any, AV.any, AV.any, AV.ptr 1100 0, AV.ptr 1101 0, AV.any, AV.any, AV.any, AV.any, AV.any, AV.any, AV.any, AV.any, AV.any, AV.any, AV.any, AV.any, AV.any, AV.any, AV.any, AV.any, AV.any, AV.any, AV.any, AV.any, AV.any, AV.v (Value.slice oa n c), AV.v (Value.int IntKind.i64 (Int.ofNat n)), AV.v (Value.int IntKind.i64 (Int.ofNat 0)), AV.any, AV.any, AV.any, AV.any, AV.any, AV.any, AV.any, AV.any, AV.any, AV.any, AV.any, AV.any, AV.any, AV.any, AV.any, AV.any, AV.any, AV.any, AV.any, AV.any, AV.any, AV.any, AV.any, AV.any, AV.any, AV.any, AV.any, AV.any, AV.any, AV.any, AV.any, AV.any, AV.any, AV.any, AV.any, AV.any, AV.any, AV.any])).a ((Cnd.p (OW (AO.own (Md.clock [] (Int.ofNat 0)) (clH [] (Int.ofNat 0))) (AO.own (Md.clock [] (Int.ofNat 0)) (clH [] (Int.ofNat 0))))).a ((Cnd.p (OW (AO.own (Md.clock [] (Int.ofNat 0)) (clH [] (Int.ofNat 0))) (AO.own (Md.clock [] (Int.ofNat 0)) (clH [] (Int.ofNat 0))))).a (((Cnd.p (BigL L)).a ((Cnd.p (VW [AV.ptr 1100 0, AV.v (Value.int IntKind.i64 a)] [AV.ptr 1100 0, AV.v (Value.int IntKind.i64 a)])).a ((Cnd.p (OW (AO.own (Md.clock L (Int.ofNat n)) (clH L (Int.ofNat n))) (AO.own (Md.clock L (Int.ofNat n)) (clH L (Int.ofNat n))))).a Cnd.t))).a (((Cnd.p (0 = 0)).a Cnd.t).a (((Cnd.p (BigL (dueL L a).snd)).a ((Cnd.p (VW [AV.ptr 1100 0, AV.v (Value.int IntKind.i64 b)] [AV.ptr 1100 0, AV.v (Value.int IntKind.i64 b)])).a ((Cnd.p (OW (AO.own (Md.clock (dueL L a).snd (Int.ofNat n)) (clH (dueL L a).snd (Int.ofNat n))) (AO.own (Md.clock (dueL L a).snd (Int.ofNat n)) (clH (dueL L a).snd (Int.ofNat n))))).a Cnd.t))).a (((Cnd.p ((dueL (dueL L a).snd b).fst.length.ble (dueL (dueL L a).snd b).fst.length = true)).a ((Cnd.p ((List.take ((dueL (dueL L a).snd b).fst.length * 1) (List.drop 0 (AV.rens (sgN (fun x => 1100) [1010] 1103) (rowV encI (dueL (dueL L a).snd b).fst)))).length.beq ((dueL (dueL L a).snd b).fst.length * 1) = true)).a ((Cnd.p ((List.take ((dueL (dueL L a).snd b).fst.length * 1) (List.drop 0 (AV.rens (sgN (fun x => 1100) [1010] 1103) (rowV encI (dueL (dueL L a).snd b).fst)))).all AV.one = true)).a ((Cnd.p (Nat.blt 0 (dueL (dueL L a).snd b).fst.length = true)).a ((Cnd.p (true = true)).a ((Cnd.p (((0 + (dueL (dueL L a).snd b).fst.length) * 8).ble 140737488355328 = true)).a ((Cnd.p ((0 + (dueL (dueL L a).snd b).fst.length).ble 9223372036854775807 = true)).a ((Cnd.p (true = true)).a ((Cnd.p (Nat.blt 0 (0 + (dueL (dueL L a).snd b).fst.length) = true)).a Cnd.t))))))))).a (((Cnd.p (BigL L)).a ((Cnd.p (VW [AV.ptr 1101 0, AV.v (Value.int IntKind.i64 b)] [AV.ptr 1101 0, AV.v (Value.int IntKind.i64 b)])).a ((Cnd.p (OW (AO.own (Md.clock L (Int.ofNat n)) (clH L (Int.ofNat n))) (AO.own (Md.clock L (Int.ofNat n)) (clH L (Int.ofNat n))))).a Cnd.t))).a (((Cnd.p True).a ((Cnd.p (VW [AV.slice 1104 0 (0 + (dueL (dueL L a).snd b).fst.length) 1 (Cp.lo (0 + (dueL (dueL L a).snd b).fst.length)), AV.slice 1105 0 (dueL L b).fst.length 1 (Cp.lo (dueL L b).fst.length)] [AV.slice 1104 0 l.length 1 (Cp.lo l.length), AV.slice 1105 0 l.length 1 (Cp.lo l.length)])).a ((Cnd.p (OW (AO.cells ([] ++ List.take ((dueL (dueL L a).snd b).fst.length * 1) (List.drop 0 (AV.rens (sgN (fun x => 1100) [1010] 1103) (rowV encI (dueL (dueL L a).snd b).fst)))) 6) (AO.cells (AV.rens (nm2 1104 1105) (rowV encI l)) 6))).a ((Cnd.p (OW (AO.cells (AV.rens (sgN (fun x => 1101) [1010] 1105) (rowV encI (dueL L b).fst)) 6) (AO.cells (AV.rens (nm2 1104 1105) (rowV encI l)) 6))).a ((Cnd.p (Wk (AV.v (Value.bool true)) (AV.lit true))).a Cnd.t))))).a (((Cnd.p True).a ((Cnd.p (VW [AV.ptr 1100 0] [AV.ptr 1100 0])).a ((Cnd.p (OW (AO.own (Md.clock (dueL (dueL L a).snd b).snd (Int.ofNat n)) (clH (dueL (dueL L a).snd b).snd (Int.ofNat n))) (AO.own (Md.clock (dueL (dueL L a).snd b).snd (Int.ofNat n)) (clH (dueL (dueL L a).snd b).snd (Int.ofNat n))))).a Cnd.t))).a (((Cnd.p True).a ((Cnd.p (VW [AV.ptr 1101 0] [AV.ptr 1101 0])).a ((Cnd.p (OW (AO.own (Md.clock (dueL L b).snd (Int.ofNat n)) (clH (dueL L b).snd (Int.ofNat n))) (AO.own (Md.clock (dueL L b).snd (Int.ofNat n)) (clH (dueL L b).snd (Int.ofNat n))))).a Cnd.t))).a (((Cnd.p (Wk (AV.v (Value.bool (Int.ofNat (dueL (dueL L a).snd b).snd.length == Int.ofNat (dueL L b).snd.length))) (AV.lit true))).a Cnd.t).a Cnd.t)))))))))))))))))))))))) (VT.ite (noneDue (dueL L a).snd b) (VT.ite (noneDue L b) (VT.leaf (AV.v (Value.bool true)) [] 1105 (((Cnd.p True).a ((Cnd.p (VW [] [])).a Cnd.t)).a (((Cnd.p (Wk (AV.v (Value.bool false)) (AV.lit false))).a Cnd.t).a (((Cnd.p True).a ((Cnd.p (VW [] [])).a Cnd.t)).a (((Cnd.p True).a ((Cnd.p (VW [] [])).a Cnd.t)).a (((Cnd.p (Wk (AV.v (Value.bool false)) (AV.lit false))).a Cnd.t).a (((Cnd.p (Wk (AV.v (Value.bool false)) (AV.lit false))).a Cnd.t).a (((Cnd.p (Wk (AV.v (Value.bool (decide (a > b)))) (AV.lit false))).a Cnd.t).a ((Cnd.p ((fSplit, 7, loopN fSplit 7, lSp (slV oa n c) n a b L).snd.snd.fst = (fSplit, 7, loopN fSplit 7, lSp (slV oa n c) n a b L).snd.snd.fst)).a ((Cnd.p True).a ((Cnd.p (VW [AV.v (Value.slice oa n c), AV.v (Value.int IntKind.i64 a), AV.v (Value.int IntKind.i64 b), AV.v (Value.tuple (Array.mk [])), AV.v (Value.tuple (Array.mk [])), AV.v (Value.tuple (Array.mk [])), AV.v (Value.bool false), AV.ptr 1100 0, AV.ptr 1101 0, AV.v (Value.tuple (Array.mk [])), AV.v (Value.tuple (Array.mk [])), AV.v (Value.tuple (Array.mk [])), AV.v (Value.bool true), AV.lit false, AV.ptr 1100 0, AV.ptr 1101 0, AV.ptr 1100 0, AV.lit false, AV.lit false, AV.ptr 1101 0, AV.lit false, AV.lit false, AV.lit false, AV.v (Value.int IntKind.i64 a), AV.v (Value.int IntKind.i64 b), AV.lit false, AV.lit false, AV.v (Value.tuple (Array.mk [])), AV.v (Value.tuple (Array.mk [])), AV.v (Value.tuple (Array.mk [])), AV.v (Value.slice oa n c), AV.v (Value.int IntKind.i64 ↑n), AV.v (Value.int IntKind.i64 (Int.ofNat 0)), AV.v (Value.tuple (Array.mk [])), AV.v (Value.tuple (Array.mk [])), AV.v (Value.tuple (Array.mk [])), AV.v (Value.tuple (Array.mk [])), AV.v (Value.tuple (Array.mk [])), AV.v (Value.tuple (Array.mk [])), AV.v (Value.tuple (Array.mk [])), AV.v (Value.tuple (Array.mk [])), AV.v (Value.tuple (Array.mk [])), AV.v (Value.tuple (Array.mk [])), AV.v (Value.tuple (Array.mk [])), AV.v (Value.tuple (Array.mk [])), AV.v (Value.tuple (Array.mk [])), AV.v (Value.tuple (Array.mk [])), AV.v (Value.tuple (Array.mk [])), AV.v (Value.tuple (Array.mk [])), AV.v (Value.tuple (Array.mk [])), AV.v (Value.tuple (Array.mk [])), AV.v (Value.tuple (Array.mk [])), AV.v (Value.tuple (Array.mk [])), AV.v (Value.tuple (Array.mk [])), AV.v (Value.tuple (Array.mk [])), AV.v (Value.tuple (Array.mk [])), AV.v (Value.tuple (Array.mk [])), AV.v (Value.tuple (Array.mk [])), AV.v (Value.tuple (Array.mk [])), AV.v (Value.tuple (Array.mk [])), AV.v (Value.tuple (Array.mk [])), AV.v (Value.tuple (Array.mk [])), AV.v (Value.tuple (Array.mk [])), AV.v (Value.tuple (Array.mk [])), AV.v (Value.tuple (Array.mk [])), AV.v (Value.tuple (Array.mk [])), AV.v (Value.tuple (Array.mk [])), AV.v (Value.tuple (Array.mk [])), AV.v (Value.tuple (Array.mk [])), AV.v (Value.tuple (Array.mk [])), AV.v (Value.tuple (Array.mk []))] [AV.any, AV.v (Value.int IntKind.i64 a), AV.v (Value.int IntKind.i64 b), AV.any, AV.any, AV.any, AV.any, AV.ptr 1100 0, AV.ptr 1101 0, AV.any, AV.any, AV.any, AV.any, AV.any, AV.any, AV.any, AV.any, AV.any, AV.any, AV.any, AV.any, AV.any, AV.any, AV.any, AV.any, AV.any, AV.any, AV.any, AV.any, AV.any, AV.v (Value.slice oa n c), AV.v (Value.int IntKind.i64 (Int.ofNat n)), AV.v (Value.int IntKind.i64 (Int.ofNat 0)), AV.any, AV.any, AV.any, AV.any, AV.any, AV.any, AV.any, AV.any, AV.any, AV.any, AV.any, AV.any, AV.any, AV.any, AV.any, AV.any, AV.any, AV.any, AV.any, AV.any, AV.any, AV.any, AV.any, AV.any, AV.any, AV.any, AV.any, AV.any, AV.any, AV.any, AV.any, AV.any, AV.any, AV.any, AV.any, AV.any, AV.any, AV.any])).a ((Cnd.p (OW (AO.own (Md.clock [] (Int.ofNat 0)) (clH [] (Int.ofNat 0))) (AO.own (Md.clock [] (Int.ofNat 0)) (clH [] (Int.ofNat 0))))).a ((Cnd.p (OW (AO.own (Md.clock [] (Int.ofNat 0)) (clH [] (Int.ofNat 0))) (AO.own (Md.clock [] (Int.ofNat 0)) (clH [] (Int.ofNat 0))))).a (((Cnd.p (BigL L)).a ((Cnd.p (VW [AV.ptr 1100 0, AV.v (Value.int IntKind.i64 a)] [AV.ptr 1100 0, AV.v (Value.int IntKind.i64 a)])).a ((Cnd.p (OW (AO.own (Md.clock L (Int.ofNat n)) (clH L (Int.ofNat n))) (AO.own (Md.clock L (Int.ofNat n)) (clH L (Int.ofNat n))))).a Cnd.t))).a (((Cnd.p ((dueL L a).fst.length.ble (dueL L a).fst.length = true)).a ((Cnd.p ((List.take ((dueL L a).fst.length * 1) (List.drop 0 (AV.rens (sgN (fun x => 1100) [1010] 1103) (rowV encI (dueL L a).fst)))).length.beq ((dueL L a).fst.length * 1) = true)).a ((Cnd.p ((List.take ((dueL L a).fst.length * 1) (List.drop 0 (AV.rens (sgN (fun x => 1100) [1010] 1103) (rowV encI (dueL L a).fst)))).all AV.one = true)).a ((Cnd.p (Nat.blt 0 (dueL L a).fst.length = true)).a ((Cnd.p (true = true)).a ((Cnd.p (((0 + (dueL L a).fst.length) * 8).ble 140737488355328 = true)).a ((Cnd.p ((0 + (dueL L a).fst.length).ble 9223372036854775807 = true)).a ((Cnd.p (true = true)).a ((Cnd.p (Nat.blt 0 (0 + (dueL L a).fst.length) = true)).a Cnd.t))))))))).a (((Cnd.p (BigL (dueL L a).snd)).a ((Cnd.p (VW [AV.ptr 1100 0, AV.v (Value.int IntKind.i64 b)] [AV.ptr 1100 0, AV.v (Value.int IntKind.i64 b)])).a ((Cnd.p (OW (AO.own (Md.clock (dueL L a).snd (Int.ofNat n)) (clH (dueL L a).snd (Int.ofNat n))) (AO.own (Md.clock (dueL L a).snd (Int.ofNat n)) (clH (dueL L a).snd (Int.ofNat n))))).a Cnd.t))).a (((Cnd.p (0 = 0)).a Cnd.t).a (((Cnd.p (BigL L)).a ((Cnd.p (VW [AV.ptr 1101 0, AV.v (Value.int IntKind.i64 b)] [AV.ptr 1101 0, AV.v (Value.int IntKind.i64 b)])).a ((Cnd.p (OW (AO.own (Md.clock L (Int.ofNat n)) (clH L (Int.ofNat n))) (AO.own (Md.clock L (Int.ofNat n)) (clH L (Int.ofNat n))))).a Cnd.t))).a (((Cnd.p True).a ((Cnd.p (VW [AV.slice 1104 0 (0 + (dueL L a).fst.length) 1 (Cp.lo (0 + (dueL L a).fst.length)), AV.v (Value.slice none 0 0)] [AV.slice 1104 0 0 1 (Cp.lo 0), AV.v (Value.slice none 0 0)])).a ((Cnd.p (OW (AO.cells ([] ++ List.take ((dueL L a).fst.length * 1) (List.drop 0 (AV.rens (sgN (fun x => 1100) [1010] 1103) (rowV encI (dueL L a).fst)))) 6) (AO.cells [] 6))).a ((Cnd.p (Wk (AV.v (Value.bool true)) (AV.lit true))).a Cnd.t)))).a (((Cnd.p True).a ((Cnd.p (VW [AV.ptr 1100 0] [AV.ptr 1100 0])).a ((Cnd.p (OW (AO.own (Md.clock (dueL (dueL L a).snd b).snd (Int.ofNat n)) (clH (dueL (dueL L a).snd b).snd (Int.ofNat n))) (AO.own (Md.clock (dueL (dueL L a).snd b).snd (Int.ofNat n)) (clH (dueL (dueL L a).snd b).snd (Int.ofNat n))))).a Cnd.t))).a (((Cnd.p True).a ((Cnd.p (VW [AV.ptr 1101 0] [AV.ptr 1101 0])).a ((Cnd.p (OW (AO.own (Md.clock (dueL L b).snd (Int.ofNat n)) (clH (dueL L b).snd (Int.ofNat n))) (AO.own (Md.clock (dueL L b).snd (Int.ofNat n)) (clH (dueL L b).snd (Int.ofNat n))))).a Cnd.t))).a (((Cnd.p (Wk (AV.v (Value.bool (Int.ofNat (dueL (dueL L a).snd b).snd.length == Int.ofNat (dueL L b).snd.length))) (AV.lit true))).a Cnd.t).a Cnd.t)))))))))))))))))))))) (VT.leaf (AV.v (Value.bool true)) [] 1106 (((Cnd.p True).a ((Cnd.p (VW [] [])).a Cnd.t)).a (((Cnd.p (Wk (AV.v (Value.bool false)) (AV.lit false))).a Cnd.t).a (((Cnd.p True).a ((Cnd.p (VW [] [])).a Cnd.t)).a (((Cnd.p True).a ((Cnd.p (VW [] [])).a Cnd.t)).a (((Cnd.p (Wk (AV.v (Value.bool false)) (AV.lit false))).a Cnd.t).a (((Cnd.p (Wk (AV.v (Value.bool false)) (AV.lit false))).a Cnd.t).a (((Cnd.p (Wk (AV.v (Value.bool (decide (a > b)))) (AV.lit false))).a Cnd.t).a ((Cnd.p ((fSplit, 7, loopN fSplit 7, lSp (slV oa n c) n a b L).snd.snd.fst = (fSplit, 7, loopN fSplit 7, lSp (slV oa n c) n a b L).snd.snd.fst)).a ((Cnd.p True).a ((Cnd.p (VW [AV.v (Value.slice oa n c), AV.v (Value.int IntKind.i64 a), AV.v (Value.int IntKind.i64 b), AV.v (Value.tuple (Array.mk [])), AV.v (Value.tuple (Array.mk [])), AV.v (Value.tuple (Array.mk [])), AV.v (Value.bool false), AV.ptr 1100 0, AV.ptr 1101 0, AV.v (Value.tuple (Array.mk [])), AV.v (Value.tuple (Array.mk [])), AV.v (Value.tuple (Array.mk [])), AV.v (Value.bool true), AV.lit false, AV.ptr 1100 0, AV.ptr 1101 0, AV.ptr 1100 0, AV.lit false, AV.lit false, AV.ptr 1101 0, AV.lit false, AV.lit false, AV.lit false, AV.v (Value.int IntKind.i64 a), AV.v (Value.int IntKind.i64 b), AV.lit false, AV.lit false, AV.v (Value.tuple (Array.mk [])), AV.v (Value.tuple (Array.mk [])), AV.v (Value.tuple (Array.mk [])), AV.v (Value.slice oa n c), AV.v (Value.int IntKind.i64 ↑n), AV.v (Value.int IntKind.i64 (Int.ofNat 0)), AV.v (Value.tuple (Array.mk [])), AV.v (Value.tuple (Array.mk [])), AV.v (Value.tuple (Array.mk [])), AV.v (Value.tuple (Array.mk [])), AV.v (Value.tuple (Array.mk [])), AV.v (Value.tuple (Array.mk [])), AV.v (Value.tuple (Array.mk [])), AV.v (Value.tuple (Array.mk [])), AV.v (Value.tuple (Array.mk [])), AV.v (Value.tuple (Array.mk [])), AV.v (Value.tuple (Array.mk [])), AV.v (Value.tuple (Array.mk [])), AV.v (Value.tuple (Array.mk [])), AV.v (Value.tuple (Array.mk [])), AV.v (Value.tuple (Array.mk [])), AV.v (Value.tuple (Array.mk [])), AV.v (Value.tuple (Array.mk [])), AV.v (Value.tuple (Array.mk [])), AV.v (Value.tuple (Array.mk [])), AV.v (Value.tuple (Array.mk [])), AV.v (Value.tuple (Array.mk [])), AV.v (Value.tuple (Array.mk [])), AV.v (Value.tuple (Array.mk [])), AV.v (Value.tuple (Array.mk [])), AV.v (Value.tuple (Array.mk [])), AV.v (Value.tuple (Array.mk [])), AV.v (Value.tuple (Array.mk [])), AV.v (Value.tuple (Array.mk [])), AV.v (Value.tuple (Array.mk [])), AV.v (Value.tuple (Array.mk [])), AV.v (Value.tuple (Array.mk [])), AV.v (Value.tuple (Array.mk [])), AV.v (Value.tuple (Array.mk [])), AV.v (Value.tuple (Array.mk [])), AV.v (Value.tuple (Array.mk [])), AV.v (Value.tuple (Array.mk [])), AV.v (Value.tuple (Array.mk [])), AV.v (Value.tuple (Array.mk []))] [AV.any, AV.v (Value.int IntKind.i64 a), AV.v (Value.int IntKind.i64 b), AV.any, AV.any, AV.any, AV.any, AV.ptr 1100 0, AV.ptr 1101 0, AV.any, AV.any, AV.any, AV.any, AV.any, AV.any, AV.any, AV.any, AV.any, AV.any, AV.any, AV.any, AV.any, AV.any, AV.any, AV.any, AV.any, AV.any, AV.any, AV.any, AV.any, AV.v (Value.slice oa n c), AV.v (Value.int IntKind.i64 (Int.ofNat n)), AV.v (Value.int IntKind.i64 (Int.ofNat 0)), AV.any, AV.any, AV.any, AV.any, AV.any, AV.any, AV.any, AV.any, AV.any, AV.any, AV.any, AV.any, AV.any, AV.any, AV.any, AV.any, AV.any, AV.any, AV.any, AV.any, AV.any, AV.any, AV.any, AV.any, AV.any, AV.any, AV.any, AV.any, AV.any, AV.any, AV.any, AV.any, AV.any, AV.any, AV.any, AV.any, AV.any, AV.any])).a ((Cnd.p (OW (AO.own (Md.clock [] (Int.ofNat 0)) (clH [] (Int.ofNat 0))) (AO.own (Md.clock [] (Int.ofNat 0)) (clH [] (Int.ofNat 0))))).a ((Cnd.p (OW (AO.own (Md.clock [] (Int.ofNat 0)) (clH [] (Int.ofNat 0))) (AO.own (Md.clock [] (Int.ofNat 0)) (clH [] (Int.ofNat 0))))).a (((Cnd.p (BigL L)).a ((Cnd.p (VW [AV.ptr 1100 0, AV.v (Value.int IntKind.i64 a)] [AV.ptr 1100 0, AV.v (Value.int IntKind.i64 a)])).a ((Cnd.p (OW (AO.own (Md.clock L (Int.ofNat n)) (clH L (Int.ofNat n))) (AO.own (Md.clock L (Int.ofNat n)) (clH L (Int.ofNat n))))).a Cnd.t))).a (((Cnd.p ((dueL L a).fst.length.ble (dueL L a).fst.length = true)).a ((Cnd.p ((List.take ((dueL L a).fst.length * 1) (List.drop 0 (AV.rens (sgN (fun x => 1100) [1010] 1103) (rowV encI (dueL L a).fst)))).length.beq ((dueL L a).fst.length * 1) = true)).a ((Cnd.p ((List.take ((dueL L a).fst.length * 1) (List.drop 0 (AV.rens (sgN (fun x => 1100) [1010] 1103) (rowV encI (dueL L a).fst)))).all AV.one = true)).a ((Cnd.p (Nat.blt 0 (dueL L a).fst.length = true)).a ((Cnd.p (true = true)).a ((Cnd.p (((0 + (dueL L a).fst.length) * 8).ble 140737488355328 = true)).a ((Cnd.p ((0 + (dueL L a).fst.length).ble 9223372036854775807 = true)).a ((Cnd.p (true = true)).a ((Cnd.p (Nat.blt 0 (0 + (dueL L a).fst.length) = true)).a Cnd.t))))))))).a (((Cnd.p (BigL (dueL L a).snd)).a ((Cnd.p (VW [AV.ptr 1100 0, AV.v (Value.int IntKind.i64 b)] [AV.ptr 1100 0, AV.v (Value.int IntKind.i64 b)])).a ((Cnd.p (OW (AO.own (Md.clock (dueL L a).snd (Int.ofNat n)) (clH (dueL L a).snd (Int.ofNat n))) (AO.own (Md.clock (dueL L a).snd (Int.ofNat n)) (clH (dueL L a).snd (Int.ofNat n))))).a Cnd.t))).a (((Cnd.p (0 = 0)).a Cnd.t).a (((Cnd.p (BigL L)).a ((Cnd.p (VW [AV.ptr 1101 0, AV.v (Value.int IntKind.i64 b)] [AV.ptr 1101 0, AV.v (Value.int IntKind.i64 b)])).a ((Cnd.p (OW (AO.own (Md.clock L (Int.ofNat n)) (clH L (Int.ofNat n))) (AO.own (Md.clock L (Int.ofNat n)) (clH L (Int.ofNat n))))).a Cnd.t))).a (((Cnd.p True).a ((Cnd.p (VW [AV.slice 1104 0 (0 + (dueL L a).fst.length) 1 (Cp.lo (0 + (dueL L a).fst.length)), AV.slice 1105 0 (dueL L b).fst.length 1 (Cp.lo (dueL L b).fst.length)] [AV.slice 1104 0 l.length 1 (Cp.lo l.length), AV.slice 1105 0 l.length 1 (Cp.lo l.length)])).a ((Cnd.p (OW (AO.cells ([] ++ List.take ((dueL L a).fst.length * 1) (List.drop 0 (AV.rens (sgN (fun x => 1100) [1010] 1103) (rowV encI (dueL L a).fst)))) 6) (AO.cells (AV.rens (nm2 1104 1105) (rowV encI l)) 6))).a ((Cnd.p (OW (AO.cells (AV.rens (sgN (fun x => 1101) [1010] 1105) (rowV encI (dueL L b).fst)) 6) (AO.cells (AV.rens (nm2 1104 1105) (rowV encI l)) 6))).a ((Cnd.p (Wk (AV.v (Value.bool true)) (AV.lit true))).a Cnd.t))))).a (((Cnd.p True).a ((Cnd.p (VW [AV.ptr 1100 0] [AV.ptr 1100 0])).a ((Cnd.p (OW (AO.own (Md.clock (dueL (dueL L a).snd b).snd (Int.ofNat n)) (clH (dueL (dueL L a).snd b).snd (Int.ofNat n))) (AO.own (Md.clock (dueL (dueL L a).snd b).snd (Int.ofNat n)) (clH (dueL (dueL L a).snd b).snd (Int.ofNat n))))).a Cnd.t))).a (((Cnd.p True).a ((Cnd.p (VW [AV.ptr 1101 0] [AV.ptr 1101 0])).a ((Cnd.p (OW (AO.own (Md.clock (dueL L b).snd (Int.ofNat n)) (clH (dueL L b).snd (Int.ofNat n))) (AO.own (Md.clock (dueL L b).snd (Int.ofNat n)) (clH (dueL L b).snd (Int.ofNat n))))).a Cnd.t))).a (((Cnd.p (Wk (AV.v (Value.bool (Int.ofNat (dueL (dueL L a).snd b).snd.length == Int.ofNat (dueL L b).snd.length))) (AV.lit true))).a Cnd.t).a Cnd.t))))))))))))))))))))))) (VT.ite (noneDue L b) (VT.leaf (AV.v (Value.bool true)) [] 1107 (((Cnd.p True).a ((Cnd.p (VW [] [])).a Cnd.t)).a (((Cnd.p (Wk (AV.v (Value.bool false)) (AV.lit false))).a Cnd.t).a (((Cnd.p True).a ((Cnd.p (VW [] [])).a Cnd.t)).a (((Cnd.p True).a ((Cnd.p (VW [] [])).a Cnd.t)).a (((Cnd.p (Wk (AV.v (Value.bool false)) (AV.lit false))).a Cnd.t).a (((Cnd.p (Wk (AV.v (Value.bool false)) (AV.lit false))).a Cnd.t).a (((Cnd.p (Wk (AV.v (Value.bool (decide (a > b)))) (AV.lit false))).a Cnd.t).a ((Cnd.p ((fSplit, 7, loopN fSplit 7, lSp (slV oa n c) n a b L).snd.snd.fst = (fSplit, 7, loopN fSplit 7, lSp (slV oa n c) n a b L).snd.snd.fst)).a ((Cnd.p True).a ((Cnd.p (VW [AV.v (Value.slice oa n c), AV.v (Value.int IntKind.i64 a), AV.v (Value.int IntKind.i64 b), AV.v (Value.tuple (Array.mk [])), AV.v (Value.tuple (Array.mk [])), AV.v (Value.tuple (Array.mk [])), AV.v (Value.bool false), AV.ptr 1100 0, AV.ptr 1101 0, AV.v (Value.tuple (Array.mk [])), AV.v (Value.tuple (Array.mk [])), AV.v (Value.tuple (Array.mk [])), AV.v (Value.bool true), AV.lit false, AV.ptr 1100 0, AV.ptr 1101 0, AV.ptr 1100 0, AV.lit false, AV.lit false, AV.ptr 1101 0, AV.lit false, AV.lit false, AV.lit false, AV.v (Value.int IntKind.i64 a), AV.v (Value.int IntKind.i64 b), AV.lit false, AV.lit false, AV.v (Value.tuple (Array.mk [])), AV.v (Value.tuple (Array.mk [])), AV.v (Value.tuple (Array.mk [])), AV.v (Value.slice oa n c), AV.v (Value.int IntKind.i64 ↑n), AV.v (Value.int IntKind.i64 (Int.ofNat 0)), AV.v (Value.tuple (Array.mk [])), AV.v (Value.tuple (Array.mk [])), AV.v (Value.tuple (Array.mk [])), AV.v (Value.tuple (Array.mk [])), AV.v (Value.tuple (Array.mk [])), AV.v (Value.tuple (Array.mk [])), AV.v (Value.tuple (Array.mk [])), AV.v (Value.tuple (Array.mk [])), AV.v (Value.tuple (Array.mk [])), AV.v (Value.tuple (Array.mk [])), AV.v (Value.tuple (Array.mk [])), AV.v (Value.tuple (Array.mk [])), AV.v (Value.tuple (Array.mk [])), AV.v (Value.tuple (Array.mk [])), AV.v (Value.tuple (Array.mk [])), AV.v (Value.tuple (Array.mk [])), AV.v (Value.tuple (Array.mk [])), AV.v (Value.tuple (Array.mk [])), AV.v (Value.tuple (Array.mk [])), AV.v (Value.tuple (Array.mk [])), AV.v (Value.tuple (Array.mk [])), AV.v (Value.tuple (Array.mk [])), AV.v (Value.tuple (Array.mk [])), AV.v (Value.tuple (Array.mk [])), AV.v (Value.tuple (Array.mk [])), AV.v (Value.tuple (Array.mk [])), AV.v (Value.tuple (Array.mk [])), AV.v (Value.tuple (Array.mk [])), AV.v (Value.tuple (Array.mk [])), AV.v (Value.tuple (Array.mk [])), AV.v (Value.tuple (Array.mk [])), AV.v (Value.tuple (Array.mk [])), AV.v (Value.tuple (Array.mk [])), AV.v (Value.tuple (Array.mk [])), AV.v (Value.tuple (Array.mk [])), AV.v (Value.tuple (Array.mk [])), AV.v (Value.tuple (Array.mk [])), AV.v (Value.tuple (Array.mk []))] [AV.any, AV.v (Value.int IntKind.i64 a), AV.v (Value.int IntKind.i64 b), AV.any, AV.any, AV.any, AV.any, AV.ptr 1100 0, AV.ptr 1101 0, AV.any, AV.any, AV.any, AV.any, AV.any, AV.any, AV.any, AV.any, AV.any, AV.any, AV.any, AV.any, AV.any, AV.any, AV.any, AV.any, AV.any, AV.any, AV.any, AV.any, AV.any, AV.v (Value.slice oa n c), AV.v (Value.int IntKind.i64 (Int.ofNat n)), AV.v (Value.int IntKind.i64 (Int.ofNat 0)), AV.any, AV.any, AV.any, AV.any, AV.any, AV.any, AV.any, AV.any, AV.any, AV.any, AV.any, AV.any, AV.any, AV.any, AV.any, AV.any, AV.any, AV.any, AV.any, AV.any, AV.any, AV.any, AV.any, AV.any, AV.any, AV.any, AV.any, AV.any, AV.any, AV.any, AV.any, AV.any, AV.any, AV.any, AV.any, AV.any, AV.any, AV.any])).a ((Cnd.p (OW (AO.own (Md.clock [] (Int.ofNat 0)) (clH [] (Int.ofNat 0))) (AO.own (Md.clock [] (Int.ofNat 0)) (clH [] (Int.ofNat 0))))).a ((Cnd.p (OW (AO.own (Md.clock [] (Int.ofNat 0)) (clH [] (Int.ofNat 0))) (AO.own (Md.clock [] (Int.ofNat 0)) (clH [] (Int.ofNat 0))))).a (((Cnd.p (BigL L)).a ((Cnd.p (VW [AV.ptr 1100 0, AV.v (Value.int IntKind.i64 a)] [AV.ptr 1100 0, AV.v (Value.int IntKind.i64 a)])).a ((Cnd.p (OW (AO.own (Md.clock L (Int.ofNat n)) (clH L (Int.ofNat n))) (AO.own (Md.clock L (Int.ofNat n)) (clH L (Int.ofNat n))))).a Cnd.t))).a (((Cnd.p ((dueL L a).fst.length.ble (dueL L a).fst.length = true)).a ((Cnd.p ((List.take ((dueL L a).fst.length * 1) (List.drop 0 (AV.rens (sgN (fun x => 1100) [1010] 1103) (rowV encI (dueL L a).fst)))).length.beq ((dueL L a).fst.length * 1) = true)).a ((Cnd.p ((List.take ((dueL L a).fst.length * 1) (List.drop 0 (AV.rens (sgN (fun x => 1100) [1010] 1103) (rowV encI (dueL L a).fst)))).all AV.one = true)).a ((Cnd.p (Nat.blt 0 (dueL L a).fst.length = true)).a ((Cnd.p (true = true)).a ((Cnd.p (((0 + (dueL L a).fst.length) * 8).ble 140737488355328 = true)).a ((Cnd.p ((0 + (dueL L a).fst.length).ble 9223372036854775807 = true)).a ((Cnd.p (true = true)).a ((Cnd.p (Nat.blt 0 (0 + (dueL L a).fst.length) = true)).a Cnd.t))))))))).a (((Cnd.p (BigL (dueL L a).snd)).a ((Cnd.p (VW [AV.ptr 1100 0, AV.v (Value.int IntKind.i64 b)] [AV.ptr 1100 0, AV.v (Value.int IntKind.i64 b)])).a ((Cnd.p (OW (AO.own (Md.clock (dueL L a).snd (Int.ofNat n)) (clH (dueL L a).snd (Int.ofNat n))) (AO.own (Md.clock (dueL L a).snd (Int.ofNat n)) (clH (dueL L a).snd (Int.ofNat n))))).a Cnd.t))).a (((Cnd.p ((dueL (dueL L a).snd b).fst.length.ble (dueL (dueL L a).snd b).fst.length = true)).a ((Cnd.p ((List.take ((dueL (dueL L a).snd b).fst.length * 1) (List.drop 0 (AV.rens (sgN (fun x => 1100) [1010] 1105) (rowV encI (dueL (dueL L a).snd b).fst)))).length.beq ((dueL (dueL L a).snd b).fst.length * 1) = true)).a ((Cnd.p ((List.take ((dueL (dueL L a).snd b).fst.length * 1) (List.drop 0 (AV.rens (sgN (fun x => 1100) [1010] 1105) (rowV encI (dueL (dueL L a).snd b).fst)))).all AV.one = true)).a ((Cnd.p (Nat.blt 0 (dueL (dueL L a).snd b).fst.length = true)).a ((Cnd.p ((0 + (0 + (dueL L a).fst.length) * 1).ble ([] ++ List.take ((dueL L a).fst.length * 1) (List.drop 0 (AV.rens (sgN (fun x => 1100) [1010] 1103) (rowV encI (dueL L a).fst)))).length = true)).a ((Cnd.p (((0 + (dueL L a).fst.length + (dueL (dueL L a).snd b).fst.length) * 8).ble 140737488355328 = true)).a ((Cnd.p ((0 + (dueL L a).fst.length + (dueL (dueL L a).snd b).fst.length).ble 9223372036854775807 = true)).a ((Cnd.p ((List.take ((0 + (dueL L a).fst.length) * 1) (List.drop 0 ([] ++ List.take ((dueL L a).fst.length * 1) (List.drop 0 (AV.rens (sgN (fun x => 1100) [1010] 1103) (rowV encI (dueL L a).fst)))))).length.beq ((0 + (dueL L a).fst.length) * 1) = true)).a Cnd.t)))))))).a (((Cnd.p (BigL L)).a ((Cnd.p (VW [AV.ptr 1101 0, AV.v (Value.int IntKind.i64 b)] [AV.ptr 1101 0, AV.v (Value.int IntKind.i64 b)])).a ((Cnd.p (OW (AO.own (Md.clock L (Int.ofNat n)) (clH L (Int.ofNat n))) (AO.own (Md.clock L (Int.ofNat n)) (clH L (Int.ofNat n))))).a Cnd.t))).a (((Cnd.p True).a ((Cnd.p (VW [AV.slice 1106 0 (0 + (dueL L a).fst.length + (dueL (dueL L a).snd b).fst.length) 1 (Cp.lo (0 + (dueL L a).fst.length + (dueL (dueL L a).snd b).fst.length)), AV.v (Value.slice none 0 0)] [AV.slice 1106 0 0 1 (Cp.lo 0), AV.v (Value.slice none 0 0)])).a ((Cnd.p (OW (AO.cells (List.take ((0 + (dueL L a).fst.length) * 1) (List.drop 0 ([] ++ List.take ((dueL L a).fst.length * 1) (List.drop 0 (AV.rens (sgN (fun x => 1100) [1010] 1103) (rowV encI (dueL L a).fst))))) ++ List.take ((dueL (dueL L a).snd b).fst.length * 1) (List.drop 0 (AV.rens (sgN (fun x => 1100) [1010] 1105) (rowV encI (dueL (dueL L a).snd b).fst)))) 6) (AO.cells [] 6))).a ((Cnd.p (Wk (AV.v (Value.bool true)) (AV.lit true))).a Cnd.t)))).a (((Cnd.p True).a ((Cnd.p (VW [AV.ptr 1100 0] [AV.ptr 1100 0])).a ((Cnd.p (OW (AO.own (Md.clock (dueL (dueL L a).snd b).snd (Int.ofNat n)) (clH (dueL (dueL L a).snd b).snd (Int.ofNat n))) (AO.own (Md.clock (dueL (dueL L a).snd b).snd (Int.ofNat n)) (clH (dueL (dueL L a).snd b).snd (Int.ofNat n))))).a Cnd.t))).a (((Cnd.p True).a ((Cnd.p (VW [AV.ptr 1101 0] [AV.ptr 1101 0])).a ((Cnd.p (OW (AO.own (Md.clock (dueL L b).snd (Int.ofNat n)) (clH (dueL L b).snd (Int.ofNat n))) (AO.own (Md.clock (dueL L b).snd (Int.ofNat n)) (clH (dueL L b).snd (Int.ofNat n))))).a Cnd.t))).a (((Cnd.p (Wk (AV.v (Value.bool (Int.ofNat (dueL (dueL L a).snd b).snd.length == Int.ofNat (dueL L b).snd.length))) (AV.lit true))).a Cnd.t).a Cnd.t)))))))))))))))))))))) (VT.leaf (AV.v (Value.bool true)) [] 1108 (((Cnd.p True).a ((Cnd.p (VW [] [])).a Cnd.t)).a (((Cnd.p (Wk (AV.v (Value.bool false)) (AV.lit false))).a Cnd.t).a (((Cnd.p True).a ((Cnd.p (VW [] [])).a Cnd.t)).a (((Cnd.p True).a ((Cnd.p (VW [] [])).a Cnd.t)).a (((Cnd.p (Wk (AV.v (Value.bool false)) (AV.lit false))).a Cnd.t).a (((Cnd.p (Wk (AV.v (Value.bool false)) (AV.lit false))).a Cnd.t).a (((Cnd.p (Wk (AV.v (Value.bool (decide (a > b)))) (AV.lit false))).a Cnd.t).a ((Cnd.p ((fSplit, 7, loopN fSplit 7, lSp (slV oa n c) n a b L).snd.snd.fst = (fSplit, 7, loopN fSplit 7, lSp (slV oa n c) n a b L).snd.snd.fst)).a ((Cnd.p True).a ((Cnd.p (VW [AV.v (Value.slice oa n c), AV.v (Value.int IntKind.i64 a), AV.v (Value.int IntKind.i64 b), AV.v (Value.tuple (Array.mk [])), AV.v (Value.tuple (Array.mk [])), AV.v (Value.tuple (Array.mk [])), AV.v (Value.bool false), AV.ptr 1100 0, AV.ptr 1101 0, AV.v (Value.tuple (Array.mk [])), AV.v (Value.tuple (Array.mk [])), AV.v (Value.tuple (Array.mk [])), AV.v (Value.bool true), AV.lit false, AV.ptr 1100 0, AV.ptr 1101 0, AV.ptr 1100 0, AV.lit false, AV.lit false, AV.ptr 1101 0, AV.lit false, AV.lit false, AV.lit false, AV.v (Value.int IntKind.i64 a), AV.v (Value.int IntKind.i64 b), AV.lit false, AV.lit false, AV.v (Value.tuple (Array.mk [])), AV.v (Value.tuple (Array.mk [])), AV.v (Value.tuple (Array.mk [])), AV.v (Value.slice oa n c), AV.v (Value.int IntKind.i64 ↑n), AV.v (Value.int IntKind.i64 (Int.ofNat 0)), AV.v (Value.tuple (Array.mk [])), AV.v (Value.tuple (Array.mk [])), AV.v (Value.tuple (Array.mk [])), AV.v (Value.tuple (Array.mk [])), AV.v (Value.tuple (Array.mk [])), AV.v (Value.tuple (Array.mk [])), AV.v (Value.tuple (Array.mk [])), AV.v (Value.tuple (Array.mk [])), AV.v (Value.tuple (Array.mk [])), AV.v (Value.tuple (Array.mk [])), AV.v (Value.tuple (Array.mk [])), AV.v (Value.tuple (Array.mk [])), AV.v (Value.tuple (Array.mk [])), AV.v (Value.tuple (Array.mk [])), AV.v (Value.tuple (Array.mk [])), AV.v (Value.tuple (Array.mk [])), AV.v (Value.tuple (Array.mk [])), AV.v (Value.tuple (Array.mk [])), AV.v (Value.tuple (Array.mk [])), AV.v (Value.tuple (Array.mk [])), AV.v (Value.tuple (Array.mk [])), AV.v (Value.tuple (Array.mk [])), AV.v (Value.tuple (Array.mk [])), AV.v (Value.tuple (Array.mk [])), AV.v (Value.tuple (Array.mk [])), AV.v (Value.tuple (Array.mk [])), AV.v (Value.tuple (Array.mk [])), AV.v (Value.tuple (Array.mk [])), AV.v (Value.tuple (Array.mk [])), AV.v (Value.tuple (Array.mk [])), AV.v (Value.tuple (Array.mk [])), AV.v (Value.tuple (Array.mk [])), AV.v (Value.tuple (Array.mk [])), AV.v (Value.tuple (Array.mk [])), AV.v (Value.tuple (Array.mk [])), AV.v (Value.tuple (Array.mk [])), AV.v (Value.tuple (Array.mk [])), AV.v (Value.tuple (Array.mk []))] [AV.any, AV.v (Value.int IntKind.i64 a), AV.v (Value.int IntKind.i64 b), AV.any, AV.any, AV.any, AV.any, AV.ptr 1100 0, AV.ptr 1101 0, AV.any, AV.any, AV.any, AV.any, AV.any, AV.any, AV.any, AV.any, AV.any, AV.any, AV.any, AV.any, AV.any, AV.any, AV.any, AV.any, AV.any, AV.any, AV.any, AV.any, AV.any, AV.v (Value.slice oa n c), AV.v (Value.int IntKind.i64 (Int.ofNat n)), AV.v (Value.int IntKind.i64 (Int.ofNat 0)), AV.any, AV.any, AV.any, AV.any, AV.any, AV.any, AV.any, AV.any, AV.any, AV.any, AV.any, AV.any, AV.any, AV.any, AV.any, AV.any, AV.any, AV.any, AV.any, AV.any, AV.any, AV.any, AV.any, AV.any, AV.any, AV.any, AV.any, AV.any, AV.any, AV.any, AV.any, AV.any, AV.any, AV.any, AV.any, AV.any, AV.any, AV.any])).a ((Cnd.p (OW (AO.own (Md.clock [] (Int.ofNat 0)) (clH [] (Int.ofNat 0))) (AO.own (Md.clock [] (Int.ofNat 0)) (clH [] (Int.ofNat 0))))).a ((Cnd.p (OW (AO.own (Md.clock [] (Int.ofNat 0)) (clH [] (Int.ofNat 0))) (AO.own (Md.clock [] (Int.ofNat 0)) (clH [] (Int.ofNat 0))))).a (((Cnd.p (BigL L)).a ((Cnd.p (VW [AV.ptr 1100 0, AV.v (Value.int IntKind.i64 a)] [AV.ptr 1100 0, AV.v (Value.int IntKind.i64 a)])).a ((Cnd.p (OW (AO.own (Md.clock L (Int.ofNat n)) (clH L (Int.ofNat n))) (AO.own (Md.clock L (Int.ofNat n)) (clH L (Int.ofNat n))))).a Cnd.t))).a (((Cnd.p ((dueL L a).fst.length.ble (dueL L a).fst.length = true)).a ((Cnd.p ((List.take ((dueL L a).fst.length * 1) (List.drop 0 (AV.rens (sgN (fun x => 1100) [1010] 1103) (rowV encI (dueL L a).fst)))).length.beq ((dueL L a).fst.length * 1) = true)).a ((Cnd.p ((List.take ((dueL L a).fst.length * 1) (List.drop 0 (AV.rens (sgN (fun x => 1100) [1010] 1103) (rowV encI (dueL L a).fst)))).all AV.one = true)).a ((Cnd.p (Nat.blt 0 (dueL L a).fst.length = true)).a ((Cnd.p (true = true)).a ((Cnd.p (((0 + (dueL L a).fst.length) * 8).ble 140737488355328 = true)).a ((Cnd.p ((0 + (dueL L a).fst.length).ble 9223372036854775807 = true)).a ((Cnd.p (true = true)).a ((Cnd.p (Nat.blt 0 (0 + (dueL L a).fst.length) = true)).a Cnd.t))))))))).a (((Cnd.p (BigL (dueL L a).snd)).a ((Cnd.p (VW [AV.ptr 1100 0, AV.v (Value.int IntKind.i64 b)] [AV.ptr 1100 0, AV.v (Value.int IntKind.i64 b)])).a ((Cnd.p (OW (AO.own (Md.clock (dueL L a).snd (Int.ofNat n)) (clH (dueL L a).snd (Int.ofNat n))) (AO.own (Md.clock (dueL L a).snd (Int.ofNat n)) (clH (dueL L a).snd (Int.ofNat n))))).a Cnd.t))).a (((Cnd.p ((dueL (dueL L a).snd b).fst.length.ble (dueL (dueL L a).snd b).fst.length = true)).a ((Cnd.p ((List.take ((dueL (dueL L a).snd b).fst.length * 1) (List.drop 0 (AV.rens (sgN (fun x => 1100) [1010] 1105) (rowV encI (dueL (dueL L a).snd b).fst)))).length.beq ((dueL (dueL L a).snd b).fst.length * 1) = true)).a ((Cnd.p ((List.take ((dueL (dueL L a).snd b).fst.length * 1) (List.drop 0 (AV.rens (sgN (fun x => 1100) [1010] 1105) (rowV encI (dueL (dueL L a).snd b).fst)))).all AV.one = true)).a ((Cnd.p (Nat.blt 0 (dueL (dueL L a).snd b).fst.length = true)).a ((Cnd.p ((0 + (0 + (dueL L a).fst.length) * 1).ble ([] ++ List.take ((dueL L a).fst.length * 1) (List.drop 0 (AV.rens (sgN (fun x => 1100) [1010] 1103) (rowV encI (dueL L a).fst)))).length = true)).a ((Cnd.p (((0 + (dueL L a).fst.length + (dueL (dueL L a).snd b).fst.length) * 8).ble 140737488355328 = true)).a ((Cnd.p ((0 + (dueL L a).fst.length + (dueL (dueL L a).snd b).fst.length).ble 9223372036854775807 = true)).a ((Cnd.p ((List.take ((0 + (dueL L a).fst.length) * 1) (List.drop 0 ([] ++ List.take ((dueL L a).fst.length * 1) (List.drop 0 (AV.rens (sgN (fun x => 1100) [1010] 1103) (rowV encI (dueL L a).fst)))))).length.beq ((0 + (dueL L a).fst.length) * 1) = true)).a Cnd.t)))))))).a (((Cnd.p (BigL L)).a ((Cnd.p (VW [AV.ptr 1101 0, AV.v (Value.int IntKind.i64 b)] [AV.ptr 1101 0, AV.v (Value.int IntKind.i64 b)])).a ((Cnd.p (OW (AO.own (Md.clock L (Int.ofNat n)) (clH L (Int.ofNat n))) (AO.own (Md.clock L (Int.ofNat n)) (clH L (Int.ofNat n))))).a Cnd.t))).a (((Cnd.p True).a ((Cnd.p (VW [AV.slice 1106 0 (0 + (dueL L a).fst.length + (dueL (dueL L a).snd b).fst.length) 1 (Cp.lo (0 + (dueL L a).fst.length + (dueL (dueL L a).snd b).fst.length)), AV.slice 1107 0 (dueL L b).fst.length 1 (Cp.lo (dueL L b).fst.length)] [AV.slice 1106 0 l.length 1 (Cp.lo l.length), AV.slice 1107 0 l.length 1 (Cp.lo l.length)])).a ((Cnd.p (OW (AO.cells (List.take ((0 + (dueL L a).fst.length) * 1) (List.drop 0 ([] ++ List.take ((dueL L a).fst.length * 1) (List.drop 0 (AV.rens (sgN (fun x => 1100) [1010] 1103) (rowV encI (dueL L a).fst))))) ++ List.take ((dueL (dueL L a).snd b).fst.length * 1) (List.drop 0 (AV.rens (sgN (fun x => 1100) [1010] 1105) (rowV encI (dueL (dueL L a).snd b).fst)))) 6) (AO.cells (AV.rens (nm2 1106 1107) (rowV encI l)) 6))).a ((Cnd.p (OW (AO.cells (AV.rens (sgN (fun x => 1101) [1010] 1107) (rowV encI (dueL L b).fst)) 6) (AO.cells (AV.rens (nm2 1106 1107) (rowV encI l)) 6))).a ((Cnd.p (Wk (AV.v (Value.bool true)) (AV.lit true))).a Cnd.t))))).a (((Cnd.p True).a ((Cnd.p (VW [AV.ptr 1100 0] [AV.ptr 1100 0])).a ((Cnd.p (OW (AO.own (Md.clock (dueL (dueL L a).snd b).snd (Int.ofNat n)) (clH (dueL (dueL L a).snd b).snd (Int.ofNat n))) (AO.own (Md.clock (dueL (dueL L a).snd b).snd (Int.ofNat n)) (clH (dueL (dueL L a).snd b).snd (Int.ofNat n))))).a Cnd.t))).a (((Cnd.p True).a ((Cnd.p (VW [AV.ptr 1101 0] [AV.ptr 1101 0])).a ((Cnd.p (OW (AO.own (Md.clock (dueL L b).snd (Int.ofNat n)) (clH (dueL L b).snd (Int.ofNat n))) (AO.own (Md.clock (dueL L b).snd (Int.ofNat n)) (clH (dueL L b).snd (Int.ofNat n))))).a Cnd.t))).a (((Cnd.p (Wk (AV.v (Value.bool (Int.ofNat (dueL (dueL L a).snd b).snd.length == Int.ofNat (dueL L b).snd.length))) (AV.lit true))).a Cnd.t).a Cnd.t)))))))))))))))))))))))) := by kernel_rfl
end
end Go.Proofs.Ytojfbgmeaadanaa.Alm

/- AlarmsSplit: the law. -/
set_option linter.unusedVariables false
set_option linter.unusedSimpArgs false
set_option maxRecDepth 100000
namespace Go.Proofs.Ytojfbgmeaadanaa.Alm
open Go Go.RowKit Go.Proofs.Ytojfbgmeaadanaa.Eng Go.Proofs.Ytojfbgmeaadanaa.Kit
/-! Plain. -/
theorem without_lt {L : List Al} {x : Al} (h : x ∈ L) : (without L x.id).length < L.length := by
  unfold without
  rw [← List.countP_eq_length_filter]
  refine Nat.lt_of_le_of_ne (List.countP_le_length) fun e => ?_
  have := List.countP_eq_length.1 e x h
  simp at this
theorem dueN_len (now : Int) : ∀ (n : Nat) (L : List Al), (dueN now n L).2.length ≤ L.length ∧ (dueN now n L).1.length + (dueN now n L).2.length ≤ L.length
  | 0, L => by simp [dueN]
  | n + 1, L => by
    unfold dueN
    split
    · simp
    · split
      · split
        · simp
        · rename_i x hx
          have h1 := dueN_len now n (without L x.id)
          have h2 := without_lt (List.mem_of_find?_eq_some hx)
          simp only [List.length_cons]
          omega
      · simp
theorem dueN_fuel (now : Int) : ∀ (n m : Nat) (L : List Al), L.length ≤ n → L.length ≤ m → dueN now n L = dueN now m L
  | 0, m, L, h, h' => by
    have : L = [] := List.eq_nil_of_length_eq_zero (by omega)
    subst this
    cases m <;> rfl
  | n + 1, 0, L, h, h' => by
    have : L = [] := List.eq_nil_of_length_eq_zero (by omega)
    subst this
    rfl
  | n + 1, m + 1, L, h, h' => by
    unfold dueN
    split
    · rfl
    · split
      · split
        · rfl
        · rename_i x hx
          have h2 := without_lt (List.mem_of_find?_eq_some hx)
          rw [dueN_fuel now n m _ (by omega) (by omega)]
      · rfl
theorem dueN_split {a b : Int} (hab : a ≤ b) : ∀ (n : Nat) (L : List Al), L.length ≤ n → dueN b n L = ((dueN a n L).1 ++ (dueN b n (dueN a n L).2).1, (dueN b n (dueN a n L).2).2)
  | 0, L, h => by
    have : L = [] := List.eq_nil_of_length_eq_zero (by omega)
    subst this
    rfl
  | n + 1, L, h => by
    cases hn : nextOf L with
    | none => simp only [dueN, hn, List.nil_append]
    | some t =>
      by_cases ht : t ≤ a
      · have htb : t ≤ b := Int.le_trans ht hab
        cases hf : (L.find? fun x => decide (x.tk = t)) with
        | none => simp only [dueN, hn, if_pos ht, if_pos htb, hf, List.nil_append]
        | some x =>
          have h2 := without_lt (List.mem_of_find?_eq_some hf)
          have ih := dueN_split hab n (without L x.id) (by omega)
          have e1 : dueN a (n + 1) L = (x.id :: (dueN a n (without L x.id)).1, (dueN a n (without L x.id)).2) := by simp only [dueN, hn, if_pos ht, hf]
          have e2 : dueN b (n + 1) L = (x.id :: (dueN b n (without L x.id)).1, (dueN b n (without L x.id)).2) := by simp only [dueN, hn, if_pos htb, hf]
          have h3 := (dueN_len a n (without L x.id)).1
          rw [e1, e2, ih]
          simp only [List.cons_append]
          rw [dueN_fuel b (n + 1) n _ (by omega) (by omega)]
      · have e1 : dueN a (n + 1) L = ([], L) := by simp only [dueN, hn, if_neg ht]
        rw [e1]; rfl
theorem dueL_split {a b : Int} (hab : a ≤ b) (L : List Al) : dueL L b = ((dueL L a).1 ++ (dueL (dueL L a).2 b).1, (dueL (dueL L a).2 b).2) := by
  have h := dueN_split hab L.length L (Nat.le_refl _)
  have h1 := (dueN_len a L.length L).1
  rw [dueN_fuel b L.length (dueN a L.length L).2.length _ h1 (Nat.le_refl _)] at h
  exact h
theorem dueL_len (L : List Al) (now : Int) : (dueL L now).2.length ≤ L.length ∧ (dueL L now).1.length + (dueL L now).2.length ≤ L.length := dueN_len now L.length L
/-- All are set. -/
def setsL (l : List Al) : List Al := l.foldl (fun L x => setL L x.id x.tk) []
theorem setL_len (L : List Al) (id at_ : Int) : (setL L id at_).length ≤ L.length + 1 := by
  unfold setL
  rw [List.length_append]
  have := without_len L id
  simp only [List.length_singleton]; omega
theorem setsL_len : ∀ l : List Al, (setsL l).length ≤ l.length := by
  suffices h : ∀ (l L : List Al), (l.foldl (fun L x => setL L x.id x.tk) L).length ≤ L.length + l.length by
    intro l
    have := h l []
    simpa [setsL] using this
  intro l
  induction l with
  | nil => intro L; simp
  | cons x l ih =>
    intro L
    have := ih (setL L x.id x.tk)
    have h1 := setL_len L x.id x.tk
    simp only [List.foldl_cons, List.length_cons]
    omega
theorem setsL_next (l : List Al) (k : Nat) (hk : k < l.length) : setsL (l.take (k + 1)) = setL (setsL (l.take k)) (l.getD k ⟨0, 0⟩).id (l.getD k ⟨0, 0⟩).tk := by
  unfold setsL
  rw [take_next l ⟨0, 0⟩ k hk, List.foldl_append]
  rfl
theorem conA_ok (l : List Int) (hl : RoomI l) (F : HP) : ∀ x ∈ conA l, C1OK Try.prog F x.1 x.2 := con_cons (cANew_ok F) (con_cons (cASet_ok F) (con_cons (cADue_ok F) (con_cons (cALen_ok F) (con_cons (cACan_ok F) (con_cons (cAAt_ok F) (con_cons (cANext_ok F) (con_cons (cSame_ok l hl F) (con_cons (cASpeaks_ok F) noC))))))))
/-! What comes in. -/
structure InA (W : World) (oa : Option Addr) (l : List Al) : Prop where
  here : l ≠ [] → ∃ a, oa = some a
  at_ : ∀ a, oa = some a → ∀ k, k < l.length → (([0, 1].all fun j => (W.cell? ((a.add (k * 2)).add j)).isSome) = true ∧ W.cell? ((a.add (k * 2)).add 0) = some (.int .i64 (l.getD k ⟨0, 0⟩).id) ∧ W.cell? (Addr.mk (a.add (k * 2)).block ((a.add (k * 2)).off + 1) none) = some (.int .i64 (l.getD k ⟨0, 0⟩).tk))
  few : l.length * 16 ≤ 140737488355328
theorem InA.room {W : World} {oa : Option Addr} {l : List Al} (h : InA W oa l) {k : Nat} (hk : k < l.length) : RoomL (setsL (l.take k)) ∧ TnOK (Int.ofNat k) := by
  have h1 := setsL_len (l.take k)
  rw [List.length_take] at h1
  have h2 := h.few
  refine ⟨?_, ?_, ?_⟩
  · unfold RoomL; omega
  · exact Int.natCast_nonneg k
  · simp only [Int.ofNat_eq_natCast]; omega
theorem InA.big {W : World} {oa : Option Addr} {l : List Al} (h : InA W oa l) : BigL (setsL l) := by
  have h1 := setsL_len l
  have h2 := h.few
  unfold BigL; omega
theorem own_wk {L L' : List Al} {tn tn' : Int} (h : L = L') (h' : tn = tn') : OW (.own (.clock L tn) (clH L tn)) (.own (.clock L' tn') (clH L' tn')) := by subst h h'; exact OW.refl _
theorem sp_loop (W : World) (oa : Option Addr) (l : List Al) (c : Nat) (a b : Int) (hI : InA W oa l) : LTri Try.prog W (loopN fSplit 7) (tms 0 71 (aSp (slV oa l.length c) l.length 0 a b)) (oSp [] 0) (.exit 0) (tms 0 71 (zSp a b)) (oSp (setsL l) l.length) := by
  refine ltri_run (W := W) (g := fSplit) (b := loopN fSplit 7) (σ := {k : Nat // k ≤ l.length}) 71 (fun k => aSp (slV oa l.length c) l.length k.1 a b) (fun k => oSp (setsL (l.take k.1)) k.1) (.exit 0) (zSp a b) (oSp (setsL l) l.length) (fun k => l.length - k.1) [0, 1] [1, 2, 7, 8, 30, 31, 32] (by intro h; cases h) (fun _ => rfl) rfl ?_ ⟨0, Nat.zero_le _⟩
  rintro ⟨k, hk⟩
  by_cases h1 : k < l.length
  · obtain ⟨ad, rfl⟩ := hI.here (fun e => by rw [e] at h1; cases h1)
    obtain ⟨e0, e1, e2⟩ := hI.at_ ad rfl k h1
    have hroom := hI.room h1
    have hnx := setsL_next l k h1
    refine ⟨conA [], hSp k (l.getD k ⟨0, 0⟩), [], fun F _ => conA_ok [] (by unfold RoomI; exact Nat.zero_lt_succ _) F, fun _ _ => noL, fun F => ?_⟩
    refine cast (congrArg (VAll _) (oSpRound_eq W ad l.length c k a b (setsL (l.take k)) (l.getD k ⟨0, 0⟩) F).symm) ?_
    generalize l.getD k ⟨0, 0⟩ = x at *
    refine ⟨⟨?_, rfl, .inl ⟨rfl, ⟨k + 1, h1⟩, sub_down h1, [], rfl, rfl, ⟨Wk.refl _, Wk.refl _, Wk.refl _, Wk.refl _, Wk.refl _, Wk.refl _, Wk.refl _, trivial⟩, ⟨_, rfl, own_wk hnx.symm rfl⟩, ⟨_, rfl, own_wk hnx.symm rfl⟩, trivial⟩⟩⟩
    have hw := wrap_succ k (by have := hI.few; omega)
    simp only [Cnd.holds, nat_lt, e0, e1, e2, Option.getD_some, Nat.blt_eq, true_and, and_true]
    and_intros
    all_goals first
      | (with_reducible exact h1)
      | (with_reducible exact hroom)
      | (with_reducible exact Wk.refl _)
      | (with_reducible exact VW.refl _)
      | (with_reducible exact OW.refl _)
      | exact wk_litE (decide_eq_true h1)
      | exact wk_int hw
      | exact rfl
      | exact hroom.1
      | exact hroom.2.1
      | exact hroom.2.2
      | exact Wk.refl _
      | exact VW.refl _
  · have hke : k = l.length := by omega
    subst hke
    refine ⟨conA [], hSpE, [], fun F _ => conA_ok [] (by unfold RoomI; exact Nat.zero_lt_succ _) F, fun _ _ => noL, fun F => ?_⟩
    refine cast (congrArg (VAll _) (oSpEnd_eq W (slV oa l.length c) l.length l.length a b (setsL (l.take l.length)) F).symm) ⟨⟨?_, rfl, .inr ⟨rfl, [], rfl, rfl, ⟨Wk.refl _, Wk.refl _, Wk.refl _, Wk.refl _, trivial⟩, ⟨_, rfl, own_wk (by rw [List.take_length]) rfl⟩, ⟨_, rfl, own_wk (by rw [List.take_length]) rfl⟩, trivial⟩⟩⟩
    simp only [Cnd.holds, and_true]
    exact wk_litE (by rw [nat_lt]; exact decide_eq_false (Nat.lt_irrefl _))
end Go.Proofs.Ytojfbgmeaadanaa.Alm

