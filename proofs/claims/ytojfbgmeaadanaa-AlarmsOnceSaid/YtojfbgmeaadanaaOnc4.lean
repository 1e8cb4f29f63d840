/- For every list of alarms: every one that was set comes due once, and only once, by its last tick. -/
import Derived.Test.YtojfbgmeaadanaaOnc3
import Derived.ProofKit
import Derived.OpenShut
import Derived.ShutString
import Derived.Carry
import Derived.SizedLaws
/- AlarmsOnce: the plain law. -/
set_option linter.unusedVariables false
set_option linter.unusedSimpArgs false
set_option maxRecDepth 100000
namespace Go.Proofs.Ytojfbgmeaadanaa.Alm
open Go Go.RowKit Go.Proofs.Ytojfbgmeaadanaa.Eng Go.Proofs.Ytojfbgmeaadanaa.Kit
/-- The map tells each alarm's tick. -/
structure RelM (L : List Al) (m : IMap Int) (ck : Nat) : Prop where
  mi : MI m ck
  nd : (L.map (·.id)).Nodup
  look : ∀ id, mlook id m = (L.find? fun x => decide (x.id = id)).map (·.tk)
theorem RelM.nil : RelM [] [] 0 := ⟨MI.nil, List.nodup_nil, fun _ => rfl⟩
theorem find_without (L : List Al) (id id' : Int) : ((without L id).find? fun x => decide (x.id = id')) = if id' = id then none else L.find? fun x => decide (x.id = id') := by
  unfold without
  induction L with
  | nil => split <;> rfl
  | cons x L ih =>
    rw [List.filter_cons]
    by_cases h : x.id = id
    · simp only [h, decide_true, Bool.not_true, Bool.false_eq_true, if_false, ih]
      by_cases h' : id' = id
      · simp only [h', if_true]
      · rw [if_neg h', if_neg h', List.find?_cons]
        have : decide (x.id = id') = false := by simp only [decide_eq_false_iff_not]; omega
        rw [this]
    · simp only [h, decide_false, Bool.not_false, if_true, List.find?_cons, ih]
      by_cases h' : x.id = id'
      · have : id' ≠ id := by omega
        simp only [h', decide_true, this, if_false]
      · simp only [h', decide_false]
theorem without_nodup {L : List Al} (h : (L.map (·.id)).Nodup) (id : Int) : ((without L id).map (·.id)).Nodup := (List.filter_sublist.map _).nodup h
theorem RelM.del {L : List Al} {m : IMap Int} {ck : Nat} (h : RelM L m ck) (id : Int) : RelM (without L id) (mdel m id) ck :=
  ⟨h.mi.mdel id, without_nodup h.nd id, fun id' => by
    rw [mlook_mdel h.mi, find_without, h.look]
    split <;> rfl⟩
theorem RelM.set {L : List Al} {m : IMap Int} {ck : Nat} (h : RelM L m ck) (id at_ : Int) : RelM (setL L id at_) (mset m ck id at_) (mbump m ck id) := by
  refine ⟨h.mi.mset id at_, ?_, fun id' => ?_⟩
  · unfold setL
    rw [List.map_append, List.nodup_append]
    refine ⟨without_nodup h.nd id, by simp, fun a ha b hb => ?_⟩
    obtain ⟨x, hx, rfl⟩ := List.mem_map.1 ha
    simp only [List.map_cons, List.map_nil, List.mem_singleton] at hb
    rw [hb]
    exact without_ne L id x hx
  · unfold setL
    rw [mlook_mset, List.find?_append, find_without, h.look]
    by_cases e : id' = id
    · subst e; simp
    · have e' : ¬ id = id' := fun h => e h.symm
      simp [e, e']
theorem RelM.mem {L : List Al} {m : IMap Int} {ck : Nat} (h : RelM L m ck) {x : Al} (hx : x ∈ L) : mlook x.id m = some x.tk := by
  rw [h.look]
  have : (L.find? fun y => decide (y.id = x.id)) = some x := by
    have hnd := h.nd
    clear h
    induction L with
    | nil => cases hx
    | cons y L ih =>
      rw [List.map_cons, List.nodup_cons] at hnd
      rw [List.find?_cons]
      rcases List.mem_cons.1 hx with rfl | hx
      · simp
      · have hne : y.id ≠ x.id := fun e => hnd.1 (List.mem_map.2 ⟨x, hx, e.symm⟩)
        simp only [hne, decide_false]
        exact ih hx hnd.2
  rw [this]; rfl
theorem RelM.empty {m : IMap Int} {ck : Nat} (h : RelM [] m ck) : m = [] := by
  cases m with
  | nil => rfl
  | cons e m =>
    have := h.look e.1
    rw [mlook] at this
    simp at this
theorem nextOf_none : ∀ {L : List Al}, nextOf L = none → L = []
  | [], _ => rfl
  | x :: L, h => by
    simp only [nextOf] at h
    split at h <;> cases h
theorem nextOf_some : ∀ {L : List Al} {t : Int}, nextOf L = some t → (∃ x ∈ L, x.tk = t) ∧ ∀ y ∈ L, t ≤ y.tk
  | x :: L, t, h => by
    simp only [nextOf] at h
    cases hn : nextOf L with
    | none =>
      rw [hn] at h; cases h
      rw [nextOf_none hn]
      exact ⟨⟨x, by simp, rfl⟩, fun y hy => by simp at hy; subst hy; exact Int.le_refl _⟩
    | some u =>
      rw [hn] at h; cases h
      obtain ⟨⟨z, hz, hzt⟩, hall⟩ := nextOf_some hn
      refine ⟨?_, fun y hy => ?_⟩
      · rcases Int.le_total x.tk u with h1 | h1
        · exact ⟨x, by simp, (Int.min_eq_left h1).symm⟩
        · exact ⟨z, by simp [hz], by rw [Int.min_eq_right h1]; exact hzt⟩
      · rcases List.mem_cons.1 hy with rfl | hy
        · exact Int.min_le_left _ _
        · exact Int.le_trans (Int.min_le_right _ _) (hall y hy)
def delAll (m : IMap Int) (l : List Int) : IMap Int := l.foldl mdel m
/-- All that is due at the least tick. -/
theorem due_chain (now : Int) (ck : Nat) : ∀ (n : Nat) (L : List Al) (m : IMap Int), L.length ≤ n → RelM L m ck → (∀ x ∈ L, now ≤ x.tk) →
    (∀ j, j < (dueN now n L).1.length → mlook ((dueN now n L).1.getD j 0) (delAll m ((dueN now n L).1.take j)) = some now) ∧ RelM (dueN now n L).2 (delAll m (dueN now n L).1) ck
  | 0, L, m, hn, h, hall => by
    refine ⟨fun j hj => absurd hj (Nat.not_lt_zero j), h⟩
  | n + 1, L, m, hn, h, hall => by
    have stop : (∀ j, j < ([] : List Int).length → mlook (([] : List Int).getD j 0) (delAll m (([] : List Int).take j)) = some now) ∧ RelM L (delAll m []) ck := ⟨fun j hj => absurd hj (Nat.not_lt_zero j), h⟩
    cases hx : nextOf L with
    | none => simp only [dueN, hx]; exact stop
    | some t =>
      by_cases ht : t ≤ now
      · cases hf : (L.find? fun x => decide (x.tk = t)) with
        | none => simp only [dueN, hx, if_pos ht, hf]; exact stop
        | some x =>
          have hmem := List.mem_of_find?_eq_some hf
          have htk : x.tk = t := by have := List.find?_some hf; simpa using this
          have hnow : x.tk = now := by have := hall x hmem; omega
          have h2 := without_lt hmem
          obtain ⟨i1, i2⟩ := due_chain now ck n (without L x.id) (mdel m x.id) (by omega) (h.del x.id) (fun y hy => hall y (List.mem_filter.1 hy).1)
          simp only [dueN, hx, if_pos ht, hf]
          refine ⟨fun j hj => ?_, i2⟩
          cases j with
          | zero =>
            show mlook x.id m = some now
            rw [h.mem hmem, hnow]
          | succ j =>
            have hj' : j < (dueN now n (without L x.id)).1.length := by simpa using hj
            exact i1 j hj'
      · simp only [dueN, hx, if_neg ht]; exact stop
theorem dueL_chain {now : Int} {L : List Al} {m : IMap Int} {ck : Nat} (h : RelM L m ck) (hn : nextOf L = some now) :
    (∀ j, j < (dueL L now).1.length → mlook ((dueL L now).1.getD j 0) (delAll m ((dueL L now).1.take j)) = some now) ∧ RelM (dueL L now).2 (delAll m (dueL L now).1) ck :=
  due_chain now ck L.length L m (Nat.le_refl _) h (nextOf_some hn).2
theorem dueL_some {now : Int} {L : List Al} (hn : nextOf L = some now) : (dueL L now).1 ≠ [] := by
  obtain ⟨⟨x, hx, hxt⟩, _⟩ := nextOf_some hn
  obtain ⟨n, hl⟩ : ∃ n, L.length = n + 1 := ⟨L.length - 1, by have := List.length_pos_of_mem hx; omega⟩
  unfold dueL
  rw [hl]
  simp only [dueN, hn, if_pos (Int.le_refl now)]
  cases hf : (L.find? fun x => decide (x.tk = now)) with
  | none =>
    have := List.find?_eq_none.1 hf x hx
    simp [hxt] at this
  | some y => simp
theorem delAll_next (m : IMap Int) (l : List Int) (j : Nat) (hj : j < l.length) : delAll m (l.take (j + 1)) = mdel (delAll m (l.take j)) (l.getD j 0) := by
  unfold delAll
  rw [take_next l 0 j hj, List.foldl_append]
  rfl
/-- What the map is behind the sets. -/
def setsM (l : List Al) : IMap Int × Nat := l.foldl (fun s x => (mset s.1 s.2 x.id x.tk, mbump s.1 s.2 x.id)) ([], 0)
theorem setsM_next (l : List Al) (k : Nat) (hk : k < l.length) : setsM (l.take (k + 1)) = (mset (setsM (l.take k)).1 (setsM (l.take k)).2 (l.getD k ⟨0, 0⟩).id (l.getD k ⟨0, 0⟩).tk, mbump (setsM (l.take k)).1 (setsM (l.take k)).2 (l.getD k ⟨0, 0⟩).id) := by
  unfold setsM
  rw [take_next l ⟨0, 0⟩ k hk, List.foldl_append]
  rfl
theorem rel_sets (l : List Al) : RelM (setsL l) (setsM l).1 (setsM l).2 := by
  suffices h : ∀ (l L : List Al) (s : IMap Int × Nat), RelM L s.1 s.2 → RelM (l.foldl (fun L x => setL L x.id x.tk) L) (l.foldl (fun s x => (mset s.1 s.2 x.id x.tk, mbump s.1 s.2 x.id)) s).1 (l.foldl (fun s x => (mset s.1 s.2 x.id x.tk, mbump s.1 s.2 x.id)) s).2 from h l [] ([], 0) RelM.nil
  intro l
  induction l with
  | nil => intro L s h; exact h
  | cons x l ih => intro L s h; exact ih _ _ (h.set x.id x.tk)
/-- Does the law end in the middle of its rounds? -/
def early : Nat → List Al → Bool
  | 0, _ => false
  | r + 1, L => match nextOf L with
    | none => true
    | some t => early r (dueL L t).2
end Go.Proofs.Ytojfbgmeaadanaa.Alm

/- AlarmsOnce: every call answers true. -/
set_option linter.unusedVariables false
set_option linter.unusedSimpArgs false
set_option maxRecDepth 100000
namespace Go.Proofs.Ytojfbgmeaadanaa.Alm
open Go Go.RowKit Go.Proofs.Ytojfbgmeaadanaa.Eng Go.Proofs.Ytojfbgmeaadanaa.Kit
theorem last_renE (m : IMap Int) (σ : Nat → Nat) : renE σ (mE ivm m) = mE ivm m := by
  induction m with
  | nil => rfl
  | cons e m ih =>
    show renE σ ((.v (.int .i64 e.1), ivm e.2.1, e.2.2) :: mE ivm m) = _
    rw [renE, ih]; rfl
theorem last_ren (m : IMap Int) (ck : Nat) (σ : Nat → Nat) : (lastO m ck).ren σ = lastO m ck := by
  show AO.map (renE σ (mE ivm m)) ck = _
  rw [last_renE]; rfl
theorem last_clE (K : Nat → Bool) : ∀ m : IMap Int, clE K (mE ivm m)
  | [] => trivial
  | e :: m => ⟨trivial, trivial, last_clE K m⟩
theorem last_cl (K : Nat → Bool) (m : IMap Int) (ck : Nat) : (lastO m ck).cl K := last_clE K m
theorem oOn_cl (K : Nat → Bool) (L : List Al) (tn : Int) (m : IMap Int) (ck : Nat) : ∀ x ∈ oOn L tn m ck, x.2.cl K := all_cons trivial (all_cons (last_cl K m ck) all_nil)
theorem last_set (m : IMap Int) (ck : Nat) (id at_ : Int) : AO.map (setE (.v (.int .i64 id)) (.v (.int .i64 at_)) (mE ivm m) ck) (bumpE (.v (.int .i64 id)) (mE ivm m) ck) = lastO (mset m ck id at_) (mbump m ck id) := by
  have e1 := setE_mE (ev := ivm) id at_ m ck
  have e2 := bumpE_mE (ev := ivm) id m ck
  show AO.map _ _ = AO.map _ _
  rw [e2]
  congr 1
theorem last_del (m : IMap Int) (ck : Nat) (id : Int) : AO.map (delE (.v (.int .i64 id)) (mE ivm m)) ck = lastO (mdel m id) ck := by
  rw [delE_mE]; rfl
theorem last_look {m : IMap Int} {id at_ : Int} (h : mlook id m = some at_) : foundX (findS (.v (.int .i64 id)) (mE ivm m) 0) (.int .i64 (Int.ofNat 0)) = iv at_ ∧ (findS (.v (.int .i64 id)) (mE ivm m) 0).isSome = true := by
  rw [found_mE, found_isSome, h]; exact ⟨rfl, rfl⟩
theorem wk_pair (a : Int) (b : Bool) : Wk (.tuple [.v (.int .i64 a), .v (.bool b)]) (.tuple [iv a, .lit b]) := by
  intro N y hy
  simp only [VR, VRs] at hy ⊢
  exact hy
theorem wk_pair' {a a' : Int} {b b' : Bool} (h : a = a') (h' : b = b') : Wk (.tuple [.v (.int .i64 a), .v (.bool b)]) (.tuple [iv a', .lit b']) := by
  subst h h'; exact wk_pair a b
theorem on_loop (W : World) (oa : Option Addr) (l : List Al) (c : Nat) (hI : InA W oa l) : LTri Try.prog W (loopN fOnce 8) (tms 0 92 (aOn (slV oa l.length c) l.length 0)) (oOn [] 0 [] 0) (.exit 0) (tms 0 92 zOn) (oOn (setsL l) (Int.ofNat l.length) (setsM l).1 (setsM l).2) := by
  refine ltri_run (W := W) (g := fOnce) (b := loopN fOnce 8) (σ := {k : Nat // k ≤ l.length}) 92 (fun k => aOn (slV oa l.length c) l.length k.1) (fun k => oOn (setsL (l.take k.1)) (Int.ofNat k.1) (setsM (l.take k.1)).1 (setsM (l.take k.1)).2) (.exit 0) zOn (oOn (setsL l) (Int.ofNat l.length) (setsM l).1 (setsM l).2) (fun k => l.length - k.1) [0, 1] [3, 4, 21, 22, 23] (by intro h; cases h) (fun _ => rfl) rfl ?_ ⟨0, Nat.zero_le _⟩
  rintro ⟨k, hk⟩
  by_cases h1 : k < l.length
  · obtain ⟨ad, rfl⟩ := hI.here (fun e => by rw [e] at h1; cases h1)
    obtain ⟨e0, e1, e2⟩ := hI.at_ ad rfl k h1
    have hroom := hI.room h1
    have hnx := setsL_next l k h1
    have hnm := setsM_next l k h1
    refine ⟨conA [], hOn k (l.getD k ⟨0, 0⟩), [], fun F _ => conA_ok [] (by unfold RoomI; exact Nat.zero_lt_succ _) F, fun _ _ => noL, fun F => ?_⟩
    refine cast (congrArg (VAll _) (oOnRound_eq W ad l.length c k (setsL (l.take k)) (setsM (l.take k)).1 (setsM (l.take k)).2 (l.getD k ⟨0, 0⟩) F).symm) ?_
    generalize l.getD k ⟨0, 0⟩ = x at *
    have hm1 : (setsM (l.take (k + 1))).1 = _ := congrArg Prod.fst hnm
    have hm2 : (setsM (l.take (k + 1))).2 = _ := congrArg Prod.snd hnm
    refine ⟨⟨?_, rfl, .inl ⟨rfl, ⟨k + 1, h1⟩, sub_down h1, [], rfl, rfl, ⟨Wk.refl _, Wk.refl _, Wk.refl _, Wk.refl _, Wk.refl _, trivial⟩, ⟨_, rfl, own_wk hnx.symm rfl⟩, ⟨_, rfl, OW.of_eq ?_⟩, trivial⟩⟩⟩
    · have hw := wrap_succ k (by have := hI.few; omega)
      simp only [Cnd.holds, nat_lt, e0, e1, e2, Option.getD_some, Nat.blt_eq, true_and, and_true]
      and_intros
      all_goals first
        | (with_reducible exact h1)
        | (with_reducible exact hroom)
        | (with_reducible exact Wk.refl _)
        | (with_reducible exact VW.refl _)
        | (with_reducible exact OW.refl _)
        | exact wk_litE (decide_eq_true h1)
        | exact wk_int hw
        | exact rfl
        | exact findKey_mE intT _ _ _
        | exact staysS_mE _ _
        | exact hroom.1
        | exact hroom.2.1
        | exact hroom.2.2
        | exact Wk.refl _
        | exact VW.refl _
    · show _ = (lastO (setsM (l.take (k + 1))).1 (setsM (l.take (k + 1))).2).ren _
      rw [last_ren, last_set, hm1, hm2]
  · have hke : k = l.length := by omega
    subst hke
    refine ⟨conA [], hintL [(fOnce, 8, 0, hv (.lit false))], [], fun F _ => conA_ok [] (by unfold RoomI; exact Nat.zero_lt_succ _) F, fun _ _ => noL, fun F => ?_⟩
    refine cast (congrArg (VAll _) (oOnEnd_eq W oa l.length c l.length (setsL (l.take l.length)) (setsM (l.take l.length)).1 (setsM (l.take l.length)).2 F).symm) ⟨⟨?_, rfl, .inr ⟨rfl, [], rfl, rfl, ⟨Wk.refl _, Wk.refl _, trivial⟩, ⟨_, rfl, own_wk (by rw [List.take_length]) rfl⟩, ⟨_, rfl, OW.of_eq ?_⟩, trivial⟩⟩⟩
    · simp only [Cnd.holds, and_true]
      exact wk_litE (by rw [nat_lt]; exact decide_eq_false (Nat.lt_irrefl _))
    · show lastO _ _ = (lastO (setsM l).1 (setsM l).2).ren _
      rw [last_ren, List.take_length]
/-! One tick's ids. -/
theorem in_loop (n i : Nat) (at_ : Int) (l : List Int) (L : List Al) (tn : Int) (m : IMap Int) (ck : Nat) (hR : RoomI l) (hch : ∀ j, j < l.length → mlook (l.getD j 0) (delAll m (l.take j)) = some at_) :
    LTri Try.prog default (loopN fOnce 21) (tms 0 92 (aIn n i at_ l 0)) (oIn L tn m ck l) (.exit 4) (tms 0 92 (zIn n i)) (oIn L tn (delAll m l) ck l) := by
  refine ltri_run (W := default) (g := fOnce) (b := loopN fOnce 21) (σ := {j : Nat // j ≤ l.length}) 92 (fun j => aIn n i at_ l j.1) (fun j => oIn L tn (delAll m (l.take j.1)) ck l) (.exit 4) (zIn n i) (oIn L tn (delAll m l) ck l) (fun j => l.length - j.1) [0, 1, 2] [3, 4, 7, 8, 9, 62, 63, 64] (by intro h; cases h) (fun _ => rfl) rfl ?_ ⟨0, Nat.zero_le _⟩
  rintro ⟨j, hj⟩
  by_cases h1 : j < l.length
  · have hl := hch j h1
    have hnx := delAll_next m l j h1
    have hg : ∀ d, (rowV encI l).getD j d = iv (l.getD j 0) := fun d => row_int l j d h1
    have hw := wrap_succ j (by unfold RoomI at hR; omega)
    obtain ⟨k1, k2⟩ := last_look hl
    refine ⟨[], hIn at_ (l.getD j 0) j, [], fun _ _ => noC, fun _ _ => noL, fun F => ?_⟩
    refine cast (congrArg (VAll _) (oInRound_eq n i j at_ (l.getD j 0) l L tn (delAll m (l.take j)) ck F).symm) ⟨⟨?_, rfl, .inl ⟨rfl, ⟨j + 1, h1⟩, sub_down h1, [], rfl, rfl, ⟨Wk.refl _, Wk.refl _, Wk.refl _, Wk.refl _, Wk.refl _, Wk.refl _, Wk.refl _, Wk.refl _, trivial⟩, ⟨_, rfl, OW.refl _⟩, ⟨_, rfl, OW.of_eq ?_⟩, ⟨_, rfl, OW.of_eq (calm_ids _ _).symm⟩, trivial⟩⟩⟩
    · simp only [Cnd.holds, nat_lt, Nat.zero_add, Nat.mul_one, hg, len_idsO, Nat.blt_eq, h1, k1, k2, bne_self_eq_false, true_and, and_true]
      and_intros
      all_goals first
        | (with_reducible exact Wk.refl _)
        | (with_reducible exact wk_lit _)
        | exact wk_litE (decide_eq_true h1)
        | exact wk_int hw
        | exact findKey_mE intT _ _ _
        | exact rfl
        | exact wk_pair' rfl rfl
        | exact Wk.refl _
    · show _ = (lastO (delAll m (l.take (j + 1))) ck).ren _
      rw [last_ren, last_del, hnx]
  · have hje : j = l.length := by omega
    subst hje
    refine ⟨[], hintL [(fOnce, 21, 0, hv (.lit false))], [], fun _ _ => noC, fun _ _ => noL, fun F => ?_⟩
    refine cast (congrArg (VAll _) (oInEnd_eq n i l.length at_ l L tn (delAll m (l.take l.length)) ck F).symm) ⟨⟨?_, rfl, .inr ⟨rfl, [], rfl, rfl, ⟨Wk.refl _, Wk.refl _, Wk.refl _, Wk.refl _, trivial⟩, ⟨_, rfl, OW.refl _⟩, ⟨_, rfl, OW.of_eq ?_⟩, ⟨_, rfl, OW.of_eq (calm_ids _ _).symm⟩, trivial⟩⟩⟩
    · simp only [Cnd.holds, and_true]
      exact wk_litE (by rw [nat_lt]; exact decide_eq_false (Nat.lt_irrefl _))
    · show lastO _ _ = (lastO (delAll m l) ck).ren _
      rw [last_ren, List.take_length]
theorem gIn_ro : ∀ args, RO (gIn args) := by
  intro args
  unfold gIn
  repeat' split
  all_goals first | exact RO.ret _ | exact RO.fail _
theorem gTk_ro : ∀ args, RO (gTk args) := by
  intro args
  unfold gTk
  repeat' split
  all_goals first | exact RO.ret _ | exact RO.fail _
theorem oIn_cl (K : Nat → Bool) (L : List Al) (tn : Int) (m : IMap Int) (ck : Nat) (l : List Int) : ∀ x ∈ oIn L tn m ck l, x.2.cl K := all_cons trivial (all_cons (last_cl K m ck) (all_cons (cls_rowV _ _) all_nil))
theorem lIn_ok (n i : Nat) (at_ : Int) (l : List Int) (L : List Al) (tn : Int) (m : IMap Int) (ck : Nat) (hR : RoomI l) (hch : ∀ j, j < l.length → mlook (l.getD j 0) (delAll m (l.take j)) = some at_) (F : HP) : L1OK Try.prog F (loopN fOnce 21) (lIn n i at_ l L tn m (delAll m l) ck) :=
  mkL_ok (W := default) oldDef gIn_ro (fun _ _ => in_loop n i at_ l L tn m ck hR hch) fun _ => by
    simp only [RT.pick]
    exact closedT rfl rfl (all_cons rfl (all_cons rfl (all_cons trivial (all_cons trivial (all_cons trivial (all_cons rfl (all_cons trivial (all_cons trivial all_nil)))))))) (oIn_cl _ _ _ _ _ _) (all_cons rfl (all_cons rfl (all_cons trivial (all_cons trivial all_nil)))) (oIn_cl _ _ _ _ _ _)
/-! The ticks. -/
/-- What holds at a tick: i rounds are through. -/
structure TkS (n : Nat) (ck : Nat) (i : Nat) (L : List Al) (m : IMap Int) : Prop where
  rel : RelM L m ck
  le : L.length + i ≤ n
  big : BigL L
theorem tk_round (n i : Nat) (L : List Al) (tn : Int) (m : IMap Int) (ck : Nat) (hn : n < 9223372036854775807) (hS : TkS n ck i L m) (hi : i < n) {t : Int} (ht : nextOf L = some t) :
    TkS n ck (i + 1) (dueL L t).2 (delAll m (dueL L t).1) ∧ ∃ (con : ConsL) (hints : ClaimT) (lc : LcL), (∀ F, OldOK default F → ∀ x ∈ con, C1OK Try.prog F x.1 x.2) ∧ (∀ F, OldOK default F → ∀ x ∈ lc, L1OK Try.prog F x.2.2.1 x.2.2.2) ∧
      ∀ F, VAll (fun r os _ => r.2.2 = 92 ∧ r.1 = .normal ∧ ∃ l, FitT [0, 1] [2, 3, 4, 7, 8] r.2.1 os (aTk n (i + 1)) (oOn (dueL L t).2 tn (delAll m (dueL L t).1) ck) l) (wLoop con hints lc default fOnce (loopN fOnce 15) (tms 0 92 (aTk n i)) (oOn L tn m ck) [0, 1] [2, 3, 4, 7, 8] F) := by
  obtain ⟨c1, c2⟩ := dueL_chain hS.rel ht
  have hne := dueL_some ht
  have hlen := dueL_len L t
  have hp : 0 < (dueL L t).1.length := List.length_pos_iff.2 hne
  have hle := hS.le
  have hB := hS.big
  refine ⟨⟨c2, by omega, by unfold BigL at hB ⊢; omega⟩, conA [], hTk t (dueL L t).1.length i, [(fOnce, 21, loopN fOnce 21, lIn n i t (dueL L t).1 (dueL L t).2 tn m (delAll m (dueL L t).1) ck)], fun F _ => conA_ok [] (by unfold RoomI; exact Nat.zero_lt_succ _) F, fun F _ => one_l (lIn_ok n i t _ _ tn m ck (by unfold RoomI; omega) c1 F), fun F => ?_⟩
  refine cast (congrArg (VAll _) (oTkRound_eq n i t L (dueL L t).2 tn m (delAll m (dueL L t).1) ck (dueL L t).1 F).symm) ⟨⟨fun h => absurd (none_due h) hne, fun _ => ⟨?_, rfl, rfl, [], rfl, rfl, ⟨Wk.refl _, Wk.refl _, Wk.refl _, Wk.refl _, trivial⟩, ⟨_, rfl, OW.refl _⟩, ⟨_, rfl, OW.of_eq ?_⟩, trivial⟩⟩⟩
  · have hw := wrap_succ i (by omega)
    have hlt : decide (Int.ofNat i < Int.ofNat n) = true := by rw [nat_lt]; exact decide_eq_true hi
    simp only [Cnd.holds, ht, Option.getD_some, Option.isSome_some, rens_rowV, last_renE, true_and, and_true]
    and_intros
    all_goals first
      | (with_reducible exact rfl)
      | (with_reducible exact hB)
      | (with_reducible exact Wk.refl _)
      | (with_reducible exact VW.refl _)
      | (with_reducible exact OW.refl _)
      | (with_reducible exact wk_lit _)
      | exact wk_litE hlt
      | exact wk_int hw
      | exact wk_pair' rfl rfl
      | exact VW.refl _
      | exact Wk.refl _
      | ((repeat (first | exact VW.nil | refine VW.cons (Wk.refl _) ?_ | refine VW.cons (Wk.any _) ?_ | refine VW.cons (wk_cap (Nat.le_refl _)) ?_)); done)
      | exact OW.refl _
  · show _ = (lastO (delAll m (dueL L t).1) ck).ren _
    rw [last_ren, last_renE]; rfl
end Go.Proofs.Ytojfbgmeaadanaa.Alm

/- AlarmsOnce: the ticks; the law. -/
set_option linter.unusedVariables false
set_option linter.unusedSimpArgs false
set_option maxRecDepth 100000
namespace Go.Proofs.Ytojfbgmeaadanaa.Alm
open Go Go.RowKit Go.Proofs.Ytojfbgmeaadanaa.Eng Go.Proofs.Ytojfbgmeaadanaa.Kit
/-- A state of the rounds. -/
def TkZ (n : Nat) (ck : Nat) (b : Bool) : Type := {z : Nat × List Al × IMap Int // TkS n ck z.1 z.2.1 z.2.2 ∧ z.1 ≤ n ∧ early (n - z.1) z.2.1 = b ∧ (z.1 = 0 → z.2.1.length = n)}
theorem early_next {n i : Nat} {L : List Al} {b : Bool} {t : Int} (hi : i < n) (ht : nextOf L = some t) (h : early (n - i) L = b) : early (n - (i + 1)) (dueL L t).2 = b := by
  rw [show n - i = (n - (i + 1)) + 1 from by omega, early, ht] at h
  exact h
theorem tk_loopE (n : Nat) (tn : Int) (ck : Nat) (hn : n < 9223372036854775807) (z : TkZ n ck false) : LTri Try.prog default (loopN fOnce 15) (tms 0 92 (aTk n z.1.1)) (oOn z.1.2.1 tn z.1.2.2 ck) (.exit 2) (tms 0 92 zOn) (oOn [] tn [] ck) := by
  refine ltri_run (W := default) (g := fOnce) (b := loopN fOnce 15) (σ := TkZ n ck false) 92 (fun z => aTk n z.1.1) (fun z => oOn z.1.2.1 tn z.1.2.2 ck) (.exit 2) zOn (oOn [] tn [] ck) (fun z => n - z.1.1) [0, 1] [2, 3, 4, 7, 8] (by intro h; cases h) (fun _ => rfl) rfl ?_ z
  rintro ⟨⟨i, L, m⟩, hS, hin, he, h0⟩
  have hS : TkS n ck i L m := hS
  have hin : i ≤ n := hin
  have he : early (n - i) L = false := he
  by_cases hi : i < n
  · cases ht : nextOf L with
    | none =>
      rw [show n - i = (n - (i + 1)) + 1 from by omega, early, ht] at he
      cases he
    | some t =>
      obtain ⟨hS', con, hints, lc, q1, q2, q3⟩ := tk_round n i L tn m ck hn hS hi ht
      refine ⟨con, hints, lc, q1, q2, fun F => (q3 F).mono ?_⟩
      rintro r os x ⟨e1, e2, l, hf⟩
      exact ⟨e1, .inl ⟨e2, ⟨(i + 1, (dueL L t).2, delAll m (dueL L t).1), hS', hi, early_next hi ht he, fun h => by cases h⟩, sub_down hi, l, hf⟩⟩
  · have hie : i = n := by omega
    subst hie
    have hl := hS.le
    have hL : L = [] := List.eq_nil_of_length_eq_zero (by omega)
    subst hL
    have hm : m = [] := hS.rel.empty
    subst hm
    refine ⟨conA [], hintL [(fOnce, 15, 2, hv (.lit false))], [], fun F _ => conA_ok [] (by unfold RoomI; exact Nat.zero_lt_succ _) F, fun _ _ => noL, fun F => ?_⟩
    refine cast (congrArg (VAll _) (oTkEnd_eq i i [] tn [] ck F).symm) ⟨⟨?_, rfl, .inr ⟨rfl, [], rfl, rfl, ⟨Wk.refl _, Wk.refl _, trivial⟩, ⟨_, rfl, OW.refl _⟩, ⟨_, rfl, OW.of_eq (last_ren _ _ _).symm⟩, trivial⟩⟩⟩
    simp only [Cnd.holds, and_true]
    exact wk_litE (by rw [nat_lt]; exact decide_eq_false (Nat.lt_irrefl _))
theorem tk_loopR (n : Nat) (tn : Int) (ck : Nat) (hn : n < 9223372036854775807) (z : TkZ n ck true) : LTri Try.prog default (loopN fOnce 15) (tms 0 92 (aTk n z.1.1)) (oOn z.1.2.1 tn z.1.2.2 ck) .ret (tms 0 92 [(2, bv true)]) [] := by
  refine ltri_run (W := default) (g := fOnce) (b := loopN fOnce 15) (σ := TkZ n ck true) 92 (fun z => aTk n z.1.1) (fun z => oOn z.1.2.1 tn z.1.2.2 ck) .ret [(2, bv true)] [] (fun z => n - z.1.1) [0, 1] [2, 3, 4, 7, 8] (by intro h; cases h) (fun _ => rfl) rfl ?_ z
  rintro ⟨⟨i, L, m⟩, hS, hin, he, h0⟩
  have hS : TkS n ck i L m := hS
  have hin : i ≤ n := hin
  have he : early (n - i) L = true := he
  by_cases hi : i < n
  · cases ht : nextOf L with
    | none =>
      have hL := nextOf_none ht
      subst hL
      have hm : m = [] := hS.rel.empty
      subst hm
      have hpos : 0 < i := by
        rcases Nat.eq_zero_or_pos i with h | h
        · have := h0 h
          simp only [List.length_nil] at this
          omega
        · exact h
      have hlt : decide (Int.ofNat i < Int.ofNat n) = true := by rw [nat_lt]; exact decide_eq_true hi
      have hgt : decide (Int.ofNat i > Int.ofNat 0) = true := by
        simp only [Int.ofNat_eq_natCast, gt_iff_lt, decide_eq_true_eq]; omega
      refine ⟨conA [], hintL [(fOnce, 15, 2, hv (.lit true)), (fOnce, 17, 1, hv (.tuple [iv 0, .lit false])), (fOnce, 18, 1, hv (.lit true)), (fOnce, 19, 1, hv (.lit true))], [], fun F _ => conA_ok [] (by unfold RoomI; exact Nat.zero_lt_succ _) F, fun _ _ => noL, fun F => ?_⟩
      refine cast (congrArg (VAll _) (oTkRet_eq n i tn ck F).symm) ⟨⟨?_, rfl, .inr ⟨rfl, [], rfl, rfl, ⟨Wk.refl _, trivial⟩, trivial⟩⟩⟩
      simp only [Cnd.holds, true_and, and_true]
      exact ⟨wk_litE hlt, ⟨VW.refl _, OW.refl _, wk_pair' rfl rfl⟩, wk_lit _, wk_litE hgt⟩
    | some t =>
      obtain ⟨hS', con, hints, lc, q1, q2, q3⟩ := tk_round n i L tn m ck hn hS hi ht
      refine ⟨con, hints, lc, q1, q2, fun F => (q3 F).mono ?_⟩
      rintro r os x ⟨e1, e2, l, hf⟩
      exact ⟨e1, .inl ⟨e2, ⟨(i + 1, (dueL L t).2, delAll m (dueL L t).1), hS', hi, early_next hi ht he, fun h => by cases h⟩, sub_down hi, l, hf⟩⟩
  · have hie : i = n := by omega
    subst hie
    rw [Nat.sub_self] at he
    cases he
/-! The law. -/
theorem lOn_ok (W : World) (oa : Option Addr) (l : List Al) (c : Nat) (hI : InA W oa l) (F : HP) (hF : OldOK W F) : L1OK Try.prog F (loopN fOnce 8) (lOn (slV oa l.length c) l.length (setsL l) (Int.ofNat l.length) (setsM l).1 (setsM l).2) :=
  mkL_ok hF gTk_ro (fun _ _ => on_loop W oa l c hI) fun _ => by
    simp only [RT.pick]
    exact closedT rfl rfl (all_cons rfl (all_cons rfl (all_cons trivial (all_cons trivial (all_cons trivial all_nil))))) (oOn_cl _ _ _ _ _) (all_cons rfl (all_cons rfl all_nil)) (oOn_cl _ _ _ _ _)
theorem once_tri (W : World) (oa : Option Addr) (l : List Al) (c : Nat) (hI : InA W oa l) : Tri Try.prog W fOnce [slV oa l.length c] [] (.v (.bool true)) [] := by
  have hlo := lOn_ok W oa l c hI
  have hrel := rel_sets l
  have hB := hI.big
  have hlen := setsL_len l
  have hfew := hI.few
  generalize setsL l = L at *
  generalize (setsM l).1 = m at *
  generalize (setsM l).2 = ck at *
  generalize Int.ofNat l.length = tn at *
  have hn : L.length < 9223372036854775807 := by omega
  have hS : TkS L.length ck 0 L m := ⟨hrel, Nat.le_refl _, hB⟩
  cases he : early L.length L with
  | true =>
    have hk : ∀ F, L1OK Try.prog F (loopN fOnce 15) (lTkR L.length L tn m ck) := fun F => mkL_ok (W := default) oldDef gTk_ro (fun _ _ => tk_loopR L.length tn ck hn ⟨(0, L, m), hS, Nat.zero_le _, he, fun _ => rfl⟩) fun _ => by
      simp only [RT.pick]
      exact closedT rfl rfl (all_cons rfl (all_cons rfl (all_cons trivial (all_cons trivial all_nil)))) (oOn_cl _ _ _ _ _) (all_cons trivial all_nil) all_nil
    refine tri_run (con := conA []) (hints := hOnL) (lc := [(fOnce, 8, loopN fOnce 8, lOn (slV oa l.length c) l.length L tn m ck), (fOnce, 15, loopN fOnce 15, lTkR L.length L tn m ck)]) [] rfl (fun F _ => conA_ok [] (by unfold RoomI; exact Nat.zero_lt_succ _) F) (fun F hF => fun x hx => by
      rcases List.mem_cons.1 hx with rfl | hx
      · exact hlo F hF
      · exact one_l (hk F) x hx) fun F => ?_
    refine cast (congrArg (VAll _) (oOnR_eq W oa l.length c L tn m ck F).symm) ⟨⟨?_, fits_true⟩⟩
    simp only [Cnd.holds, last_renE, true_and, and_true]
    and_intros
    all_goals first
      | (with_reducible exact rfl)
      | (with_reducible exact Wk.refl _)
      | (with_reducible exact VW.refl _)
      | (with_reducible exact OW.refl _)
      | (with_reducible exact wk_lit _)
      | exact VW.refl _
      | exact Wk.refl _
      | ((repeat (first | exact VW.nil | refine VW.cons (Wk.refl _) ?_ | refine VW.cons (Wk.any _) ?_ | refine VW.cons (wk_cap (Nat.le_refl _)) ?_)); done)
      | exact OW.refl _
  | false =>
    have hk : ∀ F, L1OK Try.prog F (loopN fOnce 15) (lTkE L.length L tn m ck) := fun F => mkL_ok (W := default) oldDef gTk_ro (fun _ _ => tk_loopE L.length tn ck hn ⟨(0, L, m), hS, Nat.zero_le _, he, fun _ => rfl⟩) fun _ => by
      simp only [RT.pick]
      exact closedT rfl rfl (all_cons rfl (all_cons rfl (all_cons trivial (all_cons trivial all_nil)))) (oOn_cl _ _ _ _ _) (all_cons rfl (all_cons rfl all_nil)) (oOn_cl _ _ _ _ _)
    refine tri_run (con := conA []) (hints := hOnL) (lc := [(fOnce, 8, loopN fOnce 8, lOn (slV oa l.length c) l.length L tn m ck), (fOnce, 15, loopN fOnce 15, lTkE L.length L tn m ck)]) [] rfl (fun F _ => conA_ok [] (by unfold RoomI; exact Nat.zero_lt_succ _) F) (fun F hF => fun x hx => by
      rcases List.mem_cons.1 hx with rfl | hx
      · exact hlo F hF
      · exact one_l (hk F) x hx) fun F => ?_
    refine cast (congrArg (VAll _) (oOnE_eq W oa l.length c L tn m ck F).symm) ⟨⟨?_, fits_true⟩⟩
    simp only [Cnd.holds, last_renE, true_and, and_true]
    and_intros
    all_goals first
      | (with_reducible exact rfl)
      | (with_reducible exact Wk.refl _)
      | (with_reducible exact VW.refl _)
      | (with_reducible exact OW.refl _)
      | (with_reducible exact wk_lit _)
      | exact VW.refl _
      | exact Wk.refl _
      | ((repeat (first | exact VW.nil | refine VW.cons (Wk.refl _) ?_ | refine VW.cons (Wk.any _) ?_ | refine VW.cons (wk_cap (Nat.le_refl _)) ?_)); done)
      | exact OW.refl _
end Go.Proofs.Ytojfbgmeaadanaa.Alm

/- For every list of alarms: every one that was set comes due once, and only once, by its last tick. -/
set_option linter.unusedVariables false
set_option linter.unusedSimpArgs false
namespace Go.Proofs.Ytojfbgmeaadanaa.alarmsOnce
open Go.ChangeShapes Go.WideShapes Go.ChangeAt Go.RowKit Go.Proofs.Ytojfbgmeaadanaa.Eng Go.Proofs.Ytojfbgmeaadanaa.Kit

theorem own : ownKnob Try.prog.godebug = none := by kernel_rfl
theorem laidOut : laidOutB Try.prog = true := by kernel_rfl

set_option maxRecDepth 100000 in
theorem lifted (os : Os) (started : os.Started) (H : Type) (enc : TypeId × Value → H) :
    ReturnsInHanded {} Try.checked os 4 .any (Rows.alarmsOnceSpec.pre6 enc Try.prog Try.f4 Rows.alarmsOnceRow.domain false) (Rows.alarmsOnceSpec.post enc Try.prog Try.f4 false true false false) := by
  refine returnsInHanded_of_change_sized (C := Try.checked) own started (by kernel_rfl) Try.func4
    (ChangeSpec.witness6 (enc := enc) (C := Try.checked) false ⟨#[], #[.slice none 0 0], []⟩ 8 (by kernel_rfl) (by kernel_rfl) (by kernel_rfl) (by kernel_rfl)) ?_
  intro W base args ds gs before hval0 hW hcnd hsz0 _
  have hval : ∀ (j : Nat) t v, Try.f4.params[j]? = some t → args[j]? = some v → Value.okWide Try.prog W .any base t v := hval0
  have hsz : (DataW.weightsEach Try.prog (Try.f4.params.toList ++ Rows.alarmsOnceSpec.plain.varTypes Try.prog) (ds ++ gs)).all (· ≤ reachBytes) = true := hsz0
  have hW' := hW
  obtain ⟨p, q, hA0, hV, rfl, hfz, hnd⟩ := hW
  have hA : DataW.TrodAll enc Try.prog W 0 (fun _ => true) true Try.f4.params.toList args.toList ds p := hA0
  rw [Try.params4] at hA hval hsz
  obtain ⟨v0, vs0, d0, ds0, p0, q0, hargs, rfl, rfl, h0, r0⟩ := trodAll_cons hA
  obtain ⟨rfl, rfl, rfl⟩ := trodAll_nil r0
  obtain rfl : args = #[v0] := by cases args; simp_all
  obtain ⟨rfl, rfl⟩ := trodVars_none hV
  have k0 := h0
  have lt0 : ∀ x ∈ p0, x.block < W.heap.size := by obtain ⟨m, hm⟩ := k0; exact DataW.trod_lt m _ _ _ hm
  obtain ⟨A0, len0, cap0, rfl⟩ := okWide_slice Try.underlying22 (hval 0 22 v0 rfl rfl)
  obtain ⟨fu0, hf0⟩ := h0
  obtain ⟨l0, rfl, _, hb0, hrd0, hq0⟩ := open_rd Alm.enc2 (by decide) Alm.enc2_length Try.underlying22 (by kernel_rfl) (fun n cs x h hL => Alm.cells_al h) hf0 (light_args hsz (j := 0) rfl rfl)
  have hs0 : l0.length * 16 ≤ 140737488355328 := by have e : Try.prog.bytesOf 27 = 16 := (by kernel_rfl); rw [e] at hb0; have : reachBytes ≤ 140737488355328 := (by decide); omega
  clear hA0 hval0
  refine (law_calls (Alm.once_tri W A0 l0 cap0 (Alm.inA_of_rd hrd0 hs0))).mono fun e W' ⟨he, bel⟩ => ?_
  subst he
  exact ⟨_, rfl, _, _, _, [], _, [], hW', trodAll_mk1 (shut_bool Try.underlying4 _), (trodAll_cons_mk (Below.trod laidOut (by kernel_rfl) (of_decide_eq_true (by kernel_rfl)) k0 bel lt0) trodAll_mk0), rfl, bel.frame _, fun h => by cases h⟩

theorem proved : Rows.AlarmsOnceSaid :=
  OpenClaim.holds_of_wide 4 Try.f4 rfl rfl rfl rfl rfl rfl rfl ⟨rfl, rfl, rfl, rfl, rfl⟩ rfl rfl rfl rfl rfl (by kernel_rfl) Try.func4 (by kernel_rfl)
    (of_decide_eq_true (by kernel_rfl)) (by unfold Func.isWrapper; first | (rw [if_pos (by decide +kernel)]; kernel_rfl) | (rw [if_neg (by decide +kernel)]; exact ⟨rfl, rfl⟩))
    (fun os started H enc _ => lifted os started H enc)
#print axioms proved
end Go.Proofs.Ytojfbgmeaadanaa.alarmsOnce

