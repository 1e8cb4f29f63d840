/- The pile's methods: contracts. -/
import Derived.Test.YtcpijmlaglcblaaRkPile
import Derived.IntWalk
set_option linter.unusedVariables false
set_option linter.unusedSimpArgs false
set_option maxRecDepth 100000
namespace Go.Proofs.Ytcpijmlaglcblaa.Rk
open Go Go.RowKit Go.Proofs.Ytcpijmlaglcblaa.Eng
theorem intT : Try.prog.underlying 3 = some (.int .i64) := by kernel_rfl
theorem noC : ∀ x ∈ ([] : List (FuncId × (List AV → Option (AP AV)))), ∀ F, C1OK Try.prog F x.1 x.2 := fun x hx => by cases hx
theorem noL : ∀ x ∈ ([] : List (FuncId × Nat × Code × (List AV → AP (AX × List AV)))), ∀ F, L1OK Try.prog F x.2.2.1 x.2.2.2 := fun x hx => by cases hx
theorem at_append (s : Ps) (i : Nat) (hi : i < s.xs.length) : (s.xs ++ s.g).getD i It.zero = at' s i := by
  simp [at', List.getD, List.getElem?_append_left hi]
theorem row_at (s : Ps) (i : Nat) (hi : i < s.xs.length) : List.take 3 (List.drop (0 + i * 3) (rowV enc (s.xs ++ s.g))) = vmap (enc (at' s i)) := by
  rw [Nat.zero_add, rowV_span enc_length _ It.zero i (by rw [List.length_append]; omega), at_append s i hi]
theorem row_len (s : Ps) : (rowV enc (s.xs ++ s.g)).length = (s.xs.length + s.g.length) * 3 := by rw [rowV_length enc_length, List.length_append]
theorem oldDef {F : HP} : OldOK default F := OldOK.nothing F
/-- A pile that lies open is shut. -/
theorem fits_pile {ks : List Nat} {os : List (Option AO)} {u v : AV} (s : Ps) (l : List (Nat × Nat)) (hk : keysIn (pL s) l = true) (hi : injB ((pL s).map (·.1)) (sg l) = true) (hv : VW [u] (AV.rens (sg l) [v])) (hc : AV.cls (fun i => Nat.blt i 1000) [v])
    (ho : ObjsOK ks os l (pL s)) : Fits ks [u] os [v] [(0, pO s)] := by
  refine ⟨[v], pL s, l, rfl, fit_mk l hk hi hv ho, ?_⟩
  have := Goes.shut (σ := Unit) (R := fun _ => True) (L := fun _ => pL s) (m := .pile s) (H0 := []) (vs := [v]) () trivial rfl ⟨_, _, rfl, rfl⟩ (by
    have e : (fun i => Nat.blt i 1000 || (getO ([] : LH) i).isSome) = fun i => Nat.blt i 1000 := by funext i; simp [getO]
    rw [e]; exact hc) (fun x hx => by cases hx)
  rwa [List.append_nil] at this
theorem open_pile {f : FuncId} {A : List AV} {s : Ps} {v : AV} {H' : LH} (h : Tri Try.prog default f A (pL s) v H') : Tri Try.prog default f A [(0, pO s)] v H' := by
  refine Tri.open (σ := Unit) (R := fun _ => True) (L := fun _ => pL s) (H0 := []) (fun _ => rfl) (fun _ x hx => ?_) (fun _ => ⟨_, rfl⟩) (fun _ _ => by rw [List.append_nil]; exact h)
  simp only [pL, List.mem_cons, List.not_mem_nil, or_false] at hx
  rcases hx with rfl | rfl | rfl
  · exact ⟨rfl, rfl, trivial⟩
  · exact cls_rowV _ _
  · show clE _ (mE iv s.m)
    have : ∀ m : IMap Int, clE (kH (pL s)) (mE iv m) := by
      intro m
      induction m with
      | nil => exact trivial
      | cons e m ih => exact ⟨trivial, trivial, ih⟩
    exact this s.m
theorem open_pile0 {f : FuncId} {A : List AV} {v : AV} {H' : LH} (h : Tri Try.prog default f A pL0 v H') : Tri Try.prog default f A [(0, pO0)] v H' := by
  refine Tri.open (σ := Unit) (R := fun _ => True) (L := fun _ => pL0) (H0 := []) (fun _ => rfl) (fun _ x hx => ?_) (fun _ => ⟨_, rfl⟩) (fun _ _ => by rw [List.append_nil]; exact h)
  simp only [pL0, List.mem_cons, List.not_mem_nil, or_false] at hx
  rcases hx with rfl | rfl
  · exact ⟨trivial, rfl, trivial⟩
  · exact trivial
theorem wk_int {a b : Int} (h : a = b) : Wk (.v (.int .i64 a)) (.v (.int .i64 b)) := Wk.of_eq (by rw [h])
theorem renE_mE (σ : Nat → Nat) (m : IMap Int) : renE σ (mE iv m) = mE iv m := by
  induction m with
  | nil => rfl
  | cons e m ih =>
    show renE σ ((.v (.int .i64 e.1), iv e.2.1, e.2.2) :: mE iv m) = _
    rw [renE, ih]; rfl
theorem objs_pile {ks : List Nat} {os : List (Option AO)} {l : List (Nat × Nat)} (s : Ps) {r m : Nat} (h00 : sg l 0 = 0) (hr : sg l 1001 = r) (hm : sg l 1002 = m) (h0 : getK ks os 0 = some (.cells [.slice r 0 s.xs.length 3 (.lo (s.xs.length + s.g.length)), .map m] tLine))
    (h1 : getK ks os r = some (.cells (rowV enc (s.xs ++ s.g)) tIt)) (h2 : getK ks os m = some (.map (mE iv s.m) s.ck)) : ObjsOK ks os l (pL s) := by
  refine ⟨⟨_, by rw [h00]; exact h0, OW.of_eq ?_⟩, ⟨_, by rw [hr]; exact h1, OW.of_eq ?_⟩, ⟨_, by rw [hm]; exact h2, OW.of_eq ?_⟩, trivial⟩
  · simp only [AO.ren, AV.rens, AV.ren, hr, hm]
  · simp only [AO.ren, rens_rowV]
  · simp only [AO.ren, renE_mE]
theorem ahead_tri (x y : It) : Tri Try.prog default 23 [itA x, itA y] [] (.v (.bool (ahead x y))) [] := by
  refine tri_run (con := []) (hints := noHints) (lc := []) [] rfl noC noL fun F => ?_
  rw [oAhead_eq]
  have fin : ∀ b, b = ahead x y → Fits [] [.v (.bool b)] [] [.v (.bool (ahead x y))] [] := fun b hb => (fit_mk [] rfl rfl (by subst hb; exact VW.refl _) (show ObjsOK [] [] [] [] from trivial)).fits rfl
  refine ⟨fun h1 => ⟨?_, fin _ ?_⟩, fun h1 => ⟨fun h2 => ⟨?_, fin _ ?_⟩, fun h2 => ⟨?_, fin _ ?_⟩⟩⟩
  · simp only [Cnd.holds, and_self]
  · simp only [ahead, ← gt_iff_lt, h1, Bool.true_or]
  · simp only [Cnd.holds, and_self]
  · simp only [ahead, ← gt_iff_lt, h1, h2, Bool.false_or, Bool.true_and]
  · simp only [Cnd.holds, and_self]
  · simp only [ahead, ← gt_iff_lt, h1, h2, Bool.false_or, Bool.false_and]
theorem conA_ok : ∀ x ∈ conA, ∀ F, C1OK Try.prog F x.1 x.2 := by
  intro x hx F
  simp only [conA, List.mem_cons, List.not_mem_nil, or_false] at hx
  subst hx
  intro st W0 N h w args vargs v h' n n' lg lg' c p hp he hc r ha hf
  simp only at hp
  split at hp
  · rename_i a b c a' b' c'
    cases hp
    have hcl : ClosedC [itA ⟨a, b, c⟩, itA ⟨a', b', c'⟩] [] [.v (.bool (ahead ⟨a, b, c⟩ ⟨a', b', c'⟩))] [] := ⟨rfl, rfl, ⟨⟨trivial, trivial, trivial, trivial⟩, ⟨trivial, trivial, trivial, trivial⟩, trivial⟩, (fun x hx => by cases hx), ⟨trivial, trivial⟩, fun x hx => by cases hx⟩
    exact useC_ok oldDef (ahead_tri ⟨a, b, c⟩ ⟨a', b', c'⟩) rfl hcl he hc r ha hf
  · cases hp
theorem less_tri (s : Ps) (i j : Nat) (hi : i < s.xs.length) (hj : j < s.xs.length) : Tri Try.prog default fLess [.ptr 0 0, iv (Int.ofNat i), iv (Int.ofNat j)] [(0, pO s)] (.v (.bool (ahead (at' s i) (at' s j)))) [(0, pO s)] := by
  refine open_pile (tri_run (con := conA) (hints := hLess s i j) (lc := []) [0, 1001, 1002] rfl conA_ok noL fun F => ?_)
  rw [oLess_eq]
  refine ⟨?_, fits_pile s [(1001, 1001), (1002, 1002)] (by kernel_rfl) (by kernel_rfl) (VW.refl _) ⟨trivial, trivial⟩ (objs_pile s rfl rfl rfl rfl rfl rfl)⟩
  simp only [Cnd.holds, row_at s i hi, row_at s j hj, true_and, and_true, Nat.blt_eq]
  exact ⟨hi, ⟨rfl, rfl, Wk.refl _⟩, hj, ⟨rfl, rfl, Wk.refl _⟩, VW.refl _⟩
theorem row_store (s : Ps) (ys : List It) (i : Nat) (y : It) (hi : i < ys.length) : splice (rowV enc (ys ++ s.g)) (0 + i * 3) (vmap (enc y)) = rowV enc (ys.set i y ++ s.g) := by
  rw [Nat.zero_add, rowV_splice enc_length _ i y (by rw [List.length_append]; omega), List.set_append_left _ _ hi]
theorem row_seq (s : Ps) (ys : List It) (i : Nat) (hi : i < ys.length) : (rowV enc (ys ++ s.g)).getD (0 + i * 3 + 1) (AV.v (Value.tuple { toList := [] })) = iv (ys.getD i It.zero).b := by
  have h := rowV_span enc_length (ys ++ s.g) It.zero i (by rw [List.length_append]; omega)
  have h2 : ((rowV enc (ys ++ s.g)).drop (i * 3)).take 3 = vmap (enc (ys.getD i It.zero)) := by rw [h]; simp [List.getD, List.getElem?_append_left hi]
  have h3 : (((rowV enc (ys ++ s.g)).drop (i * 3)).take 3)[1]? = (vmap (enc (ys.getD i It.zero)))[1]? := by rw [h2]
  rw [List.getElem?_take_of_lt (by decide), List.getElem?_drop] at h3
  rw [Nat.zero_add, List.getD, h3]
  rfl
theorem swap_len (s : Ps) (i j : Nat) : (swapS s i j).xs.length = s.xs.length := by simp [swapS]
theorem swap_at_i (s : Ps) (i j : Nat) (hi : i < s.xs.length) (hj : j < s.xs.length) : (swapS s i j).xs.getD i It.zero = at' s j := by
  simp only [swapS, at', List.getD]
  by_cases h : j = i
  · subst h; simp [hj]
  · rw [List.getElem?_set_ne h, List.getElem?_set_self hi]; rfl
theorem swap_at_j (s : Ps) (i j : Nat) (hi : i < s.xs.length) (hj : j < s.xs.length) : (swapS s i j).xs.getD j It.zero = at' s i := by
  simp only [swapS, at', List.getD]
  rw [List.getElem?_set_self (by simpa using hj)]; rfl
theorem swap_tri (s : Ps) (i j : Nat) (hi : i < s.xs.length) (hj : j < s.xs.length) (hM : MI s.m s.ck) : Tri Try.prog default fSwap [.ptr 0 0, iv (Int.ofNat i), iv (Int.ofNat j)] [(0, pO s)] (.tuple []) [(0, pO (swapS s i j))] := by
  refine open_pile (tri_run (con := []) (hints := hSwap s i j) (lc := []) [0, 1001, 1002] rfl noC noL fun F => ?_)
  rw [oSwap_eq]
  have hgl : (swapS s i j).g = s.g := rfl
  refine ⟨?_, fits_pile (swapS s i j) [(1001, 1001), (1002, 1002)] (by kernel_rfl) (by kernel_rfl) (VW.refl _) ⟨trivial, trivial⟩ (objs_pile (swapS s i j) rfl rfl rfl (by rw [swap_len]; rfl) rfl rfl)⟩
  have e1 := row_store s s.xs i (at' s j) hi
  have e2 := row_store s (s.xs.set i (at' s j)) j (at' s i) (by simpa using hj)
  have e3 : (rowV enc ((s.xs.set i (at' s j)).set j (at' s i) ++ s.g)).getD (0 + i * 3 + 1) (AV.v (Value.tuple { toList := [] })) = iv (at' s j).b := by rw [row_seq s _ i (by simpa using hi)]; exact congrArg (fun x => iv x.b) (swap_at_i s i j hi hj)
  have e4 : (rowV enc ((s.xs.set i (at' s j)).set j (at' s i) ++ s.g)).getD (0 + j * 3 + 1) (AV.v (Value.tuple { toList := [] })) = iv (at' s i).b := by rw [row_seq s _ j (by simpa using hj)]; exact congrArg (fun x => iv x.b) (swap_at_j s i j hi hj)
  have l1 : (rowV enc (s.xs ++ s.g)).length = (s.xs.length + s.g.length) * 3 := row_len s
  have l2 : (rowV enc (s.xs.set i (at' s j) ++ s.g)).length = (s.xs.length + s.g.length) * 3 := by rw [rowV_length enc_length, List.length_append, List.length_set]
  have l3 : (rowV enc ((s.xs.set i (at' s j)).set j (at' s i) ++ s.g)).length = (s.xs.length + s.g.length) * 3 := by rw [rowV_length enc_length, List.length_append, List.length_set, List.length_set]
  obtain ⟨m1, m2⟩ := ensE_mE (ev := iv) hM (at' s j).b (.v (.int .i64 (Int.ofNat 0)))
  obtain ⟨m3, m4⟩ := ensE_mE (ev := iv) (hM.mset (at' s j).b (i : Int)) (at' s i).b (.v (.int .i64 (Int.ofNat 0)))
  simp only [Cnd.holds, row_at s i hi, row_at s j hj, true_and, and_true, Nat.blt_eq, Nat.ble_eq, e3, e4, l1, l2, l3]
  and_intros
  all_goals first
    | exact Wk.refl _
    | exact ow_cells e1
    | exact ow_cells e2
    | exact ow_map (m2 _) (bumpE_mE ..)
    | exact ow_map (m4 _) (bumpE_mE ..)
    | exact findKey_mE intT _ _ _
    | exact staysS_mE _ _
    | exact m1
    | exact m3
    | omega
    | rfl
theorem len_tri (s : Ps) : Tri Try.prog default fLen [.ptr 0 0] [(0, pO s)] (iv (Int.ofNat s.xs.length)) [(0, pO s)] := by
  refine open_pile (tri_run (con := []) (hints := noHints) (lc := []) [0, 1001, 1002] rfl noC noL fun F => ?_)
  rw [oLen_eq]
  exact ⟨by simp only [Cnd.holds, and_self], fits_pile s [(1001, 1001), (1002, 1002)] (by kernel_rfl) (by kernel_rfl) (VW.refl _) ⟨trivial, trivial⟩ (objs_pile s rfl rfl rfl rfl rfl rfl)⟩
theorem fits_pile0 {ks : List Nat} {os : List (Option AO)} {u v : AV} (l : List (Nat × Nat)) (hk : keysIn pL0 l = true) (hi : injB (pL0.map (·.1)) (sg l) = true) (hv : VW [u] (AV.rens (sg l) [v])) (hc : AV.cls (fun i => Nat.blt i 1000) [v])
    (ho : ObjsOK ks os l pL0) : Fits ks [u] os [v] [(0, pO0)] := by
  refine ⟨[v], pL0, l, rfl, fit_mk l hk hi hv ho, ?_⟩
  have := Goes.shut (σ := Unit) (R := fun _ => True) (L := fun _ => pL0) (m := .pile0) (H0 := []) (vs := [v]) () trivial rfl ⟨_, _, rfl, rfl⟩ (by
    have e : (fun i => Nat.blt i 1000 || (getO ([] : LH) i).isSome) = fun i => Nat.blt i 1000 := by funext i; simp [getO]
    rw [e]; exact hc) (fun x hx => by cases hx)
  rwa [List.append_nil] at this
theorem len0_tri : Tri Try.prog default fLen [.ptr 0 0] [(0, pO0)] (iv (Int.ofNat 0)) [(0, pO0)] := by
  refine open_pile0 (tri_run (con := []) (hints := noHints) (lc := []) [0, 1002] rfl noC noL fun F => ?_)
  rw [oLen0_eq]
  exact ⟨by simp only [Cnd.holds, and_self], fits_pile0 [(1002, 1002)] (by kernel_rfl) (by kernel_rfl) (VW.refl _) ⟨trivial, trivial⟩ ⟨⟨_, rfl, OW.refl _⟩, ⟨_, rfl, OW.refl _⟩, trivial⟩⟩
def pushS (s : Ps) (x : It) : Ps := ⟨s.xs ++ [x], [], mset s.m s.ck x.b s.xs.length, mbump s.m s.ck x.b⟩
/-- There is room for one more. -/
def Room (s : Ps) : Prop := (s.xs.length + 1) * 24 ≤ 140737488355328
theorem push_tri (s : Ps) (x : It) (hR : Room s) : Tri Try.prog default fPush [.ptr 0 0, .iface 27 (itA x)] [(0, pO s)] (.tuple []) [(0, pO (pushS s x))] := by
  refine open_pile (tri_run (con := []) (hints := noHints) (lc := []) [0, 1001, 1002, 1100, 1101, 1102, 1103] rfl noC noL fun F => ?_)
  rw [oPush_eq]
  have hx : List.take (s.xs.length * 3) (List.drop 0 (rowV enc (s.xs ++ s.g))) = rowV enc s.xs := by
    rw [List.drop_zero, rowV_take enc_length]; simp
  have e1 : List.take (s.xs.length * 3) (List.drop 0 (rowV enc (s.xs ++ s.g))) ++ vmap (enc x) = rowV enc ((pushS s x).xs ++ (pushS s x).g) := by
    rw [hx, ← rowV_one (enc := enc), ← rowV_append]; simp [pushS]
  have e2 := setE_mE (ev := iv) x.b (s.xs.length : Int) s.m s.ck
  have hlen : (pushS s x).xs.length = s.xs.length + 1 := by simp [pushS]
  refine ⟨?_, fits_pile (pushS s x) [(1001, 1102), (1002, 1002)] (by kernel_rfl) (by kernel_rfl) (VW.refl _) ⟨trivial, trivial⟩ (objs_pile (pushS s x) rfl rfl rfl ?_ ?_ ?_)⟩
  · have hR' : (s.xs.length + 1) * 24 ≤ 140737488355328 := hR
    simp only [Cnd.holds, true_and, and_true, Nat.ble_eq, row_len, hx, rowV_length enc_length, List.length_append]
    and_intros
    all_goals first
      | rfl
      | exact findKey_mE intT _ _ _
      | exact staysS_mE _ _
      | omega
      | exact Nat.beq_refl _
  · rw [hlen]; rfl
  · exact congrArg (fun r => some (AO.cells r tIt)) e1
  · show some (AO.map (setE _ _ _ _) (bumpE _ _ _)) = _
    rw [bumpE_mE]
    exact congrArg (fun r => some (AO.map r _)) e2
theorem push0_tri (x : It) : Tri Try.prog default fPush [.ptr 0 0, .iface 27 (itA x)] [(0, pO0)] (.tuple []) [(0, pO (pushS ⟨[], [], [], 0⟩ x))] := by
  refine open_pile0 (tri_run (con := []) (hints := noHints) (lc := []) [0, 1002, 1100, 1101, 1102, 1103] rfl noC noL fun F => ?_)
  rw [oPush0_eq]
  refine ⟨?_, fits_pile _ [(1001, 1102), (1002, 1002)] (by kernel_rfl) (by kernel_rfl) (VW.refl _) ⟨trivial, trivial⟩ (objs_pile _ rfl rfl rfl rfl rfl rfl)⟩
  simp only [Cnd.holds, true_and, and_true]
  exact ⟨rfl, fun j v h => by cases h⟩
/-- The last item goes. -/
def popS (s : Ps) : Ps := ⟨s.xs.dropLast, at' s (s.xs.length - 1) :: s.g, mdel s.m (at' s (s.xs.length - 1)).b, s.ck⟩
theorem pop_tri (s : Ps) (h0 : 0 < s.xs.length) (hb : s.xs.length ≤ 9223372036854775807) : Tri Try.prog default fPop [.ptr 0 0] [(0, pO s)] (.iface 27 (itA (at' s (s.xs.length - 1)))) [(0, pO (popS s))] := by
  refine open_pile (tri_run (con := []) (hints := hPop s) (lc := []) [0, 1001, 1002] rfl noC noL fun F => ?_)
  rw [oPop_eq]
  have hxs : s.xs.dropLast ++ [at' s (s.xs.length - 1)] = s.xs := by
    have hne : s.xs ≠ [] := fun e => by rw [e] at h0; cases h0
    have : at' s (s.xs.length - 1) = s.xs.getLast hne := by
      rw [at', List.getD, List.getElem?_eq_getElem (by omega), List.getLast_eq_getElem]; rfl
    rw [this, List.dropLast_concat_getLast]
  have hrow : (popS s).xs ++ (popS s).g = s.xs ++ s.g := by
    show s.xs.dropLast ++ (at' s (s.xs.length - 1) :: s.g) = _
    rw [← List.singleton_append, ← List.append_assoc, hxs]
  have hl1 : (popS s).xs.length = s.xs.length - 1 := by simp [popS]
  have hl2 : (popS s).xs.length + (popS s).g.length = s.xs.length + s.g.length := by rw [← List.length_append, hrow, List.length_append]
  refine ⟨?_, fits_pile (popS s) [(1001, 1001), (1002, 1002)] (by kernel_rfl) (by kernel_rfl) (VW.refl _) ⟨⟨trivial, trivial, trivial, trivial⟩, trivial⟩ (objs_pile (popS s) rfl rfl rfl ?_ ?_ ?_)⟩
  · simp only [Cnd.holds, true_and, and_true, Nat.ble_eq, Nat.blt_eq, row_at s (s.xs.length - 1) (by omega)]
    have hwr : IntKind.i64.wrap ((s.xs.length : Int) - Int.ofNat 1) = Int.ofNat (s.xs.length - 1) := by
      rw [IntWalk.i64_in _ (by simp only [Int.ofNat_eq_natCast]; omega)]; simp only [Int.ofNat_eq_natCast]; omega
    and_intros
    all_goals first
      | exact Wk.refl _
      | exact wk_int hwr
      | exact findKey_mE intT _ _ _
      | omega
      | rfl
  · rw [hl2, hl1]; rfl
  · rw [hrow]; rfl
  · show some (AO.map (delE _ _) _) = _
    rw [delE_mE]; rfl
end Go.Proofs.Ytcpijmlaglcblaa.Rk
