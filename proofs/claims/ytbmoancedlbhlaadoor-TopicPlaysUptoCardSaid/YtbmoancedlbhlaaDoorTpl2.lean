/- Parts of the proof, merged. -/
import Derived.Test.YtbmoancedlbhlaaDoorTpl1
import Derived.WalkKit
import Derived.Lib.Strings
import Derived.Lib.Slices
import Derived.Lib.Walk
import Derived.Lib.Bytealg
import Derived.Test.YtbmoancedlbhlaaDoorSorts
import Derived.Test.YtbmoancedlbhlaaDoorEngKMap
import Derived.Test.YtbmoancedlbhlaaDoorEngCon
import Derived.Maps.OwnSet
import Derived.Shelf.SlMaps.Copy
import Derived.Test.YtbmoancedlbhlaaDoorEngLoopE
import Derived.Test.YtbmoancedlbhlaaDoorEngKit3
/- Topic: a front behind a word; a pattern against a key. -/
set_option linter.unusedVariables false
set_option linter.unusedSimpArgs false
set_option maxRecDepth 100000
namespace Go.Proofs.YtbmoancedlbhlaaDoor.Tpc
open Go Go.RowKit Go.Proofs.YtbmoancedlbhlaaDoor.Eng Go.Proofs.YtbmoancedlbhlaaDoor.Kit
section
variable {G X : List Nd} {g root : Nat}
def Closed (M : Path → Prop) : Prop := ∀ p, M p → M (p ++ [hash])
theorem Closed.on {M : Path → Prop} (h : Closed M) (p : Path) (i : Nat) (hm : M (p ++ hs i)) : M (p ++ hs (i + 1)) := by
  rw [hs_succ, ← List.append_assoc]; exact h _ hm
theorem closed_or {M M' : Path → Prop} (h : Closed M) (h' : Closed M') : Closed (fun p => M p ∨ M' p) := fun p hp => hp.elim (fun q => .inl (h p q)) (fun q => .inr (h' p q))
theorem closed_hs (q : Path) : Closed (fun p => ∃ i, p = q ++ hs i) := fun p ⟨i, e⟩ => ⟨i + 1, by rw [e, hs_succ, List.append_assoc]⟩
theorem FI.node (h : Shp G X g root) {f : Fr} {M : Path → Prop} (hf : FI G f M) (hc : Closed M) {s : Nd} (hs' : s ∈ G) {loop : Bool} (hl : loop = true ↔ EndH s.p) : FI G (standC (chOf (G ++ X) s.b) f loop) (fun p => M p ∨ ∃ i, p = s.p ++ hs i) := by
  obtain ⟨h1, c, h2⟩ := h.tree.chain (List.mem_map_of_mem (List.mem_append_left X hs'))
  exact FI.stand h h1 s hs' c h2 f M loop hf (fun i => hc.on _ i) hl
theorem endH_not {p : Path} {w : ByteArray} (hw : w ≠ hash) : ¬ EndH (p ++ [w]) := fun ⟨q, e⟩ => hw (by
  have := List.append_inj_right' e rfl
  simpa using this)
theorem FI.kid (h : Shp G X g root) {f : Fr} {M : Path → Prop} (hf : FI G f M) (hc : Closed M) {s : Nd} (hs' : s ∈ G) {w : ByteArray} (hw : w ≠ hash) : FI G (stB (G ++ X) f (klook w s.nx)) (fun q => M q ∨ ∃ i, q = (s.p ++ [w]) ++ hs i) := by
  cases hk : klook w s.nx with
  | none =>
    refine hf.congr fun t ht => ⟨.inl, fun q => ?_⟩
    rcases q with q | ⟨i, q⟩
    · exact q
    · obtain ⟨c, hc⟩ := h.below hs' i t ht w (by rw [q]; simp)
      rw [hk] at hc; cases hc
  | some b =>
    obtain ⟨t, ht, hp, hb⟩ := h.nx s hs' w b hk
    have := FI.node h hf hc ht (loop := false) ⟨fun e => (by cases e), fun e => absurd e (by rw [hp]; exact endH_not hw)⟩
    rw [hb, hp] at this
    exact this
def Next (w : ByteArray) (p q : Path) : Prop := (EndH p ∧ ∃ i, q = p ++ hs i) ∨ (∃ i, q = (p ++ [star]) ++ hs i) ∨ (w ≠ star ∧ w ≠ hash ∧ ∃ i, q = (p ++ [w]) ++ hs i)
theorem closed_next (w : ByteArray) (p : Path) : Closed (Next w p) := fun q hq => by
  rcases hq with ⟨h1, h2⟩ | h | ⟨h1, h2, h3⟩
  · exact .inl ⟨h1, closed_hs _ _ h2⟩
  · exact .inr (.inl (closed_hs _ _ h))
  · exact .inr (.inr ⟨h1, h2, closed_hs _ _ h3⟩)
theorem ndOf_eq (h : Shp G X g root) {s : Nd} (hs' : s ∈ G) : ndOf (G ++ X) s.b = s := by
  obtain ⟨h1, h2⟩ := ndOf_mem (List.mem_map_of_mem (f := (·.b)) (List.mem_append_left X hs'))
  exact blocks_inj h.bl h1 (List.mem_append_left _ hs') h2
theorem star_hash : star ≠ hash := by intro e; have := congrArg (fun z : ByteArray => z.data.toList) e; simp [star, hash] at this
theorem FI.one (h : Shp G X g root) {f t : Fr} {M0 M : Path → Prop} (hf : FI G f M0) (ht : FI G t M) (hc : Closed M) {s : Nd} (hs' : s ∈ G) (hm : s.b ∈ f.ns) (w : ByteArray) : FI G (stepOne (G ++ X) f.lo w t s.b) (fun q => M q ∨ Next w s.p q) := by
  have h1 : FI G (stA (G ++ X) f.lo t s.b) (fun q => M q ∨ (EndH s.p ∧ ∃ i, q = s.p ++ hs i)) := by
    unfold stA
    by_cases he : EndH s.p
    · rw [if_pos ((hf.lo s hs').2 ⟨hm, he⟩)]
      refine (FI.node h ht hc hs' (loop := true) ⟨fun _ => he, fun _ => rfl⟩).congr fun u hu => ⟨fun q => q.imp id fun q => ⟨he, q⟩, fun q => q.imp id fun q => q.2⟩
    · rw [if_neg fun q => he ((hf.lo s hs').1 q).2]
      exact ht.congr fun u hu => ⟨.inl, fun q => q.elim id fun q => absurd q.1 he⟩
  have hc1 : Closed (fun q => M q ∨ (EndH s.p ∧ ∃ i, q = s.p ++ hs i)) := closed_or hc fun p ⟨q1, q2⟩ => ⟨q1, closed_hs _ _ q2⟩
  have h2 := FI.kid h h1 hc1 hs' star_hash
  have hc2 : Closed (fun q => (M q ∨ (EndH s.p ∧ ∃ i, q = s.p ++ hs i)) ∨ ∃ i, q = (s.p ++ [star]) ++ hs i) := closed_or hc1 (closed_hs _)
  unfold stepOne
  rw [ndOf_eq h hs']
  by_cases w1 : w = star
  · rw [if_pos w1]
    refine h2.congr fun u hu => ⟨fun q => ?_, fun q => ?_⟩
    · rcases q with (q | q) | q
      · exact .inl q
      · exact .inr (.inl q)
      · exact .inr (.inr (.inl q))
    · rcases q with q | q | q | q
      · exact .inl (.inl q)
      · exact .inl (.inr q)
      · exact .inr q
      · exact absurd w1 q.1
  · rw [if_neg w1]
    by_cases w2 : w = hash
    · rw [if_pos w2]
      refine h2.congr fun u hu => ⟨fun q => ?_, fun q => ?_⟩
      · rcases q with (q | q) | q
        · exact .inl q
        · exact .inr (.inl q)
        · exact .inr (.inr (.inl q))
      · rcases q with q | q | q | q
        · exact .inl (.inl q)
        · exact .inl (.inr q)
        · exact .inr q
        · exact absurd w2 q.2.1
    · rw [if_neg w2]
      refine (FI.kid h h2 hc2 hs' w2).congr fun u hu => ⟨fun q => ?_, fun q => ?_⟩
      · rcases q with ((q | q) | q) | q
        · exact .inl q
        · exact .inr (.inl q)
        · exact .inr (.inr (.inl q))
        · exact .inr (.inr (.inr ⟨w1, w2, q⟩))
      · rcases q with q | q | q | q
        · exact .inl (.inl (.inl q))
        · exact .inl (.inl (.inr q))
        · exact .inl (.inr q)
        · exact .inr q.2.2
theorem FI.fold (h : Shp G X g root) {f : Fr} {M0 : Path → Prop} (hf : FI G f M0) (w : ByteArray) : ∀ (l : List Nat), (∀ b ∈ l, b ∈ f.ns) → ∀ (t : Fr) (M : Path → Prop), FI G t M → Closed M → FI G (l.foldl (stepOne (G ++ X) f.lo w) t) (fun q => M q ∨ ∃ s ∈ G, s.b ∈ l ∧ Next w s.p q)
  | [], _, t, M, ht, hc => ht.congr fun u hu => ⟨.inl, fun q => q.elim id fun ⟨s, _, q, _⟩ => by cases q⟩
  | b :: l, hl, t, M, ht, hc => by
    obtain ⟨s, hs', rfl, _⟩ := hf.mem b (hl b List.mem_cons_self)
    have h1 := FI.one h hf ht hc hs' (hl _ List.mem_cons_self) w
    refine (FI.fold h hf w l (fun c hc => hl c (List.mem_cons_of_mem _ hc)) _ _ h1 (closed_or hc (closed_next w s.p))).congr fun u hu => ⟨fun q => ?_, fun q => ?_⟩
    · rcases q with (q | q) | ⟨s2, q1, q2, q3⟩
      · exact .inl q
      · exact .inr ⟨s, hs', List.mem_cons_self, q⟩
      · exact .inr ⟨s2, q1, List.mem_cons_of_mem _ q2, q3⟩
    · rcases q with q | ⟨s2, q1, q2, q3⟩
      · exact .inl (.inl q)
      · rcases List.mem_cons.1 q2 with e | q2
        · rw [h.inj q1 hs' e] at q3
          exact .inl (.inr q3)
        · exact .inr ⟨s2, q1, q2, q3⟩
theorem FI.step (h : Shp G X g root) {f : Fr} {M : Path → Prop} (hf : FI G f M) (w : ByteArray) : FI G (stepF (G ++ X) f w) (fun q => ∃ s ∈ G, M s.p ∧ Next w s.p q) := by
  refine (FI.fold h hf w f.ns (fun b hb => hb) fr0 _ FI.zero fun p hp => hp.elim).congr fun u hu => ⟨fun q => ?_, fun q => ?_⟩
  · rcases q with q | ⟨s, q1, q2, q3⟩
    · exact q.elim
    · exact ⟨s, q1, (FI.iff h hf q1).1 q2, q3⟩
  · obtain ⟨s, q1, q2, q3⟩ := q
    exact .inr ⟨s, q1, hf.all s q1 q2, q3⟩
def mt : Path → Path → Bool
  | [], k => k.isEmpty
  | x :: p, [] => decide (x = hash) && mt p []
  | x :: p, y :: k => if x = hash then mt p (y :: k) || mt (x :: p) k else (decide (x = star) || decide (x = y)) && mt p k
termination_by p k => p.length + k.length
theorem mt_more {p : Path} {k : Path} (hp : mt p k = true) : mt (hash :: p) k = true := by
  cases k with
  | nil => rw [mt]; simp [hp]
  | cons y k => rw [mt, if_pos rfl, hp]; rfl
theorem mt_hs {p k : Path} (hp : mt p.reverse k = true) (i : Nat) : mt (p ++ hs i).reverse k = true := by
  induction i with
  | zero => simpa [hs] using hp
  | succ i ih =>
    rw [hs_succ, ← List.append_assoc, List.reverse_append]
    exact mt_more ih
theorem mt_next {w : ByteArray} {k p q : Path} (hp : mt p.reverse k = true) (hn : Next w p q) : mt q.reverse (w :: k) = true := by
  rcases hn with ⟨⟨q0, e⟩, i, rfl⟩ | ⟨i, rfl⟩ | ⟨h1, h2, i, rfl⟩
  · refine mt_hs ?_ i
    subst e
    rw [List.reverse_append] at hp ⊢
    show mt (hash :: q0.reverse) (w :: k) = true
    rw [mt, if_pos rfl]
    have : mt (hash :: q0.reverse) k = true := hp
    rw [this, Bool.or_true]
  · refine mt_hs ?_ i
    rw [List.reverse_append]
    show mt (star :: p.reverse) (w :: k) = true
    rw [mt, if_neg star_hash, hp]; simp
  · refine mt_hs ?_ i
    rw [List.reverse_append]
    show mt (w :: p.reverse) (w :: k) = true
    rw [mt, if_neg h2, hp]; simp
theorem next_mt (h : Shp G X g root) {w : ByteArray} {k : Path} : ∀ (n : Nat) (u : Nd), u ∈ G → u.p.length = n → mt u.p.reverse (w :: k) = true → ∃ s ∈ G, mt s.p.reverse k = true ∧ Next w s.p u.p
  | 0, u, hu, hn, hm => by
    rw [List.eq_nil_of_length_eq_zero hn, List.reverse_nil, mt] at hm
    cases hm
  | n + 1, u, hu, hn, hm => by
    obtain ⟨q, x, e⟩ : ∃ q x, u.p = q ++ [x] := ⟨_, _, (List.dropLast_concat_getLast (l := u.p) (fun e => by rw [e] at hn; cases hn)).symm⟩
    obtain ⟨v, hv, e1, e2⟩ := h.par u hu q x e
    subst e1
    have hmv : mt (x :: v.p.reverse) (w :: k) = true := by rw [e, List.reverse_append] at hm; exact hm
    rw [mt] at hmv
    by_cases hx : x = hash
    · rw [if_pos hx, Bool.or_eq_true] at hmv
      subst hx
      rcases hmv with hmv | hmv
      · obtain ⟨s, s1, s2, s3⟩ := next_mt h n v hv (by rw [e] at hn; simpa using hn) hmv
        exact ⟨s, s1, s2, by rw [e]; exact closed_next w s.p _ s3⟩
      · refine ⟨u, hu, by rw [e, List.reverse_append]; exact hmv, .inl ⟨⟨v.p, e⟩, 0, by simp [hs]⟩⟩
    · rw [if_neg hx, Bool.and_eq_true, Bool.or_eq_true, decide_eq_true_eq, decide_eq_true_eq] at hmv
      refine ⟨v, hv, hmv.2, ?_⟩
      rcases hmv.1 with h1 | h1
      · exact .inr (.inl ⟨0, by rw [e, h1]; simp [hs]⟩)
      · by_cases h2 : x = star
        · exact .inr (.inl ⟨0, by rw [e, h2]; simp [hs]⟩)
        · exact .inr (.inr ⟨h1 ▸ h2, h1 ▸ hx, 0, by rw [e, h1]; simp [hs]⟩)
def FM (G : List Nd) (k : Path) (f : Fr) : Prop := FI G f fun p => mt p.reverse k.reverse = true
theorem FM.step (h : Shp G X g root) {k : Path} {f : Fr} (hf : FM G k f) (w : ByteArray) : FM G (k ++ [w]) (stepF (G ++ X) f w) := by
  refine (FI.step h hf w).congr fun u hu => ?_
  rw [List.reverse_append]
  show _ ↔ mt u.p.reverse (w :: k.reverse) = true
  exact ⟨fun ⟨s, q1, q2, q3⟩ => mt_next q2 q3, fun q => next_mt h _ u hu rfl q⟩
theorem mt_nil : ∀ p : Path, mt p [] = true ↔ ∀ x ∈ p, x = hash
  | [] => by rw [mt]; simp
  | x :: p => by rw [mt, Bool.and_eq_true, decide_eq_true_eq, mt_nil p, List.forall_mem_cons]
theorem FM.start (h : Shp G X g root) : FM G [] (standC (chOf (G ++ X) root) fr0 false) := by
  obtain ⟨r, hr, h1, h2⟩ := h.rt
  subst h2
  refine (FI.node h FI.zero (fun p hp => hp.elim) hr (loop := false) ⟨fun e => (by cases e), fun ⟨q, e⟩ => by rw [h1] at e; simp at e⟩).congr fun u hu => ?_
  rw [List.reverse_nil, mt_nil]
  constructor
  · rintro (q | ⟨i, q⟩)
    · exact q.elim
    · rw [q, h1]
      intro x hx
      simp only [List.nil_append, List.mem_reverse] at hx
      exact (List.mem_replicate.1 hx).2
  · intro q
    refine .inr ⟨u.p.length, ?_⟩
    rw [h1, List.nil_append]
    exact List.eq_replicate_iff.2 ⟨rfl, fun x hx => q x (List.mem_reverse.2 hx)⟩
theorem nodup_len {α : Type} [DecidableEq α] : ∀ {l m : List α}, l.Nodup → (∀ x ∈ l, x ∈ m) → l.length ≤ m.length
  | [], m, _, _ => Nat.zero_le _
  | x :: l, m, hn, hs => by
    rw [List.nodup_cons] at hn
    have hx := hs x List.mem_cons_self
    have := nodup_len (l := l) (m := m.erase x) hn.2 fun y hy => (List.mem_erase_of_ne fun e => hn.1 (by rw [← e]; exact hy)).2 (hs y (List.mem_cons_of_mem _ hy))
    rw [List.length_erase_of_mem hx] at this
    have hpos := List.length_pos_of_mem hx
    simp only [List.length_cons]; omega
theorem FI.len (h : Shp G X g root) {f : Fr} {M : Path → Prop} (hf : FI G f M) : f.ns.length ≤ g := by
  have hsub : ∀ b ∈ f.ns, b ∈ G.map (·.b) := fun b hb => by obtain ⟨s, q, rfl, _⟩ := hf.mem b hb; exact List.mem_map_of_mem q
  have := nodup_len hf.nd hsub
  rw [List.length_map] at this
  exact Nat.le_trans this h.gl
end
end Go.Proofs.YtbmoancedlbhlaaDoor.Tpc

/- Topic: strings.Index and strings.Count at a point. -/
set_option linter.unusedVariables false
set_option linter.unusedSimpArgs false
set_option maxRecDepth 100000
namespace Go.Proofs.YtbmoancedlbhlaaDoor.Tpc
open Go Go.RowKit Go.Proofs.YtbmoancedlbhlaaDoor.Eng Go.Proofs.YtbmoancedlbhlaaDoor.Kit
abbrev fCount : Nat := 39
abbrev fIndexS : Nat := 40
set_option maxHeartbeats 1000000 in
theorem ib_calls (s : ByteArray) (c : Int) (w : World) :
    Calls Tryd.prog 63 #[.string s, .int .u8 c] w fun e w' => e = .returned (.int .i64 (Lib.indexByte s.data.toList c.toNat.toUInt8)) ∧ w' = w := by
  go_enter Tryd.func63, Tryd.ntmps63
  go_wp2
  rw [run_callFunc_extern Tryd.func68 (by kernel_rfl) (by kernel_rfl) (by kernel_rfl) (e := Extern.BytealgIndexByte.indexByte) (by kernel_rfl), Lib.run_indexByteString]
  simp only [Result.andThen]
  rw [Oper.upon_value]
  go_wp2
  go_ret
  exact ⟨rfl, rfl⟩
set_option maxHeartbeats 2000000 in
theorem il_calls (s : ByteArray) (c : UInt8) (w : World) :
    Calls Tryd.prog 55 #[.string s, .string ⟨#[c]⟩] w fun e w' => e = .returned (.int .i64 (Lib.indexByte s.data.toList c)) ∧ w' = w := by
  go_enter Tryd.func55, Tryd.ntmps55
  go_wp2_with (go_at_call 63; refine (ib_calls _ _ _).mono ?_; rintro e w' ⟨rfl, rfl⟩)
  · have h : ([c] == s.toList) = true := by assumption
    go_ret
    refine ⟨?_, rfl⟩
    have e : s.data.toList = [c] := by rw [← Lib.toList_data]; exact (beq_iff_eq.1 h).symm
    rw [e]
    simp [Lib.indexByte]
  · go_ret
    exact ⟨rfl, rfl⟩
set_option maxHeartbeats 1000000 in
theorem is_calls (s : ByteArray) (c : UInt8) (w : World) :
    Calls Tryd.prog 40 #[.string s, .string ⟨#[c]⟩] w fun e w' => e = .returned (.int .i64 (Lib.indexByte s.data.toList c)) ∧ w' = w := by
  go_enter Tryd.func40, Tryd.ntmps40
  go_wp2_with (go_at_call 55; refine (il_calls _ _ _).mono ?_; rintro e w' ⟨rfl, rfl⟩)
  go_ret
  exact ⟨rfl, rfl⟩
set_option maxHeartbeats 1000000 in
theorem sc_calls (s : ByteArray) (c : UInt8) (w : World) :
    Calls Tryd.prog 39 #[.string s, .string ⟨#[c]⟩] w fun e w' => e = .returned (.int .i64 (Lib.countByte s.data.toList c)) ∧ w' = w := by
  go_enter Tryd.func39, Tryd.ntmps39
  go_wp2
  rw [run_callFunc_extern Tryd.func54 (by kernel_rfl) (by kernel_rfl) (by kernel_rfl) (e := Extern.BytealgCount.count) (by kernel_rfl), Lib.run_countString]
  simp only [Result.andThen]
  rw [Oper.upon_value]
  go_wp2
  go_ret
  exact ⟨rfl, rfl⟩
def dot : ByteArray := ⟨⟨[46]⟩⟩
def idxB (s : ByteArray) : Int := Lib.indexByte s.data.toList 46
def cntB (s : ByteArray) : Int := Lib.countByte s.data.toList 46
theorem vrs2 {N : Names} {x1 x2 : AV} {vargs : Array Value} (h : VRs N [x1, x2] vargs.toList) : ∃ y1 y2, VR N x1 y1 ∧ VR N x2 y2 ∧ vargs = #[y1, y2] := by
  simp only [VRs] at h
  obtain ⟨y1, r1, h1, ⟨y2, r2, h2, rfl, rfl⟩, hl⟩ := h
  exact ⟨y1, y2, h1, h2, by cases vargs; simp_all⟩
theorem is_tri (s : ByteArray) : Tri Tryd.prog default fIndexS [sv s, sv dot] [] (iv (idxB s)) [] := by
  refine tri_below fun W0 F N w vargs hF hNB r ha => ?_
  obtain ⟨y1, y2, h1, h2, rfl⟩ := vrs2 ha
  simp only [sv, VR] at h1 h2
  subst h1 h2
  exact (is_calls s 46 w).mono fun e w' h => ⟨h.1, by rw [h.2]; exact Below.refl _ _⟩
theorem sc_tri (s : ByteArray) : Tri Tryd.prog default fCount [sv s, sv dot] [] (iv (cntB s)) [] := by
  refine tri_below fun W0 F N w vargs hF hNB r ha => ?_
  obtain ⟨y1, y2, h1, h2, rfl⟩ := vrs2 ha
  simp only [sv, VR] at h1 h2
  subst h1 h2
  exact (sc_calls s 46 w).mono fun e w' h => ⟨h.1, by rw [h.2]; exact Below.refl _ _⟩
def gS1 : List AV → AP ByteArray := fun args => match args with
  | .v (.string s) :: _ => .ret s
  | _ => .fail "text"
theorem gS1_ro (args : List AV) : RO (gS1 args) := by
  unfold gS1
  split
  · exact .ret _
  · exact .fail _
def cIdx : List AV → Option (AP AV) := mkC gS1 (fun _ => True) (fun _ k => k) (fun s => [sv s, sv dot]) (fun _ => []) (fun s => .leaf .ret [iv (idxB s)] [])
def cCnt : List AV → Option (AP AV) := mkC gS1 (fun _ => True) (fun _ k => k) (fun s => [sv s, sv dot]) (fun _ => []) (fun s => .leaf .ret [iv (cntB s)] [])
theorem closedS {A : List AV} {v : AV} (ha : AV.cls (kH []) A) (hv : AV.cls (kR [] []) [v]) : ClosedC A [] [v] [] := ⟨rfl, rfl, ha, (fun x hx => by cases hx), hv, fun x hx => by cases hx⟩
theorem cIdx_ok {F : HP} (hF : OldOK default F) : C1OK Tryd.prog F fIndexS cIdx :=
  mkC_ok hF (fun s => iv (idxB s)) gS1_ro (fun s => rfl) (fun s _ => is_tri s) (fun s => closedS ⟨trivial, trivial, trivial⟩ ⟨trivial, trivial⟩)
theorem cCnt_ok {F : HP} (hF : OldOK default F) : C1OK Tryd.prog F fCount cCnt :=
  mkC_ok hF (fun s => iv (cntB s)) gS1_ro (fun s => rfl) (fun s _ => sc_tri s) (fun s => closedS ⟨trivial, trivial, trivial⟩ ⟨trivial, trivial⟩)
end Go.Proofs.YtbmoancedlbhlaaDoor.Tpc

/- Topic: a text's words. No program. -/
set_option linter.unusedVariables false
set_option linter.unusedSimpArgs false
namespace Go.Proofs.YtbmoancedlbhlaaDoor.Tpc
open Go
def splitL : List UInt8 → List (List UInt8)
  | [] => [[]]
  | c :: l => if c = 46 then [] :: splitL l else match splitL l with
    | [] => [[c]]
    | a :: r => (c :: a) :: r
def bsOf (l : List UInt8) : ByteArray := ⟨⟨l⟩⟩
def dots (s : ByteArray) : List ByteArray := (splitL s.data.toList).map bsOf
theorem splitL_len (l : List UInt8) : (splitL l).length = l.count 46 + 1 := by
  induction l with
  | nil => rfl
  | cons c l ih =>
    rw [splitL]
    by_cases h : c = 46
    · subst h; rw [if_pos rfl, List.length_cons, ih, List.count_cons_self]
    · rw [if_neg h, List.count_cons_of_ne h, ← ih]
      cases h2 : splitL l with
      | nil => rw [h2] at ih; simp at ih
      | cons a r => rfl
theorem splitL_none : ∀ (l : List UInt8), l.count 46 = 0 → splitL l = [l]
  | [], _ => rfl
  | c :: l, h => by
    have hc : c ≠ 46 := fun e => by subst e; rw [List.count_cons_self] at h; omega
    rw [List.count_cons_of_ne hc] at h
    rw [splitL, if_neg hc, splitL_none l h]
theorem splitL_some : ∀ (l : List UInt8), 0 < l.count 46 → ∃ k : Nat, Lib.indexByte l 46 = k ∧ k < l.length ∧ splitL l = l.take k :: splitL (l.drop (k + 1)) ∧ (l.drop (k + 1)).count 46 + 1 = l.count 46
  | [], h => by simp at h
  | c :: l, h => by
    by_cases hc : c = 46
    · subst hc
      exact ⟨0, by simp [Lib.indexByte], by simp, by rw [splitL, if_pos rfl]; rfl, by rw [List.count_cons_self]; rfl⟩
    · rw [List.count_cons_of_ne hc] at h ⊢
      obtain ⟨k, h1, h2, h3, h4⟩ := splitL_some l h
      refine ⟨k + 1, ?_, by simp only [List.length_cons]; omega, ?_, ?_⟩
      · rw [Lib.indexByte, h1]
        have : (c == (46 : UInt8)) = false := by simpa using hc
        rw [this]
        have : ((k : Int) == -1) = false := by rw [beq_eq_false_iff_ne]; omega
        rw [this]
        rfl
      · rw [splitL, if_neg hc, h3]; rfl
      · simpa using h4
theorem extract_eq (s : ByteArray) (i j : Nat) (hj : j ≤ s.size) : (s.extract i j).data.toList = (s.data.toList.drop i).take (j - i) := by
  rw [ByteArray.data_extract, Array.toList_extract, List.extract_eq_take_drop]
theorem ba_ext {a b : ByteArray} (h : a.data.toList = b.data.toList) : a = b := ByteArray.ext (Array.toList_inj.1 h)
theorem dots_none {s : ByteArray} (h : s.data.toList.count 46 = 0) : dots s = [s] := by
  unfold dots; rw [splitL_none _ h]; rfl
theorem dots_some {s : ByteArray} (h : 0 < s.data.toList.count 46) : ∃ k : Nat, Lib.indexByte s.data.toList 46 = k ∧ k < s.size ∧ dots s = s.extract 0 k :: dots (s.extract (k + 1) s.size) ∧ (s.extract (k + 1) s.size).data.toList.count 46 + 1 = s.data.toList.count 46 := by
  obtain ⟨k, h1, h2, h3, h4⟩ := splitL_some _ h
  have hz : s.data.toList.length = s.size := rfl
  have e2 : (s.extract (k + 1) s.size).data.toList = s.data.toList.drop (k + 1) := by
    rw [extract_eq _ _ _ (Nat.le_refl _), List.take_of_length_le (by rw [List.length_drop, hz]; exact Nat.le_refl _)]
  refine ⟨k, h1, hz ▸ h2, ?_, by rw [e2]; exact h4⟩
  unfold dots
  rw [h3, e2, List.map_cons]
  congr 1
  refine ba_ext ?_
  rw [extract_eq _ _ _ (Nat.le_of_lt (hz ▸ h2))]
  rfl
theorem dots_len (s : ByteArray) : (dots s).length = s.data.toList.count 46 + 1 := by rw [dots, List.length_map, splitL_len]
end Go.Proofs.YtbmoancedlbhlaaDoor.Tpc

/- Topic: strings.Split at a point: runs. -/
set_option linter.unusedVariables false
set_option linter.unusedSimpArgs false
set_option maxRecDepth 100000
namespace Go.Proofs.YtbmoancedlbhlaaDoor.Tpc
open Go Go.RowKit Go.Proofs.YtbmoancedlbhlaaDoor.Eng Go.Proofs.YtbmoancedlbhlaaDoor.Kit
noncomputable section
abbrev fWords : Nat := 21
abbrev fSplit : Nat := 30
abbrev fGen : Nat := 34
def encS (s : ByteArray) : List Value := [.string s]
def rS (l : List ByteArray) : AO := .cells (rowV encS l) tStr
def aGen (r : ByteArray) (n i : Nat) : List (Nat × AV) := [(0, sv r), (1, sv dot), (2, iv 0), (3, iv (Int.ofNat n)), (9, .slice 0 0 (n + 1) 1 (.ex (n + 1))), (10, iv (Int.ofNat i))]
def hGen (i k : Nat) (y z : ByteArray) : ClaimT := hintL [(fGen, 11, 2, hv (.lit true)), (fGen, 12, 2, hv (iv (Int.ofNat k))), (fGen, 13, 1, hv (.lit false)), (fGen, 14, 5, hv (iv (Int.ofNat k))), (fGen, 14, 6, h0v (sv y)), (fGen, 15, 4, hv (iv (Int.ofNat (k + 1)))), (fGen, 15, 5, h0v (sv z)), (fGen, 16, 1, hv (iv (Int.ofNat (i + 1))))]
theorem oGH_eq (L : List ByteArray) (r y z : ByteArray) (n i k : Nat) (F : HP) : wLoop [(fIndexS, cIdx)] (hGen i k y z) [] default fGen (loopN fGen 11) (tms 0 66 (aGen r n i)) [(0, rS L)] [0] [0, 1, 2, 3, 9, 10] F = VT.leaf (AX.normal,[s' z,s' dot,i' 0,i' n,AV.slice 0 0 (n + 1) 1 (Cp.ex (n + 1)),i' (i + 1)],66) [some (AO.cells (splice (rowV encS L) (0 + i * 1) [s' y]) 18)] 1100 (((p' (Wk (b' (decide (Int.ofNat i < Int.ofNat n))) (AV.lit true))).a t').a (((Cnd.p True).a ((p' (VW [s' r,s' dot] [s' r,s' dot])).a ((p' (Wk (z' (idxB r)) (i' k))).a t'))).a (((p' (Wk (b' false) (AV.lit false))).a t').a (((p' (Wk (z' (IntKind.i64.wrap (Int.ofNat k + Int.ofNat 0))) (i' k))).a t').a (((p' (0 ≤ k)).a ((p' (k ≤ r.size)).a ((p' (Wk (s' (r.extract 0 k)) (s' y))).a t'))).a (((p' (i.blt (n + 1) = true)).a t').a (((p' ((0 + i * 1 + 1).ble (rowV encS L).length = true)).a t').a (((p' (Wk (z' (IntKind.i64.wrap (Int.ofNat k + Int.ofNat 1))) (i' (k + 1)))).a t').a (((p' (k + 1 ≤ r.size)).a ((p' (r.size ≤ r.size)).a ((p' (Wk (s' (r.extract (k + 1) r.size)) (s' z))).a t'))).a (((p' (Wk (z' (IntKind.i64.wrap (Int.ofNat i + Int.ofNat 1))) (i' (i + 1)))).a t').a t')))))))))) := by kernel_rfl
theorem oGE_eq (L : List ByteArray) (r : ByteArray) (n : Nat) (F : HP) : wLoop [] (hintL [(fGen, 11, 2, hv (.lit false))]) [] default fGen (loopN fGen 11) (tms 0 66 (aGen r n n)) [(0, rS L)] [0] [0, 1, 2, 3, 9, 10] F = VT.leaf (AX.exit 0,[s' r,s' dot,i' 0,i' n,AV.slice 0 0 (n + 1) 1 (Cp.ex (n + 1)),i' n],66) [some (AO.cells (rowV encS L) 18)] 1100 (((p' (Wk (b' (decide (Int.ofNat n < Int.ofNat n))) (AV.lit false))).a t').a t') := by kernel_rfl
def nil0 : ByteArray := ⟨⟨[]⟩⟩
def gSl : List AV → AP Nat := fun tmps => match tmps with
  | _ :: _ :: _ :: _ :: _ :: _ :: _ :: _ :: _ :: .slice i _ _ _ _ :: _ => .ret i
  | _ => .fail "row"
theorem gSl_ro (tmps : List AV) : RO (gSl tmps) := by
  unfold gSl
  split
  · exact .ret _
  · exact .fail _
def lGn (s z : ByteArray) (n : Nat) (L0 L : List ByteArray) : List AV → AP (AX × List AV) := mkL gSl (fun _ => True) (fun p _ => p) (fun _ => tms 0 66 (aGen s n 0)) (fun _ => [(0, rS L0)]) (fun _ => .leaf (.exit 0) (tms 0 66 (aGen z n n)) [(0, rS L)])
def hGn (n : Nat) : ClaimT := hintL [(fGen, 1, 1, hv (.lit false)), (fGen, 3, 1, hv (.lit false)), (fGen, 5, 1, hv (.lit true)), (fGen, 6, 3, hv (iv (Int.ofNat (n + 1)))), (fGen, 7, 4, hv (iv (Int.ofNat (n + 1)))), (fGen, 9, 1, hv (iv (Int.ofNat n))), (fGen, 18, 2, hv (iv (Int.ofNat (n + 1))))]
theorem oGn_eq (s z : ByteArray) (n : Nat) (L0 L : List ByteArray) (F : HP) : wRun [(fCount, cCnt)] (hGn n) [(fGen, 11, loopN fGen 11, lGn s z n L0 L)] default fGen [sv s, sv dot, iv 0, iv (-1)] [] [1100] F = VT.leaf (AV.slice 1100 0 (n + 1 - 0) 1 (Cp.ex (n + 1 - 0))) [some (AO.cells (splice (AV.rens (sgN (fun x => 1100) [] 0) (rowV encS L)) (0 + n * 1) [s' z]) 18)] 1101 (((p' (Wk (b' false) (AV.lit false))).a t').a (((p' (Wk (b' false) (AV.lit false))).a t').a (((p' (Wk (b' true) (AV.lit true))).a t').a (((Cnd.p True).a ((p' (VW [s' s,s' dot] [s' s,s' dot])).a t')).a (((p' (Wk (z' (IntKind.i64.wrap (cntB s + Int.ofNat 1))) (i' (n + 1)))).a t').a (((p' (Wk (z' (if IntKind.i64.wrap (↑s.size + Int.ofNat 1) < Int.ofNat (n + 1) then IntKind.i64.wrap (↑s.size + Int.ofNat 1) else Int.ofNat (n + 1))) (i' (n + 1)))).a t').a (((p' ((n + 1).ble (n + 1) = true)).a ((p' ((16 * (n + 1)).ble 140737488355328 = true)).a ((p' ((n + 1).ble 9223372036854775807 = true)).a t'))).a (((p' (Wk (z' (IntKind.i64.wrap (Int.ofNat (n + 1) - Int.ofNat 1))) (i' n))).a t').a ((p' ((fGen,11,loopN fGen 11,lGn s z n L0 L).snd.snd.fst = (fGen,11,loopN fGen 11,lGn s z n L0 L).snd.snd.fst)).a ((Cnd.p True).a ((p' (VW [s' s,s' dot,i' 0,i' n,u',u',u',u',AV.v (Value.slice none 0 0),AV.slice 1100 0 (n + 1) 1 (Cp.ex (n + 1)),i' 0,u',z' (Int.negSucc 0),AV.lit false,s' dot,AV.lit false,u',u',u',z' (Int.negSucc 0),AV.lit true,s' s,s' dot,z' (cntB s),i' (n + 1),i' (n + 1),s' s,z' ↑s.size,z' (IntKind.i64.wrap (↑s.size + Int.ofNat 1)),i' (n + 1),i' (n + 1),AV.slice 1100 0 (n + 1) 1 (Cp.ex (n + 1)),i' (n + 1),i' n,u',u',u',u',u',u',u',u',u',u',u',u',u',u',u',u',u',u',u',u',u',u',u',u',u',u',u',u',u',u',u',u'] [s' s,s' dot,i' 0,i' n,a',a',a',a',a',AV.slice 1100 0 (n + 1) 1 (Cp.ex (n + 1)),i' 0,a',a',a',a',a',a',a',a',a',a',a',a',a',a',a',a',a',a',a',a',a',a',a',a',a',a',a',a',a',a',a',a',a',a',a',a',a',a',a',a',a',a',a',a',a',a',a',a',a',a',a',a',a',a',a'])).a ((p' (OW (AO.cells (rep [s' (ByteArray.mk (Array.mk []))] (n + 1)) 18) (AO.cells (AV.rens (fun x => 1100) (rowV encS L0)) 18))).a (((p' (n.blt (n + 1) = true)).a t').a (((p' ((0 + n * 1 + 1).ble (AV.rens (sgN (fun x => 1100) [] 0) (rowV encS L)).length = true)).a t').a (((p' (Wk (z' (IntKind.i64.wrap (Int.ofNat n + Int.ofNat 1))) (i' (n + 1)))).a t').a (((p' (true = true)).a ((p' ((n + 1).ble (n + 1) = true)).a ((p' ((n + 1).ble (n + 1) = true)).a t'))).a t')))))))))))))))) := by kernel_rfl
def splV (i n : Nat) : AV := .slice i 0 n 1 (.ex n)
def cGn (s : ByteArray) (n : Nat) (L : List ByteArray) : List AV → Option (AP AV) := mkC gS1 (fun p => p = s) (fun _ k => k) (fun s => [sv s, sv dot, iv 0, iv (-1)]) (fun _ => []) (fun _ => .leaf .ret [splV 1000 n] [(1000, rS L)])
theorem oSl_eq (s : ByteArray) (n : Nat) (L : List ByteArray) (F : HP) : wRun [(fGen, cGn s n L)] noHints [] default fSplit [sv s, sv dot] [] [1100] F = VT.leaf (AV.slice 1100 0 n 1 (Cp.ex n)) [some (AO.cells (AV.rens (sgN (fun k => k) [1000] 1100) (rowV encS L)) 18)] 1101 (((p' (s = s)).a ((p' (VW [s' s,s' dot,i' 0,z' (Int.negSucc 0)] [s' s,s' dot,i' 0,z' (Int.negSucc 0)])).a t')).a t') := by kernel_rfl
def cSl (s : ByteArray) (n : Nat) (L : List ByteArray) : List AV → Option (AP AV) := mkC gS1 (fun p => p = s) (fun _ k => k) (fun s => [sv s, sv dot]) (fun _ => []) (fun _ => .leaf .ret [splV 1000 n] [(1000, rS L)])
theorem oWd_eq (s : ByteArray) (n : Nat) (L : List ByteArray) (F : HP) : wRun [(fSplit, cSl s n L)] noHints [] default fWords [sv s] [] [1100] F = VT.leaf (AV.slice 1100 0 n 1 (Cp.ex n)) [some (AO.cells (AV.rens (sgN (fun k => k) [1000] 1100) (rowV encS L)) 18)] 1101 (((p' (s = s)).a ((p' (VW [s' s,s' (ByteArray.mk (Array.mk [46]))] [s' s,s' dot])).a t')).a t') := by kernel_rfl
theorem encS_len (x : ByteArray) : (encS x).length = 1 := rfl
theorem rS_len (M : List ByteArray) : (rowV encS M).length = M.length := by rw [rowV_length (k := 1) encS_len, Nat.mul_one]
theorem rS_in (M : List ByteArray) (i : Nat) (hi : i < M.length) : (0 + i * 1 + 1).ble (rowV encS M).length = true := by
  rw [rS_len, Nat.ble_eq]; omega
theorem rS_set (M : List ByteArray) (i : Nat) (x : ByteArray) (hi : i < M.length) : splice (rowV encS M) (0 + i * 1) [AV.v (Value.string x)] = rowV encS (M.set i x) := by
  have := rowV_splice encS_len M i x hi
  rw [Nat.zero_add]
  exact this
theorem rS_ren (σ : Nat → Nat) (L : List ByteArray) : (rS L).ren σ = rS L := by simp only [rS, AO.ren, rens_rowV]
theorem rS_ow {x : List AV} {L : List ByteArray} {e : TypeId} {σ : Nat → Nat} (h : x = rowV encS L) (he : e = tStr) : OW (.cells x e) ((rS L).ren σ) := by rw [rS_ren]; subst h he; exact OW.refl _
theorem rS_cl (K : Nat → Bool) (L : List ByteArray) : (rS L).cl K := cls_rowV _ _
theorem rS_rep (n : Nat) : rep (vmap (encS nil0)) n = rowV encS (List.replicate n nil0) := by
  induction n with
  | zero => rfl
  | succ n ih => rw [List.replicate_succ, rowV_cons, ← ih]; rfl
def gnR (P : List ByteArray) (m : Nat) : List ByteArray := P ++ List.replicate m nil0
theorem gnR_len (P : List ByteArray) (m : Nat) : (gnR P m).length = P.length + m := by simp [gnR]
theorem gnR_set (P : List ByteArray) (m : Nat) (x : ByteArray) : (gnR P (m + 1)).set P.length x = gnR (P ++ [x]) m := by
  simp [gnR, List.replicate_succ]
structure GnI (s : ByteArray) where
  P : List ByteArray
  r : ByteArray
  d : Nat
  sz : r.size ≤ s.size
  cnt : r.data.toList.count 46 = d
  all : P ++ dots r = dots s
theorem gn_loop (s : ByteArray) (n : Nat) (hn : s.data.toList.count 46 = n) (hb : s.size ≤ 1100000) : ∃ P z, P ++ [z] = dots s ∧ P.length = n ∧
    LTri Tryd.prog default (loopN fGen 11) (tms 0 66 (aGen s n 0)) [(0, rS (gnR [] (n + 1)))] (.exit 0) (tms 0 66 (aGen z n n)) [(0, rS (gnR P 1))] := by
  have hl : ∀ (x : GnI s), x.P.length + x.d = n := fun x => by
    have := congrArg List.length x.all
    rw [List.length_append, dots_len, dots_len, x.cnt, hn] at this
    omega
  obtain ⟨P, z, hP⟩ : ∃ P z, P ++ [z] = dots s := by
    have h : dots s ≠ [] := fun e => by have := dots_len s; rw [e] at this; simp at this
    exact ⟨_, _, List.dropLast_concat_getLast h⟩
  have hPl : P.length = n := by
    have := congrArg List.length hP
    rw [dots_len, hn] at this
    simpa using this
  refine ⟨P, z, hP, hPl, ?_⟩
  have hns : n ≤ s.size := hn ▸ List.count_le_length
  have key := ltri_run (W := default) (g := fGen) (b := loopN fGen 11) (σ := GnI s) 66 (fun x => aGen x.r n x.P.length) (fun x => [(0, rS (gnR x.P (x.d + 1)))]) (.exit 0) (aGen z n n) [(0, rS (gnR P 1))] (fun x => x.d) [0] [0, 1, 2, 3, 9, 10] (by intro h; cases h) (fun _ => rfl) rfl ?_ ⟨[], s, n, Nat.le_refl _, hn, rfl⟩
  · exact key
  rintro ⟨Q, r, d, hz, hc, ha⟩
  have hQ := hl ⟨Q, r, d, hz, hc, ha⟩
  simp only at hQ ⊢
  cases d with
  | zero =>
    rw [dots_none hc] at ha
    obtain ⟨rfl, hz⟩ := List.append_inj (ha.trans hP.symm) (by omega)
    obtain rfl : r = z := by injection hz
    have e : Q.length = n := hPl
    refine ⟨[], hintL [(fGen, 11, 2, hv (.lit false))], [], fun _ _ => noC, fun _ _ => noL, fun F => ?_⟩
    rw [e]
    refine cast (congrArg (VAll _) (oGE_eq (gnR Q 1) r n F).symm) ⟨⟨?_, rfl, .inr ⟨rfl, [], rfl, rfl, ⟨Wk.refl _, Wk.refl _, Wk.refl _, Wk.refl _, Wk.refl _, Wk.refl _, trivial⟩, ⟨_, rfl, rS_ow rfl rfl⟩, trivial⟩⟩⟩
    simp only [Cnd.holds, and_true]
    exact wk_litE (by rw [nat_lt]; exact decide_eq_false (Nat.lt_irrefl _))
  | succ d =>
    obtain ⟨k, h1, h2, h3, h4⟩ := dots_some (s := r) (by omega)
    have hi : Q.length < n := by omega
    have hsz : k < r.size := h2
    refine ⟨[(fIndexS, cIdx)], hGen Q.length k (r.extract 0 k) (r.extract (k + 1) r.size), [], fun F hF => one_c (cIdx_ok hF), fun _ _ => noL, fun F => ?_⟩
    have hs := rS_set (gnR Q (d + 1 + 1)) Q.length (r.extract 0 k) (by rw [gnR_len]; omega)
    rw [gnR_set] at hs
    have g1 := rS_in (gnR Q (d + 1 + 1)) Q.length (by rw [gnR_len]; omega)
    have e1 : decide (Int.ofNat Q.length < Int.ofNat n) = true := by rw [nat_lt]; exact decide_eq_true hi
    have hw := wrap_succ Q.length (by omega)
    have hix : idxB r = Int.ofNat k := h1
    refine cast (congrArg (VAll _) (oGH_eq (gnR Q (d + 1 + 1)) r (r.extract 0 k) (r.extract (k + 1) r.size) n Q.length k F).symm) ⟨⟨?_, rfl, .inl ⟨rfl, ⟨Q ++ [r.extract 0 k], r.extract (k + 1) r.size, d, by rw [ByteArray.size_extract]; omega, by omega, by rw [List.append_assoc, ← ha, h3]; rfl⟩, Nat.lt_succ_self _, [], rfl, rfl, ⟨Wk.refl _, Wk.refl _, Wk.refl _, Wk.refl _, Wk.refl _, ?_, trivial⟩, ⟨_, rfl, ?_⟩, trivial⟩⟩⟩
    · have hk2 : IntKind.i64.wrap (Int.ofNat k + Int.ofNat 0) = Int.ofNat k := by
        show IntKind.i64.wrap (Int.ofNat k + 0) = _
        rw [Int.add_zero]
        exact i64_small (by simp only [Int.ofNat_eq_natCast]; omega) (by simp only [Int.ofNat_eq_natCast]; omega)
      have hk3 := wrap_succ k (by omega)
      simp only [Cnd.holds, g1, e1, Nat.blt_eq, true_and, and_true]
      and_intros
      all_goals first
        | (with_reducible exact wk_int hw)
        | (with_reducible exact wk_int hk2)
        | (with_reducible exact wk_int hk3)
        | (with_reducible exact wk_int hix)
        | omega | (with_reducible first | exact trivial | exact rfl | exact Wk.refl _ | exact VW.refl _ | exact OW.refl _ | exact wk_lit _ | assumption) | exact rfl | exact Wk.refl _ | exact VW.refl _ | exact OW.refl _ | ((repeat (first | exact VW.nil | refine VW.cons (Wk.refl _) ?_ | refine VW.cons (Wk.any _) ?_ | refine VW.cons (wk_cap (Nat.le_refl _)) ?_)); done)
    · rw [List.length_append]; exact Wk.refl _
    · exact rS_ow hs rfl
theorem lGn_ok (s z : ByteArray) (n : Nat) (L0 L : List ByteArray) (h : LTri Tryd.prog default (loopN fGen 11) (tms 0 66 (aGen s n 0)) [(0, rS L0)] (.exit 0) (tms 0 66 (aGen z n n)) [(0, rS L)]) (F : HP) : L1OK Tryd.prog F (loopN fGen 11) (lGn s z n L0 L) :=
  mkL_ok (W := default) oldDef gSl_ro (fun _ _ => h) fun _ => by
    simp only [RT.pick]
    exact closedT rfl rfl (all_cons trivial (all_cons trivial (all_cons trivial (all_cons trivial (all_cons rfl (all_cons trivial all_nil)))))) (all_cons (rS_cl _ _) all_nil) (all_cons trivial (all_cons trivial (all_cons trivial (all_cons trivial (all_cons rfl (all_cons trivial all_nil)))))) (all_cons (rS_cl _ _) all_nil)
theorem Gen_tri (s : ByteArray) (hb : s.size ≤ 1100000) : Tri Tryd.prog default fGen [sv s, sv dot, iv 0, iv (-1)] [] (splV 1000 (dots s).length) [(1000, rS (dots s))] := by
  obtain ⟨n, hn⟩ : ∃ n, s.data.toList.count 46 = n := ⟨_, rfl⟩
  obtain ⟨P, z, hP, hPl, hL⟩ := gn_loop s n hn hb
  have hns : n ≤ s.size := hn ▸ List.count_le_length
  have hd := dots_len s
  rw [hn] at hd
  have hc : cntB s = Int.ofNat n := by unfold cntB Lib.countByte; rw [hn]; rfl
  rw [hd]
  refine tri_run (con := [(fCount, cCnt)]) (hints := hGn n) (lc := [(fGen, 11, loopN fGen 11, lGn s z n (gnR [] (n + 1)) (gnR P 1))]) [1100] rfl (fun F hF => one_c (cCnt_ok hF)) (fun F _ => one_l (lGn_ok s z n _ _ hL F)) fun F => ?_
  have hs := rS_set (gnR P 1) n z (by rw [gnR_len]; omega)
  rw [← hPl, gnR_set, hP, hPl] at hs
  have hs : splice (rowV encS (gnR P 1)) (0 + n * 1) [AV.v (Value.string z)] = rowV encS (dots s) := by rw [hs]; simp [gnR]
  have g1 := rS_in (gnR P 1) n (by rw [gnR_len]; omega)
  have hg0 : rS (gnR [] (n + 1)) = .cells (rep (vmap (encS nil0)) (n + 1)) tStr := by rw [rS_rep]; rfl
  refine cast (congrArg (VAll _) (oGn_eq s z n (gnR [] (n + 1)) (gnR P 1) F).symm) ⟨⟨?_, (fit_mk (vs' := [splV 1000 (n + 1)]) (H' := [(1000, rS (dots s))]) [(1000, 1100)] rfl rfl (VW.refl _) ⟨⟨_, rfl, ?_⟩, trivial⟩).fits rfl⟩⟩
  · have hw := wrap_succ n (by omega)
    rw [← hc] at hw
    have hw2 : (if IntKind.i64.wrap (↑s.size + Int.ofNat 1) < Int.ofNat (n + 1) then IntKind.i64.wrap (↑s.size + Int.ofNat 1) else Int.ofNat (n + 1)) = Int.ofNat (n + 1) := by
      rw [show ((s.size : Int)) = Int.ofNat s.size from rfl, wrap_succ s.size (by omega), if_neg]
      simp only [Int.ofNat_eq_natCast]; omega
    have hw3 : IntKind.i64.wrap (Int.ofNat (n + 1) - Int.ofNat 1) = Int.ofNat n := by
      have : Int.ofNat (n + 1) - Int.ofNat 1 = Int.ofNat n := by simp only [Int.ofNat_eq_natCast]; omega
      rw [this]
      exact i64_small (by simp only [Int.ofNat_eq_natCast]; omega) (by simp only [Int.ofNat_eq_natCast]; omega)
    have k1 : (16 * (n + 1)).ble 140737488355328 = true := by rw [Nat.ble_eq]; omega
    have k2 : (n + 1).ble 9223372036854775807 = true := by rw [Nat.ble_eq]; omega
    have k3 : (n + 1).ble (n + 1) = true := by rw [Nat.ble_eq]; omega
    have k4 : n < n + 1 := Nat.lt_succ_self n
    have hwn := wrap_succ n (by omega)
    have hg1 : OW (AO.cells (rep (vmap (encS nil0)) (n + 1)) tStr) (rS (gnR [] (n + 1))) := by rw [hg0]; exact OW.refl _
    simp only [Cnd.holds, g1, rens_rowV, k1, k2, k3, k4, Nat.blt_eq, true_and, and_true]
    and_intros
    all_goals first
      | (with_reducible exact wk_int hw)
      | (with_reducible exact wk_int hw2)
      | (with_reducible exact wk_int hw3)
      | (with_reducible exact wk_int hwn)
      | exact hg1 | (with_reducible first | exact trivial | exact rfl | exact Wk.refl _ | exact VW.refl _ | exact OW.refl _ | exact wk_lit _ | assumption) | exact rfl | exact Wk.refl _ | exact VW.refl _ | exact OW.refl _ | ((repeat (first | exact VW.nil | refine VW.cons (Wk.refl _) ?_ | refine VW.cons (Wk.any _) ?_ | refine VW.cons (wk_cap (Nat.le_refl _)) ?_)); done)
  · exact rS_ow (by rw [rens_rowV]; exact hs) rfl
theorem cGn_ok (s : ByteArray) (hb : s.size ≤ 1100000) (F : HP) : C1OK Tryd.prog F fGen (cGn s (dots s).length (dots s)) :=
  mkC_ok (W := default) oldDef (fun _ => splV 1000 (dots s).length) gS1_ro (fun _ => rfl) (fun p hp => by subst hp; exact Gen_tri p hb) fun _ => ⟨rfl, rfl, ⟨trivial, trivial, trivial, trivial, trivial⟩, (fun x hx => by cases hx), ⟨rfl, trivial⟩, all_cons (rS_cl _ _) all_nil⟩
theorem Split_tri (s : ByteArray) (hb : s.size ≤ 1100000) : Tri Tryd.prog default fSplit [sv s, sv dot] [] (splV 1000 (dots s).length) [(1000, rS (dots s))] := by
  refine tri_run (con := [(fGen, cGn s (dots s).length (dots s))]) (hints := noHints) (lc := []) [1100] rfl (fun F _ => one_c (cGn_ok s hb F)) (fun F _ => noL) fun F => ?_
  refine cast (congrArg (VAll _) (oSl_eq s (dots s).length (dots s) F).symm) ⟨⟨?_, (fit_mk (vs' := [splV 1000 (dots s).length]) (H' := [(1000, rS (dots s))]) [(1000, 1100)] rfl rfl (VW.refl _) ⟨⟨_, rfl, rS_ow (by rw [rens_rowV]) rfl⟩, trivial⟩).fits rfl⟩⟩
  simp only [Cnd.holds, Nat.blt_eq, true_and, and_true]
  and_intros
  all_goals first | (with_reducible first | exact trivial | exact rfl | exact Wk.refl _ | exact VW.refl _ | exact OW.refl _ | exact wk_lit _ | assumption) | exact rfl | exact Wk.refl _ | exact VW.refl _ | exact OW.refl _ | ((repeat (first | exact VW.nil | refine VW.cons (Wk.refl _) ?_ | refine VW.cons (Wk.any _) ?_ | refine VW.cons (wk_cap (Nat.le_refl _)) ?_)); done)
theorem cSl_ok (s : ByteArray) (hb : s.size ≤ 1100000) (F : HP) : C1OK Tryd.prog F fSplit (cSl s (dots s).length (dots s)) :=
  mkC_ok (W := default) oldDef (fun _ => splV 1000 (dots s).length) gS1_ro (fun _ => rfl) (fun p hp => by subst hp; exact Split_tri p hb) fun _ => ⟨rfl, rfl, ⟨trivial, trivial, trivial⟩, (fun x hx => by cases hx), ⟨rfl, trivial⟩, all_cons (rS_cl _ _) all_nil⟩
theorem Words_tri (s : ByteArray) (hb : s.size ≤ 1100000) : Tri Tryd.prog default fWords [sv s] [] (splV 1000 (dots s).length) [(1000, rS (dots s))] := by
  refine tri_run (con := [(fSplit, cSl s (dots s).length (dots s))]) (hints := noHints) (lc := []) [1100] rfl (fun F _ => one_c (cSl_ok s hb F)) (fun F _ => noL) fun F => ?_
  refine cast (congrArg (VAll _) (oWd_eq s (dots s).length (dots s) F).symm) ⟨⟨?_, (fit_mk (vs' := [splV 1000 (dots s).length]) (H' := [(1000, rS (dots s))]) [(1000, 1100)] rfl rfl (VW.refl _) ⟨⟨_, rfl, rS_ow (by rw [rens_rowV]) rfl⟩, trivial⟩).fits rfl⟩⟩
  simp only [Cnd.holds, Nat.blt_eq, true_and, and_true]
  and_intros
  all_goals first | (with_reducible first | exact trivial | exact rfl | exact Wk.refl _ | exact VW.refl _ | exact OW.refl _ | exact wk_lit _ | assumption) | exact rfl | exact Wk.refl _ | exact VW.refl _ | exact OW.refl _ | ((repeat (first | exact VW.nil | refine VW.cons (Wk.refl _) ?_ | refine VW.cons (Wk.any _) ?_ | refine VW.cons (wk_cap (Nat.le_refl _)) ?_)); done)
end
end Go.Proofs.YtbmoancedlbhlaaDoor.Tpc

/- A map of which the keys alone count, as one object; maps.Copy into it; slices.Sorted of its keys. -/
set_option linter.unusedVariables false
set_option linter.unusedSimpArgs false
namespace Go.Proofs.YtbmoancedlbhlaaDoor.Eng
open Go Go.RowKit Go.Maps Go.MapKept
open Go.WideElems (rd rg rd_mk rg_of rd_key)
def R0 : Value → Option (DataW Unit × List MemPlace) := fun _ => some (.nil, [])
theorem any_same {es : List (Lit × DataW Unit)} (hk : ∀ p ∈ es, ∃ x, p.1 = .string x) (l : List UInt8) : has (.map es) (.string l) = true ↔ l ∈ es.map fun p => strOf p.1 := by
  rw [has_eq, List.any_eq_true, List.mem_map]
  constructor
  · rintro ⟨p, hp, h⟩
    exact ⟨p, hp, by rw [WideAt.sameKey_eq h]; rfl⟩
  · rintro ⟨p, hp, h⟩
    obtain ⟨x, hx⟩ := hk p hp
    refine ⟨p, hp, ?_⟩
    rw [hx] at h ⊢
    have : x = l := h
    rw [this]
    exact WideAt.sameKey_self (by trivial)
theorem strKeys_props {P : Program} {k : TypeId} {R : Value → Option (DataW Unit × List MemPlace)} {w : World} {b n : Nat} {D : DataW Unit} (hu : P.underlying k = some .string) (h : w.ownsMap P k R b n D) :
    (strKeys D).Nodup ∧ Maps.size D = (strKeys D).length ∧ (strKeys D).length ≤ n ∧ (∀ l, has D (.string l) = true ↔ l ∈ strKeys D) ∧ ∃ es, D = .map es ∧ ∀ p ∈ es, ∃ x, p.1 = .string x := by
  obtain ⟨es, hD, hk⟩ := h.keysOf
  have hk : ∀ p ∈ es, ∃ x, p.1 = .string x := fun p hp => by
    obtain ⟨v, hv⟩ := hk p hp
    obtain ⟨x, _, hx, _⟩ := Maps.keyOf_str hu hv
    exact ⟨x, hx⟩
  have hsz : Maps.size D ≤ n := by
    obtain ⟨es', clock, _, F, hn, rfl⟩ := h
    rw [Maps.size_eq, length_sorted, List.length_map]
    exact hn
  obtain ⟨es2, hD2, hp⟩ := h.tidy (string_keyed hu)
  subst hD
  obtain rfl : es = es2 := by injection hD2
  refine ⟨?_, ?_, ?_, any_same hk, es, rfl, hk⟩
  · show (es.map fun p => strOf p.1).Nodup
    rw [List.nodup_iff_pairwise_ne, List.pairwise_map]
    refine hp.imp_of_mem fun {p q} hpm hqm hne e => ?_
    obtain ⟨x, hx⟩ := hk p hpm
    obtain ⟨y, hy⟩ := hk q hqm
    rw [hx, hy] at e
    exact hne (by rw [hx, hy]; exact congrArg Lit.string e)
  · show es.length = (es.map _).length
    rw [List.length_map]
  · show (es.map _).length ≤ n
    rw [List.length_map]
    exact hsz
def bytes (s : ByteArray) : List UInt8 := s.data.toList
structure KeysOK {α : Type} (m : KMap ByteArray α) (c : Nat) : Prop where
  ki : KI m c
  len : m.length ≤ maxLen
  key : ∀ e ∈ m, e.1.size ≤ maxLen
theorem owns_ents {P : Program} {k : TypeId} {α : Type} {ev : α → Value} {m : KMap ByteArray α} {c : Nat} (hu : P.underlying k = some .string) (hm : KeysOK m c) {w : World} {b : Nat} {es : Array MapEntry} (hb : w.heap[b]? = some (.map es c)) (he : es.toList = ents ev m) :
    ∃ D, w.ownsMap P k R0 b m.length D ∧ ∀ l, has D (.string l) = true ↔ ∃ e ∈ m, bytes e.1 = l := by
  have hrd : ∀ e ∈ m, rd P k R0 ⟨.string e.1, ev e.2.1, e.2.2⟩ = some (.string (bytes e.1), .nil) := fun e hem => by
    refine rd_mk (kl := .string (bytes e.1)) (yv := (.nil, [])) ?_ rfl
    have hs := hm.key e hem
    simp only [keyOf, hu, mapKey, bytes]
    simp; exact hs
  have hsz : es.size = m.length := by rw [← Array.length_toList, he]; simp [ents]
  have hfit : Go.WideElems.Fit P k R0 es c := by
    refine ⟨by rw [hsz]; exact hm.len, ⟨fun x hx => ?_, ?_, ?_⟩, fun x hx => ?_⟩
    · rw [he] at hx
      obtain ⟨e, hem, rfl⟩ := List.mem_map.1 hx
      exact hm.ki.low e hem
    · rw [he]
      have : (ents ev m).map (·.born) = m.map (·.2.2) := by simp [ents]
      rw [this]; exact hm.ki.stamps
    · rw [he]
      have : (ents ev m).map (·.key) = (m.map (·.1)).map Value.string := by simp [ents]
      rw [this]
      rw [List.nodup_iff_pairwise_ne, List.pairwise_map]
      exact (List.nodup_iff_pairwise_ne.1 hm.ki.keys).imp fun h e => h (by injection e)
    · rw [he] at hx
      obtain ⟨e, hem, rfl⟩ := List.mem_map.1 hx
      exact ⟨_, hrd e hem⟩
  refine ⟨_, ⟨es, c, hb, hfit, by omega, rfl⟩, fun l => ?_⟩
  have key : ∀ y, y ∈ (es.toList.map (rg P k R0)).foldr DataW.insert [] ↔ ∃ e ∈ m, y = (.string (bytes e.1), .nil) := fun y => by
    rw [(Go.WideShapes.sorted_perm _).mem_iff, he, List.mem_map]
    constructor
    · rintro ⟨x, hx, rfl⟩
      obtain ⟨e, hem, rfl⟩ := List.mem_map.1 hx
      exact ⟨e, hem, rg_of (hrd e hem)⟩
    · rintro ⟨e, hem, rfl⟩
      exact ⟨_, List.mem_map.2 ⟨e, hem, rfl⟩, rg_of (hrd e hem)⟩
  rw [any_same fun p hp => (by obtain ⟨e, _, rfl⟩ := (key p).1 hp; exact ⟨_, rfl⟩), List.mem_map]
  constructor
  · rintro ⟨p, hp, h⟩
    obtain ⟨e, hem, rfl⟩ := (key p).1 hp
    exact ⟨e, hem, h⟩
  · rintro ⟨e, hem, h⟩
    exact ⟨_, (key _).2 ⟨e, hem, rfl⟩, h⟩
def setOn (P : Program) (k : TypeId) (T : List ByteArray) (n b : Nat) (w : World) : Prop := ∃ D, w.ownsMap P k R0 b n D ∧ ∀ l, has D (.string l) = true ↔ ∃ x ∈ T, bytes x = l
def setHP (P : Program) (k : TypeId) (T : List ByteArray) (n : Nat) (b _room : Nat) : HP where
  on D w := (∀ x, D x ↔ x = b) ∧ setOn P k T n b w
  far {D w w'} hf := fun ⟨h1, d, ⟨es, c, h2, h3⟩, h4⟩ => ⟨h1, d, ⟨es, c, (hf b ((h1 b).2 rfl)).trans h2, h3⟩, h4⟩
  lt {D w} := fun ⟨h1, d, h2, _⟩ x hx => by rw [(h1 x).1 hx]; exact h2.lt
def setO (P : Program) (k : TypeId) (T : List ByteArray) (n : Nat) : AO := .own .other (setHP P k T n)
theorem vrs_one {N : Names} {x : AV} {vargs : Array Value} (h : VRs N [x] vargs.toList) : ∃ y, VR N x y ∧ vargs = #[y] := by
  simp only [VRs] at h
  obtain ⟨y, r, h1, rfl, hl⟩ := h
  exact ⟨y, h1, by cases vargs; simp_all⟩
theorem vrs_two {N : Names} {x1 x2 : AV} {vargs : Array Value} (h : VRs N [x1, x2] vargs.toList) : ∃ y1 y2, VR N x1 y1 ∧ VR N x2 y2 ∧ vargs = #[y1, y2] := by
  simp only [VRs] at h
  obtain ⟨y1, r1, h1, ⟨y2, r2, h2, rfl, rfl⟩, hl⟩ := h
  exact ⟨y1, y2, h1, h2, by cases vargs; simp_all⟩
theorem copy_tri {P : Program} {ρ : Go.Shelf.Ren} (L : Go.Proofs.SlLaysX.n5 P ρ) (hu : P.underlying (ρ.t 26) = some .string) {W : World} {o : AO} {T S : List ByteArray} {n bs ns : Nat} (hn : n + ns ≤ maxLen)
    (ho : ∀ (N : Names) (D : Nat → Prop) (w : World), OR N 0 o D w → D bs ∧ ∃ Ds, w.ownsMap P (ρ.t 26) R0 bs ns Ds ∧ ∀ l, has Ds (.string l) = true ↔ ∃ x ∈ S, bytes x = l) :
    Tri P W (ρ.f 5) [.map 2, .v (.map (some bs))] [(2, setO P (ρ.t 26) T n), (0, o)] (.v (.tuple #[])) [(2, setO P (ρ.t 26) (T ++ S) (n + ns)), (0, o)] := by
  intro W0 F N w vargs hF hNB r ha
  obtain ⟨y1, y2, h1, h2, rfl⟩ := vrs_two ha
  simp only [VR] at h1 h2
  obtain ⟨l, hl, rfl⟩ := h1
  subst h2
  have hK := string_keyed hu
  have hf : ∀ i, (heapOf [(2, setO P (ρ.t 26) T n), (0, o)]).find i = getO [(2, setO P (ρ.t 26) T n), (0, o)] i := find_heapOf rfl
  have hf' : ∀ i, (heapOf [(2, setO P (ρ.t 26) (T ++ S) (n + ns)), (0, o)]).find i = getO [(2, setO P (ρ.t 26) (T ++ S) (n + ns)), (0, o)] i := find_heapOf rfl
  obtain ⟨D0, D, q1, q2, q3⟩ := r.sat
  have g2 : getO [(2, setO P (ρ.t 26) T n), (0, o)] 2 = some (setO P (ρ.t 26) T n) := rfl
  have g0 : getO [(2, setO P (ρ.t 26) T n), (0, o)] 0 = some o := rfl
  obtain ⟨⟨l', hl', hz, hdom, Dd, hown, hhas⟩, _⟩ := q2 2 _ ((hf 2).trans g2)
  obtain rfl : l = l' := Option.some.inj (hl.symm.trans hl')
  obtain ⟨hbs, Ds, hs, hhs⟩ := ho _ _ _ (q2 0 _ ((hf 0).trans g0)).1
  have hne : l.blk ≠ bs := fun e => q3 2 0 _ _ ((hf 2).trans g2) ((hf 0).trans g0) (by decide) bs (e ▸ (hdom l.blk).2 rfl) hbs
  obtain ⟨_, zsz, zle, _, esD, hesD, hkD⟩ := strKeys_props hu hs
  obtain ⟨_, _, _, _, esT, hesT, hkT⟩ := strKeys_props hu hown
  refine (Go.Proofs.AnyX.maps_Copy L hK R0 l.blk bs n ns Dd Ds w hown hs hne (by rw [zsz]; omega)).mono ?_
  rintro e w' ⟨rfl, hT, hS, hg⟩
  refine ⟨_, rfl, N, fun _ _ => rfl, fun i hi hg => hNB i hi (by
    simp only [getO] at hg ⊢
    split at hg
    · cases hg
    · rename_i h2
      rw [if_neg h2]; exact hg), ?_, VRs_cons.2 ⟨VR_v.2 rfl, VRs_nil⟩⟩
  refine (r.turn (i := 2) (o' := setO P (ρ.t 26) (T ++ S) (n + ns)) ((hf 2).trans g2) hg.os hg.tape hg.output fun D' hD' => ?_).heap fun i => ?_
  · obtain ⟨l2, hl2, hz2, hdom2, _⟩ := hD'
    obtain rfl : l = l2 := Option.some.inj (hl.symm.trans hl2)
    refine ⟨fun b hb hnb => hg.block b hb fun e => hnb ((hdom2 b).2 (Option.some.inj e)), D', ⟨l, hl, hz2, hdom2, Go.Lib.mergeD Dd Ds, hT.mono (by omega), fun x => ?_⟩, fun b hb => .inl hb⟩
    have hm : has (Go.Lib.mergeD Dd Ds) (.string x) = (has Dd (.string x) || esD.any fun p => p.1.sameKey (.string x)) := by
      rw [hesD]
      exact has_foldPut _ esD Dd ⟨esT, hesT⟩ fun p hp => by obtain ⟨z, hz⟩ := hkD p hp; rw [hz]; trivial
    rw [hm, Bool.or_eq_true, hhas x]
    have : (esD.any fun p => p.1.sameKey (.string x)) = has Ds (.string x) := by rw [hesD]; rfl
    rw [this, hhs x]
    constructor
    · rintro (⟨z, hz, h⟩ | ⟨z, hz, h⟩)
      · exact ⟨z, List.mem_append_left _ hz, h⟩
      · exact ⟨z, List.mem_append_right _ hz, h⟩
    · rintro ⟨z, hz, h⟩
      rcases List.mem_append.1 hz with hz | hz
      · exact .inl ⟨z, hz, h⟩
      · exact .inr ⟨z, hz, h⟩
  · rw [hf', Eng.T.find_set (by decide), hf]
    simp only [getO]
    split
    · rfl
    · rfl
/-! slices.Sorted of the keys. -/
def dedup : List (List UInt8) → List (List UInt8)
  | [] => []
  | x :: l => if x ∈ l then dedup l else x :: dedup l
theorem mem_dedup {x : List UInt8} : ∀ {l : List (List UInt8)}, x ∈ dedup l ↔ x ∈ l
  | [] => Iff.rfl
  | y :: l => by
    rw [dedup]
    split
    · rename_i h
      rw [mem_dedup, List.mem_cons]
      exact ⟨.inr, fun h' => h'.elim (fun e => e ▸ h) id⟩
    · rw [List.mem_cons, mem_dedup, List.mem_cons]
theorem nodup_dedup : ∀ l : List (List UInt8), (dedup l).Nodup
  | [] => List.nodup_nil
  | y :: l => by
    rw [dedup]
    split
    · exact nodup_dedup l
    · rename_i h
      exact List.nodup_cons.2 ⟨fun h' => h (mem_dedup.1 h'), nodup_dedup l⟩
def sortT (T : List ByteArray) : List ByteArray := ((dedup (T.map bytes)).mergeSort Go.leB).map fun l => ⟨⟨l⟩⟩
theorem sort_uniq {T : List ByteArray} {ss : List (List UInt8)} (hn : ss.Nodup) (hm : ∀ l, l ∈ ss ↔ ∃ x ∈ T, bytes x = l) : ss.mergeSort Go.leB = (dedup (T.map bytes)).mergeSort Go.leB := by
  refine mergeSort_of_perm ((List.perm_ext_iff_of_nodup hn (nodup_dedup _)).2 fun l => ?_)
  rw [hm, mem_dedup, List.mem_map]
theorem Rep.less {W0 w : World} {N : Names} {F : HP} {h h' : Eng.T} (r : Rep W0 N F h w) (hh : ∀ i o, h'.find i = some o → h.find i = some o) : Rep W0 N F h' w := by
  obtain ⟨D0, D, h1, h2, h3⟩ := r.sat
  exact ⟨r.os, r.tape, r.output, D0, D, h1, fun i o hi => h2 i o (hh i o hi), fun i j o o' hi hj => h3 i j o o' (hh i o hi) (hh j o' hj)⟩
section
variable {P : Program} {fS g : FuncId} {e : TypeId} {W : World} {T : List ByteArray} {n : Nat} {tb : TypeId}
theorem sorted_calls (hu : P.underlying e = some .string) (hS : SortsStr P fS g e) (hn : n * 16 ≤ 140737488355328) {W0 : World} {F : HP} {N : Names} {w : World} {vargs : Array Value}
    (r : Rep W0 N F (heapOf [(0, .cells [.map 1] (2 * tb)), (1, setO P e T n)]) w) (ha : VRs N [.func (.func g) [] [.ptr 0 0]] vargs.toList) :
    Calls P fS vargs w fun en w' => ∃ v, en = .returned v ∧ w'.ownsRow w.heap.size e 1 v (sortT T).length ((sortT T).map Value.string) ∧ (v = .slice none 0 0 ↔ sortT T = []) ∧ Below w.heap.size w w' := by
  obtain ⟨y1, h1, rfl⟩ := vrs_one ha
  have hf : ∀ i, (heapOf [(0, AO.cells [AV.map 1] (2 * tb)), (1, setO P e T n)]).find i = getO [(0, AO.cells [AV.map 1] (2 * tb)), (1, setO P e T n)] i := find_heapOf rfl
  obtain ⟨D0, D, q1, q2, q3⟩ := r.sat
  obtain ⟨lb, arr, fz, k1, k2, k3, k4, k5, k6, k7, k8⟩ := (q2 0 _ ((hf 0).trans rfl)).1
  obtain ⟨lm, hlm, hz, hdom, Dd, hown, hhas⟩ := (q2 1 _ ((hf 1).trans rfl)).1
  obtain ⟨k8, -⟩ := k8 (Nat.mul_mod_right _ _)
  simp only [VR, VRs] at h1
  obtain ⟨f', c', rfl, ⟨y, r', ⟨l, hl, rfl⟩, rfl, rfl⟩, rfl⟩ := h1
  obtain rfl : lb = l := Option.some.inj (k1.symm.trans hl)
  have hcell : w.cell? ⟨lb.blk, 0, none⟩ = some (.map (some lm.blk)) := by
    simp only [VRs, VR] at k7
    obtain ⟨y, r', ⟨l2, hl2, rfl⟩, rfl, hk⟩ := k7
    obtain rfl : lm = l2 := Option.some.inj (hlm.symm.trans hl2)
    rw [k8, List.drop_zero] at hk
    have h0 : arr[0]? = some (.map (some lm.blk)) := by
      have := congrArg (fun z : List Value => z[0]?) hk
      simpa [List.getElem?_take] using this
    simp [World.cell?, k3, h0]
  obtain ⟨z1, z2, z3, z4, _⟩ := strKeys_props hu hown
  have hmax : (140737488355328 : Nat) ≤ maxLen := by unfold maxLen; omega
  rw [k8]
  refine (hS lb.blk lm.blk n Dd R0 w (Array.getElem?_eq_some_iff.1 k3).1 hcell hown (by rw [z2]; omega) (by rw [z2]; omega)).mono ?_
  rintro en w' ⟨v, ss, rfl, hp, hrow, hnil, hb⟩
  have hnd : ss.Nodup := hp.nodup_iff.2 z1
  have hm : ∀ l, l ∈ ss ↔ ∃ x ∈ T, bytes x = l := fun l => by rw [hp.mem_iff, ← z4 l, hhas l]
  have hs : (ss.mergeSort Go.leB).map encStr = (sortT T).map Value.string := by
    rw [sort_uniq hnd hm, sortT, List.map_map]; rfl
  have hlen : ss.length = (sortT T).length := by
    have := congrArg List.length hs
    simpa using this
  refine ⟨v, rfl, ?_, ?_, hb⟩
  · rw [← hlen, ← hs]; exact hrow
  · rw [hnil, ← List.length_eq_zero_iff, hlen, List.length_eq_zero_iff]
theorem sorted_nil (hu : P.underlying e = some .string) (hS : SortsStr P fS g e) (hn : n * 16 ≤ 140737488355328) (hT : sortT T = []) :
    Tri P W fS [.func (.func g) [] [.ptr 0 0]] [(0, .cells [.map 1] (2 * tb)), (1, setO P e T n)] (.v (.slice none 0 0)) [] := by
  intro W0 F N w vargs hF hNB r ha
  refine (sorted_calls hu hS hn r ha).mono ?_
  rintro en w' ⟨v, rfl, hrow, hnil, hb⟩
  rw [hnil.2 hT]
  refine ⟨_, rfl, N, fun _ _ => rfl, fun i hi hg => hNB i hi ?_, (r.below hb).less (h' := heapOf []) (fun i o hi => ?_), VRs_cons.2 ⟨VR_v.2 rfl, VRs_nil⟩⟩
  · simp only [getO]
    rw [if_neg (by omega), if_neg (by omega)]
  · rw [show heapOf [] = Eng.T.nil from rfl, find_nil] at hi; cases hi
theorem sorted_tri (hu : P.underlying e = some .string) (hS : SortsStr P fS g e) (hn : n * 16 ≤ 140737488355328) (hT : sortT T ≠ []) :
    Tri P W fS [.func (.func g) [] [.ptr 0 0]] [(0, .cells [.map 1] (2 * tb)), (1, setO P e T n)] (.slice 1000 0 (sortT T).length 1 (.lo (sortT T).length)) [(1000, .cells (vmap ((sortT T).map Value.string)) (2 * e))] := by
  intro W0 F N w vargs hF hNB r ha
  refine (sorted_calls hu hS hn r ha).mono ?_
  rintro en w' ⟨v, rfl, hrow, hnil, hb⟩
  have hN0 : N 1000 = none := hNB 1000 (Nat.le_refl _) rfl
  have r' := r.below hb
  obtain ⟨_, hv | ⟨g, cap, cur, rfl, hg, hc, h1, h2, h3, h4⟩⟩ := hrow
  · have hx := hv.2
    rw [List.length_eq_zero_iff] at hx
    exact absurd hx hT
  · have hle := Names.put_le (l := ⟨g, 0, cur.size⟩) hN0
    rw [Nat.mul_one] at h3 h4
    have key : Rep W0 (N.put 1000 ⟨g, 0, cur.size⟩) F (Eng.T.set Eng.T.depth (heapOf [(0, AO.cells [AV.map 1] (2 * tb)), (1, setO P e T n)]) 1000 (.leaf (.cells (vmap ((sortT T).map Value.string)) (2 * e)))) w' := by
      refine r.new (n := 1000) (by decide) hle hb ⟨fun b => b = g, ?_, fun b hb => by subst hb; exact hg⟩
      refine ⟨⟨g, 0, cur.size⟩, cur, (0, 0), Names.put_same, fun _ => Iff.rfl, (by rw [Nat.mul_div_cancel_left _ (by decide : 0 < 2)]; exact hc), by simp, by simp only [vmap, List.length_map]; omega, .inl rfl, ?_, fun _ => ⟨rfl, rfl⟩⟩
      have : ((cur.toList.drop 0).take (vmap ((sortT T).map Value.string)).length) = (sortT T).map Value.string := by rw [List.drop_zero]; simp only [vmap, List.length_map]; exact h4
      rw [this]
      exact VRs.vmap _
    refine ⟨_, rfl, N.put 1000 ⟨g, 0, cur.size⟩, fun i hi => Names.put_ne (by omega), fun i hi hg => ?_, key.less (h' := heapOf [(1000, .cells (vmap ((sortT T).map Value.string)) (2 * e))]) ?_, ?_⟩
    · have h1 : i ≠ 1000 := fun e => by subst e; cases hg
      rw [Names.put_ne h1]
      exact hNB i hi (by simp only [getO]; rw [if_neg (by omega), if_neg (by omega)])
    · intro i o hi
      rw [find_heapOf rfl] at hi
      simp only [getO] at hi
      split at hi
      · rename_i e; cases hi; rw [e, Eng.T.find_set (by decide), if_pos rfl]; rfl
      · cases hi
    · refine VRs_cons.2 ⟨?_, VRs_nil⟩
      simp only [VR]
      exact ⟨_, 0, cap, Names.put_same, rfl, .inl rfl, by simp only; omega, by simp only [Cp.fits]; omega, by omega⟩
end
end Go.Proofs.YtbmoancedlbhlaaDoor.Eng

/- Topic: a trie whole. -/
set_option linter.unusedVariables false
set_option linter.unusedSimpArgs false
set_option maxRecDepth 100000
namespace Go.Proofs.YtbmoancedlbhlaaDoor.Tpc
open Go Go.RowKit Go.Proofs.YtbmoancedlbhlaaDoor.Eng Go.Proofs.YtbmoancedlbhlaaDoor.Kit
structure TrS where
  root : Nat
  G : List Nd
  X : List Nd
abbrev Pairs := List (ByteArray × ByteArray)
structure TrInv (L : Pairs) (g : Nat) (s : TrS) : Prop where
  shp : Shp s.G s.X g s.root
  ds : ∀ n ∈ s.G, ∀ d x, klook d n.ds = some x ↔ x = 1 ∧ ∃ pat, (pat, d) ∈ L ∧ dots pat = n.p
  cov : ∀ e ∈ L, ∃ n ∈ s.G, n.p = dots e.1
  nd : L.Nodup
  kd : ∀ n ∈ s.G, KI n.ds n.dc ∧ n.ds.length ≤ g ∧ ∀ e ∈ n.ds, e.1.size ≤ 1099511627776
noncomputable section
def trC (root n : Nat) : AO := .cells [ptrV root, iv (Int.ofNat n)] tTrie
def trL (n : Nat) (s : TrS) : LH := [(0, trC s.root n), (2, famO (s.G ++ s.X))]
def trL0 (n : Nat) (s : TrS) : LH := [(0, trC s.root n), (1002, famO (s.G ++ s.X))]
def trHP (L : Pairs) (g : Nat) : Nat → Nat → HP := exHP (TrInv L g) (trL0 L.length)
def trO (L : Pairs) (g : Nat) : AO := .own (.trie L g) (trHP L g)
end
theorem trC_cl (root n : Nat) (K : Nat → Bool) : (trC root n).cl K := ⟨trivial, trivial, trivial⟩
theorem goes_name {vs : List AV} {a : AO} {G : List Nd} {R : LH} (hvs : AV.cls (fun k => Nat.blt k 1000 || (getO R k).isSome) vs) (ha : ∀ K : Nat → Bool, a.cl K) (hR : ∀ x ∈ R, ∀ K : Nat → Bool, x.2.cl K) (hRl : namesLt 1100 R = true) {i j : Nat} (hn : getO R 0 = none ∧ getO R i = none ∧ getO R j = none) (hi0 : i ≠ 0) (hj0 : j ≠ 0) (hij : i ≠ j) (hil : i < 1100) (hjl : j < 1100) :
    Goes vs ((0, a) :: (i, famO G) :: R) vs ((0, a) :: (j, famO G) :: R) := by
  intro W0 F N ys w ⟨N1, g1, g2, r, hv⟩
  obtain ⟨n0, ni, nj⟩ := hn
  obtain ⟨D0, D, h1, h2, h3⟩ := r.sat
  have hRl2 : namesLt T.limit R = true := namesLt_mono (by decide) hRl
  have l1 : namesLt T.limit ((0, a) :: (i, famO G) :: R) = true := by simp only [namesLt, List.all_cons, Bool.and_eq_true, Nat.blt_eq]; have : T.limit = 1048576 := rfl; exact ⟨by omega, by omega, hRl2⟩
  have l2 : namesLt T.limit ((0, a) :: (j, famO G) :: R) = true := by simp only [namesLt, List.all_cons, Bool.and_eq_true, Nat.blt_eq]; have : T.limit = 1048576 := rfl; exact ⟨by omega, by omega, hRl2⟩
  have hf : ∀ k, (heapOf ((0, a) :: (i, famO G) :: R)).find k = getO ((0, a) :: (i, famO G) :: R) k := find_heapOf l1
  have hf' : ∀ k, (heapOf ((0, a) :: (j, famO G) :: R)).find k = getO ((0, a) :: (j, famO G) :: R) k := find_heapOf l2
  have q0 : getO ((0, a) :: (i, famO G) :: R) 0 = some a := by rw [getO, if_pos rfl]
  have qi : getO ((0, a) :: (i, famO G) :: R) i = some (famO G) := by rw [getO, if_neg hi0, getO, if_pos rfl]
  have qr : ∀ k o, getO R k = some o → k ≠ 0 ∧ k ≠ i ∧ k ≠ j ∧ getO ((0, a) :: (i, famO G) :: R) k = some o := fun k o hk => by
    have k0 : k ≠ 0 := fun e => by rw [e, n0] at hk; cases hk
    have ki : k ≠ i := fun e => by rw [e, ni] at hk; cases hk
    have kj : k ≠ j := fun e => by rw [e, nj] at hk; cases hk
    refine ⟨k0, ki, kj, ?_⟩
    rw [getO, if_neg k0, getO, if_neg ki]; exact hk
  have e0 := h2 0 a ((hf 0).trans q0)
  have e2 := h2 i (famO G) ((hf i).trans qi)
  have hcase : ∀ k o, getO ((0, a) :: (j, famO G) :: R) k = some o → (k = 0 ∧ o = a) ∨ (k = j ∧ o = famO G) ∨ getO R k = some o := fun k o hk => by
    rw [getO] at hk
    split at hk
    · rename_i e; cases hk; exact .inl ⟨e, rfl⟩
    · rw [getO] at hk
      split at hk
      · rename_i e; cases hk; exact .inr (.inl ⟨e, rfl⟩)
      · exact .inr (.inr hk)
  let K : Nat → Bool := fun k => Nat.blt k 1000 || (getO R k).isSome
  have hK : ∀ k, k < 1000 → K k = true := fun k hk => by simp only [K, Bool.or_eq_true, Nat.blt_eq]; exact .inl hk
  have hKR : ∀ k o, getO R k = some o → K k = true := fun k o hk => by simp [K, hk]
  refine ⟨fun k => if K k = true then N1 k else none, fun k hk => ?_, fun k hk hg => ?_, ⟨r.os, r.tape, r.output, D0, fun k => if k = j then D i else D k, h1, fun k o hk => ?_, fun k m o o' hk hm hkm => ?_⟩, hv.congr (K := K) (fun k hk => if_pos hk) hvs⟩
  · show (if K k = true then N1 k else none) = _
    rw [if_pos (hK k hk)]; exact g1 k hk
  · refine if_neg fun hh => ?_
    rw [getO] at hg
    split at hg
    · cases hg
    · rw [getO] at hg
      split at hg
      · cases hg
      · simp only [K, hg, Bool.or_eq_true, Nat.blt_eq, Option.isSome_none, Bool.false_eq_true, or_false] at hh
        omega
  · rcases hcase k o ((hf' k).symm.trans hk) with ⟨rfl, rfl⟩ | ⟨rfl, rfl⟩ | hk
    · simp only [if_neg (Ne.symm hj0)]
      exact ⟨e0.1.congr (K := K) (fun k hk => if_pos hk) (hK 0 (by omega)) (ha K), e0.2⟩
    · simp only [if_true]
      exact ⟨e2.1, e2.2⟩
    · obtain ⟨k0, ki, kj, hk'⟩ := qr k o hk
      simp only [if_neg kj]
      have e3 := h2 k o ((hf k).trans hk')
      exact ⟨e3.1.congr (K := K) (fun k hk => if_pos hk) (hKR k o hk) (hR _ (getO_mem hk) K), e3.2⟩
  · have key : ∀ k o, getO ((0, a) :: (j, famO G) :: R) k = some o → ∃ k', getO ((0, a) :: (i, famO G) :: R) k' = some o ∧ (if k = j then D i else D k) = D k' ∧ (k = j ∧ k' = i ∨ k ≠ j ∧ k' = k ∧ k ≠ i) := fun k o hk => by
      rcases hcase k o hk with ⟨rfl, rfl⟩ | ⟨rfl, rfl⟩ | hk
      · exact ⟨0, q0, by rw [if_neg (Ne.symm hj0)], .inr ⟨Ne.symm hj0, rfl, Ne.symm hi0⟩⟩
      · exact ⟨i, qi, by rw [if_pos rfl], .inl ⟨rfl, rfl⟩⟩
      · obtain ⟨k0, ki, kj, hk'⟩ := qr k o hk
        exact ⟨k, hk', by rw [if_neg kj], .inr ⟨kj, rfl, ki⟩⟩
    obtain ⟨k', a1, a2, a3⟩ := key k o ((hf' k).symm.trans hk)
    obtain ⟨m', b1, b2, b3⟩ := key m o' ((hf' m).symm.trans hm)
    have hne : k' ≠ m' := by
      rcases a3 with ⟨rfl, rfl⟩ | ⟨a3, rfl, a4⟩
      · rcases b3 with ⟨rfl, rfl⟩ | ⟨b3, rfl, b4⟩
        · exact absurd rfl hkm
        · exact Ne.symm b4
      · rcases b3 with ⟨rfl, rfl⟩ | ⟨b3, rfl, b4⟩
        · exact a4
        · exact hkm
    show ∀ x, (if k = j then D i else D k) x → ¬ (if m = j then D i else D m) x
    rw [a2, b2]
    exact h3 k' m' o o' ((hf k').trans a1) ((hf m').trans b1) hne
theorem trL0_own (n : Nat) (s : TrS) {R : LH} (hR : namesLt 1100 R = true ∧ getO R 0 = none ∧ getO R 1002 = none) : ownL R (trL0 n s) = true := by
  simp only [ownL, trL0, Bool.and_eq_true, List.all_cons, List.all_nil, hR.1, hR.2.1, hR.2.2]
  exact ⟨⟨⟨rfl, rfl, rfl, trivial⟩, rfl, rfl, trivial⟩, trivial⟩
theorem trL0_cl (n : Nat) (s : TrS) : ∀ x ∈ trL0 n s, x.2.cl (kH (trL0 n s)) := all_cons ⟨trivial, trivial, trivial⟩ (all_cons trivial all_nil)
structure Rest (R : LH) : Prop where
  lt : namesLt 1100 R = true
  n : getO R 0 = none ∧ getO R 1002 = none ∧ getO R 2 = none
  cl : ∀ x ∈ R, ∀ K : Nat → Bool, x.2.cl K
theorem Rest.nil : Rest [] := ⟨rfl, ⟨rfl, rfl, rfl⟩, fun x hx => by cases hx⟩
theorem open_tr {fn : FuncId} {A : List AV} {L : Pairs} {g : Nat} {v : AV} {H' R : LH} (hR : Rest R) (hA : AV.cls (fun k => Nat.blt k 1000 || (getO R k).isSome) A) (h : ∀ s, TrInv L g s → Tri Tryd.prog default fn A (trL L.length s ++ R) v H') : Tri Tryd.prog default fn A ((0, trO L g) :: R) v H' := by
  refine Tri.open (σ := TrS) (R := TrInv L g) (L := trL0 L.length) (H0 := R) (fun s => trL0_own _ s ⟨hR.lt, hR.n.1, hR.n.2.1⟩) (fun s => trL0_cl _ s) (fun s => ⟨_, rfl⟩) fun s hs => ?_
  exact Tri.pre (goes_name (i := 1002) (j := 2) hA (trC_cl _ _) hR.cl hR.lt hR.n (by decide) (by decide) (by decide) (by decide) (by decide)) (h s hs)
theorem shut_tr {L : Pairs} {g : Nat} (s : TrS) (hs : TrInv L g s) (v : AV) {R : LH} (hR : Rest R) (hv : AV.cls (fun k => Nat.blt k 1000 || (getO R k).isSome) [v]) : Goes [v] (trL L.length s ++ R) [v] ((0, trO L g) :: R) := by
  refine Goes.trans (goes_name (i := 2) (j := 1002) hv (trC_cl _ _) hR.cl hR.lt ⟨hR.n.1, hR.n.2.2, hR.n.2.1⟩ (by decide) (by decide) (by decide) (by decide) (by decide)) ?_
  exact Goes.shut (σ := TrS) (R := TrInv L g) (L := trL0 L.length) (m := .trie L g) (H0 := R) (vs := [v]) s hs (trL0_own _ s ⟨hR.lt, hR.n.1, hR.n.2.1⟩) ⟨_, _, rfl, rfl⟩ hv fun x hx => hR.cl x hx _
end Go.Proofs.YtbmoancedlbhlaaDoor.Tpc

/- Topic: Match: runs. -/
set_option linter.unusedVariables false
set_option linter.unusedSimpArgs false
set_option maxRecDepth 100000
namespace Go.Proofs.YtbmoancedlbhlaaDoor.Tpc
open Go Go.RowKit Go.Proofs.YtbmoancedlbhlaaDoor.Eng Go.Proofs.YtbmoancedlbhlaaDoor.Kit
noncomputable section
abbrev fMatch : Nat := 14
abbrev fCopy : Nat := 26
abbrev fSorted : Nat := 27
abbrev fKeys1 : Nat := 33
def gSp : List AV → AP (Nat × Fr × ByteArray) := fun args => match args with
  | .ptr r _ :: .v (.string w) :: _ => .read r fun o => match o with
    | .own (.front f) _ => .ret (r, f, w)
    | _ => .fail "step"
  | _ => .fail "step"
structure StepPre (G : List Nd) (g : Nat) (f : Fr) : Prop where
  n : f.ns.length ≤ 8796093022208
  r : RoomS f.ns.length g
  m : ∀ b ∈ f.ns, b ∈ G.map (·.b)
  l : ∀ x ∈ f.lo, x.1 ∈ G.map (·.b)
def nm0 (a : Nat) : Nat → Nat := fun k => match Nat.beq k 0 with
  | true => a
  | false => k
def cStep (G : List Nd) (g : Nat) : List AV → Option (AP AV) := mkC gSp (fun p => StepPre G g p.2.1) (fun p => nm0 p.1) (fun p => [.ptr 0 0, sv p.2.2]) (fun p => [(0, frO p.2.1), (2, famO G)]) (fun p => .leaf .ret [.ptr 1000 0] [(1000, frO (stepF G p.2.1 p.2.2)), (2, famO G)])
def cWd (s : ByteArray) (n : Nat) (L : List ByteArray) : List AV → Option (AP AV) := mkC gS1 (fun p => p = s) (fun _ k => k) (fun s => [sv s]) (fun _ => []) (fun _ => .leaf .ret [splV 1000 n] [(1000, rS L)])
def aM (n i : Nat) : List (Nat × AV) := [(5, .ptr 1000 0), (19, splV 3 n), (20, iv (Int.ofNat n)), (21, iv (Int.ofNat i))]
def hM (i : Nat) (w : ByteArray) : ClaimT := hintL [(fMatch, 4, 0, hv (.lit true)), (fMatch, 5, 1, hv (sv w)), (fMatch, 7, 0, hv (iv (Int.ofNat (i + 1))))]
theorem oMH_eq (G : List Nd) (g : Nat) (f : Fr) (ws : List ByteArray) (w : ByteArray) (n i : Nat) (F : HP) : wLoop [(fStep, cStep G g)] (hM i w) [] default fMatch (loopN fMatch 4) (tms 0 49 (aM n i)) [(1000, frO f), (2, famO G), (3, rS ws)] [1000, 2, 3, 1100] [5, 19, 20, 21] F = VT.leaf (AX.normal,[AV.ptr 1100 0,AV.slice 3 0 n 1 (Cp.ex n),i' n,i' (i + 1)],49) [none,some (AO.any (famN G)),some (AO.cells (rowV encS ws) 18),some (AO.own (Md.front (stepF G f w)) (frHP (stepF G f w)))] 1101 (((p' (Wk (b' (decide (Int.ofNat i < Int.ofNat n))) (AV.lit true))).a t').a (((p' (i.blt n = true)).a t').a (((p' ((0 + i * 1).blt (rowV encS ws).length = true)).a ((p' ((rowV encS ws).getD (0 + i * 1) (u') = AV.v (Value.string ((rowV encS ws).getD (0 + i * 1) (u')).strOf))).a ((p' (Wk (AV.v (Value.string ((rowV encS ws).getD (0 + i * 1) (u')).strOf)) (s' w))).a t'))).a (((p' (StepPre G g f)).a ((p' (VW [AV.ptr 1000 0,s' w] [AV.ptr 1000 0,s' w])).a ((p' (OW (AO.own (Md.front f) (frHP f)) (AO.own (Md.front f) (frHP f)))).a ((p' (OW (AO.any (famN G)) (AO.any (famN G)))).a t')))).a (((p' (Wk (z' (IntKind.i64.wrap (Int.ofNat i + Int.ofNat 1))) (i' (i + 1)))).a t').a t'))))) := by kernel_rfl
theorem oME_eq (G : List Nd) (f : Fr) (ws : List ByteArray) (n : Nat) (F : HP) : wLoop [] (hintL [(fMatch, 4, 0, hv (.lit false))]) [] default fMatch (loopN fMatch 4) (tms 0 49 (aM n n)) [(1000, frO f), (2, famO G), (3, rS ws)] [1000, 2, 3, 1100] [5, 19, 20, 21] F = VT.leaf (AX.exit 0,[AV.ptr 1000 0,AV.slice 3 0 n 1 (Cp.ex n),i' n,i' n],49) [some (AO.own (Md.front f) (frHP f)),some (AO.any (famN G)),some (AO.cells (rowV encS ws) 18),none] 1100 (((p' (Wk (b' (decide (Int.ofNat n < Int.ofNat n))) (AV.lit false))).a t').a t') := by kernel_rfl
/-! The texts to which the nodes lead. -/
def setS (T : List ByteArray) (c : Nat) : AO := setO Tryd.prog 9 T c
def gMp : List AV → AP Nat := fun args => match args with
  | .map r :: _ => .ret r
  | _ => .fail "map"
def nmC (a : Nat) : Nat → Nat := fun k => match Nat.beq k 2 with
  | true => a
  | false => match Nat.beq k 0 with
    | true => 2
    | false => k
def cCp (G : List Nd) (T S : List ByteArray) (c m db : Nat) : List AV → Option (AP AV) := mkC gMp (fun _ => True) nmC (fun _ => [.map 2, .v (mpV db)]) (fun _ => [(2, setS T c), (0, famO G)]) (fun _ => .leaf .ret [.v (.tuple #[])] [(2, setS (T ++ S) (c + m)), (0, famO G)])
def aC (n i : Nat) : List (Nat × AV) := [(8, .map 0), (33, sP 1 n), (34, iv (Int.ofNat n)), (35, iv (Int.ofNat i))]
def hC (i b db : Nat) : ClaimT := hintL [(fMatch, 10, 0, hv (.lit true)), (fMatch, 11, 1, hv (ptrV b)), (fMatch, 12, 4, hf (mpV db)), (fMatch, 13, 0, hv (iv (Int.ofNat (i + 1))))]
def oC (G : List Nd) (ns : List Nat) (T : List ByteArray) (c : Nat) : LH := [(0, setS T c), (1, rP ns), (2, famO G)]
theorem oCH_eq (G : List Nd) (ns : List Nat) (T S : List ByteArray) (c m db b n i : Nat) (F : HP) : wLoop [(fCopy, cCp G T S c m db)] (hC i b db) [] default fMatch (loopN fMatch 10) (tms 0 49 (aC n i)) (oC G ns T c) [0, 1, 2] [8, 33, 34, 35] F = VT.leaf (AX.normal,[AV.map 0,AV.slice 1 0 n 1 (Cp.lo n),i' n,i' (i + 1)],49) [some (AO.own Md.other (setHP Tryd.prog 9 (T ++ S) (c + m))),some (AO.cells (rowV encP ns) 84),some (AO.any (famN G))] 1100 (((p' (Wk (b' (decide (Int.ofNat i < Int.ofNat n))) (AV.lit true))).a t').a (((p' (i.blt n = true)).a t').a (((p' ((0 + i * 1).blt (rowV encP ns).length = true)).a ((p' (Wk ((rowV encP ns).getD (0 + i * 1) (u')) (AV.v (Value.pointer (some (Addr.mk b 0 none)))))).a t')).a (((p' (FactAt Tryd.prog (AO.any (famN G)) (Fc.load 47 (Addr.mk b 1 none) (Value.map (some db))))).a t').a (((Cnd.p True).a ((p' (VW [AV.map 0,AV.v (Value.map (some db))] [AV.map 0,AV.v (Value.map (some db))])).a ((p' (OW (AO.own Md.other (setHP Tryd.prog 9 T c)) (AO.own Md.other (setHP Tryd.prog 9 T c)))).a ((p' (OW (AO.any (famN G)) (AO.any (famN G)))).a t')))).a (((p' (Wk (z' (IntKind.i64.wrap (Int.ofNat i + Int.ofNat 1))) (i' (i + 1)))).a t').a t')))))) := by kernel_rfl
theorem oCE_eq (G : List Nd) (ns : List Nat) (T : List ByteArray) (c n : Nat) (F : HP) : wLoop [] (hintL [(fMatch, 10, 0, hv (.lit false))]) [] default fMatch (loopN fMatch 10) (tms 0 49 (aC n n)) (oC G ns T c) [0, 1, 2] [8, 33, 34, 35] F = VT.leaf (AX.exit 2,[AV.map 0,AV.slice 1 0 n 1 (Cp.lo n),i' n,i' n],49) [some (AO.own Md.other (setHP Tryd.prog 9 T c)),some (AO.cells (rowV encP ns) 84),some (AO.any (famN G))] 1100 (((p' (Wk (b' (decide (Int.ofNat n < Int.ofNat n))) (AV.lit false))).a t').a t') := by kernel_rfl
/-! The function. -/
def gMM : List AV → AP (Nat × Nat) := fun tmps => match getL tmps 5 with
  | .ptr r _ => match getL tmps 19 with
    | .slice q _ _ _ _ => .ret (r, q)
    | _ => .fail "match"
  | _ => .fail "match"
def nmM (a b : Nat) : Nat → Nat := fun k => match Nat.beq k 1000 with
  | true => a
  | false => match Nat.beq k 3 with
    | true => b
    | false => k
def fMZ (lo : KMap Nat Int) (lc : Nat) (se : KMap Nat Int) (sc : Nat) (G : List Nd) : LH := [(1000, frC nilV), (1002, fmO lo lc), (1003, fmO se sc), (2, famO G)]
def fMR (ns : List Nat) (n : Nat) (lo : KMap Nat Int) (lc : Nat) (se : KMap Nat Int) (sc : Nat) (G : List Nd) : LH := [(1000, frC (sP 1001 n)), (1001, rP ns), (1002, fmO lo lc), (1003, fmO se sc), (2, famO G)]
def lMZ (f0 : Fr) (ws : List ByteArray) (n : Nat) (lo : KMap Nat Int) (lc : Nat) (se : KMap Nat Int) (sc : Nat) (G : List Nd) : List AV → AP (AX × List AV) := mkL gMM (fun _ => True) (fun p => nmM p.1 p.2) (fun _ => tms 0 49 (aM n 0)) (fun _ => [(1000, frO f0), (2, famO G), (3, rS ws)]) (fun _ => .leaf (.exit 0) (tms 0 49 [(5, .ptr 1000 0)]) (fMZ lo lc se sc G))
def lMR (f0 : Fr) (ws : List ByteArray) (n : Nat) (ns : List Nat) (m : Nat) (lo : KMap Nat Int) (lc : Nat) (se : KMap Nat Int) (sc : Nat) (G : List Nd) : List AV → AP (AX × List AV) := mkL gMM (fun _ => True) (fun p => nmM p.1 p.2) (fun _ => tms 0 49 (aM n 0)) (fun _ => [(1000, frO f0), (2, famO G), (3, rS ws)]) (fun _ => .leaf (.exit 0) (tms 0 49 [(5, .ptr 1000 0)]) (fMR ns m lo lc se sc G))
def gCC : List AV → AP (Nat × Nat) := fun tmps => match getL tmps 8 with
  | .map r => match getL tmps 33 with
    | .slice q _ _ _ _ => .ret (r, q)
    | _ => .fail "match"
  | _ => .fail "match"
def nmCC (a b : Nat) : Nat → Nat := fun k => match Nat.beq k 0 with
  | true => a
  | false => match Nat.beq k 1 with
    | true => b
    | false => k
def lC (ns : List Nat) (n : Nat) (T : List ByteArray) (c : Nat) (G : List Nd) : List AV → AP (AX × List AV) := mkL gCC (fun _ => True) (fun p => nmCC p.1 p.2) (fun _ => tms 0 49 (aC n 0)) (fun _ => oC G ns [] 0) (fun _ => .leaf (.exit 2) (tms 0 49 [(8, .map 0)]) [(0, setS T c), (2, famO G)])
def gSo : List AV → AP (Nat × Nat) := fun args => match args with
  | .func _ _ (.ptr b _ :: _) :: _ => .read b fun o => match o with
    | .cells (.map r :: _) _ => .ret (b, r)
    | _ => .fail "sorted"
  | _ => .fail "sorted"
abbrev tBox : TypeId := 47
def cSoZ (T : List ByteArray) (c : Nat) : List AV → Option (AP AV) := mkC gSo (fun _ => True) (fun p => nmCC p.1 p.2) (fun _ => [.func (.func fKeys1) [] [.ptr 0 0]]) (fun _ => [(0, .cells [.map 1] (2 * tBox)), (1, setS T c)]) (fun _ => .leaf .ret [nilV] [])
def cSoR (T : List ByteArray) (c : Nat) (l : List ByteArray) (n : Nat) : List AV → Option (AP AV) := mkC gSo (fun _ => True) (fun p => nmCC p.1 p.2) (fun _ => [.func (.func fKeys1) [] [.ptr 0 0]]) (fun _ => [(0, .cells [.map 1] (2 * tBox)), (1, setS T c)]) (fun _ => .leaf .ret [.slice 1000 0 n 1 (.lo n)] [(1000, rS l)])
def trU (root n : Nat) (G : List Nd) : LH := [(0, trC root n), (2, famO G)]
theorem oMaZ_eq (G : List Nd) (g root m : Nat) (key : ByteArray) (ws : List ByteArray) (n : Nat) (lo : KMap Nat Int) (lc : Nat) (se : KMap Nat Int) (sc : Nat) (f0 : Fr) (F : HP) : wRun [(fNewF, cNewF), (fStand, cStO G 2), (fWords, cWd key n ws), (fSorted, cSoZ [] 0)] (hintL [(fMatch, 10, 0, hv (.lit false))]) [(fMatch, 4, loopN fMatch 4, lMZ f0 ws n lo lc se sc G)] default fMatch [.ptr 0 0, sv key] (trU root m G) [0, 2] F = VT.leaf (AV.v (Value.slice none 0 0)) [some (AO.cells [AV.v (Value.pointer (some (Addr.mk root 0 none))),i' m] 90),some (AO.any (famN G))] 1107 (((Cnd.p True).a ((p' (VW [] [])).a t')).a (((p' (true = true)).a t').a (((p' (StPre G fr0 root)).a ((p' (VW [AV.ptr 1100 0,AV.v (Value.pointer (some (Addr.mk root 0 none))),b' false] [AV.ptr 1100 0,AV.v (Value.pointer (some (Addr.mk root 0 none))),b' false])).a ((p' (OW (AO.own (Md.front fr0) (frHP fr0)) (AO.own (Md.front fr0) (frHP fr0)))).a ((p' (OW (AO.any (famN G)) (AO.any (famN G)))).a t')))).a (((p' (key = key)).a ((p' (VW [s' key] [s' key])).a t')).a ((p' ((fMatch,4,loopN fMatch 4,lMZ f0 ws n lo lc se sc G).snd.snd.fst = (fMatch,4,loopN fMatch 4,lMZ f0 ws n lo lc se sc G).snd.snd.fst)).a ((Cnd.p True).a ((p' (VW [AV.ptr 0 0,s' key,u',u',AV.v (Value.slice none 0 0),AV.ptr 1100 0,u',u',u',u',u',AV.ptr 1100 0,AV.ptr 1100 0,AV.ptr 0 0,AV.ptr 0 0,AV.ptr 0 0,AV.v (Value.pointer (some (Addr.mk root 0 none))),AV.tuple [],s' key,AV.slice 1101 0 n 1 (Cp.ex n),z' ↑n,i' 0,u',u',u',u',u',u',u',u',u',u',u',u',u',u',u',u',u',u',u',u',u',u',u',u',u',u',u'] [a',a',a',a',a',AV.ptr 1100 0,a',a',a',a',a',a',a',a',a',a',a',a',a',AV.slice 1101 0 n 1 (Cp.ex n),i' n,i' 0,a',a',a',a',a',a',a',a',a',a',a',a',a',a',a',a',a',a',a',a',a',a',a',a',a',a',a'])).a ((p' (OW (AO.own (Md.front (standC (chOf G root) fr0 false)) (frHP (standC (chOf G root) fr0 false))) (AO.own (Md.front f0) (frHP f0)))).a ((p' (OW (AO.any (famN G)) (AO.any (famN G)))).a ((p' (OW (AO.cells (AV.rens (sgN (fun k => k) [1000] 1101) (rowV encS ws)) 18) (AO.cells (AV.rens (nmM 1100 1101) (rowV encS ws)) 18))).a (((p' (true = true)).a t').a (((p' (Wk (b' false) (AV.lit false))).a t').a (((Cnd.p True).a ((p' (VW [AV.func (Fn.func 33) [] [AV.ptr 1106 0]] [AV.func (Fn.func 33) [] [AV.ptr 1106 0]])).a ((p' (OW (AO.cells [AV.map 1105] 94) (AO.cells [AV.map 1105] 94))).a ((p' (OW (AO.map [] 0) (AO.own Md.other (setHP Tryd.prog 9 [] 0)))).a t')))).a t'))))))))))))) := by kernel_rfl
theorem oMaN_eq (G : List Nd) (g root m : Nat) (key : ByteArray) (ws : List ByteArray) (n : Nat) (ns : List Nat) (k : Nat) (lo : KMap Nat Int) (lc : Nat) (se : KMap Nat Int) (sc : Nat) (f0 : Fr) (T : List ByteArray) (c : Nat) (F : HP) : wRun [(fNewF, cNewF), (fStand, cStO G 2), (fWords, cWd key n ws), (fSorted, cSoZ T c)] noHints [(fMatch, 4, loopN fMatch 4, lMR f0 ws n ns k lo lc se sc G), (fMatch, 10, loopN fMatch 10, lC ns k T c G)] default fMatch [.ptr 0 0, sv key] (trU root m G) [0, 2] F = VT.leaf (AV.v (Value.slice none 0 0)) [some (AO.cells [AV.v (Value.pointer (some (Addr.mk root 0 none))),i' m] 90),some (AO.any (famN G))] 1108 (((Cnd.p True).a ((p' (VW [] [])).a t')).a (((p' (true = true)).a t').a (((p' (StPre G fr0 root)).a ((p' (VW [AV.ptr 1100 0,AV.v (Value.pointer (some (Addr.mk root 0 none))),b' false] [AV.ptr 1100 0,AV.v (Value.pointer (some (Addr.mk root 0 none))),b' false])).a ((p' (OW (AO.own (Md.front fr0) (frHP fr0)) (AO.own (Md.front fr0) (frHP fr0)))).a ((p' (OW (AO.any (famN G)) (AO.any (famN G)))).a t')))).a (((p' (key = key)).a ((p' (VW [s' key] [s' key])).a t')).a ((p' ((fMatch,4,loopN fMatch 4,lMR f0 ws n ns k lo lc se sc G).snd.snd.fst = (fMatch,4,loopN fMatch 4,lMR f0 ws n ns k lo lc se sc G).snd.snd.fst)).a ((Cnd.p True).a ((p' (VW [AV.ptr 0 0,s' key,u',u',AV.v (Value.slice none 0 0),AV.ptr 1100 0,u',u',u',u',u',AV.ptr 1100 0,AV.ptr 1100 0,AV.ptr 0 0,AV.ptr 0 0,AV.ptr 0 0,AV.v (Value.pointer (some (Addr.mk root 0 none))),AV.tuple [],s' key,AV.slice 1101 0 n 1 (Cp.ex n),z' ↑n,i' 0,u',u',u',u',u',u',u',u',u',u',u',u',u',u',u',u',u',u',u',u',u',u',u',u',u',u',u'] [a',a',a',a',a',AV.ptr 1100 0,a',a',a',a',a',a',a',a',a',a',a',a',a',AV.slice 1101 0 n 1 (Cp.ex n),i' n,i' 0,a',a',a',a',a',a',a',a',a',a',a',a',a',a',a',a',a',a',a',a',a',a',a',a',a',a',a'])).a ((p' (OW (AO.own (Md.front (standC (chOf G root) fr0 false)) (frHP (standC (chOf G root) fr0 false))) (AO.own (Md.front f0) (frHP f0)))).a ((p' (OW (AO.any (famN G)) (AO.any (famN G)))).a ((p' (OW (AO.cells (AV.rens (sgN (fun k => k) [1000] 1101) (rowV encS ws)) 18) (AO.cells (AV.rens (nmM 1100 1101) (rowV encS ws)) 18))).a (((p' (true = true)).a t').a ((p' ((fMatch,10,loopN fMatch 10,lC ns k T c G).snd.snd.fst = (fMatch,10,loopN fMatch 10,lC ns k T c G).snd.snd.fst)).a ((Cnd.p True).a ((p' (VW [a',a',a',a',a',AV.ptr 1102 0,a',a',AV.map 1106,a',a',a',a',a',a',a',a',a',a',a',a',a',a',a',a',a',a',a',a',AV.map 1106,AV.ptr 1102 0,AV.ptr 1102 0,AV.ptr 1102 0,AV.slice 1103 0 k 1 (Cp.lo k),z' ↑k,i' 0,a',a',a',a',a',a',a',a',a',a',a',a',a'] [a',a',a',a',a',a',a',a',AV.map 1106,a',a',a',a',a',a',a',a',a',a',a',a',a',a',a',a',a',a',a',a',a',a',a',a',AV.slice 1103 0 k 1 (Cp.lo k),i' k,i' 0,a',a',a',a',a',a',a',a',a',a',a',a',a'])).a ((p' (OW (AO.map [] 0) (AO.own Md.other (setHP Tryd.prog 9 [] 0)))).a ((p' (OW (AO.cells (AV.rens (sgN (nmM 1100 1101) [1000,1001,1002,1003] 1102) (rowV encP ns)) 84) (AO.cells (AV.rens (nmCC 1106 1103) (rowV encP ns)) 84))).a ((p' (OW (AO.any (famN G)) (AO.any (famN G)))).a (((Cnd.p True).a ((p' (VW [AV.func (Fn.func 33) [] [AV.ptr 1107 0]] [AV.func (Fn.func 33) [] [AV.ptr 1107 0]])).a ((p' (OW (AO.cells [AV.map 1106] 94) (AO.cells [AV.map 1106] 94))).a ((p' (OW (AO.own Md.other (setHP Tryd.prog 9 T c)) (AO.own Md.other (setHP Tryd.prog 9 T c)))).a t')))).a t')))))))))))))))))) := by kernel_rfl
theorem oMaR_eq (G : List Nd) (g root m : Nat) (key : ByteArray) (ws : List ByteArray) (n : Nat) (ns : List Nat) (k : Nat) (lo : KMap Nat Int) (lc : Nat) (se : KMap Nat Int) (sc : Nat) (f0 : Fr) (T : List ByteArray) (c : Nat) (l : List ByteArray) (q : Nat) (F : HP) : wRun [(fNewF, cNewF), (fStand, cStO G 2), (fWords, cWd key n ws), (fSorted, cSoR T c l q)] noHints [(fMatch, 4, loopN fMatch 4, lMR f0 ws n ns k lo lc se sc G), (fMatch, 10, loopN fMatch 10, lC ns k T c G)] default fMatch [.ptr 0 0, sv key] (trU root m G) [0, 2, 1100, 1101, 1102, 1103, 1104, 1105, 1106, 1107, 1108] F = VT.leaf (AV.slice 1108 0 q 1 (Cp.lo q)) [some (AO.cells [AV.v (Value.pointer (some (Addr.mk root 0 none))),i' m] 90),some (AO.any (famN G)),none,none,some (AO.cells [AV.slice 1103 0 k 1 (Cp.lo k),AV.map 1104,AV.map 1105] 116),none,some (AO.map (renE (sgN (nmM 1100 1101) [1000,1001,1002,1003] 1102) (kE pk iv lo)) lc),some (AO.map (renE (sgN (nmM 1100 1101) [1000,1001,1002,1003] 1102) (kE pk iv se)) sc),none,none,some (AO.cells (AV.rens (sgN (nmCC 1107 1106) [1000] 1108) (rowV encS l)) 18)] 1109 (((Cnd.p True).a ((p' (VW [] [])).a t')).a (((p' (true = true)).a t').a (((p' (StPre G fr0 root)).a ((p' (VW [AV.ptr 1100 0,AV.v (Value.pointer (some (Addr.mk root 0 none))),b' false] [AV.ptr 1100 0,AV.v (Value.pointer (some (Addr.mk root 0 none))),b' false])).a ((p' (OW (AO.own (Md.front fr0) (frHP fr0)) (AO.own (Md.front fr0) (frHP fr0)))).a ((p' (OW (AO.any (famN G)) (AO.any (famN G)))).a t')))).a (((p' (key = key)).a ((p' (VW [s' key] [s' key])).a t')).a ((p' ((fMatch,4,loopN fMatch 4,lMR f0 ws n ns k lo lc se sc G).snd.snd.fst = (fMatch,4,loopN fMatch 4,lMR f0 ws n ns k lo lc se sc G).snd.snd.fst)).a ((Cnd.p True).a ((p' (VW [AV.ptr 0 0,s' key,u',u',AV.v (Value.slice none 0 0),AV.ptr 1100 0,u',u',u',u',u',AV.ptr 1100 0,AV.ptr 1100 0,AV.ptr 0 0,AV.ptr 0 0,AV.ptr 0 0,AV.v (Value.pointer (some (Addr.mk root 0 none))),AV.tuple [],s' key,AV.slice 1101 0 n 1 (Cp.ex n),z' ↑n,i' 0,u',u',u',u',u',u',u',u',u',u',u',u',u',u',u',u',u',u',u',u',u',u',u',u',u',u',u'] [a',a',a',a',a',AV.ptr 1100 0,a',a',a',a',a',a',a',a',a',a',a',a',a',AV.slice 1101 0 n 1 (Cp.ex n),i' n,i' 0,a',a',a',a',a',a',a',a',a',a',a',a',a',a',a',a',a',a',a',a',a',a',a',a',a',a',a'])).a ((p' (OW (AO.own (Md.front (standC (chOf G root) fr0 false)) (frHP (standC (chOf G root) fr0 false))) (AO.own (Md.front f0) (frHP f0)))).a ((p' (OW (AO.any (famN G)) (AO.any (famN G)))).a ((p' (OW (AO.cells (AV.rens (sgN (fun k => k) [1000] 1101) (rowV encS ws)) 18) (AO.cells (AV.rens (nmM 1100 1101) (rowV encS ws)) 18))).a (((p' (true = true)).a t').a ((p' ((fMatch,10,loopN fMatch 10,lC ns k T c G).snd.snd.fst = (fMatch,10,loopN fMatch 10,lC ns k T c G).snd.snd.fst)).a ((Cnd.p True).a ((p' (VW [a',a',a',a',a',AV.ptr 1102 0,a',a',AV.map 1106,a',a',a',a',a',a',a',a',a',a',a',a',a',a',a',a',a',a',a',a',AV.map 1106,AV.ptr 1102 0,AV.ptr 1102 0,AV.ptr 1102 0,AV.slice 1103 0 k 1 (Cp.lo k),z' ↑k,i' 0,a',a',a',a',a',a',a',a',a',a',a',a',a'] [a',a',a',a',a',a',a',a',AV.map 1106,a',a',a',a',a',a',a',a',a',a',a',a',a',a',a',a',a',a',a',a',a',a',a',a',AV.slice 1103 0 k 1 (Cp.lo k),i' k,i' 0,a',a',a',a',a',a',a',a',a',a',a',a',a'])).a ((p' (OW (AO.map [] 0) (AO.own Md.other (setHP Tryd.prog 9 [] 0)))).a ((p' (OW (AO.cells (AV.rens (sgN (nmM 1100 1101) [1000,1001,1002,1003] 1102) (rowV encP ns)) 84) (AO.cells (AV.rens (nmCC 1106 1103) (rowV encP ns)) 84))).a ((p' (OW (AO.any (famN G)) (AO.any (famN G)))).a (((Cnd.p True).a ((p' (VW [AV.func (Fn.func 33) [] [AV.ptr 1107 0]] [AV.func (Fn.func 33) [] [AV.ptr 1107 0]])).a ((p' (OW (AO.cells [AV.map 1106] 94) (AO.cells [AV.map 1106] 94))).a ((p' (OW (AO.own Md.other (setHP Tryd.prog 9 T c)) (AO.own Md.other (setHP Tryd.prog 9 T c)))).a t')))).a t')))))))))))))))))) := by kernel_rfl
end
end Go.Proofs.YtbmoancedlbhlaaDoor.Tpc

/- Topic: Match: the loop over a key's words. -/
set_option linter.unusedVariables false
set_option linter.unusedSimpArgs false
set_option maxRecDepth 100000
namespace Go.Proofs.YtbmoancedlbhlaaDoor.Tpc
open Go Go.RowKit Go.Proofs.YtbmoancedlbhlaaDoor.Eng Go.Proofs.YtbmoancedlbhlaaDoor.Kit
theorem gSp_ro : ∀ args, RO (gSp args) := by
  intro args
  unfold gSp
  split
  · refine RO.read _ _ fun o => ?_
    split
    · exact RO.ret _
    · exact RO.fail _
  · exact RO.fail _
theorem cStep_ok {G : List Nd} {g : Nat} (hT : TreeOK G g) (F : HP) : C1OK Tryd.prog F fStep (cStep G g) :=
  mkC_ok (W := default) oldDef (fun _ => .ptr 1000 0) gSp_ro (fun _ => rfl) (fun p hp => Astep_tri hT p.2.1 p.2.2 hp.n hp.r hp.m hp.l) fun p => ⟨rfl, rfl, ⟨rfl, trivial, trivial⟩, all_cons trivial (all_cons trivial all_nil), ⟨rfl, trivial⟩, all_cons trivial (all_cons trivial all_nil)⟩
theorem cWd_ok (s : ByteArray) (hb : s.size ≤ 1100000) (F : HP) : C1OK Tryd.prog F fWords (cWd s (dots s).length (dots s)) :=
  mkC_ok (W := default) oldDef (fun _ => splV 1000 (dots s).length) gS1_ro (fun _ => rfl) (fun p hp => by subst hp; exact Words_tri p hb) fun _ => ⟨rfl, rfl, ⟨trivial, trivial⟩, (fun x hx => by cases hx), ⟨rfl, trivial⟩, all_cons (rS_cl _ _) all_nil⟩
theorem rS_get (M : List ByteArray) (i : Nat) (hi : i < M.length) (d : AV) : (rowV encS M).getD (0 + i * 1) d = sv (M.getD i nil0) := by
  have := row_getD encS_len M nil0 i hi 0 (by decide) _ rfl d
  rwa [Nat.add_zero] at this
theorem rS_lt (M : List ByteArray) (i : Nat) (hi : i < M.length) : (0 + i * 1).blt (rowV encS M).length = true := by
  rw [rS_len, Nat.blt_eq]; omega
noncomputable def fM (f : Fr) (G : List Nd) : LH := match f.ns with
  | [] => [(1000, frC nilV), (1002, fmO f.lo f.lc), (1003, fmO f.se f.sc), (2, famO G)]
  | _ => [(1000, frC (sP 1001 f.ns.length)), (1001, rP f.ns), (1002, fmO f.lo f.lc), (1003, fmO f.se f.sc), (2, famO G)]
theorem ra_inj {L : LH} (hL : ∀ i o, getO L i = some o → i ≠ 1000) : ∀ j k o o', getO L j = some o → getO L k = some o' → rootAt 1000 j = rootAt 1000 k → j = k := by
  intro j k o o' hj hk e
  have h1 := hL j o hj
  have h2 := hL k o' hk
  unfold rootAt at e
  split at e <;> split at e <;> omega
theorem open_st {f : Fr} {G : List Nd} {vs : List AV} (hv : VW vs vs) : Goes vs [(1000, frO f), (2, famO G)] vs (fM f G) := by
  refine Goes.trans (H' := [(1000, .own (.front f) (HP.rep (fl0 f))), (2, famO G)]) (goes_lw rfl rfl ⟨rfl, fun N i D w ⟨l, h1, h2, s, _, h3⟩ => ⟨l, h1, h2, h3⟩, rfl, OW.refl _, trivial⟩ hv) ?_
  have key : ∀ (ns : List Nat) (lo : KMap Nat Int) (lc : Nat) (se : KMap Nat Int) (sc : Nat), Goes vs [(1000, .own (.front ⟨ns, lo, lc, se, sc⟩) (HP.rep (fl0 ⟨ns, lo, lc, se, sc⟩))), (2, famO G)] vs (fM ⟨ns, lo, lc, se, sc⟩ G) := by
    intro ns lo lc se sc
    have hcl := fl0_cl ⟨ns, lo, lc, se, sc⟩
    cases ns with
    | nil =>
      have hcase : ∀ j o, getO (fl0 ⟨[], lo, lc, se, sc⟩) j = some o → (j = 0 ∧ o = frC nilV) ∨ (j = 1002 ∧ o = fmO lo lc) ∨ (j = 1003 ∧ o = fmO se sc) := fun j o hj => by
        simp only [fl0, getO] at hj
        split at hj
        · rename_i e; cases hj; exact .inl ⟨e, rfl⟩
        · split at hj
          · rename_i e; cases hj; exact .inr (.inl ⟨e, rfl⟩)
          · split at hj
            · rename_i e; cases hj; exact .inr (.inr ⟨e, rfl⟩)
            · cases hj
      refine goes_openAt (i := 1000) (m := .front ⟨[], lo, lc, se, sc⟩) (L := fl0 ⟨[], lo, lc, se, sc⟩) (rootAt 1000) rfl rfl rfl rfl ⟨_, rfl⟩ (ra_inj fun j o hj e => ?_) (fun j o hj => hcl _ (getO_mem hj)) (fun j o hj => ?_) fun n hn => ?_
      · rcases hcase j o hj with ⟨h, _⟩ | ⟨h, _⟩ | ⟨h, _⟩ <;> omega
      · rcases hcase j o hj with ⟨rfl, rfl⟩ | ⟨rfl, rfl⟩ | ⟨rfl, rfl⟩
        · exact ⟨rfl, fun h => absurd rfl h⟩
        · exact ⟨by rw [fmO_ren]; rfl, fun _ => ⟨by decide, rfl⟩⟩
        · exact ⟨by rw [fmO_ren]; rfl, fun _ => ⟨by decide, rfl⟩⟩
      · have h0 := hn 0 _ rfl
        have h2 := hn 1002 _ rfl
        have h3 := hn 1003 _ rfl
        have h0 : n ≠ 1000 := fun e => h0 e.symm
        have h2 : n ≠ 1002 := fun e => h2 e.symm
        have h3 : n ≠ 1003 := fun e => h3 e.symm
        simp only [fM, getO, if_neg h0, if_neg h2, if_neg h3]
    | cons b l =>
      have hcase : ∀ j o, getO (fl0 ⟨b :: l, lo, lc, se, sc⟩) j = some o → (j = 0 ∧ o = frC (sP 1001 (b :: l).length)) ∨ (j = 1001 ∧ o = rP (b :: l)) ∨ (j = 1002 ∧ o = fmO lo lc) ∨ (j = 1003 ∧ o = fmO se sc) := fun j o hj => by
        simp only [fl0, getO] at hj
        split at hj
        · rename_i e; cases hj; exact .inl ⟨e, rfl⟩
        · split at hj
          · rename_i e; cases hj; exact .inr (.inl ⟨e, rfl⟩)
          · split at hj
            · rename_i e; cases hj; exact .inr (.inr (.inl ⟨e, rfl⟩))
            · split at hj
              · rename_i e; cases hj; exact .inr (.inr (.inr ⟨e, rfl⟩))
              · cases hj
      refine goes_openAt (i := 1000) (m := .front ⟨b :: l, lo, lc, se, sc⟩) (L := fl0 ⟨b :: l, lo, lc, se, sc⟩) (rootAt 1000) rfl rfl rfl rfl ⟨_, rfl⟩ (ra_inj fun j o hj e => ?_) (fun j o hj => hcl _ (getO_mem hj)) (fun j o hj => ?_) fun n hn => ?_
      · rcases hcase j o hj with ⟨h, _⟩ | ⟨h, _⟩ | ⟨h, _⟩ | ⟨h, _⟩ <;> omega
      · rcases hcase j o hj with ⟨rfl, rfl⟩ | ⟨rfl, rfl⟩ | ⟨rfl, rfl⟩ | ⟨rfl, rfl⟩
        · exact ⟨rfl, fun h => absurd rfl h⟩
        · exact ⟨by rw [rP_ren]; rfl, fun _ => ⟨by decide, rfl⟩⟩
        · exact ⟨by rw [fmO_ren]; rfl, fun _ => ⟨by decide, rfl⟩⟩
        · exact ⟨by rw [fmO_ren]; rfl, fun _ => ⟨by decide, rfl⟩⟩
      · have h0 := hn 0 _ rfl
        have h1 := hn 1001 _ rfl
        have h2 := hn 1002 _ rfl
        have h3 := hn 1003 _ rfl
        have h0 : n ≠ 1000 := fun e => h0 e.symm
        have h1 : n ≠ 1001 := fun e => h1 e.symm
        have h2 : n ≠ 1002 := fun e => h2 e.symm
        have h3 : n ≠ 1003 := fun e => h3 e.symm
        simp only [fM, getO, if_neg h0, if_neg h1, if_neg h2, if_neg h3]
  cases f
  exact key _ _ _ _ _
section
variable {G X : List Nd} {g root : Nat}
structure WI (G X : List Nd) (g : Nat) (k : Path) (f : Fr) : Prop where
  fm : FM G k f
  lo : ∀ x ∈ f.lo, x.1 ∈ (G ++ X).map (·.b)
theorem WI.mem {k : Path} {f : Fr} (h : WI G X g k f) : ∀ b ∈ f.ns, b ∈ (G ++ X).map (·.b) := fun b hb => by
  obtain ⟨s, q, rfl, _⟩ := h.fm.mem b hb
  exact List.mem_map_of_mem (List.mem_append_left _ q)
theorem room_g {n g : Nat} (hn : n ≤ g) (hg : g ≤ 1500000) : RoomS n g := by
  unfold RoomS
  calc (n + 1) * (3 * g) ≤ 1500001 * (3 * 1500000) := Nat.mul_le_mul (by omega) (by omega)
    _ ≤ 8796093022208 := by decide
theorem WI.pre (h : Shp G X g root) (hg : g ≤ 1500000) {k : Path} {f : Fr} (hf : WI G X g k f) : StepPre (G ++ X) g f := by
  have hl := FI.len h hf.fm
  exact ⟨by omega, room_g hl hg, hf.mem, hf.lo⟩
theorem WI.step (h : Shp G X g root) {k : Path} {f : Fr} (hf : WI G X g k f) (w : ByteArray) : WI G X g (k ++ [w]) (stepF (G ++ X) f w) := by
  refine ⟨FM.step h hf.fm w, ?_⟩
  have := fold_inv h.tree f.lo w f.ns hf.mem f.ns.length (Nat.le_refl _)
  rw [List.take_length] at this
  exact this.fr.lo
theorem WI.start (h : Shp G X g root) : WI G X g [] (standC (chOf (G ++ X) root) fr0 false) := by
  refine ⟨FM.start h, ?_⟩
  obtain ⟨r, hr, _, rfl⟩ := h.rt
  obtain ⟨h1, c, h2⟩ := h.tree.chain (List.mem_map_of_mem (List.mem_append_left X hr))
  exact ((TInv.zero (G ++ X)).fr.mono (B' := 0) (Int.le_refl _) |> fun q => (standC_ok h1 q (loop := false)).lo)
noncomputable def walkF (G : List Nd) (root : Nat) (ws : Path) : Fr := ws.foldl (stepF G) (standC (chOf G root) fr0 false)
theorem walk_next (G : List Nd) (root : Nat) (ws : Path) (i : Nat) (hi : i < ws.length) : walkF G root (ws.take (i + 1)) = stepF G (walkF G root (ws.take i)) (ws.getD i nil0) := by
  unfold walkF
  rw [take_next ws nil0 i hi, List.foldl_append]; rfl
theorem walk_ok (h : Shp G X g root) (ws : Path) : ∀ i, i ≤ ws.length → WI G X g (ws.take i) (walkF (G ++ X) root (ws.take i))
  | 0, _ => WI.start h
  | i + 1, hi => by
    rw [walk_next _ _ _ _ hi, take_next ws nil0 i hi]
    exact WI.step h (walk_ok h ws i (by omega)) _
theorem m_loop (h : Shp G X g root) (hg : g ≤ 1500000) (ws : List ByteArray) (hw : ws.length ≤ 4611686018427387904) :
    LTri Tryd.prog default (loopN fMatch 4) (tms 0 49 (aM ws.length 0)) [(1000, frO (standC (chOf (G ++ X) root) fr0 false)), (2, famO (G ++ X)), (3, rS ws)] (.exit 0) (tms 0 49 [(5, .ptr 1000 0)]) (fM (walkF (G ++ X) root ws) (G ++ X)) := by
  refine ltri_runE (W := default) (g := fMatch) (b := loopN fMatch 4) (σ := {i : Nat // i ≤ ws.length}) 49 (fun i => aM ws.length i.1) (fun i => [(1000, frO (walkF (G ++ X) root (ws.take i.1))), (2, famO (G ++ X)), (3, rS ws)]) (.exit 0) [(5, .ptr 1000 0)] (fM (walkF (G ++ X) root ws) (G ++ X)) (fun i => ws.length - i.1) [1000, 2, 3, 1100] [5, 19, 20, 21] (by intro h; cases h) (fun _ => rfl) ?_ ⟨0, Nat.zero_le _⟩
  rintro ⟨i, hi⟩
  have hok := walk_ok h ws i hi
  simp only
  by_cases h1 : i < ws.length
  · have hnx := walk_next (G ++ X) root ws i h1
    generalize walkF (G ++ X) root (ws.take i) = f at hok hnx
    have hp := hok.pre h hg
    have g0 := rS_get ws i h1
    have g1 := rS_lt ws i h1
    have e1 : decide (Int.ofNat i < Int.ofNat ws.length) = true := ltT h1
    have hw := wrap_succ i (by omega)
    refine ⟨[(fStep, cStep (G ++ X) g)], hM i (ws.getD i nil0), [], fun F _ => one_c (cStep_ok h.tree F), fun _ _ => noL, fun F => ?_⟩
    refine cast (congrArg (VAll _) (oMH_eq (G ++ X) g f ws (ws.getD i nil0) ws.length i F).symm) ⟨⟨?_, rfl, .inl ⟨rfl, FitsT.one (σ := {i : Nat // i ≤ ws.length}) (A := fun i => aM ws.length i.1) (H := fun i => [(1000, frO (walkF (G ++ X) root (ws.take i.1))), (2, famO (G ++ X)), (3, rS ws)]) (μ := fun i => ws.length - i.1) ⟨i + 1, h1⟩ (sub_down h1) ?_⟩⟩⟩
    · simp only [Cnd.holds, g0, g1, e1, h1, AV.strOf, sv, Nat.blt_eq, true_and, and_true]
      and_intros
      all_goals first
        | (with_reducible exact wk_int hw)
        | exact hp | (with_reducible first | exact trivial | exact rfl | exact Wk.refl _ | exact VW.refl _ | exact OW.refl _ | exact wk_lit _ | assumption) | exact rfl | exact Wk.refl _ | exact VW.refl _ | exact OW.refl _ | ((repeat (first | exact VW.nil | refine VW.cons (Wk.refl _) ?_ | refine VW.cons (Wk.any _) ?_ | refine VW.cons (wk_cap (Nat.le_refl _)) ?_)); done)
    · refine FitT.fits (l := [(1000, 1100)]) ⟨by kernel_rfl, rfl, ⟨Wk.refl _, Wk.refl _, Wk.refl _, Wk.refl _, trivial⟩, ⟨_, rfl, ?_⟩, ⟨_, rfl, OW.refl _⟩, ⟨_, rfl, rS_ow rfl rfl⟩, trivial⟩ rfl
      simp only
      rw [hnx]
      exact OW.refl _
  · have hie : i = ws.length := by omega
    subst hie
    simp only [List.take_length]
    generalize walkF (G ++ X) root ws = f
    refine ⟨[], hintL [(fMatch, 4, 0, hv (.lit false))], [], fun _ _ => noC, fun _ _ => noL, fun F => ?_⟩
    refine cast (congrArg (VAll _) (oME_eq (G ++ X) f ws ws.length F).symm) ⟨⟨?_, rfl, .inr ⟨rfl, [(5, .ptr 1000 0)], [(1000, frO f), (2, famO (G ++ X))], [(1000, 1000)], rfl, ⟨rfl, rfl, ⟨Wk.refl _, trivial⟩, ⟨_, rfl, OW.refl _⟩, ⟨_, rfl, OW.refl _⟩, trivial⟩, fun W0 F N ys w hs => open_st (VW.refl _) _ _ _ _ _ hs⟩⟩⟩
    simp only [Cnd.holds, and_true]
    exact wk_litE ltF
end
end Go.Proofs.YtbmoancedlbhlaaDoor.Tpc

/- Topic: Match. -/
set_option linter.unusedVariables false
set_option linter.unusedSimpArgs false
set_option maxRecDepth 100000
namespace Go.Proofs.YtbmoancedlbhlaaDoor.Tpc
open Go Go.RowKit Go.Proofs.YtbmoancedlbhlaaDoor.Eng Go.Proofs.YtbmoancedlbhlaaDoor.Kit Go.Maps
theorem gMp_ro : ∀ args, RO (gMp args) := by
  intro args
  unfold gMp
  split
  · exact RO.ret _
  · exact RO.fail _
theorem set0 : OW (.map [] 0) (setS [] 0) := by
  intro N i D w ⟨l, es, h1, h2, h3, h4, h5⟩
  refine ⟨l, h1, h5, h2, ?_⟩
  have he : es.toList = ents ix ([] : KMap ByteArray Int) := by
    simp only [ERs] at h4
    rw [h4]; rfl
  obtain ⟨D', q1, q2⟩ := owns_ents (P := Tryd.prog) (k := 9) (ev := ix) ul_str (m := ([] : KMap ByteArray Int)) (c := 0) ⟨KI.nil, Nat.zero_le _, fun e he => by cases he⟩ h3 he
  exact ⟨D', q1, fun l => by rw [q2 l]; constructor <;> rintro ⟨x, hx, _⟩ <;> cases hx⟩
def keysOf (s : Nd) : List ByteArray := s.ds.map (·.1)
theorem keysOf_len (s : Nd) : (keysOf s).length = s.ds.length := by simp [keysOf]
theorem cCp_ok {G : List Nd} {s : Nd} (hs : s ∈ G) (hk : KeysOK s.ds s.dc) (T : List ByteArray) (c : Nat) (hc : c + s.ds.length ≤ maxLen) (F : HP) : C1OK Tryd.prog F fCopy (cCp G T (keysOf s) c s.ds.length s.db) :=
  mkC_ok (W := default) oldDef (fun _ => .v (.tuple #[])) gMp_ro (fun _ => rfl) (fun p _ => copy_tri (P := Tryd.prog) Tryd.copy26 ul_str hc fun N D w h => by
    have h : famOn G D w := h
    obtain ⟨_, _, ⟨es, h1, h2⟩⟩ := h.2.2 s hs
    refine ⟨(h.1 _).2 (blocks_mem hs).2.2, ?_⟩
    obtain ⟨D', q1, q2⟩ := owns_ents (P := Tryd.prog) (k := 9) (ev := ix) ul_str hk h1 h2
    refine ⟨D', q1, fun l => ?_⟩
    rw [q2 l]
    constructor
    · rintro ⟨e, he, q⟩; exact ⟨e.1, List.mem_map_of_mem he, q⟩
    · rintro ⟨x, hx, q⟩
      obtain ⟨e, he, rfl⟩ := List.mem_map.1 hx
      exact ⟨e, he, q⟩) fun p => ⟨rfl, rfl, ⟨rfl, trivial, trivial⟩, all_cons trivial (all_cons trivial all_nil), ⟨trivial, trivial⟩, all_cons trivial (all_cons trivial all_nil)⟩
section
variable {G : List Nd} {g : Nat}
def textsOf (G : List Nd) (ns : List Nat) : List ByteArray := ns.flatMap fun b => keysOf (ndOf G b)
theorem texts_next (ns : List Nat) (i : Nat) (hi : i < ns.length) : textsOf G (ns.take (i + 1)) = textsOf G (ns.take i) ++ keysOf (ndOf G (ns.getD i 0)) := by
  unfold textsOf
  rw [take_next ns 0 i hi, List.flatMap_append]; simp
theorem texts_len (ns : List Nat) (hk : ∀ b ∈ ns, (ndOf G b).ds.length ≤ g) : (textsOf G ns).length ≤ ns.length * g := by
  induction ns with
  | nil => exact Nat.zero_le _
  | cons b l ih =>
    have h1 := hk b List.mem_cons_self
    have h2 := ih fun c hc => hk c (List.mem_cons_of_mem _ hc)
    unfold textsOf at *
    rw [List.flatMap_cons, List.length_append, keysOf_len, List.length_cons, Nat.add_mul]
    omega
theorem c_loop (ns : List Nat) (hg : g ≤ 1500000) (hn : ns.length ≤ g) (hm : ∀ b ∈ ns, b ∈ G.map (·.b)) (hk : ∀ b ∈ ns, KeysOK (ndOf G b).ds (ndOf G b).dc ∧ (ndOf G b).ds.length ≤ g) :
    LTri Tryd.prog default (loopN fMatch 10) (tms 0 49 (aC ns.length 0)) (oC G ns [] 0) (.exit 2) (tms 0 49 [(8, .map 0)]) [(0, setS (textsOf G ns) (textsOf G ns).length), (2, famO G)] := by
  refine ltri_run (W := default) (g := fMatch) (b := loopN fMatch 10) (σ := {i : Nat // i ≤ ns.length}) 49 (fun i => aC ns.length i.1) (fun i => oC G ns (textsOf G (ns.take i.1)) (textsOf G (ns.take i.1)).length) (.exit 2) [(8, .map 0)] [(0, setS (textsOf G ns) (textsOf G ns).length), (2, famO G)] (fun i => ns.length - i.1) [0, 1, 2] [8, 33, 34, 35] (by intro h; cases h) (fun _ => rfl) rfl ?_ ⟨0, Nat.zero_le _⟩
  rintro ⟨i, hi⟩
  simp only
  by_cases h1 : i < ns.length
  · obtain ⟨b, hb⟩ : ∃ b, ns.getD i 0 = b := ⟨_, rfl⟩
    have hbm : b ∈ ns := hb ▸ getD_lt h1
    obtain ⟨hs, hsb⟩ := ndOf_mem (hm b hbm)
    obtain ⟨k1, k2⟩ := hk b hbm
    have htl := texts_len (G := G) (g := g) (ns.take i) fun c hc => (hk c (List.mem_of_mem_take hc)).2
    have hnx := texts_next (G := G) ns i h1
    rw [hb] at hnx
    generalize textsOf G (ns.take i) = T at htl hnx ⊢
    have hcl : T.length + (ndOf G b).ds.length ≤ maxLen := by
      rw [List.length_take, Nat.min_eq_left hi] at htl
      have h3 : i * g ≤ 1500000 * 1500000 := Nat.mul_le_mul (by omega) hg
      have : (1500000 * 1500000 + 1500000 : Nat) ≤ maxLen := by unfold maxLen; omega
      omega
    have g0 : ∀ d, (rowV encP ns).getD (0 + i * 1) d = ptrV b := fun d => by rw [rP_get ns i h1 d, hb]
    have g1 := rP_lt ns i h1
    have e1 : decide (Int.ofNat i < Int.ofNat ns.length) = true := ltT h1
    have hw := wrap_succ i (by omega)
    have hfc := fc_ds hs
    rw [hsb] at hfc
    refine ⟨[(fCopy, cCp G T (keysOf (ndOf G b)) T.length (ndOf G b).ds.length (ndOf G b).db)], hC i b (ndOf G b).db, [], fun F _ => one_c (cCp_ok hs k1 T T.length hcl F), fun _ _ => noL, fun F => ?_⟩
    refine cast (congrArg (VAll _) (oCH_eq G ns T (keysOf (ndOf G b)) T.length (ndOf G b).ds.length (ndOf G b).db b ns.length i F).symm) ⟨⟨?_, rfl, .inl ⟨rfl, ⟨i + 1, h1⟩, sub_down h1, [], rfl, rfl, ⟨Wk.refl _, Wk.refl _, Wk.refl _, Wk.refl _, trivial⟩, ⟨_, rfl, ?_⟩, ⟨_, rfl, rP_ow rfl rfl⟩, ⟨_, rfl, OW.refl _⟩, trivial⟩⟩⟩
    · simp only [Cnd.holds, g0, g1, e1, h1, ptrV, pk, Nat.blt_eq, true_and, and_true]
      and_intros
      all_goals first
        | (with_reducible exact wk_int hw)
        | exact hfc | (with_reducible first | exact trivial | exact rfl | exact Wk.refl _ | exact VW.refl _ | exact OW.refl _ | exact wk_lit _ | assumption) | exact rfl | exact Wk.refl _ | exact VW.refl _ | exact OW.refl _ | ((repeat (first | exact VW.nil | refine VW.cons (Wk.refl _) ?_ | refine VW.cons (Wk.any _) ?_ | refine VW.cons (wk_cap (Nat.le_refl _)) ?_)); done)
    · simp only
      rw [hnx, List.length_append, keysOf_len]
      exact OW.refl _
  · have hie : i = ns.length := by omega
    subst hie
    simp only [List.take_length]
    refine ⟨[], hintL [(fMatch, 10, 0, hv (.lit false))], [], fun _ _ => noC, fun _ _ => noL, fun F => ?_⟩
    refine cast (congrArg (VAll _) (oCE_eq G ns (textsOf G ns) (textsOf G ns).length ns.length F).symm) ⟨⟨?_, rfl, .inr ⟨rfl, [], rfl, rfl, ⟨Wk.refl _, trivial⟩, ⟨_, rfl, OW.refl _⟩, ⟨_, rfl, OW.refl _⟩, trivial⟩⟩⟩
    simp only [Cnd.holds, and_true]
    exact wk_litE ltF
end
theorem gMM_ro : ∀ args, RO (gMM args) := by
  intro args
  unfold gMM
  split
  · split
    · exact RO.ret _
    · exact RO.fail _
  · exact RO.fail _
theorem gCC_ro : ∀ args, RO (gCC args) := by
  intro args
  unfold gCC
  split
  · split
    · exact RO.ret _
    · exact RO.fail _
  · exact RO.fail _
theorem gSo_ro : ∀ args, RO (gSo args) := by
  intro args
  unfold gSo
  split
  · refine RO.read _ _ fun o => ?_
    split
    · exact RO.ret _
    · exact RO.fail _
  · exact RO.fail _
theorem lMZ_ok {f0 : Fr} {ws : List ByteArray} {n : Nat} {lo : KMap Nat Int} {lc : Nat} {se : KMap Nat Int} {sc : Nat} {G : List Nd} (h : LTri Tryd.prog default (loopN fMatch 4) (tms 0 49 (aM n 0)) [(1000, frO f0), (2, famO G), (3, rS ws)] (.exit 0) (tms 0 49 [(5, .ptr 1000 0)]) (fMZ lo lc se sc G)) (F : HP) :
    L1OK Tryd.prog F (loopN fMatch 4) (lMZ f0 ws n lo lc se sc G) :=
  mkL_ok (W := default) oldDef gMM_ro (fun _ _ => h) fun _ => by
    simp only [RT.pick]
    exact closedT rfl rfl (all_cons rfl (all_cons rfl (all_cons trivial (all_cons trivial all_nil)))) (all_cons trivial (all_cons trivial (all_cons (rS_cl _ _) all_nil))) (all_cons rfl all_nil) (all_cons ⟨trivial, rfl, rfl, trivial⟩ (all_cons (fmO_cl _ _ _) (all_cons (fmO_cl _ _ _) (all_cons trivial all_nil))))
theorem lMR_ok {f0 : Fr} {ws : List ByteArray} {n : Nat} {ns : List Nat} {m : Nat} {lo : KMap Nat Int} {lc : Nat} {se : KMap Nat Int} {sc : Nat} {G : List Nd} (h : LTri Tryd.prog default (loopN fMatch 4) (tms 0 49 (aM n 0)) [(1000, frO f0), (2, famO G), (3, rS ws)] (.exit 0) (tms 0 49 [(5, .ptr 1000 0)]) (fMR ns m lo lc se sc G)) (F : HP) :
    L1OK Tryd.prog F (loopN fMatch 4) (lMR f0 ws n ns m lo lc se sc G) :=
  mkL_ok (W := default) oldDef gMM_ro (fun _ _ => h) fun _ => by
    simp only [RT.pick]
    exact closedT rfl rfl (all_cons rfl (all_cons rfl (all_cons trivial (all_cons trivial all_nil)))) (all_cons trivial (all_cons trivial (all_cons (rS_cl _ _) all_nil))) (all_cons rfl all_nil) (all_cons ⟨rfl, rfl, rfl, trivial⟩ (all_cons (rP_cl _ _) (all_cons (fmO_cl _ _ _) (all_cons (fmO_cl _ _ _) (all_cons trivial all_nil)))))
theorem lC_ok {ns : List Nat} {n : Nat} {T : List ByteArray} {c : Nat} {G : List Nd} (h : LTri Tryd.prog default (loopN fMatch 10) (tms 0 49 (aC n 0)) (oC G ns [] 0) (.exit 2) (tms 0 49 [(8, .map 0)]) [(0, setS T c), (2, famO G)]) (F : HP) :
    L1OK Tryd.prog F (loopN fMatch 10) (lC ns n T c G) :=
  mkL_ok (W := default) oldDef gCC_ro (fun _ _ => h) fun _ => by
    simp only [RT.pick]
    exact closedT rfl rfl (all_cons rfl (all_cons rfl (all_cons trivial (all_cons trivial all_nil)))) (all_cons trivial (all_cons (rP_cl _ _) (all_cons trivial all_nil))) (all_cons rfl all_nil) (all_cons trivial (all_cons trivial all_nil))
theorem rS_vmap (l : List ByteArray) : rS l = .cells (vmap (l.map Value.string)) tStr := by
  unfold rS
  congr 1
  induction l with
  | nil => rfl
  | cons x l ih => rw [rowV_cons, ih]; rfl
theorem cSoZ_ok {T : List ByteArray} {c : Nat} (hc : c * 16 ≤ 140737488355328) (hT : sortT T = []) (F : HP) : C1OK Tryd.prog F fSorted (cSoZ T c) :=
  mkC_ok (W := default) oldDef (fun _ => nilV) gSo_ro (fun _ => rfl) (fun p _ => sorted_nil (P := Tryd.prog) (e := 9) ul_str sorted27_33 hc hT) fun p => ⟨rfl, rfl, ⟨⟨trivial, rfl, trivial⟩, trivial⟩, all_cons ⟨rfl, trivial⟩ (all_cons trivial all_nil), ⟨trivial, trivial⟩, all_nil⟩
theorem cSoR_ok {T : List ByteArray} {c : Nat} (hc : c * 16 ≤ 140737488355328) (hT : sortT T ≠ []) (F : HP) : C1OK Tryd.prog F fSorted (cSoR T c (sortT T) (sortT T).length) :=
  mkC_ok (W := default) oldDef (fun _ => .slice 1000 0 (sortT T).length 1 (.lo (sortT T).length)) gSo_ro (fun _ => rfl) (fun p _ => by
    have := sorted_tri (P := Tryd.prog) (e := 9) (W := default) (tb := tBox) ul_str sorted27_33 hc hT
    rw [show (AO.cells (vmap ((sortT T).map Value.string)) (2 * 9)) = rS (sortT T) from (rS_vmap _).symm] at this
    exact this) fun p => ⟨rfl, rfl, ⟨⟨trivial, rfl, trivial⟩, trivial⟩, all_cons ⟨rfl, trivial⟩ (all_cons trivial all_nil), ⟨rfl, trivial⟩, all_cons (rS_cl _ _) all_nil⟩
end Go.Proofs.YtbmoancedlbhlaaDoor.Tpc

/- Topic: Match whole. -/
set_option linter.unusedVariables false
set_option linter.unusedSimpArgs false
set_option maxRecDepth 100000
namespace Go.Proofs.YtbmoancedlbhlaaDoor.Tpc
open Go Go.RowKit Go.Proofs.YtbmoancedlbhlaaDoor.Eng Go.Proofs.YtbmoancedlbhlaaDoor.Kit Go.Maps
theorem sortT_congr {T T' : List ByteArray} (h : ∀ x, x ∈ T ↔ x ∈ T') : sortT T = sortT T' := by
  unfold sortT
  congr 1
  refine sort_uniq (nodup_dedup _) fun l => ?_
  rw [mem_dedup, List.mem_map]
  exact ⟨fun ⟨x, h1, h2⟩ => ⟨x, (h x).1 h1, h2⟩, fun ⟨x, h1, h2⟩ => ⟨x, (h x).2 h1, h2⟩⟩
theorem dedup_nil {l : List (List UInt8)} : dedup l = [] ↔ l = [] := by
  constructor
  · intro h
    cases l with
    | nil => rfl
    | cons x l =>
      have : x ∈ dedup (x :: l) := mem_dedup.2 List.mem_cons_self
      rw [h] at this; cases this
  · rintro rfl; rfl
theorem sortT_nil {T : List ByteArray} : sortT T = [] ↔ T = [] := by
  unfold sortT
  rw [List.map_eq_nil_iff, ← List.length_eq_zero_iff, List.length_mergeSort, List.length_eq_zero_iff, dedup_nil, List.map_eq_nil_iff]
def ansV (l : List ByteArray) : AV := match l with
  | [] => nilV
  | _ => .slice 1000 0 l.length 1 (.lo l.length)
def ansO (l : List ByteArray) : LH := match l with
  | [] => []
  | _ => [(1000, rS l)]
theorem ansV_ne {l : List ByteArray} (h : l ≠ []) : ansV l = .slice 1000 0 l.length 1 (.lo l.length) := by cases l with | nil => exact absurd rfl h | cons => rfl
theorem ansO_ne {l : List ByteArray} (h : l ≠ []) : ansO l = [(1000, rS l)] := by cases l with | nil => exact absurd rfl h | cons => rfl
theorem fM_z {f : Fr} {G : List Nd} (h : f.ns = []) : fM f G = fMZ f.lo f.lc f.se f.sc G := by unfold fM; rw [h]; rfl
theorem fM_r {f : Fr} {G : List Nd} (h : f.ns ≠ []) : fM f G = fMR f.ns f.ns.length f.lo f.lc f.se f.sc G := by
  unfold fM
  cases hn : f.ns with
  | nil => exact absurd hn h
  | cons b l => rfl
theorem lc_cons {F : HP} {f : FuncId} {r : Nat} {b : Code} {g : List AV → AP (AX × List AV)} {l : LcL} (h : L1OK Tryd.prog F b g) (hl : ∀ x ∈ l, L1OK Tryd.prog F x.2.2.1 x.2.2.2) : ∀ x ∈ (f, r, b, g) :: l, L1OK Tryd.prog F x.2.2.1 x.2.2.2 := fun x hx => by
  rcases List.mem_cons.1 hx with rfl | hx
  · exact h
  · exact hl x hx
theorem Match_open {L : Pairs} {g : Nat} {s : TrS} (hI : TrInv L g s) (hg : g ≤ 1500000) (key : ByteArray) (hk : key.size ≤ 1100000) (m : Nat) :
    Tri Tryd.prog default fMatch [.ptr 0 0, sv key] (trU s.root m (s.G ++ s.X)) (ansV (sortT (textsOf (s.G ++ s.X) (walkF (s.G ++ s.X) s.root (dots key)).ns))) (trU s.root m (s.G ++ s.X) ++ ansO (sortT (textsOf (s.G ++ s.X) (walkF (s.G ++ s.X) s.root (dots key)).ns))) := by
  have h := hI.shp
  have hwl : (dots key).length ≤ 1100001 := by
    rw [dots_len]
    have : key.data.toList.count 46 ≤ key.data.toList.length := List.count_le_length
    have h2 : key.data.toList.length = key.size := rfl
    omega
  have hml := m_loop h hg (dots key) (by omega)
  have hok := walk_ok h (dots key) (dots key).length (Nat.le_refl _)
  rw [List.take_length] at hok
  have hlen := FI.len h hok.fm
  have hkd : ∀ b ∈ (walkF (s.G ++ s.X) s.root (dots key)).ns, KeysOK (ndOf (s.G ++ s.X) b).ds (ndOf (s.G ++ s.X) b).dc ∧ (ndOf (s.G ++ s.X) b).ds.length ≤ g := fun b hb => by
    obtain ⟨n, hn, rfl, _⟩ := hok.fm.mem b hb
    rw [ndOf_eq h hn]
    obtain ⟨k1, k2, k3⟩ := hI.kd n hn
    have : (1099511627776 : Nat) ≤ maxLen := by unfold maxLen; omega
    exact ⟨⟨k1, by omega, fun e he => Nat.le_trans (k3 e he) this⟩, k2⟩
  have hcl := c_loop (G := s.G ++ s.X) (walkF (s.G ++ s.X) s.root (dots key)).ns hg hlen hok.mem hkd
  have htl := texts_len (G := s.G ++ s.X) (g := g) (walkF (s.G ++ s.X) s.root (dots key)).ns fun c hc => (hkd c hc).2
  have hsp : StPre (s.G ++ s.X) fr0 s.root := by
    obtain ⟨r, hr, _, e⟩ := h.rt
    rw [← e]
    exact (TInv.zero (s.G ++ s.X)).pre h.tree (by omega) (List.mem_map_of_mem (List.mem_append_left _ hr))
  have hcc : (textsOf (s.G ++ s.X) (walkF (s.G ++ s.X) s.root (dots key)).ns).length * 16 ≤ 140737488355328 := by
    have h3 : (walkF (s.G ++ s.X) s.root (dots key)).ns.length * g ≤ 1500000 * 1500000 := Nat.mul_le_mul (by omega) hg
    omega
  generalize walkF (s.G ++ s.X) s.root (dots key) = f at hml hok hlen hkd hcl htl hcc ⊢
  generalize s.G ++ s.X = G at hml hcl htl hsp hcc ⊢
  clear hI hok hkd htl h
  by_cases hz : f.ns = []
  · rw [fM_z hz] at hml
    have e : textsOf G f.ns = [] := by rw [hz]; rfl
    rw [e]
    have e2 : sortT [] = [] := sortT_nil.2 rfl
    rw [e2]
    show Tri _ _ _ _ _ nilV (trU s.root m G)
    refine tri_run (con := [(fNewF, cNewF), (fStand, cStO G 2), (fWords, cWd key (dots key).length (dots key)), (fSorted, cSoZ [] 0)]) (hints := hintL [(fMatch, 10, 0, hv (.lit false))]) (lc := [(fMatch, 4, loopN fMatch 4, lMZ (standC (chOf G s.root) fr0 false) (dots key) (dots key).length f.lo f.lc f.se f.sc G)]) [0, 2] rfl
      (fun F _ => con_cons (cNewF_ok F) (con_cons (cStO_ok G 2 F) (con_cons (cWd_ok key hk F) (one_c (cSoZ_ok (by decide) e2 F))))) (fun F _ => one_l (lMZ_ok hml F)) fun F => ?_
    refine cast (congrArg (VAll _) (oMaZ_eq G g s.root m key (dots key) (dots key).length f.lo f.lc f.se f.sc (standC (chOf G s.root) fr0 false) F).symm) ⟨⟨?_, (fit_mk (vs' := [nilV]) (H' := trU s.root m G) [] rfl rfl (VW.refl _) ⟨⟨_, rfl, OW.refl _⟩, ⟨_, rfl, OW.refl _⟩, trivial⟩).fits rfl⟩⟩
    simp only [Cnd.holds, rens_rowV, Nat.blt_eq, true_and, and_true]
    and_intros
    all_goals first
      | exact hsp
      | exact set0 | (with_reducible first | exact trivial | exact rfl | exact Wk.refl _ | exact VW.refl _ | exact OW.refl _ | exact wk_lit _ | assumption) | exact rfl | exact Wk.refl _ | exact VW.refl _ | exact OW.refl _ | ((repeat (first | exact VW.nil | refine VW.cons (Wk.refl _) ?_ | refine VW.cons (Wk.any _) ?_ | refine VW.cons (wk_cap (Nat.le_refl _)) ?_)); done)
  · rw [fM_r hz] at hml
    by_cases ht : sortT (textsOf G f.ns) = []
    · rw [ht]
      show Tri _ _ _ _ _ nilV (trU s.root m G)
      refine tri_run (con := [(fNewF, cNewF), (fStand, cStO G 2), (fWords, cWd key (dots key).length (dots key)), (fSorted, cSoZ (textsOf G f.ns) (textsOf G f.ns).length)]) (hints := noHints) (lc := [(fMatch, 4, loopN fMatch 4, lMR (standC (chOf G s.root) fr0 false) (dots key) (dots key).length f.ns f.ns.length f.lo f.lc f.se f.sc G), (fMatch, 10, loopN fMatch 10, lC f.ns f.ns.length (textsOf G f.ns) (textsOf G f.ns).length G)]) [0, 2] rfl
        (fun F _ => con_cons (cNewF_ok F) (con_cons (cStO_ok G 2 F) (con_cons (cWd_ok key hk F) (one_c (cSoZ_ok hcc ht F))))) (fun F _ => lc_cons (lMR_ok hml F) (one_l (lC_ok hcl F))) fun F => ?_
      refine cast (congrArg (VAll _) (oMaN_eq G g s.root m key (dots key) (dots key).length f.ns f.ns.length f.lo f.lc f.se f.sc (standC (chOf G s.root) fr0 false) (textsOf G f.ns) (textsOf G f.ns).length F).symm) ⟨⟨?_, (fit_mk (vs' := [nilV]) (H' := trU s.root m G) [] rfl rfl (VW.refl _) ⟨⟨_, rfl, OW.refl _⟩, ⟨_, rfl, OW.refl _⟩, trivial⟩).fits rfl⟩⟩
      simp only [Cnd.holds, rens_rowV, Nat.blt_eq, true_and, and_true]
      and_intros
      all_goals first
        | exact hsp
        | exact set0 | (with_reducible first | exact trivial | exact rfl | exact Wk.refl _ | exact VW.refl _ | exact OW.refl _ | exact wk_lit _ | assumption) | exact rfl | exact Wk.refl _ | exact VW.refl _ | exact OW.refl _ | ((repeat (first | exact VW.nil | refine VW.cons (Wk.refl _) ?_ | refine VW.cons (Wk.any _) ?_ | refine VW.cons (wk_cap (Nat.le_refl _)) ?_)); done)
    · rw [ansV_ne ht, ansO_ne ht]
      refine tri_run (con := [(fNewF, cNewF), (fStand, cStO G 2), (fWords, cWd key (dots key).length (dots key)), (fSorted, cSoR (textsOf G f.ns) (textsOf G f.ns).length (sortT (textsOf G f.ns)) (sortT (textsOf G f.ns)).length)]) (hints := noHints) (lc := [(fMatch, 4, loopN fMatch 4, lMR (standC (chOf G s.root) fr0 false) (dots key) (dots key).length f.ns f.ns.length f.lo f.lc f.se f.sc G), (fMatch, 10, loopN fMatch 10, lC f.ns f.ns.length (textsOf G f.ns) (textsOf G f.ns).length G)]) [0, 2, 1100, 1101, 1102, 1103, 1104, 1105, 1106, 1107, 1108] rfl
        (fun F _ => con_cons (cNewF_ok F) (con_cons (cStO_ok G 2 F) (con_cons (cWd_ok key hk F) (one_c (cSoR_ok hcc ht F))))) (fun F _ => lc_cons (lMR_ok hml F) (one_l (lC_ok hcl F))) fun F => ?_
      generalize hq : sortT (textsOf G f.ns) = q
      refine cast (congrArg (VAll _) (oMaR_eq G g s.root m key (dots key) (dots key).length f.ns f.ns.length f.lo f.lc f.se f.sc (standC (chOf G s.root) fr0 false) (textsOf G f.ns) (textsOf G f.ns).length q q.length F).symm) ⟨⟨?_, (fit_mk (vs' := [.slice 1000 0 q.length 1 (.lo q.length)]) (H' := [(0, trC s.root m), (2, famO G), (1000, rS q)]) [(1000, 1108)] rfl rfl (VW.refl _) ⟨⟨_, rfl, OW.refl _⟩, ⟨_, rfl, OW.refl _⟩, ⟨_, rfl, rS_ow (by rw [rens_rowV]) rfl⟩, trivial⟩).fits rfl⟩⟩
      simp only [Cnd.holds, rens_rowV, Nat.blt_eq, true_and, and_true]
      and_intros
      all_goals first
        | exact hsp
        | exact set0 | (with_reducible first | exact trivial | exact rfl | exact Wk.refl _ | exact VW.refl _ | exact OW.refl _ | exact wk_lit _ | assumption) | exact rfl | exact Wk.refl _ | exact VW.refl _ | exact OW.refl _ | ((repeat (first | exact VW.nil | refine VW.cons (Wk.refl _) ?_ | refine VW.cons (Wk.any _) ?_ | refine VW.cons (wk_cap (Nat.le_refl _)) ?_)); done)
def matchA (L : Pairs) (key : ByteArray) : List ByteArray := sortT ((L.filter fun e => mt (dots e.1).reverse (dots key).reverse).map (·.2))
theorem match_texts {L : Pairs} {g : Nat} {s : TrS} (hI : TrInv L g s) (key : ByteArray) : sortT (textsOf (s.G ++ s.X) (walkF (s.G ++ s.X) s.root (dots key)).ns) = matchA L key := by
  have h := hI.shp
  have hok := walk_ok h (dots key) (dots key).length (Nat.le_refl _)
  rw [List.take_length] at hok
  refine sortT_congr fun x => ?_
  unfold textsOf
  simp only [List.mem_flatMap, List.mem_map, List.mem_filter, keysOf]
  constructor
  · rintro ⟨b, hb, e, he, rfl⟩
    obtain ⟨n, hn, rfl, hm⟩ := hok.fm.mem b hb
    rw [ndOf_eq h hn] at he
    have hl : klook e.1 n.ds ≠ none := fun hl => klook_none.1 hl (List.mem_map_of_mem he)
    cases hx : klook e.1 n.ds with
    | none => exact absurd hx hl
    | some y =>
      obtain ⟨_, pat, h1, h2⟩ := (hI.ds n hn e.1 y).1 hx
      exact ⟨(pat, e.1), ⟨h1, by rw [h2]; exact hm⟩, rfl⟩
  · rintro ⟨⟨pat, d⟩, ⟨h1, h2⟩, rfl⟩
    obtain ⟨n, hn, hp⟩ := hI.cov _ h1
    refine ⟨n.b, hok.fm.all n hn (by rw [hp]; exact h2), ?_⟩
    rw [ndOf_eq h hn]
    have hl := (hI.ds n hn d 1).2 ⟨rfl, pat, h1, hp.symm⟩
    have : d ∈ n.ds.map (·.1) := by
      by_cases hd : d ∈ n.ds.map (·.1)
      · exact hd
      · rw [klook_none.2 hd] at hl; cases hl
    obtain ⟨e, he, hed⟩ := List.mem_map.1 this
    exact ⟨e, he, hed⟩
theorem ansO_rest (l : List ByteArray) : Rest (ansO l) := by
  cases l with
  | nil => exact Rest.nil
  | cons x l => exact ⟨rfl, ⟨rfl, rfl, rfl⟩, all_cons (fun K => rS_cl _ _) all_nil⟩
theorem ansV_cl (l : List ByteArray) : AV.cls (fun k => Nat.blt k 1000 || (getO (ansO l) k).isSome) [ansV l] := by
  cases l with
  | nil => exact ⟨trivial, trivial⟩
  | cons x l => exact ⟨rfl, trivial⟩
theorem Match_tri (L : Pairs) (g : Nat) (hg : g ≤ 1500000) (key : ByteArray) (hk : key.size ≤ 1100000) :
    Tri Tryd.prog default fMatch [.ptr 0 0, sv key] [(0, trO L g)] (ansV (matchA L key)) ((0, trO L g) :: ansO (matchA L key)) := by
  refine open_tr Rest.nil ⟨rfl, trivial, trivial⟩ fun s hs => ?_
  have := Match_open hs hg key hk L.length
  rw [match_texts hs key] at this
  exact Tri.post this (shut_tr s hs _ (ansO_rest _) (ansV_cl _))
end Go.Proofs.YtbmoancedlbhlaaDoor.Tpc

/- Code in pieces: behind a piece the state is one of many, which one is known in the world alone. No program. -/
set_option linter.unusedVariables false
set_option linter.unusedSimpArgs false
namespace Go.Proofs.YtbmoancedlbhlaaDoor.Eng
open Go Go.RowKit
def CTri (P : Program) (W : World) (cd : Code) (A : List AV) (H : LH) {ρ : Type} (ax : ρ → AX) (A' : ρ → List AV) (H' : ρ → LH) : Prop :=
  ∀ (W0 : World) (F : HP) (N : Names) (w : World) (a : Act) (Q : Exit → Act → World → Prop), OldOK W F → NB N H → Rep W0 N F (heapOf H) w → VRs N A a.tmps.toList →
    (∀ r a' w', St W0 F N (H' r) (A' r) a'.tmps.toList w' → a'.defers = a.defers → Q (exitOf (ax r)) a' w') → cd.wp P Q a w
section
variable {P : Program} {W : World} {ρ σ : Type}
theorem CTri.pre {cd : Code} {A A1 : List AV} {H H1 : LH} {ax : ρ → AX} {A' : ρ → List AV} {H' : ρ → LH} (h : CTri P W cd A1 H1 ax A' H') (hg : Goes A H A1 H1) : CTri P W cd A H ax A' H' := by
  intro W0 F N w a Q hF hN r ha hK
  obtain ⟨N1, g1, g2, g3, g4⟩ := hg W0 F N _ _ ⟨N, fun _ _ => rfl, hN, r, ha⟩
  exact h W0 F N1 w a Q hF g2 g3 g4 fun q a' w' ⟨N2, k1, k2, k3, k4⟩ hd => hK q a' w' ⟨N2, fun i hi => (k1 i hi).trans (g1 i hi), k2, k3, k4⟩ hd
theorem CTri.post {cd : Code} {A : List AV} {H : LH} {ax : ρ → AX} {A' : ρ → List AV} {H' : ρ → LH} {ρ2 : Type} {ax2 : ρ2 → AX} {A2 : ρ2 → List AV} {H2 : ρ2 → LH} (h : CTri P W cd A H ax A' H') (hg : ∀ r, ∃ r2, ax2 r2 = ax r ∧ Goes (A' r) (H' r) (A2 r2) (H2 r2)) : CTri P W cd A H ax2 A2 H2 := by
  intro W0 F N w a Q hF hN r ha hK
  refine h W0 F N w a Q hF hN r ha fun q a' w' hs hd => ?_
  obtain ⟨r2, e, hg⟩ := hg q
  rw [← e]
  exact hK r2 a' w' (hg _ _ _ _ _ hs) hd
theorem CTri.seq {c1 c2 : Code} {A : List AV} {H : LH} {A1 : σ → List AV} {H1 : σ → LH} {ax : ρ → AX} {A' : ρ → List AV} {H' : ρ → LH} (h1 : CTri P W c1 A H (fun _ : σ => .normal) A1 H1) (h2 : ∀ s, CTri P W c2 (A1 s) (H1 s) ax A' H') : CTri P W (.seq c1 c2) A H ax A' H' := by
  intro W0 F N w a Q hF hN r ha hK
  refine wp_seq (h1 W0 F N w a _ hF hN r ha fun s a' w' hs hd => ?_)
  obtain ⟨N1, g1, g2, g3, g4⟩ := hs
  exact h2 s W0 F N1 w' a' Q hF g2 g3 g4 fun q a2 w2 ⟨N2, k1, k2, k3, k4⟩ hd2 => hK q a2 w2 ⟨N2, fun i hi => (k1 i hi).trans (g1 i hi), k2, k3, k4⟩ (hd2.trans hd)
theorem CTri.block {c : Code} {id : Nat} {A : List AV} {H : LH} {A' : ρ → List AV} {H' : ρ → LH} (h : CTri P W c A H (fun _ : ρ => .exit id) A' H') : CTri P W (.block id c) A H (fun _ : ρ => .normal) A' H' := by
  intro W0 F N w a Q hF hN r ha hK
  refine wp_block (h W0 F N w a _ hF hN r ha fun q a' w' hs hd => ?_)
  show (if id = id then Q .normal a' w' else _)
  rw [if_pos rfl]
  exact hK q a' w' hs hd
theorem Tri.body {f : FuncId} {fn : Func} {cd : Code} {t m : Nat} {A A0 : List AV} {H H' : LH} {v : AV} {ax : AX} (hfn : P.funcs[f]? = some fn) (hcd : fn.body = some cd) (hres : fn.results = #[.tmp t]) (hm : fn.ntmps = m) (hA0 : A ++ List.replicate (m - A.length) AV.undef = A0) (hax : ax = .ret ∨ ax = .normal) (ht : t < m)
    (h : CTri P W cd A0 H (fun _ : Unit => ax) (fun _ => tms 0 m [(t, v)]) (fun _ => H')) : Tri P W f A H v H' := by
  intro W0 F N w vargs hF hN r ha
  have hlen : A.length = vargs.size := by rw [ha.len]; simp
  refine calls_of_wp hfn hcd ?_
  refine h W0 F N w _ _ hF hN r ?_ fun _ a' w' hs hd => ?_
  · subst hA0
    rw [Array.toList_append, Array.toList_replicate, hm, hlen]
    refine ha.append ?_
    generalize m - vargs.size = k
    induction k with
    | zero => exact VRs_nil
    | succ k ih => exact VRs_cons.2 ⟨undef_VR, ih⟩
  · obtain ⟨N1, g1, g2, g3, g4⟩ := hs
    have hv : ∀ (k j : Nat) (l : List Value), k ≤ t → t < k + j → VRs N1 (tms k j [(t, v)]) l → ∃ y, l[t - k]? = some y ∧ VR N1 v y := by
      intro k j
      induction j generalizing k with
      | zero => intro l h1 h2; omega
      | succ j ih =>
        intro l h1 h2 hl
        rw [tms] at hl
        simp only [VRs] at hl
        obtain ⟨y, l', q1, q2, rfl⟩ := hl
        by_cases e : k = t
        · subst e
          refine ⟨y, by simp, ?_⟩
          simpa using q1
        · obtain ⟨z, z1, z2⟩ := ih (k + 1) l' (by omega) (by omega) q2
          exact ⟨z, by rw [show t - k = (t - (k + 1)) + 1 from by omega, List.getElem?_cons_succ]; exact z1, z2⟩
    obtain ⟨y, hy, hvy⟩ := hv 0 m _ (Nat.zero_le _) (by omega) g4
    have hr : (results fn a'.tmps).run P w' = .ok y w' := by
      unfold results
      rw [hres]
      have : a'.tmps.getD t Go.undef = y := by
        rw [Nat.sub_zero, Array.getElem?_toList] at hy
        simp [Array.getD_eq_getD_getElem?, hy]
      rw [Array.getD_eq_getD_getElem?] at this
      simp [this]
    have hpost : a'.defers = [] ∧ ∃ y, (results fn a'.tmps).run P w' = .ok y w' ∧ ∃ z, Ending.returned y = .returned z ∧ St W0 F N H' [v] [z] w' := ⟨hd, y, hr, y, rfl, N1, g1, g2, g3, VRs_cons.2 ⟨hvy, VRs_nil⟩⟩
    rcases hax with rfl | rfl
    · exact hpost
    · exact hpost
theorem CTri.run {con : ConT} {claim : ClaimT} {lcon : LconT} {g : FuncId} {cd : Code} {A : List AV} {H : LH} {ax : ρ → AX} {A' : ρ → List AV} {H' : ρ → LH} (ks : List Nat) (fuel : Nat) (hm : P.follows .mixedOrders = true) (hH : namesLt 1100 H = true)
    (hcon : ∀ F, OldOK W F → ConOK P (envO P F con claim lcon W)) (hl : ∀ F, OldOK W F → LconOK P (envO P F con claim lcon W))
    (hrun : ∀ F, OldOK W F → (((runCode P (envO P F con claim lcon W) fuel g cd A).run2 (heapOf H) 1100 []).view ks).all fun u os _ => FitsE ks u.2 os fun W0 F N ys w => ∃ q, ax q = u.1 ∧ St W0 F N (H' q) (A' q) ys w) : CTri P W cd A H ax A' H' := by
  intro W0 F N w a Q hF hN r ha hK
  obtain ⟨⟨x, t⟩, h', n', lg', c, he, hc, hq⟩ := VT.all_pick (hrun F hF)
  rw [run2_pick] at he
  refine (runCode_sound hF.env hm (hcon F hF) (hl F hF) fuel).1 _ _ _ _ _ _ _ _ _ _ _ _ _ _ _ _ _ _ he hc r ha (fun i h1 h2 => hN.nothing hH h1) fun N2 a2 w2 r2 t2 d2 x2 => ?_
  have hlim := run_limit _ he (by decide)
  obtain ⟨q, e, hs⟩ := hq.state r2 x2 hlim (fun i hi => hN.nothing hH hi) t2
  simp only at e
  rw [← e]
  exact hK q a2 w2 hs d2
theorem CTri.loop {con : σ → ConT} {claim : σ → ClaimT} {lcon : σ → LconT} {g : FuncId} {b : Code} (A : σ → List AV) (H : σ → LH) (ax : ρ → AX) (A' : ρ → List AV) (H' : ρ → LH) (hax : ∀ q, ax q ≠ .normal) (μ : σ → Nat) (ks : List Nat) (fuel : Nat) (hm : P.follows .mixedOrders = true)
    (hH : ∀ s, namesLt 1100 (H s) = true)
    (hcon : ∀ s F, OldOK W F → ConOK P (envO P F (con s) (claim s) (lcon s) W)) (hl : ∀ s F, OldOK W F → LconOK P (envO P F (con s) (claim s) (lcon s) W))
    (hstep : ∀ s F, OldOK W F → (((runCode P (envO P F (con s) (claim s) (lcon s) W) fuel g b (A s)).run2 (heapOf (H s)) 1100 []).view ks).all fun r os _ =>
      FitsE ks r.2 os fun W0 F N ys w => (r.1 = .normal ∧ ∃ s', μ s' < μ s ∧ St W0 F N (H s') (A s') ys w) ∨ ∃ q, ax q = r.1 ∧ St W0 F N (H' q) (A' q) ys w) (s : σ) :
    CTri P W (.loop b) (A s) (H s) ax A' H' := by
  intro W0 F N w a Q hF hN r ha hK
  refine wp_loop_rounds (μ s + 1) ?_
  have key : ∀ (m : Nat) (s : σ), μ s < m → ∀ (N1 : Names) (w : World) (a1 : Act), (∀ i, i < 1000 → N1 i = N i) → NB N1 (H s) → Rep W0 N1 F (heapOf (H s)) w → VRs N1 (A s) a1.tmps.toList → a1.defers = a.defers →
      Code.rounds P b Q m a1 w := by
    intro m
    induction m with
    | zero => intro s hs; omega
    | succ m ih =>
      intro s hs N1 w a1 hN1 hNB r ha hd
      rw [rounds_succ]
      obtain ⟨⟨x, t⟩, h', n', lg', c, he, hc, hq⟩ := VT.all_pick (hstep s F hF)
      rw [run2_pick] at he
      refine (runCode_sound hF.env hm (hcon s F hF) (hl s F hF) fuel).1 _ _ _ _ _ _ _ _ _ _ _ _ _ _ _ _ _ _ he hc r ha (fun i h1 h2 => hNB.nothing (hH s) h1) fun N2 a2 w2 r2 t2 d2 x2 => ?_
      have hlim := run_limit _ he (by decide)
      have hN0 : ∀ i, 1100 ≤ i → N1 i = none := fun i hi => hNB.nothing (hH s) hi
      rcases hq.state r2 x2 hlim hN0 t2 with ⟨e, s', hμ, N3, q1, q2, q3, q4⟩ | ⟨q, e, N3, q1, q2, q3, q4⟩
      · simp only at e
        subst e
        show Code.rounds P b Q m a2 w2
        exact ih s' (by omega) N3 w2 a2 (fun i hi => (q1 i hi).trans (hN1 i hi)) q2 q3 q4 (d2.trans hd)
      · have hfin := hK q a2 w2 ⟨N3, fun i hi => (q1 i hi).trans (hN1 i hi), q2, q3, q4⟩ (d2.trans hd)
        have hx : x ≠ .normal := fun h => hax q (e.trans h)
        rw [e] at hfin
        cases x with
        | normal => exact absurd rfl hx
        | exit id => exact hfin
        | ret => exact hfin
  exact key _ s (by omega) N w a (fun _ _ => rfl) hN r ha rfl
end
end Go.Proofs.YtbmoancedlbhlaaDoor.Eng

/- Code in pieces, over the program. -/
set_option linter.unusedVariables false
set_option linter.unusedSimpArgs false
namespace Go.Proofs.YtbmoancedlbhlaaDoor.Kit
open Go Go.RowKit Go.Proofs.YtbmoancedlbhlaaDoor.Eng
section
variable {W : World} {g : FuncId} {ρ σ : Type}
theorem ct_run {cd : Code} {con : ConsL} {hints : ClaimT} {lc : LcL} (m : Nat) {A : List AV} {H : LH} {ax : ρ → AX} {A' : ρ → List (Nat × AV)} {H' : ρ → LH} (ks idx : List Nat) (hH : namesLt 1100 H = true)
    (hcon : ∀ F, OldOK W F → ∀ x ∈ con, C1OK Tryd.prog F x.1 x.2) (hl : ∀ F, OldOK W F → ∀ x ∈ lc, L1OK Tryd.prog F x.2.2.1 x.2.2.2)
    (h : ∀ F, VAll (fun r os _ => r.2.2 = m ∧ FitsTE m ks idx r.2.1 os fun W0 F N ys w => ∃ q, ax q = r.1 ∧ St W0 F N (H' q) (tms 0 m (A' q)) ys w) (wLoop con hints lc W g cd A H ks idx F)) : CTri Tryd.prog W cd A H ax (fun q => tms 0 m (A' q)) H' := by
  refine CTri.run (con := conL con) (claim := hints) (lcon := lconL lc) (g := g) ks 1000 mixed hH (fun F hF => conL_ok rfl (hcon F hF)) (fun F hF => lconL_ok rfl (hl F hF)) fun F _ => ?_
  refine VT.all_mono (fun r os n hr => ?_) (VT.all_map (h F).out)
  obtain ⟨h1, t1, H1, l, hb, hf, hg⟩ := hr
  exact ⟨_, _, l, hb, hf.fit h1, hg⟩
theorem FitT.det {m : Nat} {ks idx : List Nat} {ts : List AV} {os : List (Option AO)} {told : List (Nat × AV)} {H : LH} {l : List (Nat × Nat)} {ax : ρ → AX} {A' : ρ → List (Nat × AV)} {H' : ρ → LH} {x : AX} (h : FitT ks idx ts os told H l) (hH : namesLt 1100 H = true) (q : ρ) (hx : ax q = x) (hg : Goes (tms 0 m told) H (tms 0 m (A' q)) (H' q)) :
    FitsTE m ks idx ts os fun W0 F N ys w => ∃ q, ax q = x ∧ St W0 F N (H' q) (tms 0 m (A' q)) ys w := ⟨told, H, l, hH, h, fun W0 F N ys w hs => ⟨q, hx, hg _ _ _ _ _ hs⟩⟩
theorem ct_loop {b : Code} (m : Nat) (A : σ → List (Nat × AV)) (H : σ → LH) (ax : ρ → AX) (A' : ρ → List (Nat × AV)) (H' : ρ → LH) (hax : ∀ q, ax q ≠ .normal) (μ : σ → Nat) (ks idx : List Nat) (hH : ∀ s, namesLt 1100 (H s) = true)
    (hstep : ∀ s, ∃ (con : ConsL) (hints : ClaimT) (lc : LcL) (B : LH), namesLt 1100 B = true ∧ Goes (tms 0 m (A s)) (H s) (tms 0 m (A s)) B ∧ (∀ F, OldOK W F → ∀ x ∈ con, C1OK Tryd.prog F x.1 x.2) ∧ (∀ F, OldOK W F → ∀ x ∈ lc, L1OK Tryd.prog F x.2.2.1 x.2.2.2) ∧
      ∀ F, VAll (fun r os _ => r.2.2 = m ∧ FitsTE m ks idx r.2.1 os fun W0 F N ys w => (r.1 = .normal ∧ ∃ s', μ s' < μ s ∧ St W0 F N (H s') (tms 0 m (A s')) ys w) ∨ ∃ q, ax q = r.1 ∧ St W0 F N (H' q) (tms 0 m (A' q)) ys w) (wLoop con hints lc W g b (tms 0 m (A s)) B ks idx F)) (s : σ) :
    CTri Tryd.prog W (.loop b) (tms 0 m (A s)) (H s) ax (fun q => tms 0 m (A' q)) H' := by
  intro W0 F N w a Q hF hN r ha hK
  refine wp_loop_rounds (μ s + 1) ?_
  have key : ∀ (k : Nat) (s : σ), μ s < k → ∀ (N1 : Names) (w : World) (a1 : Act), (∀ i, i < 1000 → N1 i = N i) → NB N1 (H s) → Rep W0 N1 F (heapOf (H s)) w → VRs N1 (tms 0 m (A s)) a1.tmps.toList → a1.defers = a.defers →
      Code.rounds Tryd.prog b Q k a1 w := by
    intro k
    induction k with
    | zero => intro s hs; omega
    | succ k ih =>
      intro s hs N1 w a1 hN1 hNB r ha hd
      rw [rounds_succ]
      obtain ⟨con, hints, lc, B, hB, hgo, hcon, hl, hrun⟩ := hstep s
      obtain ⟨N4, p1, p2, p3, p4⟩ := hgo _ _ _ _ _ ⟨N1, fun _ _ => rfl, hNB, r, ha⟩
      have hall : (((runCode Tryd.prog (envO Tryd.prog F (conL con) hints (lconL lc) W) 1000 g b (tms 0 m (A s))).run2 (heapOf B) 1100 []).view ks).all fun r os _ => FitsE ks r.2 os fun W0 F N ys w => (r.1 = .normal ∧ ∃ s', μ s' < μ s ∧ St W0 F N (H s') (tms 0 m (A s')) ys w) ∨ ∃ q, ax q = r.1 ∧ St W0 F N (H' q) (tms 0 m (A' q)) ys w := by
        refine VT.all_mono (fun r os n hr => ?_) (VT.all_map (hrun F).out)
        obtain ⟨h1, t1, H1, l, hb, hf, hg⟩ := hr
        exact ⟨_, _, l, hb, hf.fit h1, hg⟩
      obtain ⟨⟨x, t⟩, h', n', lg', c, he, hc, hq⟩ := VT.all_pick hall
      rw [run2_pick] at he
      refine (runCode_sound hF.env mixed (conL_ok rfl (hcon F hF)) (lconL_ok rfl (hl F hF)) 1000).1 _ _ _ _ _ _ _ _ _ _ _ _ _ _ _ _ _ _ he hc p3 p4 (fun i h1 h2 => p2.nothing hB h1) fun N2 a2 w2 r2 t2 d2 x2 => ?_
      have hlim := run_limit _ he (by decide)
      have hN0 : ∀ i, 1100 ≤ i → N4 i = none := fun i hi => p2.nothing hB hi
      rcases hq.state r2 x2 hlim hN0 t2 with ⟨e, s', hμ, N3, q1, q2, q3, q4⟩ | ⟨q, e, N3, q1, q2, q3, q4⟩
      · simp only at e
        subst e
        show Code.rounds Tryd.prog b Q k a2 w2
        exact ih s' (by omega) N3 w2 a2 (fun i hi => ((q1 i hi).trans (p1 i hi)).trans (hN1 i hi)) q2 q3 q4 (d2.trans hd)
      · have hfin := hK q a2 w2 ⟨N3, fun i hi => ((q1 i hi).trans (p1 i hi)).trans (hN1 i hi), q2, q3, q4⟩ (d2.trans hd)
        simp only at e
        have hx : x ≠ .normal := fun h => hax q (e.trans h)
        rw [e] at hfin
        cases x with
        | normal => exact absurd rfl hx
        | exit id => exact hfin
        | ret => exact hfin
  exact key _ s (by omega) N w a (fun _ _ => rfl) hN r ha rfl
end
/-! Pieces of code. -/
def fst : Code → Code
  | .seq a _ => a
  | c => c
def snd : Code → Code
  | .seq _ b => b
  | c => c
noncomputable def bodyN (f : FuncId) : Code := ((Tryd.prog.funcs[f]?).bind fun fn => fn.body).getD .skip
end Go.Proofs.YtbmoancedlbhlaaDoor.Kit

/- Topic: a node more: the tree. -/
set_option linter.unusedVariables false
set_option linter.unusedSimpArgs false
set_option maxRecDepth 100000
namespace Go.Proofs.YtbmoancedlbhlaaDoor.Tpc
open Go Go.RowKit Go.Proofs.YtbmoancedlbhlaaDoor.Eng Go.Proofs.YtbmoancedlbhlaaDoor.Kit
def nd0 (p : Path) (b nb db : Nat) : Nd := ⟨p, b, nb, db, [], 0, [], 0⟩
theorem kset_none {κ α : Type} [DecidableEq κ] {m : KMap κ α} {c : Nat} {k : κ} {x : α} (h : klook k m = none) : kset m c k x = m ++ [(k, x, c)] ∧ kbump m c k = c + 1 := by
  have hf : kfind k m 0 = none := by
    have := kfind_look k m 0
    rw [h] at this
    cases hq : kfind k m 0 with
    | none => rfl
    | some p => rw [hq] at this; cases this
  unfold kset kbump
  rw [hf]
  exact ⟨rfl, rfl⟩
theorem TrInv.node {L : Pairs} {g : Nat} {root : Nat} {G X R : List Nd} {c : Nd} {w : ByteArray} {b nb db : Nat} (h : TrInv L g ⟨root, G, X⟩) (hc : c ∈ G) (hk : klook w c.nx = none) (hp : G.Perm (c :: R)) (hb : (blocks (nd0 (c.p ++ [w]) b nb db :: setNx c w b :: R ++ X)).Nodup) :
    TrInv L (g + 1) ⟨root, nd0 (c.p ++ [w]) b nb db :: setNx c w b :: R, X⟩ := by
  have hs : Shp G X g root := h.shp
  have hds : ∀ n ∈ G, ∀ d x, klook d n.ds = some x ↔ x = 1 ∧ ∃ pat, (pat, d) ∈ L ∧ dots pat = n.p := h.ds
  have hcov : ∀ e ∈ L, ∃ n ∈ G, n.p = dots e.1 := h.cov
  have hkd : ∀ n ∈ G, KI n.ds n.dc ∧ n.ds.length ≤ g ∧ ∀ e ∈ n.ds, e.1.size ≤ 1099511627776 := h.kd
  have hno : ∀ t ∈ G, t.p ≠ c.p ++ [w] := fun t ht e => by
    obtain ⟨s, q1, q2, q3⟩ := hs.par t ht _ _ e
    rw [pp_inj hs.pp q1 hc q2, hk] at q3
    cases q3
  have hmem : ∀ t, t ∈ G ↔ t = c ∨ t ∈ R := fun t => by rw [hp.mem_iff, List.mem_cons]
  -- the old ones there
  have fw : ∀ t ∈ G, ∃ t' ∈ nd0 (c.p ++ [w]) b nb db :: setNx c w b :: R, t'.p = t.p ∧ t'.b = t.b ∧ t'.ds = t.ds ∧ ∀ w' y, klook w' t.nx = some y → klook w' t'.nx = some y := fun t ht => by
    rcases (hmem t).1 ht with rfl | ht
    · refine ⟨setNx t w b, by simp, rfl, rfl, rfl, fun w' y hy => ?_⟩
      show klook w' (kset t.nx t.nc w b) = some y
      rw [klook_kset, if_neg (fun e => by rw [e, hk] at hy; cases hy)]
      exact hy
    · exact ⟨t, by simp [ht], rfl, rfl, rfl, fun w' y hy => hy⟩
  have bw : ∀ t' ∈ nd0 (c.p ++ [w]) b nb db :: setNx c w b :: R, t' = nd0 (c.p ++ [w]) b nb db ∨ ∃ t ∈ G, t'.p = t.p ∧ t'.b = t.b ∧ t'.ds = t.ds ∧ t'.dc = t.dc ∧ KI t'.nx t'.nc ∧ ∀ w' y, klook w' t'.nx = some y → klook w' t.nx = some y ∨ (t = c ∧ w' = w ∧ y = b) := fun t' ht => by
    rcases List.mem_cons.1 ht with e | ht
    · exact .inl e
    · rcases List.mem_cons.1 ht with rfl | ht
      · refine .inr ⟨c, hc, rfl, rfl, rfl, rfl, (hs.ki c hc).kset _ _, fun w' y hy => ?_⟩
        have hy : klook w' (kset c.nx c.nc w b) = some y := hy
        rw [klook_kset] at hy
        split at hy
        · rename_i e; exact .inr ⟨rfl, e, (Option.some.inj hy).symm⟩
        · exact .inl hy
      · have htG := (hmem t').2 (.inr ht)
        exact .inr ⟨t', htG, rfl, rfl, rfl, rfl, hs.ki t' htG, fun w' y hy => .inl hy⟩
  refine ⟨⟨hb, ?_, ?_, ?_, ?_, hs.dead, ?_, ?_, ?_⟩, ?_, ?_, h.nd, ?_⟩
  · -- paths
    have h1 : (G.map (·.p)).Perm ((setNx c w b :: R).map (·.p)) := hp.map _
    show (_ :: (setNx c w b :: R).map (·.p)).Nodup
    rw [List.nodup_cons]
    refine ⟨fun hm => ?_, h1.nodup_iff.1 hs.pp⟩
    obtain ⟨t, ht, e⟩ := List.mem_map.1 (h1.mem_iff.2 hm)
    exact hno t ht e
  · obtain ⟨r, hr, e1, e2⟩ := hs.rt
    obtain ⟨r', q1, q2, q3, _⟩ := fw r hr
    exact ⟨r', q1, q2.trans e1, q3.trans e2⟩
  · intro t' ht w' y hy
    rcases bw t' ht with rfl | ⟨t, q1, q2, q3, _, _, _, q4⟩
    · cases hy
    · rcases q4 w' y hy with hy | ⟨rfl, rfl, rfl⟩
      · obtain ⟨u, u1, u2, u3⟩ := hs.nx t q1 w' y hy
        obtain ⟨u', v1, v2, v3, _⟩ := fw u u1
        exact ⟨u', v1, by rw [v2, u2, q2], v3.trans u3⟩
      · exact ⟨_, List.mem_cons_self, by rw [q2]; rfl, rfl⟩
  · intro t' ht q w' e
    rcases bw t' ht with rfl | ⟨t, q1, q2, q3, _⟩
    · have e : c.p ++ [w] = q ++ [w'] := e
      obtain ⟨e1, e2⟩ := List.append_inj' e rfl
      obtain rfl : w = w' := by simpa using e2
      refine ⟨setNx c w b, by simp, e1, ?_⟩
      show klook w (kset c.nx c.nc w b) = some b
      rw [klook_kset, if_pos rfl]
    · obtain ⟨s, s1, s2, s3⟩ := hs.par t q1 q w' (q2 ▸ e)
      obtain ⟨s', v1, v2, v3, _, v4⟩ := fw s s1
      exact ⟨s', v1, v2.trans s2, by rw [q3]; exact v4 _ _ s3⟩
  · have := hp.length_eq
    have h2 := hs.gl
    simp only [List.length_cons] at this ⊢
    omega
  · intro t' ht
    rcases bw t' ht with rfl | ⟨t, q1, q2, _⟩
    · have := hs.pl c hc
      show (c.p ++ [w]).length < g + 1
      rw [List.length_append]; simp only [List.length_cons, List.length_nil]; omega
    · have := hs.pl t q1
      rw [q2]; omega
  · intro t' ht
    rcases bw t' ht with rfl | ⟨t, q1, q2, q3, _, _, q4, _⟩
    · exact KI.nil
    · exact q4
  · intro t' ht d x
    rcases bw t' ht with rfl | ⟨t, q1, q2, q3, q4, _⟩
    · constructor
      · intro hx; cases hx
      · rintro ⟨_, pat, h1, h2⟩
        obtain ⟨n, hn, e⟩ := hcov _ h1
        exact absurd (e.trans h2) (hno n hn)
    · rw [q4, q2]; exact hds t q1 d x
  · intro e he
    obtain ⟨n, hn, e2⟩ := hcov e he
    obtain ⟨n', v1, v2, _⟩ := fw n hn
    exact ⟨n', v1, v2.trans e2⟩
  · intro t' ht
    rcases bw t' ht with rfl | ⟨t, q1, q2, q3, q4, q5, _⟩
    · exact ⟨KI.nil, Nat.zero_le _, fun e he => by cases he⟩
    · obtain ⟨k1, k2, k3⟩ := hkd t q1
      rw [q4, q5]
      exact ⟨k1, by omega, k3⟩
theorem TrInv.mono {L : Pairs} {g g' : Nat} {s : TrS} (h : TrInv L g s) (hg : g ≤ g') : TrInv L g' s :=
  ⟨{ h.shp with gl := Nat.le_trans h.shp.gl hg, pl := fun t ht => Nat.lt_of_lt_of_le (h.shp.pl t ht) hg }, h.ds, h.cov, h.nd, fun n hn => ⟨(h.kd n hn).1, Nat.le_trans (h.kd n hn).2.1 hg, (h.kd n hn).2.2⟩⟩
theorem dots_inj {a b : ByteArray} (h : dots a = dots b) : a = b := by
  have key : ∀ l : List UInt8, splitL l ≠ [] := fun l => by
    intro e
    have := splitL_len l
    rw [e] at this; simp at this
  have inj : ∀ l l' : List UInt8, splitL l = splitL l' → l = l' := by
    intro l
    induction l with
    | nil =>
      intro l' e
      cases l' with
      | nil => rfl
      | cons y l' =>
        rw [splitL, splitL] at e
        split at e
        · simp only [List.cons.injEq, true_and] at e
          exact absurd e.symm (key l')
        · cases hq : splitL l' with
          | nil => exact absurd hq (key l')
          | cons p r => rw [hq] at e; simp at e
    | cons x l ih =>
      intro l' e
      cases l' with
      | nil =>
        rw [splitL, splitL] at e
        split at e
        · simp only [List.cons.injEq, true_and] at e
          exact absurd e (key l)
        · cases hq : splitL l with
          | nil => exact absurd hq (key l)
          | cons p r => rw [hq] at e; simp at e
      | cons y l' =>
        rw [splitL, splitL] at e
        by_cases hx : x = 46
        · rw [if_pos hx] at e
          by_cases hy : y = 46
          · rw [if_pos hy] at e
            simp only [List.cons.injEq, true_and] at e
            rw [hx, hy, ih l' e]
          · rw [if_neg hy] at e
            cases hq : splitL l' with
            | nil => exact absurd hq (key l')
            | cons p r => rw [hq] at e; simp at e
        · rw [if_neg hx] at e
          cases hp : splitL l with
          | nil => exact absurd hp (key l)
          | cons p r =>
            rw [hp] at e
            by_cases hy : y = 46
            · rw [if_pos hy] at e; simp at e
            · rw [if_neg hy] at e
              cases hq : splitL l' with
              | nil => exact absurd hq (key l')
              | cons p' r' =>
                rw [hq] at e
                simp only [List.cons.injEq] at e
                obtain ⟨⟨e1, e2⟩, e3⟩ := e
                rw [e1, ih l' (by rw [hp, hq, e2, e3])]
  have h2 : splitL a.data.toList = splitL b.data.toList := by
    have := congrArg (fun l : List ByteArray => l.map fun s => s.data.toList) h
    simpa [dots, bsOf, Function.comp_def] using this
  exact ba_ext (inj _ _ h2)
theorem TrInv.pair {L : Pairs} {g : Nat} {root : Nat} {G X R : List Nd} {c : Nd} {pat d : ByteArray} (h : TrInv L g ⟨root, G, X⟩) (hc : c ∈ G) (hp : G.Perm (c :: R)) (hcp : c.p = dots pat) (hL : (pat, d) ∉ L) (hd : d.size ≤ 1099511627776) :
    TrInv (L ++ [(pat, d)]) (g + 1) ⟨root, setDs c d 1 :: R, X⟩ := by
  have hs : Shp G X g root := h.shp
  have hds : ∀ n ∈ G, ∀ d x, klook d n.ds = some x ↔ x = 1 ∧ ∃ pat, (pat, d) ∈ L ∧ dots pat = n.p := h.ds
  have hcov : ∀ e ∈ L, ∃ n ∈ G, n.p = dots e.1 := h.cov
  have hkd : ∀ n ∈ G, KI n.ds n.dc ∧ n.ds.length ≤ g ∧ ∀ e ∈ n.ds, e.1.size ≤ 1099511627776 := h.kd
  have hmem : ∀ t, t ∈ G ↔ t = c ∨ t ∈ R := fun t => by rw [hp.mem_iff, List.mem_cons]
  have hcR : c ∉ R := fun hcr => by
    have := (hp.map (·.p)).nodup_iff.1 hs.pp
    rw [List.map_cons, List.nodup_cons] at this
    exact this.1 (List.mem_map_of_mem hcr)
  have fw : ∀ t ∈ G, ∃ t' ∈ setDs c d 1 :: R, t'.p = t.p ∧ t'.b = t.b ∧ t'.nx = t.nx := fun t ht => by
    rcases (hmem t).1 ht with rfl | ht
    · exact ⟨_, List.mem_cons_self, rfl, rfl, rfl⟩
    · exact ⟨t, List.mem_cons_of_mem _ ht, rfl, rfl, rfl⟩
  have bw : ∀ t' ∈ setDs c d 1 :: R, ∃ t ∈ G, t'.p = t.p ∧ t'.b = t.b ∧ t'.nx = t.nx ∧ t'.nc = t.nc := fun t' ht => by
    rcases List.mem_cons.1 ht with rfl | ht
    · exact ⟨c, hc, rfl, rfl, rfl, rfl⟩
    · exact ⟨t', (hmem t').2 (.inr ht), rfl, rfl, rfl, rfl⟩
  have hnone : klook d c.ds = none := by
    cases hx : klook d c.ds with
    | none => rfl
    | some x =>
      obtain ⟨_, pat', h1, h2⟩ := (hds c hc d x).1 hx
      rw [dots_inj (h2.trans hcp)] at h1
      exact absurd h1 hL
  have hbl : blocks (setDs c d 1 :: R ++ X) = blocks (c :: R ++ X) := rfl
  refine ⟨⟨?_, ?_, ?_, ?_, ?_, hs.dead, ?_, ?_, ?_⟩, ?_, ?_, ?_, ?_⟩
  · show (blocks (setDs c d 1 :: R ++ X)).Nodup
    rw [hbl]
    exact ((hp.append_right X).flatMap_right _).nodup_iff.1 hs.bl
  · exact (hp.map (·.p)).nodup_iff.1 hs.pp
  · obtain ⟨r, hr, e1, e2⟩ := hs.rt
    obtain ⟨r', q1, q2, q3, _⟩ := fw r hr
    exact ⟨r', q1, q2.trans e1, q3.trans e2⟩
  · intro t' ht w' y hy
    obtain ⟨t, q1, q2, q3, q4, _⟩ := bw t' ht
    rw [q4] at hy
    obtain ⟨u, u1, u2, u3⟩ := hs.nx t q1 w' y hy
    obtain ⟨u', v1, v2, v3, _⟩ := fw u u1
    exact ⟨u', v1, by rw [v2, u2, q2], v3.trans u3⟩
  · intro t' ht q w' e
    obtain ⟨t, q1, q2, q3, q4, _⟩ := bw t' ht
    obtain ⟨s, s1, s2, s3⟩ := hs.par t q1 q w' (q2 ▸ e)
    obtain ⟨s', v1, v2, v3, v4⟩ := fw s s1
    exact ⟨s', v1, v2.trans s2, by rw [q3, v4]; exact s3⟩
  · have := hp.length_eq
    have h2 := hs.gl
    simp only [List.length_cons] at this ⊢
    omega
  · intro t' ht
    obtain ⟨t, q1, q2, _⟩ := bw t' ht
    have := hs.pl t q1
    rw [q2]; omega
  · intro t' ht
    obtain ⟨t, q1, q2, q3, q4, q5⟩ := bw t' ht
    rw [q4, q5]; exact hs.ki t q1
  · intro t' ht d' x
    rcases List.mem_cons.1 ht with rfl | ht
    · show klook d' (kset c.ds c.dc d 1) = some x ↔ x = 1 ∧ ∃ pat', (pat', d') ∈ L ++ [(pat, d)] ∧ dots pat' = c.p
      rw [klook_kset]
      by_cases e : d' = d
      · subst e
        rw [if_pos rfl]
        constructor
        · intro hx; exact ⟨(Option.some.inj hx).symm, pat, by simp, hcp.symm⟩
        · rintro ⟨rfl, _⟩; rfl
      · rw [if_neg e, hds c hc]
        constructor
        · rintro ⟨h1, p', h2, h3⟩; exact ⟨h1, p', List.mem_append_left _ h2, h3⟩
        · rintro ⟨h1, p', h2, h3⟩
          refine ⟨h1, p', ?_, h3⟩
          rcases List.mem_append.1 h2 with h2 | h2
          · exact h2
          · simp only [List.mem_singleton, Prod.mk.injEq] at h2; exact absurd h2.2 e
    · rw [hds t' ((hmem t').2 (.inr ht))]
      constructor
      · rintro ⟨h1, p', h2, h3⟩; exact ⟨h1, p', List.mem_append_left _ h2, h3⟩
      · rintro ⟨h1, p', h2, h3⟩
        refine ⟨h1, p', ?_, h3⟩
        rcases List.mem_append.1 h2 with h2 | h2
        · exact h2
        · simp only [List.mem_singleton, Prod.mk.injEq] at h2
          rw [h2.1, ← hcp] at h3
          exact absurd (pp_inj hs.pp hc ((hmem t').2 (.inr ht)) h3 ▸ ht) hcR
  · intro e he
    rcases List.mem_append.1 he with he | he
    · obtain ⟨n, hn, e2⟩ := hcov e he
      obtain ⟨n', v1, v2, _⟩ := fw n hn
      exact ⟨n', v1, v2.trans e2⟩
    · simp only [List.mem_singleton] at he
      subst he
      exact ⟨_, List.mem_cons_self, hcp⟩
  · rw [List.nodup_append]
    refine ⟨h.nd, by simp, fun a ha b hb e => ?_⟩
    simp only [List.mem_singleton] at hb
    rw [e, hb] at ha
    exact hL ha
  · intro t' ht
    rcases List.mem_cons.1 ht with rfl | ht
    · obtain ⟨k1, k2, k3⟩ := hkd c hc
      obtain ⟨e1, e2⟩ := kset_none (c := c.dc) (x := (1 : Int)) hnone
      refine ⟨k1.kset _ _, ?_, ?_⟩
      · show (kset c.ds c.dc d 1).length ≤ g + 1
        rw [e1, List.length_append]; simp only [List.length_cons, List.length_nil]; omega
      · show ∀ e ∈ kset c.ds c.dc d 1, _
        rw [e1]
        intro e he
        rcases List.mem_append.1 he with he | he
        · exact k3 e he
        · simp only [List.mem_singleton] at he; rw [he]; exact hd
    · obtain ⟨k1, k2, k3⟩ := hkd t' ((hmem t').2 (.inr ht))
      exact ⟨k1, by omega, k3⟩
/-! The nodes beside one's map of words. -/
def holeOn (c : Nd) (R : List Nd) (D : Nat → Prop) (w : World) : Prop := (∀ x, D x ↔ x = c.b ∨ x = c.db ∨ x ∈ blocks R) ∧ (blocks (c :: R)).Nodup ∧ (∃ arr, w.heap[c.b]? = some (.cells arr tNode (0, 0)) ∧ arr[0]? = some (mpV c.nb) ∧ arr[1]? = some (mpV c.db)) ∧
  (∃ es : Array MapEntry, w.heap[c.db]? = some (.map es c.dc) ∧ es.toList = ents ix c.ds) ∧ ∀ s ∈ R, ndAt w s
def holeHP (c : Nd) (R : List Nd) : HP where
  on D w := holeOn c R D w
  far {D w w'} hf := fun (h : holeOn c R D w) => show holeOn c R D w' from
    ⟨h.1, h.2.1, by rw [hf _ ((h.1 c.b).2 (.inl rfl))]; exact h.2.2.1, by rw [hf _ ((h.1 c.db).2 (.inr (.inl rfl)))]; exact h.2.2.2.1, fun s hs => (h.2.2.2.2 s hs).far (hf _ ((h.1 _).2 (.inr (.inr (blocks_mem hs).1)))) (hf _ ((h.1 _).2 (.inr (.inr (blocks_mem hs).2.1)))) (hf _ ((h.1 _).2 (.inr (.inr (blocks_mem hs).2.2))))⟩
  lt {D w} := fun (h : holeOn c R D w) b hb => by
    rcases (h.1 b).1 hb with rfl | rfl | hb
    · obtain ⟨arr, h1, _⟩ := h.2.2.1; exact (Array.getElem?_eq_some_iff.1 h1).1
    · obtain ⟨es, h1, _⟩ := h.2.2.2.1; exact (Array.getElem?_eq_some_iff.1 h1).1
    · obtain ⟨s, hs, he⟩ := List.mem_flatMap.1 hb
      obtain ⟨⟨arr, h1, _⟩, ⟨e1, h2, _⟩, ⟨e2, h3, _⟩⟩ := h.2.2.2.2 s hs
      simp only [List.mem_cons, List.not_mem_nil, or_false] at he
      rcases he with rfl | rfl | rfl
      · exact (Array.getElem?_eq_some_iff.1 h1).1
      · exact (Array.getElem?_eq_some_iff.1 h2).1
      · exact (Array.getElem?_eq_some_iff.1 h3).1
theorem fc_hole (c : Nd) (R : List Nd) : FactAt Tryd.prog (.any (holeHP c R)) (.load tNx ⟨c.b, 0, none⟩ (mpV c.nb)) := fun N D w h => by
  obtain ⟨arr, h1, h2, h3⟩ := (show holeOn c R D w from h).2.2.1
  exact cell_load agg_nx (cell_of h1 h2)
theorem ers_nx (N : Names) : ∀ m : KMap ByteArray Nat, ERs N (kE Value.string ptrV m) (ents pk m)
  | [] => rfl
  | e :: m => ⟨_, _, ⟨VR_v.2 rfl, VR_v.2 rfl, rfl⟩, ers_nx N m, rfl⟩
theorem ers_inv (N : Names) : ∀ (m : KMap ByteArray Nat) (es : List MapEntry), ERs N (kE Value.string ptrV m) es → es = ents pk m
  | [], es, h => h
  | e :: m, es, ⟨a, r, ⟨h1, h2, h3⟩, h4, h5⟩ => by
    rw [h5, ers_inv N m r h4]
    have h1 := VR_v.1 h1
    have h2 : a.val = pk e.2.1 := VR_v.1 h2
    cases a
    simp only at h1 h2 h3
    subst h1 h2 h3
    rfl
theorem ers_app {N : Names} : ∀ (l l2 : List (AV × AV × Nat)) (es : List MapEntry), ERs N (l ++ l2) es → ∃ e1 e2, es = e1 ++ e2 ∧ ERs N l e1 ∧ ERs N l2 e2
  | [], l2, es, h => ⟨[], es, rfl, rfl, h⟩
  | x :: l, l2, es, ⟨a, r, h1, h2, h3⟩ => by
    obtain ⟨e1, e2, q1, q2, q3⟩ := ers_app l l2 r h2
    exact ⟨a :: e1, e2, by rw [h3, q1]; rfl, ⟨a, e1, h1, q2, rfl⟩, q3⟩
theorem vrs_tms {N N' : Names} {told told' : List (Nat × AV)} (h : ∀ j x', told'.find? (fun x => Nat.beq x.1 j) = some (j, x') → ∃ x, told.find? (fun x => Nat.beq x.1 j) = some (j, x) ∧ ∀ y, VR N x y → VR N' x' y) : ∀ {m k : Nat} {ys : List Value}, VRs N (tms k m told) ys → VRs N' (tms k m told') ys
  | 0, k, ys, hv => by
    rw [tms] at hv ⊢
    simp only [VRs] at hv ⊢
    exact hv
  | m + 1, k, ys, hv => by
    rw [tms] at hv ⊢
    simp only [VRs] at hv ⊢
    obtain ⟨y, l, h1, h2, rfl⟩ := hv
    refine ⟨y, l, ?_, vrs_tms h h2, rfl⟩
    cases hf : told'.find? (fun x => Nat.beq x.1 k) with
    | none => simp only [VR]
    | some p =>
      obtain ⟨j, x'⟩ := p
      have hj : j = k := by have := List.find?_some hf; exact Nat.eq_of_beq_eq_true this
      subst hj
      obtain ⟨x, q1, q2⟩ := h j x' hf
      rw [q1] at h1
      exact q2 y h1
end Go.Proofs.YtbmoancedlbhlaaDoor.Tpc

/- Topic: Add: runs. -/
set_option linter.unusedVariables false
set_option linter.unusedSimpArgs false
set_option maxRecDepth 100000
namespace Go.Proofs.YtbmoancedlbhlaaDoor.Tpc
open Go Go.RowKit Go.Proofs.YtbmoancedlbhlaaDoor.Eng Go.Proofs.YtbmoancedlbhlaaDoor.Kit
noncomputable section
abbrev fAdd : Nat := 12
def adB : Code := bodyN fAdd
def ad0 : Code := fst adB
def ad1 : Code := fst (snd adB)
def ad2 : Code := fst (fst (snd (snd adB)))
def adT : Code := snd (snd (snd adB))
theorem adB_eq : (Tryd.prog.funcs[fAdd]?).bind (fun fn => fn.body) = some (.seq ad0 (.seq ad1 (.seq (.seq ad2 (.block 0 (.loop (loopN fAdd 3)))) adT))) := by kernel_rfl
def a0 (dest : ByteArray) : List (Nat × AV) := [(0, .ptr 0 0), (2, sv dest)]
theorem oA0_eq (pat dest : ByteArray) (root m : Nat) (G : List Nd) (F : HP) : wLoop [] noHints [] default fAdd ad0 ([.ptr 0 0, sv pat, sv dest] ++ List.replicate 64 AV.undef) (trU root m G) [0, 2] [0, 1, 2] F = VT.leaf (AX.normal,[AV.ptr 0 0,s' pat,s' dest],67) [some (AO.cells [AV.v (Value.pointer (some (Addr.mk root 0 none))),i' m] 90),some (AO.any (famN G))] 1100 t' := by kernel_rfl
theorem oA1_eq (pat dest : ByteArray) (root m : Nat) (G : List Nd) (F : HP) : wLoop [] noHints [] default fAdd ad1 (tms 0 67 [(0, .ptr 0 0), (1, sv pat), (2, sv dest)]) (trU root m G) [0, 2] [0, 1, 2, 7] F = VT.leaf (AX.normal,[AV.ptr 0 0,s' pat,s' dest,AV.v (Value.pointer (some (Addr.mk root 0 none)))],67) [some (AO.cells [AV.v (Value.pointer (some (Addr.mk root 0 none))),i' m] 90),some (AO.any (famN G))] 1100 (((p' (true = true)).a t').a t') := by kernel_rfl
theorem oA2_eq (pat dest : ByteArray) (root m : Nat) (G : List Nd) (ws : List ByteArray) (n : Nat) (F : HP) : wLoop [(fWords, cWd pat n ws)] noHints [] default fAdd ad2 (tms 0 67 [(0, .ptr 0 0), (1, sv pat), (2, sv dest), (7, ptrV root)]) (trU root m G) [0, 2, 1100] [0, 2, 7, 15, 16, 17] F = VT.leaf (AX.normal,[AV.ptr 0 0,s' dest,AV.v (Value.pointer (some (Addr.mk root 0 none))),AV.slice 1100 0 n 1 (Cp.ex n),z' ↑n,i' 0],67) [some (AO.cells [AV.v (Value.pointer (some (Addr.mk root 0 none))),i' m] 90),some (AO.any (famN G)),some (AO.cells (AV.rens (sgN (fun k => k) [1000] 1100) (rowV encS ws)) 18)] 1101 (((p' (pat = pat)).a ((p' (VW [s' pat] [s' pat])).a t')).a t') := by kernel_rfl
def aA (dest : ByteArray) (b n i : Nat) : List (Nat × AV) := [(0, .ptr 0 0), (2, sv dest), (7, ptrV b), (15, splV 1000 n), (16, iv (Int.ofNat n)), (17, iv (Int.ofNat i))]
def oA (root m : Nat) (ws : List ByteArray) (G : List Nd) : LH := [(0, trC root m), (2, famO G), (1000, rS ws)]
def hAT (i nb : Nat) (w : ByteArray) (y : Nat) : ClaimT := hintL [(fAdd, 3, 0, hv (.lit true)), (fAdd, 4, 1, hv (sv w)), (fAdd, 5, 3, hf (mpV nb)), (fAdd, 5, 5, hf (pk y)), (fAdd, 5, 6, hv (.lit false)), (fAdd, 7, 3, hf (mpV nb)), (fAdd, 7, 5, hf (pk y)), (fAdd, 8, 0, hv (iv (Int.ofNat (i + 1))))]
theorem oAT_eq (dest : ByteArray) (root m : Nat) (ws : List ByteArray) (G : List Nd) (w : ByteArray) (b nb n i y : Nat) (F : HP) : wLoop [] (hAT i nb w y) [] default fAdd (loopN fAdd 3) (tms 0 67 (aA dest b n i)) (oA root m ws G) [0, 2, 1000, 1001, 1002, 1100, 1101, 1102] [0, 2, 7, 15, 16, 17] F = VT.leaf (AX.normal,[AV.ptr 0 0,s' dest,AV.v (Value.pointer (some (Addr.mk y 0 none))),AV.slice 1000 0 n 1 (Cp.ex n),i' n,i' (i + 1)],67) [some (AO.cells [AV.v (Value.pointer (some (Addr.mk root 0 none))),i' m] 90),some (AO.any (famN G)),some (AO.cells (rowV encS ws) 18),none,none,none,none,none] 1100 (((p' (Wk (b' (decide (Int.ofNat i < Int.ofNat n))) (AV.lit true))).a t').a (((p' (i.blt n = true)).a t').a (((p' ((0 + i * 1).blt (rowV encS ws).length = true)).a ((p' ((rowV encS ws).getD (0 + i * 1) (u') = AV.v (Value.string ((rowV encS ws).getD (0 + i * 1) (u')).strOf))).a ((p' (Wk (AV.v (Value.string ((rowV encS ws).getD (0 + i * 1) (u')).strOf)) (s' w))).a t'))).a (((p' (FactAt Tryd.prog (AO.any (famN G)) (Fc.load 46 (Addr.mk b 0 none) (Value.map (some nb))))).a t').a (((p' (FactAt Tryd.prog (AO.any (famN G)) (Fc.look 46 nb (Value.string w) (Value.pointer (some (Addr.mk y 0 none)))))).a t').a (((p' (Wk (b' false) (AV.lit false))).a t').a (((p' (FactAt Tryd.prog (AO.any (famN G)) (Fc.load 46 (Addr.mk b 0 none) (Value.map (some nb))))).a t').a (((p' (FactAt Tryd.prog (AO.any (famN G)) (Fc.look 46 nb (Value.string w) (Value.pointer (some (Addr.mk y 0 none)))))).a t').a (((p' (Wk (z' (IntKind.i64.wrap (Int.ofNat i + Int.ofNat 1))) (i' (i + 1)))).a t').a t'))))))))) := by kernel_rfl
theorem oAE_eq (dest : ByteArray) (root m : Nat) (ws : List ByteArray) (G : List Nd) (b n : Nat) (F : HP) : wLoop [] (hintL [(fAdd, 3, 0, hv (.lit false))]) [] default fAdd (loopN fAdd 3) (tms 0 67 (aA dest b n n)) (oA root m ws G) [0, 2, 1000, 1001, 1002, 1100, 1101, 1102] [0, 2, 7, 15, 16, 17] F = VT.leaf (AX.exit 0,[AV.ptr 0 0,s' dest,AV.v (Value.pointer (some (Addr.mk b 0 none))),AV.slice 1000 0 n 1 (Cp.ex n),i' n,i' n],67) [some (AO.cells [AV.v (Value.pointer (some (Addr.mk root 0 none))),i' m] 90),some (AO.any (famN G)),some (AO.cells (rowV encS ws) 18),none,none,none,none,none] 1100 (((p' (Wk (b' (decide (Int.ofNat n < Int.ofNat n))) (AV.lit false))).a t').a t') := by kernel_rfl
def hAN (i nb : Nat) (w : ByteArray) : ClaimT := hintL [(fAdd, 3, 0, hv (.lit true)), (fAdd, 4, 1, hv (sv w)), (fAdd, 5, 3, hfp (mpV nb) 1002), (fAdd, 5, 5, hv nilP), (fAdd, 5, 6, hv (.lit true)), (fAdd, 6, 3, hfp (mpV nb) 1002), (fAdd, 7, 3, hfp (mpV nb) 1002), (fAdd, 7, 5, hv (.ptr 1102 0)), (fAdd, 8, 0, hv (iv (Int.ofNat (i + 1))))]
def nxO (nx : KMap ByteArray Nat) (nc : Nat) : AO := .map (kE Value.string ptrV nx) nc
def oN (root m : Nat) (ws : List ByteArray) (hole : AO) (nx : KMap ByteArray Nat) (nc nb : Nat) : LH := [(0, trC root m), (2, hole), (1000, rS ws), (1001, nxO nx nc), (1002, .same 1001 nb)]
theorem oAN_eq (dest : ByteArray) (root m : Nat) (ws : List ByteArray) (hole : HP) (nx : KMap ByteArray Nat) (nc : Nat) (w : ByteArray) (b nb n i : Nat) (F : HP) : wLoop [] (hAN i nb w) [] default fAdd (loopN fAdd 3) (tms 0 67 (aA dest b n i)) (oN root m ws (.any hole) nx nc nb) [0, 2, 1000, 1001, 1002, 1100, 1101, 1102] [0, 2, 7, 15, 16, 17] F = VT.leaf (AX.normal,[AV.ptr 0 0,s' dest,AV.ptr 1102 0,AV.slice 1000 0 n 1 (Cp.ex n),i' n,i' (i + 1)],67) [some (AO.cells [AV.v (Value.pointer (some (Addr.mk root 0 none))),i' m] 90),some (AO.any hole),some (AO.cells (rowV encS ws) 18),some (AO.map (setE (s' w) (AV.ptr 1102 0) (kE Value.string ptrV nx) nc) (bumpE (s' w) (kE Value.string ptrV nx) nc)),some (AO.same 1001 nb),some (AO.map [] 0),some (AO.map [] 0),some (AO.cells [AV.map 1100,AV.map 1101] 98)] 1103 (((p' (Wk (b' (decide (Int.ofNat i < Int.ofNat n))) (AV.lit true))).a t').a (((p' (i.blt n = true)).a t').a (((p' ((0 + i * 1).blt (rowV encS ws).length = true)).a ((p' ((rowV encS ws).getD (0 + i * 1) (u') = AV.v (Value.string ((rowV encS ws).getD (0 + i * 1) (u')).strOf))).a ((p' (Wk (AV.v (Value.string ((rowV encS ws).getD (0 + i * 1) (u')).strOf)) (s' w))).a t'))).a (((p' (FactAt Tryd.prog (AO.any hole) (Fc.load 46 (Addr.mk b 0 none) (Value.map (some nb))))).a ((p' (Wk (AV.v (Value.map (some nb))) (AV.v (Value.map (some nb))))).a t')).a (((p' (findKey Tryd.prog (envW [] (hAN i nb w) [] default F) 9 (s' w) (kE Value.string ptrV nx) 0 = AP.ret (findS (s' w) (kE Value.string ptrV nx) 0))).a ((p' (Wk (foundX (findS (s' w) (kE Value.string ptrV nx) 0) (Value.pointer none)) (AV.v (Value.pointer none)))).a t')).a (((p' (Wk (b' true) (AV.lit true))).a t').a (((p' (FactAt Tryd.prog (AO.any hole) (Fc.load 46 (Addr.mk b 0 none) (Value.map (some nb))))).a ((p' (Wk (AV.v (Value.map (some nb))) (AV.v (Value.map (some nb))))).a t')).a (((p' (findKey Tryd.prog (envW [] (hAN i nb w) [] default F) 9 (s' w) (kE Value.string ptrV nx) 0 = AP.ret (findS (s' w) (kE Value.string ptrV nx) 0))).a ((p' (staysS (s' w) (kE Value.string ptrV nx))).a t')).a (((p' (FactAt Tryd.prog (AO.any hole) (Fc.load 46 (Addr.mk b 0 none) (Value.map (some nb))))).a ((p' (Wk (AV.v (Value.map (some nb))) (AV.v (Value.map (some nb))))).a t')).a (((p' (findKey Tryd.prog (envW [] (hAN i nb w) [] default F) 9 (s' w) (setE (s' w) (AV.ptr 1102 0) (kE Value.string ptrV nx) nc) 0 = AP.ret (findS (s' w) (setE (s' w) (AV.ptr 1102 0) (kE Value.string ptrV nx) nc) 0))).a ((p' (Wk (foundX (findS (s' w) (setE (s' w) (AV.ptr 1102 0) (kE Value.string ptrV nx) nc) 0) (Value.pointer none)) (AV.ptr 1102 0))).a t')).a (((p' (Wk (z' (IntKind.i64.wrap (Int.ofNat i + Int.ofNat 1))) (i' (i + 1)))).a t').a t'))))))))))) := by kernel_rfl
def aT (dest : ByteArray) (b : Nat) : List (Nat × AV) := [(0, .ptr 0 0), (2, sv dest), (7, ptrV b)]
def hTN (G' : AO) (db m : Nat) : ClaimT := hintL [(fAdd, 9, 3, hf (mpV db)), (fAdd, 9, 5, hf (ix 0)), (fAdd, 9, 6, hv (iv 1)), (fAdd, 9, 7, hw G'), (fAdd, 10, 3, hf (mpV db)), (fAdd, 10, 5, hf (ix 1)), (fAdd, 10, 6, hv (.lit false)), (fAdd, 13, 4, hv (iv (Int.ofNat (m + 1))))]
theorem oTN_eq (dest : ByteArray) (root m : Nat) (G G' : List Nd) (b db : Nat) (F : HP) : wLoop [] (hTN (famO G') db m) [] default fAdd adT (tms 0 67 (aT dest b)) (trU root m G) [0, 2] [6] F = VT.leaf (AX.ret,[b' true],67) [some (AO.cells [AV.v (Value.pointer (some (Addr.mk root 0 none))),i' (m + 1)] 90),some (AO.any (famN G'))] 1100 (((p' (FactAt Tryd.prog (AO.any (famN G)) (Fc.load 47 (Addr.mk b 1 none) (Value.map (some db))))).a t').a (((p' (FactAt Tryd.prog (AO.any (famN G)) (Fc.look 47 db (Value.string dest) (Value.int IntKind.i64 (Int.ofNat 0))))).a t').a (((p' (Wk (i' 1) (i' 1))).a t').a (((p' (FactAt Tryd.prog (AO.any (famN G)) (Fc.upd 47 db (Value.string dest) (Value.int IntKind.i64 (Int.ofNat 1)) (AO.any (famN G'))))).a t').a (((p' (FactAt Tryd.prog (AO.any (famN G')) (Fc.load 47 (Addr.mk b 1 none) (Value.map (some db))))).a t').a (((p' (FactAt Tryd.prog (AO.any (famN G')) (Fc.look 47 db (Value.string dest) (Value.int IntKind.i64 (Int.ofNat 1))))).a t').a (((p' (Wk (b' false) (AV.lit false))).a t').a (((p' (true = true)).a ((p' (i' m = i' m)).a t')).a (((p' (Wk (z' (IntKind.i64.wrap (Int.ofNat m + Int.ofNat 1))) (i' (m + 1)))).a t').a (((p' (true = true)).a t').a t')))))))))) := by kernel_rfl
def hTT (G1 G2 : AO) (db : Nat) : ClaimT := hintL [(fAdd, 9, 3, hf (mpV db)), (fAdd, 9, 5, hf (ix 1)), (fAdd, 9, 6, hv (iv 2)), (fAdd, 9, 7, hw G1), (fAdd, 10, 3, hf (mpV db)), (fAdd, 10, 5, hf (ix 2)), (fAdd, 10, 6, hv (.lit true)), (fAdd, 11, 3, hf (mpV db)), (fAdd, 11, 5, hw G2)]
theorem oTT_eq (dest : ByteArray) (root m : Nat) (G G1 G2 : List Nd) (b db : Nat) (F : HP) : wLoop [] (hTT (famO G1) (famO G2) db) [] default fAdd adT (tms 0 67 (aT dest b)) (trU root m G) [0, 2] [6] F = VT.leaf (AX.ret,[b' false],67) [some (AO.cells [AV.v (Value.pointer (some (Addr.mk root 0 none))),i' m] 90),some (AO.any (famN G2))] 1100 (((p' (FactAt Tryd.prog (AO.any (famN G)) (Fc.load 47 (Addr.mk b 1 none) (Value.map (some db))))).a t').a (((p' (FactAt Tryd.prog (AO.any (famN G)) (Fc.look 47 db (Value.string dest) (Value.int IntKind.i64 (Int.ofNat 1))))).a t').a (((p' (Wk (i' 2) (i' 2))).a t').a (((p' (FactAt Tryd.prog (AO.any (famN G)) (Fc.upd 47 db (Value.string dest) (Value.int IntKind.i64 (Int.ofNat 2)) (AO.any (famN G1))))).a t').a (((p' (FactAt Tryd.prog (AO.any (famN G1)) (Fc.load 47 (Addr.mk b 1 none) (Value.map (some db))))).a t').a (((p' (FactAt Tryd.prog (AO.any (famN G1)) (Fc.look 47 db (Value.string dest) (Value.int IntKind.i64 (Int.ofNat 2))))).a t').a (((p' (Wk (b' true) (AV.lit true))).a t').a (((p' (FactAt Tryd.prog (AO.any (famN G1)) (Fc.load 47 (Addr.mk b 1 none) (Value.map (some db))))).a t').a (((p' (FactAt Tryd.prog (AO.any (famN G1)) (Fc.upd 47 db (Value.string dest) (Value.int IntKind.i64 (Int.ofNat 1)) (AO.any (famN G2))))).a t').a t'))))))))) := by kernel_rfl
end
end Go.Proofs.YtbmoancedlbhlaaDoor.Tpc

/- Topic: Add: its loop. -/
set_option linter.unusedVariables false
set_option linter.unusedSimpArgs false
set_option maxRecDepth 100000
namespace Go.Proofs.YtbmoancedlbhlaaDoor.Tpc
open Go Go.RowKit Go.Proofs.YtbmoancedlbhlaaDoor.Eng Go.Proofs.YtbmoancedlbhlaaDoor.Kit
theorem find_oA (root m : Nat) (ws : List ByteArray) (G : List Nd) (i : Nat) : (heapOf (oA root m ws G)).find i = getO (oA root m ws G) i := find_heapOf rfl i
theorem open_hole {root m : Nat} {ws : List ByteArray} {G R : List Nd} {c : Nd} (hp : G.Perm (c :: R)) {vs : List AV} : Goes vs (oA root m ws G) vs (oN root m ws (.any (holeHP c R)) c.nx c.nc c.nb) := by
  intro W0 F N ys w ⟨N1, g1, g2, r, hv⟩
  obtain ⟨D0, D, h1, h2, h3⟩ := r.sat
  have hf := find_oA root m ws G
  have hf' : ∀ i, (heapOf (oN root m ws (.any (holeHP c R)) c.nx c.nc c.nb)).find i = getO (oN root m ws (.any (holeHP c R)) c.nx c.nc c.nb) i := find_heapOf rfl
  have e0 := h2 0 _ ((hf 0).trans rfl)
  have e2 := h2 2 _ ((hf 2).trans rfl)
  have e3 := h2 1000 _ ((hf 1000).trans rfl)
  have hN : N1 1001 = none := g2 1001 (by decide) rfl
  have hle : N1.le (N1.put 1001 ⟨c.nb, 0, 0⟩) := Names.put_le hN
  have hfam : famOn (c :: R) (D 2) w := famN_perm hp e2.1
  obtain ⟨a1, a2, a3⟩ := hfam
  obtain ⟨⟨arr, b1, b2, b3⟩, ⟨es, b4, b5⟩, ⟨es2, b6, b7⟩⟩ := a3 c List.mem_cons_self
  have hnd := a2
  simp only [blocks, List.flatMap_cons, List.cons_append, List.nil_append, List.nodup_cons, List.mem_cons, not_or] at hnd
  obtain ⟨⟨n1, n2, n3⟩, ⟨n4, n5⟩, n6, n7⟩ := hnd
  have hcase : ∀ i o, getO (oN root m ws (.any (holeHP c R)) c.nx c.nc c.nb) i = some o → (i = 0 ∧ o = trC root m) ∨ (i = 2 ∧ o = .any (holeHP c R)) ∨ (i = 1000 ∧ o = rS ws) ∨ (i = 1001 ∧ o = nxO c.nx c.nc) ∨ (i = 1002 ∧ o = .same 1001 c.nb) := fun i o hi => by
    simp only [oN, getO] at hi
    split at hi
    · rename_i e; cases hi; exact .inl ⟨e, rfl⟩
    · split at hi
      · rename_i e; cases hi; exact .inr (.inl ⟨e, rfl⟩)
      · split at hi
        · rename_i e; cases hi; exact .inr (.inr (.inl ⟨e, rfl⟩))
        · split at hi
          · rename_i e; cases hi; exact .inr (.inr (.inr (.inl ⟨e, rfl⟩)))
          · split at hi
            · rename_i e; cases hi; exact .inr (.inr (.inr (.inr ⟨e, rfl⟩)))
            · cases hi
  have D2 : ∀ x, D 2 x ↔ x = c.b ∨ x = c.nb ∨ x = c.db ∨ x ∈ blocks R := fun x => by
    rw [a1 x]; simp only [blocks, List.flatMap_cons, List.cons_append, List.nil_append, List.mem_cons]
  have d02 := h3 0 2 _ _ ((hf 0).trans rfl) ((hf 2).trans rfl) (by decide)
  have d03 := h3 0 1000 _ _ ((hf 0).trans rfl) ((hf 1000).trans rfl) (by decide)
  have d23 := h3 2 1000 _ _ ((hf 2).trans rfl) ((hf 1000).trans rfl) (by decide)
  let E : Nat → Nat → Prop := fun i x => if i = 2 then x = c.b ∨ x = c.db ∨ x ∈ blocks R else if i = 1001 then x = c.nb else if i = 1002 then False else D i x
  have E0 : E 0 = D 0 := rfl
  have E3 : E 1000 = D 1000 := rfl
  have E2 : ∀ x, E 2 x ↔ x = c.b ∨ x = c.db ∨ x ∈ blocks R := fun x => Iff.rfl
  have E4 : ∀ x, E 1001 x ↔ x = c.nb := fun x => Iff.rfl
  have E5 : ∀ x, ¬ E 1002 x := fun x h => h
  have in2 : ∀ x, E 2 x → D 2 x := fun x hx => (D2 x).2 (by rcases (E2 x).1 hx with h | h | h <;> simp [h])
  have in4 : ∀ x, E 1001 x → D 2 x := fun x hx => (D2 x).2 (by simp [(E4 x).1 hx])
  have d24 : ∀ x, E 2 x → ¬ E 1001 x := fun x hx hy => by
    have hy := (E4 x).1 hy
    subst hy
    rcases (E2 _).1 hx with h | h | h
    · exact n1 h.symm
    · exact n4 h
    · exact n5 h
  refine ⟨N1.put 1001 ⟨c.nb, 0, 0⟩, fun i hi => by rw [Names.put_ne (by omega)]; exact g1 i hi, fun i hi hg => ?_, ⟨r.os, r.tape, r.output, D0, E, h1, fun i o hi => ?_, fun i j o o' hi hj hij => ?_⟩, hv.mono hle⟩
  · have h1001 : i ≠ 1001 := fun e => by subst e; cases hg
    rw [Names.put_ne h1001]
    refine g2 i hi ?_
    simp only [oN, oA, getO] at hg ⊢
    split at hg
    · cases hg
    · rename_i q0
      rw [if_neg q0]
      split at hg
      · cases hg
      · rename_i q1
        rw [if_neg q1]
        split at hg
        · cases hg
        · rename_i q2
          rw [if_neg q2]
  · rcases hcase i o ((hf' i).symm.trans hi) with ⟨rfl, rfl⟩ | ⟨rfl, rfl⟩ | ⟨rfl, rfl⟩ | ⟨rfl, rfl⟩ | ⟨rfl, rfl⟩
    · exact ⟨e0.1.mono hle, e0.2⟩
    · exact ⟨(show holeOn c R (E 2) w from ⟨E2, a2, ⟨arr, b1, b2, b3⟩, ⟨es2, b6, b7⟩, fun s hs => a3 s (List.mem_cons_of_mem _ hs)⟩), fun x hx => e2.2 x (in2 x hx)⟩
    · exact ⟨e3.1.mono hle, e3.2⟩
    · refine ⟨⟨⟨c.nb, 0, 0⟩, es, Names.put_same, E4, b4, ?_, rfl⟩, fun x hx => e2.2 x (in4 x hx)⟩
      rw [b5]; exact ers_nx _ _
    · exact ⟨⟨E5, 0, Names.put_same⟩, fun x hx => (E5 x hx).elim⟩
  · have key : ∀ i o, getO (oN root m ws (.any (holeHP c R)) c.nx c.nc c.nb) i = some o → i = 0 ∨ i = 2 ∨ i = 1000 ∨ i = 1001 ∨ i = 1002 := fun i o hi => by
      rcases hcase i o hi with ⟨h, _⟩ | ⟨h, _⟩ | ⟨h, _⟩ | ⟨h, _⟩ | ⟨h, _⟩ <;> simp [h]
    rcases key i o ((hf' i).symm.trans hi) with rfl | rfl | rfl | rfl | rfl <;> rcases key j o' ((hf' j).symm.trans hj) with rfl | rfl | rfl | rfl | rfl
    all_goals first
      | exact absurd rfl hij
      | exact fun x hx => (E5 x hx).elim
      | exact fun x _ hx => (E5 x hx).elim
      | exact fun x hx hy => d02 x hx (in2 x hy)
      | exact fun x hx hy => d02 x hy (in2 x hx)
      | exact fun x hx hy => d02 x hx (in4 x hy)
      | exact fun x hx hy => d02 x hy (in4 x hx)
      | exact fun x hx hy => d03 x hx hy
      | exact fun x hx hy => d03 x hy hx
      | exact fun x hx hy => d23 x (in2 x hx) hy
      | exact fun x hx hy => d23 x (in2 x hy) hx
      | exact fun x hx hy => d23 x (in4 x hx) hy
      | exact fun x hx hy => d23 x (in4 x hy) hx
      | exact d24
      | exact fun x hx hy => d24 x hy hx
end Go.Proofs.YtbmoancedlbhlaaDoor.Tpc

/- Topic: Add: a new node is one of the nodes. -/
set_option linter.unusedVariables false
set_option linter.unusedSimpArgs false
set_option maxRecDepth 100000
namespace Go.Proofs.YtbmoancedlbhlaaDoor.Tpc
open Go Go.RowKit Go.Proofs.YtbmoancedlbhlaaDoor.Eng Go.Proofs.YtbmoancedlbhlaaDoor.Kit
def esN (c : Nd) (w : ByteArray) : List (AV × AV × Nat) := kE Value.string ptrV c.nx ++ [(.v (.string w), .ptr 1005 0, c.nc)]
noncomputable def oB (root m : Nat) (ws : List ByteArray) (c : Nd) (R : List Nd) (w : ByteArray) : LH := [(0, trC root m), (2, .any (holeHP c R)), (1000, rS ws), (1001, .map (esN c w) (c.nc + 1)), (1002, .same 1001 c.nb), (1003, .map [] 0), (1004, .map [] 0), (1005, .cells [.map 1003, .map 1004] (2 * tNode))]
def aB (dest : ByteArray) (n i : Nat) : List (Nat × AV) := [(0, .ptr 0 0), (2, sv dest), (7, .ptr 1005 0), (15, splV 1000 n), (16, iv (Int.ofNat n)), (17, iv (Int.ofNat i))]
theorem find_aA {dest : ByteArray} {b n i j : Nat} {x : AV} (h : (aA dest b n i).find? (fun x => Nat.beq x.1 j) = some (j, x)) : (j = 0 ∧ x = .ptr 0 0) ∨ (j = 2 ∧ x = sv dest) ∨ (j = 7 ∧ x = ptrV b) ∨ (j = 15 ∧ x = splV 1000 n) ∨ (j = 16 ∧ x = iv (Int.ofNat n)) ∨ (j = 17 ∧ x = iv (Int.ofNat i)) := by
  have := List.mem_of_find?_eq_some h
  simp only [aA, List.mem_cons, Prod.mk.injEq, List.not_mem_nil, or_false] at this
  exact this
theorem absorb {root m : Nat} {ws : List ByteArray} {dest : ByteArray} {n i : Nat} {c : Nd} {R : List Nd} {w : ByteArray} (hk : klook w c.nx = none) {W0 : World} {F : HP} {N : Names} {ys : List Value} {w' : World}
    (h : St W0 F N (oB root m ws c R w) (tms 0 67 (aB dest n i)) ys w') : ∃ b nb db, (blocks (nd0 (c.p ++ [w]) b nb db :: setNx c w b :: R)).Nodup ∧ St W0 F N (oA root m ws (nd0 (c.p ++ [w]) b nb db :: setNx c w b :: R)) (tms 0 67 (aA dest b n i)) ys w' := by
  obtain ⟨N1, g1, g2, r, hv⟩ := h
  obtain ⟨D0, D, h1, h2, h3⟩ := r.sat
  have hf : ∀ k, (heapOf (oB root m ws c R w)).find k = getO (oB root m ws c R w) k := find_heapOf rfl
  have e0 := h2 0 _ ((hf 0).trans rfl)
  have e2 := h2 2 _ ((hf 2).trans rfl)
  have e3 := h2 1000 _ ((hf 1000).trans rfl)
  have e4 := h2 1001 _ ((hf 1001).trans rfl)
  have e5 := h2 1002 _ ((hf 1002).trans rfl)
  have e6 := h2 1003 _ ((hf 1003).trans rfl)
  have e7 := h2 1004 _ ((hf 1004).trans rfl)
  have e8 := h2 1005 _ ((hf 1005).trans rfl)
  obtain ⟨⟨l4, es4, m1, m2, m3, m4, m5⟩, _⟩ := e4
  obtain ⟨⟨_, rr, m6⟩, _⟩ := e5
  obtain ⟨⟨l6, es6, p1, p2, p3, p4, p5⟩, _⟩ := e6
  obtain ⟨⟨l7, es7, q1, q2, q3, q4, q5⟩, _⟩ := e7
  obtain ⟨⟨l8, arr8, fz8, t1, t2, t3, t4, t5, t6, t7, t8⟩, _⟩ := e8
  obtain ⟨t8, t9⟩ := t8 (Nat.mul_mod_right _ _)
  rw [Nat.mul_div_cancel_left _ (by decide : 0 < 2), t9] at t3
  obtain rfl : l4 = ⟨c.nb, 0, rr⟩ := Option.some.inj (m1.symm.trans m6)
  obtain ⟨s1, s2, s3, s4, s5⟩ := (show holeOn c R (D 2) w' from e2.1)
  have hx6 : es6.toList = ents pk [] := p4
  have hx7 : es7.toList = ents ix [] := q4
  have harr : arr8[0]? = some (mpV l6.blk) ∧ arr8[1]? = some (mpV l7.blk) := by
    rw [t8, List.drop_zero] at t7
    simp only [VRs, VR, List.length_cons, List.length_nil] at t7
    obtain ⟨y1, r1, ⟨_, z1, rfl⟩, ⟨y2, r2, ⟨_, z2, rfl⟩, rfl, rfl⟩, hk⟩ := t7
    have z1 := Option.some.inj (z1.symm.trans p1)
    have z2 := Option.some.inj (z2.symm.trans q1)
    subst z1 z2
    have i0 := congrArg (fun z : List Value => z[0]?) hk
    have i1 := congrArg (fun z : List Value => z[1]?) hk
    refine ⟨?_, ?_⟩
    · simpa [List.getElem?_take, mpV] using i0
    · simpa [List.getElem?_take, mpV] using i1
  have hes4 : es4.toList = ents pk (c.nx ++ [(w, l8.blk, c.nc)]) := by
    obtain ⟨x1, x2, y1, y2, y3⟩ := ers_app _ _ _ m4
    rw [y1, ers_inv _ _ _ y2]
    obtain ⟨a, r', ⟨z1, z2, z3⟩, z4, z5⟩ := y3
    have z4 : r' = [] := z4
    subst z4
    rw [z5]
    have z1 := VR_v.1 z1
    simp only [VR] at z2
    obtain ⟨lz, z2, z6⟩ := z2
    obtain rfl : l8 = lz := Option.some.inj (t1.symm.trans z2)
    rw [t8] at z6
    cases a
    simp only at z1 z6 z3
    subst z1 z6 z3
    simp [ents, pk]
  -- apart
  have hd : ∀ a b : Nat, ∀ oa ob, getO (oB root m ws c R w) a = some oa → getO (oB root m ws c R w) b = some ob → a ≠ b → ∀ x, D a x → ¬ D b x := fun a b oa ob ha hb => h3 a b oa ob ((hf a).trans ha) ((hf b).trans hb)
  have c4 : D 1001 c.nb := (m2 _).2 rfl
  have c6 : D 1003 l6.blk := (p2 _).2 rfl
  have c7 : D 1004 l7.blk := (q2 _).2 rfl
  have c8 : D 1005 l8.blk := (t2 _).2 rfl
  have ne : ∀ a b : Nat, ∀ oa ob, getO (oB root m ws c R w) a = some oa → getO (oB root m ws c R w) b = some ob → a ≠ b → ∀ x y, D a x → D b y → x ≠ y := fun a b oa ob ha hb hab x y hx hy e => hd a b oa ob ha hb hab x hx (e ▸ hy)
  have in2 : ∀ x, x = c.b ∨ x = c.db ∨ x ∈ blocks R → D 2 x := fun x hx => (s1 x).2 hx
  obtain ⟨k1, k2⟩ := kset_none (c := c.nc) (x := l8.blk) hk
  have hnd : (blocks (nd0 (c.p ++ [w]) l8.blk l6.blk l7.blk :: setNx c w l8.blk :: R)).Nodup := by
    simp only [blocks, List.flatMap_cons, nd0, setNx, List.cons_append, List.nil_append]
    have hb0 : ∀ x, x ∈ c.b :: c.nb :: c.db :: blocks R → D 2 x ∨ D 1001 x := fun x hx => by
      simp only [List.mem_cons] at hx
      rcases hx with rfl | rfl | rfl | hx
      · exact .inl (in2 _ (.inl rfl))
      · exact .inr c4
      · exact .inl (in2 _ (.inr (.inl rfl)))
      · exact .inl (in2 _ (.inr (.inr hx)))
    have hout : ∀ a oa y, getO (oB root m ws c R w) a = some oa → a ≠ 2 → a ≠ 1001 → D a y → y ∉ c.b :: c.nb :: c.db :: blocks R := fun a oa y ha h2' h4' hy hm => by
      rcases hb0 y hm with hx | hx
      · exact ne a 2 _ _ ha rfl h2' y y hy hx rfl
      · exact ne a 1001 _ _ ha rfl h4' y y hy hx rfl
    rw [List.nodup_cons, List.nodup_cons, List.nodup_cons]
    refine ⟨fun hm => ?_, fun hm => ?_, hout 1004 _ _ rfl (by decide) (by decide) c7, ?_⟩
    · rcases List.mem_cons.1 hm with e | hm
      · exact ne 1005 1003 _ _ rfl rfl (by decide) _ _ c8 c6 e
      · rcases List.mem_cons.1 hm with e | hm
        · exact ne 1005 1004 _ _ rfl rfl (by decide) _ _ c8 c7 e
        · exact hout 1005 _ _ rfl (by decide) (by decide) c8 hm
    · rcases List.mem_cons.1 hm with e | hm
      · exact ne 1003 1004 _ _ rfl rfl (by decide) _ _ c6 c7 e
      · exact hout 1003 _ _ rfl (by decide) (by decide) c6 hm
    · have := s2
      simp only [blocks, List.flatMap_cons, List.cons_append, List.nil_append] at this
      exact this
  let E : Nat → Nat → Prop := fun k x => if k = 2 then D 2 x ∨ D 1001 x ∨ D 1003 x ∨ D 1004 x ∨ D 1005 x else D k x
  let K : Nat → Bool := fun k => Nat.blt k 1001
  have hK : ∀ k, k < 1001 → K k = true := fun k hk => by simp only [K, Nat.blt_eq]; exact hk
  refine ⟨l8.blk, l6.blk, l7.blk, hnd, fun k => if K k = true then N1 k else none, fun k hk => ?_, fun k hk hg => ?_, ⟨r.os, r.tape, r.output, D0, E, h1, fun k o hi => ?_, fun i j o o' hi hj hij => ?_⟩, vrs_tms (fun j x' hj => ?_) hv⟩
  · show (if K k = true then N1 k else none) = _
    rw [if_pos (hK k (by omega))]; exact g1 k hk
  · refine if_neg fun hh => ?_
    simp only [K, Nat.blt_eq] at hh
    have : k = 1000 := by omega
    subst this
    cases hg
  · have hf2 := find_oA root m ws (nd0 (c.p ++ [w]) l8.blk l6.blk l7.blk :: setNx c w l8.blk :: R) k
    rw [hf2] at hi
    simp only [oA, getO] at hi
    split at hi
    · rename_i e
      subst e; cases hi
      exact ⟨e0.1.congr (K := K) (fun k hk => if_pos hk) (hK 0 (by decide)) (trC_cl _ _ _), e0.2⟩
    · split at hi
      · rename_i e
        subst e; cases hi
        refine ⟨(show famOn _ (E 2) w' from ⟨fun x => ?_, hnd, fun s hs => ?_⟩), fun x hx => ?_⟩
        · show (D 2 x ∨ D 1001 x ∨ D 1003 x ∨ D 1004 x ∨ D 1005 x) ↔ _
          rw [s1, m2, p2, q2, t2]
          simp only [blocks, List.flatMap_cons, nd0, setNx, List.cons_append, List.nil_append, List.mem_cons]
          constructor
          · rintro ((h | h | h) | h | h | h | h) <;> simp [h]
          · rintro (h | h | h | h | h | h | h) <;> simp [h]
        · rcases List.mem_cons.1 hs with rfl | hs
          · exact ⟨⟨arr8, t3, harr.1, harr.2⟩, ⟨es6, p3, hx6⟩, ⟨es7, q3, hx7⟩⟩
          · rcases List.mem_cons.1 hs with rfl | hs
            · refine ⟨s3, ⟨es4, ?_, ?_⟩, s4⟩
              · show w'.heap[c.nb]? = some (.map es4 (kbump c.nx c.nc w))
                rw [k2]; exact m3
              · show es4.toList = ents pk (kset c.nx c.nc w l8.blk)
                rw [k1]; exact hes4
            · exact s5 s hs
        · rcases hx with hx | hx | hx | hx | hx
          · exact e2.2 x hx
          · exact (h2 1001 _ ((hf 1001).trans rfl)).2 x hx
          · exact (h2 1003 _ ((hf 1003).trans rfl)).2 x hx
          · exact (h2 1004 _ ((hf 1004).trans rfl)).2 x hx
          · exact (h2 1005 _ ((hf 1005).trans rfl)).2 x hx
      · split at hi
        · rename_i e
          subst e; cases hi
          exact ⟨e3.1.congr (K := K) (fun k hk => if_pos hk) (hK 1000 (by decide)) (rS_cl _ _), e3.2⟩
        · cases hi
  · have hcase : ∀ k o, getO (oA root m ws (nd0 (c.p ++ [w]) l8.blk l6.blk l7.blk :: setNx c w l8.blk :: R)) k = some o → k = 0 ∨ k = 2 ∨ k = 1000 := fun k o hk => by
      simp only [oA, getO] at hk
      split at hk
      · rename_i e; exact .inl e
      · split at hk
        · rename_i e; exact .inr (.inl e)
        · split at hk
          · rename_i e; exact .inr (.inr e)
          · cases hk
    have hin : ∀ a oa, getO (oB root m ws c R w) a = some oa → a = 0 ∨ a = 1000 → ∀ x, D a x → ¬ E 2 x := fun a oa ha ha2 x hx hy => by
      rcases hy with hy | hy | hy | hy | hy
      · exact hd a 2 _ _ ha rfl (by omega) x hx hy
      · exact hd a 1001 _ _ ha rfl (by omega) x hx hy
      · exact hd a 1003 _ _ ha rfl (by omega) x hx hy
      · exact hd a 1004 _ _ ha rfl (by omega) x hx hy
      · exact hd a 1005 _ _ ha rfl (by omega) x hx hy
    rcases hcase i o ((find_oA _ _ _ _ i).symm.trans hi) with rfl | rfl | rfl <;> rcases hcase j o' ((find_oA _ _ _ _ j).symm.trans hj) with rfl | rfl | rfl
    · exact absurd rfl hij
    · exact hin 0 _ rfl (.inl rfl)
    · exact hd 0 1000 _ _ rfl rfl (by decide)
    · exact fun x hx hy => hin 0 _ rfl (.inl rfl) x hy hx
    · exact absurd rfl hij
    · exact fun x hx hy => hin 1000 _ rfl (.inr rfl) x hy hx
    · exact hd 1000 0 _ _ rfl rfl (by decide)
    · exact hin 1000 _ rfl (.inr rfl)
    · exact absurd rfl hij
  · have keepK : ∀ k, K k = true → (fun k => if K k = true then N1 k else none) k = N1 k := fun k hk => if_pos hk
    rcases find_aA hj with ⟨rfl, rfl⟩ | ⟨rfl, rfl⟩ | ⟨rfl, rfl⟩ | ⟨rfl, rfl⟩ | ⟨rfl, rfl⟩ | ⟨rfl, rfl⟩
    · exact ⟨_, rfl, fun y hy => hy.congr (K := K) keepK (hK 0 (by decide))⟩
    · exact ⟨_, rfl, fun y hy => hy⟩
    · refine ⟨.ptr 1005 0, rfl, fun y hy => ?_⟩
      simp only [VR] at hy
      obtain ⟨l, hl, rfl⟩ := hy
      obtain rfl : l8 = l := Option.some.inj (t1.symm.trans hl)
      rw [t8]
      exact VR_v.2 rfl
    · exact ⟨_, rfl, fun y hy => hy.congr (K := K) keepK (hK 1000 (by decide))⟩
    · exact ⟨_, rfl, fun y hy => hy⟩
    · exact ⟨_, rfl, fun y hy => hy⟩
end Go.Proofs.YtbmoancedlbhlaaDoor.Tpc

/- Topic: Add: its loop; whole. -/
set_option linter.unusedVariables false
set_option linter.unusedSimpArgs false
set_option maxRecDepth 100000
namespace Go.Proofs.YtbmoancedlbhlaaDoor.Tpc
open Go Go.RowKit Go.Proofs.YtbmoancedlbhlaaDoor.Eng Go.Proofs.YtbmoancedlbhlaaDoor.Kit
def mN (c : Nd) (w : ByteArray) (x : AV) : KMap ByteArray AV := c.nx.map (fun e => (e.1, ptrV e.2.1, e.2.2)) ++ [(w, x, c.nc)]
theorem kE_id (m : KMap ByteArray Nat) : kE Value.string ptrV m = kE Value.string id (m.map fun e => (e.1, ptrV e.2.1, e.2.2)) := by simp [kE]
theorem klook_map (w : ByteArray) : ∀ m : KMap ByteArray Nat, klook w (m.map fun e => (e.1, ptrV e.2.1, e.2.2)) = (klook w m).map ptrV
  | [] => rfl
  | e :: m => by
    rw [List.map_cons, klook, klook]
    split
    · rfl
    · exact klook_map w m
theorem findS_none {c : Nd} {w : ByteArray} (hk : klook w c.nx = none) : findS (AV.v (Value.string w)) (kE Value.string ptrV c.nx) 0 = none := by
  have h1 := findS_kE (ev := ptrV) kok_str w c.nx 0
  have h2 := kfind_look w c.nx 0
  rw [hk] at h2
  cases hq : kfind w c.nx 0 with
  | none => rw [hq] at h1; exact h1
  | some p => rw [hq] at h2; cases h2
theorem setE_new {c : Nd} {w : ByteArray} (hk : klook w c.nx = none) (x : AV) : setE (AV.v (Value.string w)) x (kE Value.string ptrV c.nx) c.nc = kE Value.string ptrV c.nx ++ [(AV.v (Value.string w), x, c.nc)] ∧ bumpE (AV.v (Value.string w)) (kE Value.string ptrV c.nx) c.nc = c.nc + 1 := by
  unfold setE bumpE
  rw [findS_none hk]
  exact ⟨rfl, rfl⟩
theorem mN_eq (c : Nd) (w : ByteArray) (x : AV) : kE Value.string ptrV c.nx ++ [(AV.v (Value.string w), x, c.nc)] = kE Value.string id (mN c w x) := by
  rw [kE_id]
  simp [kE, mN]
theorem found_new {c : Nd} {w : ByteArray} (hk : klook w c.nx = none) (x : AV) : foundX (findS (AV.v (Value.string w)) (kE Value.string id (mN c w x)) 0) (Value.pointer none) = x := by
  rw [found_kE kok_str, mN, klook_append_new (by rw [klook_map, hk]; rfl), if_pos rfl]
  rfl
theorem renE_app (σ : Nat → Nat) : ∀ (l l2 : List (AV × AV × Nat)), renE σ (l ++ l2) = renE σ l ++ renE σ l2
  | [], l2 => rfl
  | x :: l, l2 => by show _ :: renE σ (l ++ l2) = _; rw [renE_app σ l l2]; rfl
theorem renE_nx (σ : Nat → Nat) (m : KMap ByteArray Nat) : renE σ (kE Value.string ptrV m) = kE Value.string ptrV m := renE_kE σ Value.string ptrV (fun _ => rfl) m
section
variable (L : Pairs) (g root m : Nat) (ws : List ByteArray) (dest : ByteArray)
structure AI (i : Nat) (s : TrS) (c : Nd) : Prop where
  le : i ≤ ws.length
  inv : TrInv L (g + i) s
  mem : c ∈ s.G
  path : c.p = ws.take i
  rt : s.root = root
abbrev AS := {q : Nat × TrS × Nd // AI L g root ws q.1 q.2.1 q.2.2}
abbrev AR := {q : TrS × Nd // AI L g root ws ws.length q.1 q.2}
theorem a_loop (hn : ws.length ≤ 4611686018427387904) (s : AS L g root ws) :
    CTri Tryd.prog default (.loop (loopN fAdd 3)) (tms 0 67 (aA dest s.1.2.2.b ws.length s.1.1)) (oA root m ws (s.1.2.1.G ++ s.1.2.1.X)) (fun _ : AR L g root ws => .exit 0) (fun q => tms 0 67 (aT dest q.1.2.b)) (fun q => trU root m (q.1.1.G ++ q.1.1.X)) := by
  refine ct_loop (W := default) (g := fAdd) (σ := AS L g root ws) (ρ := AR L g root ws) 67 (fun s => aA dest s.1.2.2.b ws.length s.1.1) (fun s => oA root m ws (s.1.2.1.G ++ s.1.2.1.X)) (fun _ => .exit 0) (fun q => aT dest q.1.2.b) (fun q => trU root m (q.1.1.G ++ q.1.1.X)) (fun _ => by intro h; cases h) (fun s => ws.length - s.1.1) [0, 2, 1000, 1001, 1002, 1100, 1101, 1102] [0, 2, 7, 15, 16, 17] (fun _ => rfl) ?_ s
  rintro ⟨⟨i, ⟨rt, G, X⟩, c⟩, hle, hinv, hmem, hpath, hrt⟩
  simp only at hle hinv hmem hpath hrt ⊢
  subst hrt
  have hs : Shp G X (g + i) rt := hinv.shp
  by_cases h1 : i < ws.length
  · have g0 := rS_get ws i h1
    have g1 := rS_lt ws i h1
    have e1 : decide (Int.ofNat i < Int.ofNat ws.length) = true := ltT h1
    have hw := wrap_succ i (by omega)
    have htk := take_next ws nil0 i h1
    generalize ws.getD i nil0 = w at g0 htk
    cases hk : klook w c.nx with
    | some y =>
      obtain ⟨t, ht, hp, hb⟩ := hs.nx c hmem w y hk
      have f1 := fc_nx (List.mem_append_left X hmem)
      have f2 := look_nx_some (List.mem_append_left X hmem) hk
      refine ⟨[], hAT i c.nb w y, [], _, rfl, Goes.refl _ _, fun _ _ => noC, fun _ _ => noL, fun F => ?_⟩
      refine cast (congrArg (VAll _) (oAT_eq dest rt m ws (G ++ X) w c.b c.nb ws.length i y F).symm) ⟨⟨?_, rfl, aA dest y ws.length (i + 1), oA rt m ws (G ++ X), [(1000, 1000)], rfl, ⟨rfl, rfl, ⟨Wk.refl _, Wk.refl _, Wk.refl _, Wk.refl _, Wk.refl _, Wk.refl _, trivial⟩, ⟨_, rfl, OW.refl _⟩, ⟨_, rfl, OW.refl _⟩, ⟨_, rfl, rS_ow rfl rfl⟩, trivial⟩, fun W0 F N ys w' hst => .inl ⟨rfl, ⟨⟨i + 1, ⟨rt, G, X⟩, t⟩, h1, hinv.mono (by omega), ht, by rw [hp, hpath, htk], rfl⟩, sub_down h1, ?_⟩⟩⟩
      · simp only [Cnd.holds, g0, g1, e1, h1, AV.strOf, sv, Nat.blt_eq, true_and, and_true]
        and_intros
        all_goals first
          | (with_reducible exact wk_int hw)
          | exact f1
          | exact f2 | (with_reducible first | exact trivial | exact rfl | exact Wk.refl _ | exact VW.refl _ | exact OW.refl _ | exact wk_lit _ | assumption) | exact rfl | exact Wk.refl _ | exact VW.refl _ | exact OW.refl _ | ((repeat (first | exact VW.nil | refine VW.cons (Wk.refl _) ?_ | refine VW.cons (Wk.any _) ?_ | refine VW.cons (wk_cap (Nat.le_refl _)) ?_)); done)
      · simp only [hb]; exact hst
    | none =>
      obtain ⟨l1, l2, rfl⟩ := List.append_of_mem hmem
      have hperm : (l1 ++ c :: l2).Perm (c :: (l1 ++ l2)) := List.perm_middle
      have hperm2 : ((l1 ++ c :: l2) ++ X).Perm (c :: ((l1 ++ l2) ++ X)) := hperm.append_right X
      obtain ⟨s1, s2⟩ := setE_new hk (.ptr 1102 0)
      have f1 := fc_hole c ((l1 ++ l2) ++ X)
      have f2 : ∀ E : Env, findKey Tryd.prog E 9 (.v (.string w)) (kE Value.string ptrV c.nx) 0 = AP.ret (findS (AV.v (Value.string w)) (kE Value.string ptrV c.nx) 0) := fun E => findKey_kE kok_str kty_str w c.nx 0
      have f3 := staysS_kE (ev := ptrV) kok_str w c.nx
      have f4 : ∀ E : Env, findKey Tryd.prog E 9 (.v (.string w)) (kE Value.string id (mN c w (.ptr 1102 0))) 0 = AP.ret (findS (AV.v (Value.string w)) (kE Value.string id (mN c w (.ptr 1102 0))) 0) := fun E => findKey_kE kok_str kty_str w _ 0
      have f5 := found_new hk (.ptr 1102 0)
      have f6 := findS_none hk
      refine ⟨[], hAN i c.nb w, [], oN rt m ws (.any (holeHP c ((l1 ++ l2) ++ X))) c.nx c.nc c.nb, rfl, open_hole hperm2, fun _ _ => noC, fun _ _ => noL, fun F => ?_⟩
      have hv := oAN_eq dest rt m ws (holeHP c ((l1 ++ l2) ++ X)) c.nx c.nc w c.b c.nb ws.length i F
      rw [s1, s2, mN_eq] at hv
      refine cast (congrArg (VAll _) hv.symm) ⟨⟨?_, rfl, aB dest ws.length (i + 1), oB rt m ws c ((l1 ++ l2) ++ X) w, [(1000, 1000), (1001, 1001), (1002, 1002), (1003, 1100), (1004, 1101), (1005, 1102)], rfl, ⟨by kernel_rfl, by kernel_rfl, ⟨Wk.refl _, Wk.refl _, Wk.refl _, Wk.refl _, Wk.refl _, Wk.refl _, trivial⟩, ⟨_, rfl, OW.refl _⟩, ⟨_, rfl, OW.refl _⟩, ⟨_, rfl, rS_ow rfl rfl⟩, ⟨_, rfl, ?_⟩, ⟨_, rfl, OW.refl _⟩, ⟨_, rfl, OW.refl _⟩, ⟨_, rfl, OW.refl _⟩, ⟨_, rfl, OW.refl _⟩, trivial⟩, fun W0 F N ys w' hst => ?_⟩⟩
      · have f7 : Wk (foundX (findS (AV.v (Value.string w)) (kE Value.string ptrV c.nx) 0) (Value.pointer none)) (.v (.pointer none)) := by rw [f6]; exact Wk.refl _
        have f8 := Wk.of_eq f5
        simp only [Cnd.holds, g0, g1, e1, h1, AV.strOf, sv, Nat.blt_eq, true_and, and_true]
        and_intros
        all_goals first
          | (with_reducible exact wk_int hw)
          | exact f1
          | exact f2 _
          | exact f3
          | exact f4 _
          | exact f7
          | exact f8 | (with_reducible first | exact trivial | exact rfl | exact Wk.refl _ | exact VW.refl _ | exact OW.refl _ | exact wk_lit _ | assumption) | exact rfl | exact Wk.refl _ | exact VW.refl _ | exact OW.refl _ | ((repeat (first | exact VW.nil | refine VW.cons (Wk.refl _) ?_ | refine VW.cons (Wk.any _) ?_ | refine VW.cons (wk_cap (Nat.le_refl _)) ?_)); done)
      · rw [← mN_eq]
        show OW _ (.map (renE _ (esN c w)) (c.nc + 1))
        unfold esN
        rw [renE_app, renE_nx]
        exact OW.refl _
      · obtain ⟨b, nb, db, hnd, hst⟩ := absorb hk hst
        refine .inl ⟨rfl, ⟨⟨i + 1, ⟨rt, nd0 (c.p ++ [w]) b nb db :: setNx c w b :: (l1 ++ l2), X⟩, nd0 (c.p ++ [w]) b nb db⟩, h1, ?_, List.mem_cons_self, by show c.p ++ [w] = _; rw [hpath, htk], rfl⟩, sub_down h1, hst⟩
        exact TrInv.node hinv hmem hk hperm hnd
  · have hie : i = ws.length := by omega
    subst hie
    refine ⟨[], hintL [(fAdd, 3, 0, hv (.lit false))], [], _, rfl, Goes.refl _ _, fun _ _ => noC, fun _ _ => noL, fun F => ?_⟩
    refine cast (congrArg (VAll _) (oAE_eq dest rt m ws (G ++ X) c.b ws.length F).symm) ⟨⟨?_, rfl, aT dest c.b, trU rt m (G ++ X), [], rfl, ⟨rfl, rfl, ⟨Wk.refl _, Wk.refl _, Wk.refl _, trivial⟩, ⟨_, rfl, OW.refl _⟩, ⟨_, rfl, OW.refl _⟩, trivial⟩, fun W0 F N ys w' hst => .inr ⟨⟨⟨⟨rt, G, X⟩, c⟩, Nat.le_refl _, hinv, hmem, hpath, rfl⟩, rfl, hst⟩⟩⟩
    simp only [Cnd.holds, and_true]
    exact wk_litE ltF
end
end Go.Proofs.YtbmoancedlbhlaaDoor.Tpc

/- Topic: Add whole. -/
set_option linter.unusedVariables false
set_option linter.unusedSimpArgs false
set_option maxRecDepth 100000
namespace Go.Proofs.YtbmoancedlbhlaaDoor.Tpc
open Go Go.RowKit Go.Proofs.YtbmoancedlbhlaaDoor.Eng Go.Proofs.YtbmoancedlbhlaaDoor.Kit
theorem shut_vs {L : Pairs} {g : Nat} (s : TrS) (hs : TrInv L g s) {vs : List AV} {R : LH} (hR : Rest R) (hv : AV.cls (fun k => Nat.blt k 1000 || (getO R k).isSome) vs) : Goes vs (trL L.length s ++ R) vs ((0, trO L g) :: R) := by
  refine Goes.trans (goes_name (i := 2) (j := 1002) hv (trC_cl _ _) hR.cl hR.lt ⟨hR.n.1, hR.n.2.2, hR.n.2.1⟩ (by decide) (by decide) (by decide) (by decide) (by decide)) ?_
  exact Goes.shut (σ := TrS) (R := TrInv L g) (L := trL0 L.length) (m := .trie L g) (H0 := R) (vs := vs) s hs (trL0_own _ s ⟨hR.lt, hR.n.1, hR.n.2.1⟩) ⟨_, _, rfl, rfl⟩ hv fun x hx => hR.cl x hx _
theorem cls_tms {K : Nat → Bool} {told : List (Nat × AV)} (h : ∀ x ∈ told, AV.cl K x.2) : ∀ (m k : Nat), AV.cls K (tms k m told)
  | 0, k => trivial
  | m + 1, k => by
    rw [tms]
    refine ⟨?_, cls_tms h m (k + 1)⟩
    cases hf : told.find? (fun x => Nat.beq x.1 k) with
    | none => trivial
    | some p => exact h p (List.mem_of_find?_eq_some hf)
theorem TrInv.swap {L : Pairs} {g root : Nat} {G X R : List Nd} {c c' : Nd} (h : TrInv L g ⟨root, G, X⟩) (hc : c ∈ G) (hp : G.Perm (c :: R)) (hq : c'.p = c.p ∧ c'.b = c.b ∧ c'.nb = c.nb ∧ c'.db = c.db ∧ c'.nx = c.nx ∧ c'.nc = c.nc)
    (hd : ∀ d, klook d c'.ds = klook d c.ds) (hk : KI c'.ds c'.dc) (hm : c'.ds.map (·.1) = c.ds.map (·.1)) : TrInv L g ⟨root, c' :: R, X⟩ := by
  obtain ⟨p1, p2, p3, p4, p5, p6⟩ := hq
  have hs : Shp G X g root := h.shp
  have hds : ∀ n ∈ G, ∀ d x, klook d n.ds = some x ↔ x = 1 ∧ ∃ pat, (pat, d) ∈ L ∧ dots pat = n.p := h.ds
  have hcov : ∀ e ∈ L, ∃ n ∈ G, n.p = dots e.1 := h.cov
  have hkd : ∀ n ∈ G, KI n.ds n.dc ∧ n.ds.length ≤ g ∧ ∀ e ∈ n.ds, e.1.size ≤ 1099511627776 := h.kd
  have hmem : ∀ t, t ∈ G ↔ t = c ∨ t ∈ R := fun t => by rw [hp.mem_iff, List.mem_cons]
  have fw : ∀ t ∈ G, ∃ t' ∈ c' :: R, t'.p = t.p ∧ t'.b = t.b ∧ t'.nx = t.nx := fun t ht => by
    rcases (hmem t).1 ht with rfl | ht
    · exact ⟨_, List.mem_cons_self, p1, p2, p5⟩
    · exact ⟨t, List.mem_cons_of_mem _ ht, rfl, rfl, rfl⟩
  have bw : ∀ t' ∈ c' :: R, ∃ t ∈ G, t'.p = t.p ∧ t'.b = t.b ∧ t'.nx = t.nx ∧ t'.nc = t.nc ∧ (∀ d, klook d t'.ds = klook d t.ds) ∧ KI t'.ds t'.dc ∧ t'.ds.map (·.1) = t.ds.map (·.1) := fun t' ht => by
    rcases List.mem_cons.1 ht with rfl | ht
    · exact ⟨c, hc, p1, p2, p5, p6, hd, hk, hm⟩
    · have htG := (hmem t').2 (.inr ht)
      exact ⟨t', htG, rfl, rfl, rfl, rfl, fun _ => rfl, (hkd t' htG).1, rfl⟩
  have hbl : blocks (c' :: R ++ X) = blocks (c :: R ++ X) := by
    simp only [blocks, List.cons_append, List.flatMap_cons, p2, p3, p4]
  refine ⟨⟨?_, ?_, ?_, ?_, ?_, hs.dead, ?_, ?_, ?_⟩, ?_, ?_, h.nd, ?_⟩
  · show (blocks (c' :: R ++ X)).Nodup
    rw [hbl]
    exact ((hp.append_right X).flatMap_right _).nodup_iff.1 hs.bl
  · have := (hp.map (·.p)).nodup_iff.1 hs.pp
    simp only [List.map_cons] at this ⊢
    rw [p1]; exact this
  · obtain ⟨r, hr, e1, e2⟩ := hs.rt
    obtain ⟨r', q1, q2, q3, _⟩ := fw r hr
    exact ⟨r', q1, q2.trans e1, q3.trans e2⟩
  · intro t' ht w' y hy
    obtain ⟨t, q1, q2, q3, q4, _⟩ := bw t' ht
    rw [q4] at hy
    obtain ⟨u, u1, u2, u3⟩ := hs.nx t q1 w' y hy
    obtain ⟨u', v1, v2, v3, _⟩ := fw u u1
    exact ⟨u', v1, by rw [v2, u2, q2], v3.trans u3⟩
  · intro t' ht q w' e
    obtain ⟨t, q1, q2, q3, q4, _⟩ := bw t' ht
    obtain ⟨s, s1, s2, s3⟩ := hs.par t q1 q w' (q2 ▸ e)
    obtain ⟨s', v1, v2, v3, v4⟩ := fw s s1
    exact ⟨s', v1, v2.trans s2, by rw [q3, v4]; exact s3⟩
  · have := hp.length_eq
    have h2 := hs.gl
    simp only [List.length_cons] at this ⊢
    omega
  · intro t' ht
    obtain ⟨t, q1, q2, _⟩ := bw t' ht
    have := hs.pl t q1
    rw [q2]; omega
  · intro t' ht
    obtain ⟨t, q1, q2, q3, q4, q5, _⟩ := bw t' ht
    rw [q4, q5]; exact hs.ki t q1
  · intro t' ht d' x
    obtain ⟨t, q1, q2, q3, q4, q5, q6, _⟩ := bw t' ht
    rw [q6, q2]; exact hds t q1 d' x
  · intro e he
    obtain ⟨n, hn, e2⟩ := hcov e he
    obtain ⟨n', v1, v2, _⟩ := fw n hn
    exact ⟨n', v1, v2.trans e2⟩
  · intro t' ht
    obtain ⟨t, q1, q2, q3, q4, q5, q6, q7, q8⟩ := bw t' ht
    obtain ⟨k1, k2, k3⟩ := hkd t q1
    have hl := congrArg List.length q8
    simp only [List.length_map] at hl
    refine ⟨q7, by show t'.ds.length ≤ g; omega, fun e he => ?_⟩
    have : e.1 ∈ t'.ds.map (·.1) := List.mem_map_of_mem he
    rw [q8] at this
    obtain ⟨e', he', e2⟩ := List.mem_map.1 this
    rw [← e2]; exact k3 e' he'
def inB (L : Pairs) (pat d : ByteArray) : Bool := L.any fun e => decide (e.1 = pat) && decide (e.2 = d)
theorem inB_iff {L : Pairs} {pat d : ByteArray} : inB L pat d = true ↔ (pat, d) ∈ L := by
  unfold inB
  rw [List.any_eq_true]
  constructor
  · rintro ⟨⟨a, b⟩, h1, h2⟩
    simp only [Bool.and_eq_true, decide_eq_true_eq] at h2
    rw [← h2.1, ← h2.2]; exact h1
  · intro h; exact ⟨_, h, by simp⟩
def addL (L : Pairs) (pat d : ByteArray) : Pairs := if inB L pat d = true then L else L ++ [(pat, d)]
theorem dsV_set (c : Nd) (d : ByteArray) (x : Int) : dsV (setDs c d x) d = ix x := by
  unfold dsV
  show ((klook d (kset c.ds c.dc d x)).map ix).getD (ix 0) = ix x
  rw [klook_kset, if_pos rfl]; rfl
theorem goes_perm {root m : Nat} {G G' : List Nd} (hp : G.Perm G') {vs : List AV} : Goes vs (trU root m G) vs (trU root m G') := goes_lw rfl rfl ⟨rfl, OW.refl _, rfl, famO_perm hp, trivial⟩ (VW.refl _)
theorem a_tail {L : Pairs} {g root : Nat} {G X : List Nd} {c : Nd} {pat dest : ByteArray} (h : TrInv L g ⟨root, G, X⟩) (hc : c ∈ G) (hcp : c.p = dots pat) (hd : dest.size ≤ 1099511627776) (hL : L.length ≤ 4611686018427387904) :
    CTri Tryd.prog default adT (tms 0 67 (aT dest c.b)) (trU root L.length (G ++ X)) (fun _ : Unit => .ret) (fun _ => tms 0 67 [(6, bv (!(inB L pat dest)))]) (fun _ => [(0, trO (addL L pat dest) (g + 1))]) := by
  obtain ⟨l1, l2, rfl⟩ := List.append_of_mem hc
  have hperm : (l1 ++ c :: l2).Perm (c :: (l1 ++ l2)) := List.perm_middle
  have hperm2 : ((l1 ++ c :: l2) ++ X).Perm (c :: ((l1 ++ l2) ++ X)) := hperm.append_right X
  refine CTri.pre ?_ (goes_perm hperm2)
  have f1 := fc_ds (G := c :: ((l1 ++ l2) ++ X)) List.mem_cons_self
  have f2 := fc_look_ds (G := c :: ((l1 ++ l2) ++ X)) List.mem_cons_self dest
  unfold addL
  by_cases hin : inB L pat dest = true
  · rw [if_pos hin, hin]
    rw [inB_iff] at hin
    have hk : klook dest c.ds = some 1 := (h.ds c hc dest 1).2 ⟨rfl, pat, hin, hcp.symm⟩
    have e2 : dsV c dest = ix 1 := by unfold dsV; rw [hk]; rfl
    rw [e2] at f2
    have f3 := fc_upd_ds c ((l1 ++ l2) ++ X) dest 2
    have f4 := fc_ds (G := setDs c dest 2 :: ((l1 ++ l2) ++ X)) List.mem_cons_self
    have f5 := fc_look_ds (G := setDs c dest 2 :: ((l1 ++ l2) ++ X)) List.mem_cons_self dest
    rw [dsV_set] at f5
    have f6 := fc_upd_ds (setDs c dest 2) ((l1 ++ l2) ++ X) dest 1
    have hki := (h.kd c hc).1
    have hI : TrInv L (g + 1) ⟨root, setDs (setDs c dest 2) dest 1 :: (l1 ++ l2), X⟩ := by
      refine (TrInv.swap h hc hperm (c' := setDs (setDs c dest 2) dest 1) ⟨rfl, rfl, rfl, rfl, rfl, rfl⟩ (fun d => ?_) ((hki.kset _ _).kset _ _) ?_).mono (Nat.le_succ _)
      · show klook d (kset (kset c.ds c.dc dest 2) _ dest 1) = _
        rw [klook_kset, klook_kset]
        split
        · rename_i e; rw [e, hk]
        · rfl
      · show (kset (kset c.ds c.dc dest 2) _ dest 1).map (·.1) = _
        have hm : dest ∈ c.ds.map (·.1) := by
          by_cases hm : dest ∈ c.ds.map (·.1)
          · exact hm
          · rw [klook_none.2 hm] at hk; cases hk
        have k1 : (kset c.ds c.dc dest 2).map (·.1) = c.ds.map (·.1) := by rw [kset_keys, if_pos hm]
        rw [kset_keys, k1, if_pos hm]
    refine ct_run (W := default) (g := fAdd) (ρ := Unit) (con := []) (hints := hTT (famO (setDs c dest 2 :: ((l1 ++ l2) ++ X))) (famO (setDs (setDs c dest 2) dest 1 :: ((l1 ++ l2) ++ X))) c.db) (lc := []) 67 (A' := fun _ => [(6, bv false)]) [0, 2] [6] rfl (fun _ _ => noC) (fun _ _ => noL) fun F => ?_
    refine cast (congrArg (VAll _) (oTT_eq dest root L.length (c :: ((l1 ++ l2) ++ X)) (setDs c dest 2 :: ((l1 ++ l2) ++ X)) (setDs (setDs c dest 2) dest 1 :: ((l1 ++ l2) ++ X)) c.b c.db F).symm) ⟨⟨?_, rfl, ?_⟩⟩
    · simp only [Cnd.holds, Nat.blt_eq, true_and, and_true]
      and_intros
      all_goals first
        | exact f1
        | exact f2
        | exact f3
        | exact f4
        | exact f5
        | exact f6 | (with_reducible first | exact trivial | exact rfl | exact Wk.refl _ | exact VW.refl _ | exact OW.refl _ | exact wk_lit _ | assumption) | exact rfl | exact Wk.refl _ | exact VW.refl _ | exact OW.refl _ | ((repeat (first | exact VW.nil | refine VW.cons (Wk.refl _) ?_ | refine VW.cons (Wk.any _) ?_ | refine VW.cons (wk_cap (Nat.le_refl _)) ?_)); done)
    · refine FitT.det (told := [(6, bv false)]) (H := trU root L.length (setDs (setDs c dest 2) dest 1 :: ((l1 ++ l2) ++ X))) (l := []) ⟨rfl, rfl, ⟨Wk.refl _, trivial⟩, ⟨_, rfl, OW.refl _⟩, ⟨_, rfl, OW.refl _⟩, trivial⟩ rfl () rfl ?_
      exact shut_vs (R := []) (vs := tms 0 67 [(6, bv false)]) _ hI Rest.nil (cls_tms (told := [(6, bv false)]) (all_cons trivial all_nil) 67 0)
  · rw [if_neg hin, Bool.not_eq_true _ |>.mp hin]
    rw [inB_iff] at hin
    have hk : klook dest c.ds = none := by
      cases hx : klook dest c.ds with
      | none => rfl
      | some x =>
        obtain ⟨_, pat', h1, h2⟩ := (h.ds c hc dest x).1 hx
        rw [dots_inj (h2.trans hcp)] at h1
        exact absurd h1 hin
    have e2 : dsV c dest = ix 0 := by unfold dsV; rw [hk]; rfl
    rw [e2] at f2
    have f3 := fc_upd_ds c ((l1 ++ l2) ++ X) dest 1
    have f4 := fc_ds (G := setDs c dest 1 :: ((l1 ++ l2) ++ X)) List.mem_cons_self
    have f5 := fc_look_ds (G := setDs c dest 1 :: ((l1 ++ l2) ++ X)) List.mem_cons_self dest
    rw [dsV_set] at f5
    have hI : TrInv (L ++ [(pat, dest)]) (g + 1) ⟨root, setDs c dest 1 :: (l1 ++ l2), X⟩ := TrInv.pair h hc hperm hcp hin hd
    have hw := wrap_succ L.length (by omega)
    refine ct_run (W := default) (g := fAdd) (ρ := Unit) (con := []) (hints := hTN (famO (setDs c dest 1 :: ((l1 ++ l2) ++ X))) c.db L.length) (lc := []) 67 (A' := fun _ => [(6, bv true)]) [0, 2] [6] rfl (fun _ _ => noC) (fun _ _ => noL) fun F => ?_
    refine cast (congrArg (VAll _) (oTN_eq dest root L.length (c :: ((l1 ++ l2) ++ X)) (setDs c dest 1 :: ((l1 ++ l2) ++ X)) c.b c.db F).symm) ⟨⟨?_, rfl, ?_⟩⟩
    · simp only [Cnd.holds, Nat.blt_eq, true_and, and_true]
      and_intros
      all_goals first
        | exact f1
        | exact f2
        | exact f3
        | exact f4
        | exact f5
        | (with_reducible exact wk_int hw) | (with_reducible first | exact trivial | exact rfl | exact Wk.refl _ | exact VW.refl _ | exact OW.refl _ | exact wk_lit _ | assumption) | exact rfl | exact Wk.refl _ | exact VW.refl _ | exact OW.refl _ | ((repeat (first | exact VW.nil | refine VW.cons (Wk.refl _) ?_ | refine VW.cons (Wk.any _) ?_ | refine VW.cons (wk_cap (Nat.le_refl _)) ?_)); done)
    · refine FitT.det (told := [(6, bv true)]) (H := trU root (L.length + 1) (setDs c dest 1 :: ((l1 ++ l2) ++ X))) (l := []) ⟨rfl, rfl, ⟨Wk.refl _, trivial⟩, ⟨_, rfl, OW.refl _⟩, ⟨_, rfl, OW.refl _⟩, trivial⟩ rfl () rfl ?_
      have := shut_vs (R := []) (vs := tms 0 67 [(6, bv true)]) _ hI Rest.nil (cls_tms (told := [(6, bv true)]) (all_cons trivial all_nil) 67 0)
      rw [List.length_append] at this
      exact this
theorem Add_tri (L : Pairs) (g : Nat) (pat dest : ByteArray) (hp : pat.size ≤ 1100000) (hd : dest.size ≤ 1099511627776) (hL : L.length ≤ 4611686018427387904) :
    Tri Tryd.prog default fAdd [.ptr 0 0, sv pat, sv dest] [(0, trO L g)] (bv (!(inB L pat dest))) [(0, trO (addL L pat dest) (g + (dots pat).length + 1))] := by
  refine open_tr (R := []) Rest.nil ⟨rfl, trivial, trivial, trivial⟩ fun s hs => ?_
  obtain ⟨root, G, X⟩ := s
  obtain ⟨fn, hfn, hcd⟩ : ∃ fn, Tryd.prog.funcs[fAdd]? = some fn ∧ fn.body = some (.seq ad0 (.seq ad1 (.seq (.seq ad2 (.block 0 (.loop (loopN fAdd 3)))) adT))) := by
    have h := adB_eq
    cases hq : Tryd.prog.funcs[fAdd]? with
    | none => rw [hq] at h; cases h
    | some fn => rw [hq] at h; exact ⟨fn, rfl, h⟩
  have hrn : fn.results = #[.tmp 6] ∧ fn.ntmps = 67 := by
    have h : (Tryd.prog.funcs[fAdd]?).map (fun fn => (fn.results, fn.ntmps)) = some (#[.tmp 6], 67) := by kernel_rfl
    rw [hfn] at h
    have h := Option.some.inj h
    exact ⟨congrArg Prod.fst h, congrArg Prod.snd h⟩
  have hwl : (dots pat).length ≤ 1100001 := by
    rw [dots_len]
    have : pat.data.toList.count 46 ≤ pat.data.toList.length := List.count_le_length
    have h2 : pat.data.toList.length = pat.size := rfl
    omega
  obtain ⟨r, hr, hr1, hr2⟩ := hs.shp.rt
  refine Tri.body (t := 6) (m := 67) (ax := .ret) hfn hcd hrn.1 hrn.2 rfl (.inl rfl) (by decide) ?_
  refine CTri.seq (σ := Unit) (A1 := fun _ => tms 0 67 [(0, .ptr 0 0), (1, sv pat), (2, sv dest)]) (H1 := fun _ => trU root L.length (G ++ X)) ?_ fun _ => ?_
  · refine ct_run (W := default) (g := fAdd) (ρ := Unit) (con := []) (hints := noHints) (lc := []) 67 (A' := fun _ => [(0, .ptr 0 0), (1, sv pat), (2, sv dest)]) [0, 2] [0, 1, 2] rfl (fun _ _ => noC) (fun _ _ => noL) fun F => ?_
    refine cast (congrArg (VAll _) (oA0_eq pat dest root L.length (G ++ X) F).symm) ⟨⟨trivial, rfl, ?_⟩⟩
    exact FitT.det (told := [(0, .ptr 0 0), (1, sv pat), (2, sv dest)]) (H := trU root L.length (G ++ X)) (l := []) ⟨rfl, rfl, ⟨Wk.refl _, Wk.refl _, Wk.refl _, trivial⟩, ⟨_, rfl, OW.refl _⟩, ⟨_, rfl, OW.refl _⟩, trivial⟩ rfl () rfl (Goes.refl _ _)
  refine CTri.seq (σ := Unit) (A1 := fun _ => tms 0 67 [(0, .ptr 0 0), (1, sv pat), (2, sv dest), (7, ptrV root)]) (H1 := fun _ => trU root L.length (G ++ X)) ?_ fun _ => ?_
  · refine ct_run (W := default) (g := fAdd) (ρ := Unit) (con := []) (hints := noHints) (lc := []) 67 (A' := fun _ => [(0, .ptr 0 0), (1, sv pat), (2, sv dest), (7, ptrV root)]) [0, 2] [0, 1, 2, 7] rfl (fun _ _ => noC) (fun _ _ => noL) fun F => ?_
    refine cast (congrArg (VAll _) (oA1_eq pat dest root L.length (G ++ X) F).symm) ⟨⟨?_, rfl, ?_⟩⟩
    · simp only [Cnd.holds, Nat.blt_eq, true_and, and_true]
      and_intros
      all_goals first | (with_reducible first | exact trivial | exact rfl | exact Wk.refl _ | exact VW.refl _ | exact OW.refl _ | exact wk_lit _ | assumption) | exact rfl | exact Wk.refl _ | exact VW.refl _ | exact OW.refl _ | ((repeat (first | exact VW.nil | refine VW.cons (Wk.refl _) ?_ | refine VW.cons (Wk.any _) ?_ | refine VW.cons (wk_cap (Nat.le_refl _)) ?_)); done)
    · exact FitT.det (told := [(0, .ptr 0 0), (1, sv pat), (2, sv dest), (7, ptrV root)]) (H := trU root L.length (G ++ X)) (l := []) ⟨rfl, rfl, ⟨Wk.refl _, Wk.refl _, Wk.refl _, Wk.refl _, trivial⟩, ⟨_, rfl, OW.refl _⟩, ⟨_, rfl, OW.refl _⟩, trivial⟩ rfl () rfl (Goes.refl _ _)
  refine CTri.seq (σ := AR L g root (dots pat)) (A1 := fun q => tms 0 67 (aT dest q.1.2.b)) (H1 := fun q => trU root L.length (q.1.1.G ++ q.1.1.X)) ?_ ?_
  · refine CTri.seq (σ := Unit) (A1 := fun _ => tms 0 67 (aA dest root (dots pat).length 0)) (H1 := fun _ => oA root L.length (dots pat) (G ++ X)) ?_ fun _ => CTri.block ?_
    · refine ct_run (W := default) (g := fAdd) (ρ := Unit) (con := [(fWords, cWd pat (dots pat).length (dots pat))]) (hints := noHints) (lc := []) 67 (A' := fun _ => aA dest root (dots pat).length 0) [0, 2, 1100] [0, 2, 7, 15, 16, 17] rfl (fun F _ => one_c (cWd_ok pat hp F)) (fun _ _ => noL) fun F => ?_
      refine cast (congrArg (VAll _) (oA2_eq pat dest root L.length (G ++ X) (dots pat) (dots pat).length F).symm) ⟨⟨?_, rfl, ?_⟩⟩
      · simp only [Cnd.holds, Nat.blt_eq, true_and, and_true]
        and_intros
        all_goals first | (with_reducible first | exact trivial | exact rfl | exact Wk.refl _ | exact VW.refl _ | exact OW.refl _ | exact wk_lit _ | assumption) | exact rfl | exact Wk.refl _ | exact VW.refl _ | exact OW.refl _ | ((repeat (first | exact VW.nil | refine VW.cons (Wk.refl _) ?_ | refine VW.cons (Wk.any _) ?_ | refine VW.cons (wk_cap (Nat.le_refl _)) ?_)); done)
      · exact FitT.det (told := aA dest root (dots pat).length 0) (H := oA root L.length (dots pat) (G ++ X)) (l := [(1000, 1100)]) ⟨by kernel_rfl, by kernel_rfl, ⟨Wk.refl _, Wk.refl _, Wk.refl _, Wk.refl _, Wk.refl _, Wk.refl _, trivial⟩, ⟨_, rfl, OW.refl _⟩, ⟨_, rfl, OW.refl _⟩, ⟨_, rfl, rS_ow (by rw [rens_rowV]) rfl⟩, trivial⟩ rfl () rfl (Goes.refl _ _)
    · have := a_loop L g root L.length (dots pat) dest (by omega) ⟨(0, ⟨root, G, X⟩, r), Nat.zero_le _, hs, hr, hr1, rfl⟩
      rw [show (⟨(0, ⟨root, G, X⟩, r), Nat.zero_le _, hs, hr, hr1, rfl⟩ : AS L g root (dots pat)).1.2.2.b = root from hr2] at this
      exact this
  · rintro ⟨⟨⟨rt, G', X'⟩, c⟩, hle, hinv, hmem, hpath, hrt⟩
    simp only at hinv hmem hpath hrt
    subst hrt
    rw [List.take_length] at hpath
    exact a_tail hinv hmem hpath hd hL
end Go.Proofs.YtbmoancedlbhlaaDoor.Tpc

/- Topic: New, Len. -/
set_option linter.unusedVariables false
set_option linter.unusedSimpArgs false
set_option maxRecDepth 100000
namespace Go.Proofs.YtbmoancedlbhlaaDoor.Tpc
open Go Go.RowKit Go.Proofs.YtbmoancedlbhlaaDoor.Eng Go.Proofs.YtbmoancedlbhlaaDoor.Kit
noncomputable section
abbrev fNew : Nat := 11
abbrev fLen : Nat := 17
theorem oNew_eq (F : HP) : wRun [] noHints [] default fNew [] [] [1100, 1101, 1102, 1103] F = VT.leaf (AV.ptr 1103 0) [some (AO.map [] 0),some (AO.map [] 0),some (AO.cells [AV.map 1100,AV.map 1101] 98),some (AO.cells [AV.ptr 1102 0,i' 0] 90)] 1104 t' := by kernel_rfl
theorem oLen_eq (root m : Nat) (G : List Nd) (F : HP) : wRun [] noHints [] default fLen [.ptr 0 0] (trU root m G) [0, 2] F = VT.leaf (i' m) [some (AO.cells [AV.v (Value.pointer (some (Addr.mk root 0 none))),i' m] 90),some (AO.any (famN G))] 1100 (((p' (true = true)).a ((p' (i' m = i' m)).a t')).a t') := by kernel_rfl
end
def oE : LH := [(1000, .cells [.ptr 1003 0, iv 0] tTrie), (1001, .map [] 0), (1002, .map [] 0), (1003, .cells [.map 1001, .map 1002] (2 * tNode))]
theorem new_goes : Goes [.ptr 1000 0] oE [.ptr 1000 0] [(1000, trO [] 1)] := by
  intro W0 F N ys w ⟨N1, g1, g2, r, hv⟩
  obtain ⟨D0, D, h1, h2, h3⟩ := r.sat
  have hf : ∀ k, (heapOf oE).find k = getO oE k := find_heapOf rfl
  obtain ⟨⟨l0, arr0, fz0, u1, u2, u3, u4, u5, u6, u7, u8⟩, d0⟩ := h2 1000 _ ((hf 1000).trans rfl)
  obtain ⟨⟨l6, es6, p1, p2, p3, p4, p5⟩, d6⟩ := h2 1001 _ ((hf 1001).trans rfl)
  obtain ⟨⟨l7, es7, q1, q2, q3, q4, q5⟩, d7⟩ := h2 1002 _ ((hf 1002).trans rfl)
  obtain ⟨⟨l8, arr8, fz8, t1, t2, t3, t4, t5, t6, t7, t8⟩, d8⟩ := h2 1003 _ ((hf 1003).trans rfl)
  obtain ⟨t8, t9⟩ := t8 (Nat.mul_mod_right _ _)
  rw [Nat.mul_div_cancel_left _ (by decide : 0 < 2), t9] at t3
  obtain ⟨u8, u9⟩ := u8 (Nat.mul_mod_right _ _)
  have hx6 : es6.toList = ents pk [] := p4
  have hx7 : es7.toList = ents ix [] := q4
  have harr : arr8[0]? = some (mpV l6.blk) ∧ arr8[1]? = some (mpV l7.blk) := by
    rw [t8, List.drop_zero] at t7
    simp only [VRs, VR, List.length_cons, List.length_nil] at t7
    obtain ⟨y1, r1, ⟨_, z1, rfl⟩, ⟨y2, r2, ⟨_, z2, rfl⟩, rfl, rfl⟩, hk⟩ := t7
    have z1 := Option.some.inj (z1.symm.trans p1)
    have z2 := Option.some.inj (z2.symm.trans q1)
    subst z1 z2
    have i0 := congrArg (fun z : List Value => z[0]?) hk
    have i1 := congrArg (fun z : List Value => z[1]?) hk
    refine ⟨?_, ?_⟩
    · simpa [List.getElem?_take, mpV] using i0
    · simpa [List.getElem?_take, mpV] using i1
  have hd : ∀ a b : Nat, ∀ oa ob, getO oE a = some oa → getO oE b = some ob → a ≠ b → ∀ x, D a x → ¬ D b x := fun a b oa ob ha hb => h3 a b oa ob ((hf a).trans ha) ((hf b).trans hb)
  have ne : ∀ a b : Nat, ∀ oa ob, getO oE a = some oa → getO oE b = some ob → a ≠ b → ∀ x y, D a x → D b y → x ≠ y := fun a b oa ob ha hb hab x y hx hy e => hd a b oa ob ha hb hab x hx (e ▸ hy)
  have c6 : D 1001 l6.blk := (p2 _).2 rfl
  have c7 : D 1002 l7.blk := (q2 _).2 rfl
  have c8 : D 1003 l8.blk := (t2 _).2 rfl
  have hnd : (blocks [nd0 [] l8.blk l6.blk l7.blk]).Nodup := by
    simp only [blocks, List.flatMap_cons, List.flatMap_nil, nd0, List.append_nil, List.nodup_cons, List.mem_cons, List.not_mem_nil, or_false, not_or, List.nodup_nil, and_true, not_false_eq_true]
    exact ⟨⟨ne 1003 1001 _ _ rfl rfl (by decide) _ _ c8 c6, ne 1003 1002 _ _ rfl rfl (by decide) _ _ c8 c7⟩, ne 1001 1002 _ _ rfl rfl (by decide) _ _ c6 c7⟩
  have hI : TrInv [] 1 ⟨l8.blk, [nd0 [] l8.blk l6.blk l7.blk], []⟩ := by
    have hm : ∀ s ∈ [nd0 [] l8.blk l6.blk l7.blk], s = nd0 [] l8.blk l6.blk l7.blk := fun s hs => by simpa using hs
    refine ⟨⟨hnd, by simp, ⟨_, List.mem_cons_self, rfl, rfl⟩, fun s hs w c hk => ?_, fun t ht q w e => ?_, fun x hx => (by cases hx), Nat.le_refl _, fun s hs => ?_, fun s hs => ?_⟩, fun n hn d x => ?_, fun e he => (by cases he), List.nodup_nil, fun n hn => ?_⟩
    · rw [hm s hs] at hk; cases hk
    · rw [hm t ht] at e
      have := congrArg List.length e
      simp [nd0] at this
    · rw [hm s hs]; exact Nat.zero_lt_one
    · rw [hm s hs]; exact KI.nil
    · rw [hm n hn]
      constructor
      · intro hx; cases hx
      · rintro ⟨_, p, hp, _⟩; cases hp
    · rw [hm n hn]; exact ⟨KI.nil, Nat.zero_le _, fun e he => by cases he⟩
  have hc0 : VR N1 (.ptr 1003 0) (pk l8.blk) := by simp only [VR]; exact ⟨l8, t1, by rw [t8]; rfl⟩
  let K : Nat → Bool := fun k => Nat.blt k 1001
  have hK : ∀ k, k < 1001 → K k = true := fun k hk => by simp only [K, Nat.blt_eq]; exact hk
  refine ⟨fun k => if K k = true then N1 k else none, fun k hk => ?_, fun k hk hg => ?_, ⟨r.os, r.tape, r.output, D0, fun _ x => D 1000 x ∨ D 1001 x ∨ D 1002 x ∨ D 1003 x, h1, fun k o hi => ?_, fun i j o o' hi hj hij => ?_⟩, hv.congr (K := K) (fun k hk => if_pos hk) ⟨rfl, trivial⟩⟩
  · show (if K k = true then N1 k else none) = _
    rw [if_pos (hK k (by omega))]; exact g1 k hk
  · refine if_neg fun hh => ?_
    simp only [K, Nat.blt_eq] at hh
    have : k = 1000 := by omega
    subst this
    cases hg
  · have hf2 : (heapOf [(1000, trO [] 1)]).find k = getO [(1000, trO [] 1)] k := find_heapOf rfl k
    rw [hf2, getO] at hi
    split at hi
    · rename_i e
      subst e; cases hi
      refine ⟨⟨l0, u1, u8, ⟨l8.blk, [nd0 [] l8.blk l6.blk l7.blk], []⟩, hI, fun i => if i = 0 then N1 1000 else none, fun i x => if i = 0 then D 1000 x else D 1001 x ∨ D 1002 x ∨ D 1003 x, ?_, fun i o hi => ?_, fun i j o o' hi hj hij x hx hy => ?_, fun x => ?_⟩, fun x hx => ?_⟩
      · show N1 1000 = _
        rw [u1]; cases l0; cases u8; rfl
      · simp only [trL0, getO] at hi
        split at hi
        · rename_i e
          subst e; cases hi
          refine ⟨l0, arr0, fz0, u1, u2, u3, u4, u5, u6, ?_, fun _ => ⟨u8, u9⟩⟩
          simp only [VRs] at u7 ⊢
          obtain ⟨y1, r1, z1, z2, hk⟩ := u7
          refine ⟨y1, r1, ?_, z2, hk⟩
          simp only [VR] at z1
          obtain ⟨l, hl, rfl⟩ := z1
          obtain rfl : l8 = l := Option.some.inj (t1.symm.trans hl)
          rw [t8]
          exact VR_v.2 rfl
        · split at hi
          · rename_i e
            subst e; cases hi
            refine (show famOn _ _ w from ⟨fun x => ?_, hnd, fun s hs => ?_⟩)
            · show (if (1002 : Nat) = 0 then D 1000 x else D 1001 x ∨ D 1002 x ∨ D 1003 x) ↔ _
              rw [if_neg (by decide), p2, q2, t2]
              simp only [blocks, nd0, List.append_nil, List.flatMap_cons, List.flatMap_nil, List.mem_cons, List.not_mem_nil, or_false]
              constructor
              · rintro (h | h | h) <;> simp [h]
              · rintro (h | h | h) <;> simp [h]
            · have : s = nd0 [] l8.blk l6.blk l7.blk := by simpa using hs
              subst this
              exact ⟨⟨arr8, t3, harr.1, harr.2⟩, ⟨es6, p3, hx6⟩, ⟨es7, q3, hx7⟩⟩
          · cases hi
      · have key : ∀ k o, getO (trL0 0 ⟨l8.blk, [nd0 [] l8.blk l6.blk l7.blk], []⟩) k = some o → k = 0 ∨ k = 1002 := fun k o hk => by
          simp only [trL0, getO] at hk
          split at hk
          · rename_i e; exact .inl e
          · split at hk
            · rename_i e; exact .inr e
            · cases hk
        have apart : ∀ x, D 1000 x → ¬ (D 1001 x ∨ D 1002 x ∨ D 1003 x) := fun x hx hy => by
          rcases hy with hy | hy | hy
          · exact hd 1000 1001 _ _ rfl rfl (by decide) x hx hy
          · exact hd 1000 1002 _ _ rfl rfl (by decide) x hx hy
          · exact hd 1000 1003 _ _ rfl rfl (by decide) x hx hy
        rcases key i o hi with rfl | rfl <;> rcases key j o' hj with rfl | rfl
        · exact absurd rfl hij
        · simp only [if_true, if_neg (by decide : ¬ (1002 : Nat) = 0)] at hx hy; exact apart x hx hy
        · simp only [if_true, if_neg (by decide : ¬ (1002 : Nat) = 0)] at hx hy; exact apart x hy hx
        · exact absurd rfl hij
      · constructor
        · rintro (h | h)
          · exact ⟨0, _, rfl, h⟩
          · exact ⟨1002, _, rfl, h⟩
        · rintro ⟨i, o, hi, h⟩
          by_cases e : i = 0
          · rw [if_pos e] at h; exact .inl h
          · rw [if_neg e] at h; exact .inr h
      · rcases hx with hx | hx | hx | hx
        · exact d0 x hx
        · exact d6 x hx
        · exact d7 x hx
        · exact d8 x hx
    · cases hi
  · have key : ∀ k o, (heapOf [(1000, trO [] 1)]).find k = some o → k = 1000 := fun k o hk => by
      rw [find_heapOf rfl, getO] at hk
      split at hk
      · rename_i e; exact e
      · cases hk
    exact absurd ((key i o hi).trans (key j o' hj).symm) hij
theorem New_tri : Tri Tryd.prog default fNew [] [] (.ptr 1000 0) [(1000, trO [] 1)] := by
  refine tri_run (con := []) (hints := noHints) (lc := []) [1100, 1101, 1102, 1103] rfl (fun F _ => noC) (fun _ _ => noL) fun F => ?_
  refine cast (congrArg (VAll _) (oNew_eq F).symm) ⟨⟨?_, [.ptr 1000 0], oE, [(1000, 1103), (1001, 1100), (1002, 1101), (1003, 1102)], by kernel_rfl, fit_mk _ (by kernel_rfl) (by kernel_rfl) (VW.refl _) ⟨⟨_, rfl, OW.refl _⟩, ⟨_, rfl, OW.refl _⟩, ⟨_, rfl, OW.refl _⟩, ⟨_, rfl, OW.refl _⟩, trivial⟩, new_goes⟩⟩
  simp only [Cnd.holds, Nat.blt_eq, true_and, and_true]
  and_intros
  all_goals first | (with_reducible first | exact trivial | exact rfl | exact Wk.refl _ | exact VW.refl _ | exact OW.refl _ | exact wk_lit _ | assumption) | exact rfl | exact Wk.refl _ | exact VW.refl _ | exact OW.refl _ | ((repeat (first | exact VW.nil | refine VW.cons (Wk.refl _) ?_ | refine VW.cons (Wk.any _) ?_ | refine VW.cons (wk_cap (Nat.le_refl _)) ?_)); done)
theorem Len_tri (L : Pairs) (g : Nat) : Tri Tryd.prog default fLen [.ptr 0 0] [(0, trO L g)] (iv (Int.ofNat L.length)) [(0, trO L g)] := by
  refine open_tr (R := []) Rest.nil ⟨rfl, trivial⟩ fun s hs => ?_
  have key : Tri Tryd.prog default fLen [.ptr 0 0] (trU s.root L.length (s.G ++ s.X)) (iv (Int.ofNat L.length)) (trU s.root L.length (s.G ++ s.X)) := by
    refine tri_run (con := []) (hints := noHints) (lc := []) [0, 2] rfl (fun F _ => noC) (fun _ _ => noL) fun F => ?_
    refine cast (congrArg (VAll _) (oLen_eq s.root L.length (s.G ++ s.X) F).symm) ⟨⟨?_, (fit_mk (vs' := [iv (Int.ofNat L.length)]) (H' := trU s.root L.length (s.G ++ s.X)) [] rfl rfl (VW.refl _) ⟨⟨_, rfl, OW.refl _⟩, ⟨_, rfl, OW.refl _⟩, trivial⟩).fits rfl⟩⟩
    simp only [Cnd.holds, Nat.blt_eq, true_and, and_true]
    and_intros
    all_goals first | (with_reducible first | exact trivial | exact rfl | exact Wk.refl _ | exact VW.refl _ | exact OW.refl _ | exact wk_lit _ | assumption) | exact rfl | exact Wk.refl _ | exact VW.refl _ | exact OW.refl _ | ((repeat (first | exact VW.nil | refine VW.cons (Wk.refl _) ?_ | refine VW.cons (Wk.any _) ?_ | refine VW.cons (wk_cap (Nat.le_refl _)) ?_)); done)
  exact Tri.post key (shut_tr s hs _ Rest.nil ⟨trivial, trivial⟩)
end Go.Proofs.YtbmoancedlbhlaaDoor.Tpc

/- Topic: remove: runs. -/
set_option linter.unusedVariables false
set_option linter.unusedSimpArgs false
set_option maxRecDepth 100000
namespace Go.Proofs.YtbmoancedlbhlaaDoor.Tpc
open Go Go.RowKit Go.Proofs.YtbmoancedlbhlaaDoor.Eng Go.Proofs.YtbmoancedlbhlaaDoor.Kit
noncomputable section
abbrev fRem : Nat := 22
abbrev fRemove : Nat := 13
def sR (off len : Nat) : AV := .slice 1 off len 1 (.ex len)
def oR (ws : List ByteArray) (G : List Nd) : LH := [(1, rS ws), (2, famO G)]
def hRL (G' : AO) (db : Nat) (x : Int) (t : Bool) : ClaimT := hintL [(fRem, 1, 2, hv (.lit true)), (fRem, 2, 3, hf (mpV db)), (fRem, 2, 5, hf (ix x)), (fRem, 2, 6, hv (bv t)), (fRem, 3, 3, hf (mpV db)), (fRem, 3, 5, hw G')]
theorem oRL_eq (ws : List ByteArray) (G G' : List Nd) (b db off : Nat) (x : Int) (t : Bool) (d : ByteArray) (F : HP) : wRun [] (hRL (famO G') db x t) [] default fRem [ptrV b, sR off 0, sv d] (oR ws G) [1, 2] F = VT.leaf (b' t) [some (AO.cells (rowV encS ws) 18),some (AO.any (famN G'))] 1100 (((p' (Wk (b' true) (AV.lit true))).a t').a (((p' (FactAt Tryd.prog (AO.any (famN G)) (Fc.load 47 (Addr.mk b 1 none) (Value.map (some db))))).a t').a (((p' (FactAt Tryd.prog (AO.any (famN G)) (Fc.look 47 db (Value.string d) (Value.int IntKind.i64 x)))).a t').a (((p' (Wk (b' (decide (x > Int.ofNat 0))) (b' t))).a t').a (((p' (FactAt Tryd.prog (AO.any (famN G)) (Fc.load 47 (Addr.mk b 1 none) (Value.map (some db))))).a t').a (((p' (FactAt Tryd.prog (AO.any (famN G)) (Fc.del 47 db (Value.string d) (AO.any (famN G'))))).a t').a t')))))) := by kernel_rfl
def hR5 (nb : Nat) (w : ByteArray) (y : Value) (q : Bool) : List (Nat × Nat × Nat × Hint) := [(fRem, 1, 2, hv (.lit false)), (fRem, 5, 3, hf (mpV nb)), (fRem, 5, 6, hv (sv w)), (fRem, 5, 7, hf y), (fRem, 6, 1, hv (.lit q))]
theorem oRM_eq (ws : List ByteArray) (G : List Nd) (b nb off l : Nat) (w d : ByteArray) (F : HP) : wRun [] (hintL (hR5 nb w (.pointer none) true)) [] default fRem [ptrV b, sR off (l + 1), sv d] (oR ws G) [1, 2] F = VT.leaf (b' false) [some (AO.cells (rowV encS ws) 18),some (AO.any (famN G))] 1100 (((p' (Wk (b' false) (AV.lit false))).a t').a (((p' (FactAt Tryd.prog (AO.any (famN G)) (Fc.load 46 (Addr.mk b 0 none) (Value.map (some nb))))).a t').a (((p' (true = true)).a t').a (((p' (off.blt (rowV encS ws).length = true)).a ((p' ((rowV encS ws).getD off (u') = AV.v (Value.string ((rowV encS ws).getD off (u')).strOf))).a ((p' (Wk (AV.v (Value.string ((rowV encS ws).getD off (u')).strOf)) (s' w))).a t'))).a (((p' (FactAt Tryd.prog (AO.any (famN G)) (Fc.look 46 nb (Value.string w) (Value.pointer none)))).a t').a (((p' (Wk (b' true) (AV.lit true))).a t').a t')))))) := by kernel_rfl
def gRm : List AV → AP Nat := fun args => match args with
  | _ :: .slice r _ _ _ _ :: _ => .ret r
  | _ => .fail "remove"
def nmR (a : Nat) : Nat → Nat := fun k => match Nat.beq k 1 with
  | true => a
  | false => k
def cRem (ws : List ByteArray) (G G1 : List Nd) (y off l : Nat) (d : ByteArray) (t : Bool) : List AV → Option (AP AV) := mkC gRm (fun _ => True) nmR (fun _ => [ptrV y, sR off l, sv d]) (fun _ => oR ws G) (fun _ => .leaf .ret [bv t] (oR ws G1))
def hRA (nb : Nat) (w : ByteArray) (y ynb : Nat) (n : Nat) : ClaimT := hintL (hR5 nb w (pk y) false ++ [(fRem, 9, 3, hf (mpV ynb)), (fRem, 9, 4, hf (ix (Int.ofNat n))), (fRem, 9, 5, hv (.lit false)), (fRem, 9, 13, hv (.lit false))])
theorem oRA_eq (ws : List ByteArray) (G G1 : List Nd) (b nb off l : Nat) (w d : ByteArray) (y ynb n : Nat) (t : Bool) (F : HP) : wRun [(fRem, cRem ws G G1 y (off + 1) l d t)] (hRA nb w y ynb n) [] default fRem [ptrV b, sR off (l + 1), sv d] (oR ws G) [1, 2] F = VT.leaf (b' t) [some (AO.cells (AV.rens (sgN (nmR 1) [] 0) (rowV encS ws)) 18),some (AO.any (famN G1))] 1100 (((p' (Wk (b' false) (AV.lit false))).a t').a (((p' (FactAt Tryd.prog (AO.any (famN G)) (Fc.load 46 (Addr.mk b 0 none) (Value.map (some nb))))).a t').a (((p' (true = true)).a t').a (((p' (off.blt (rowV encS ws).length = true)).a ((p' ((rowV encS ws).getD off (u') = AV.v (Value.string ((rowV encS ws).getD off (u')).strOf))).a ((p' (Wk (AV.v (Value.string ((rowV encS ws).getD off (u')).strOf)) (s' w))).a t'))).a (((p' (FactAt Tryd.prog (AO.any (famN G)) (Fc.look 46 nb (Value.string w) (Value.pointer (some (Addr.mk y 0 none)))))).a t').a (((p' (Wk (b' false) (AV.lit false))).a t').a (((p' (true = true)).a ((p' ((l + 1).ble (l + 1) = true)).a ((p' ((l + 1).ble (l + 1) = true)).a t'))).a (((Cnd.p True).a ((p' (VW [AV.v (Value.pointer (some (Addr.mk y 0 none))),AV.slice 1 (off + 1) l 1 (Cp.ex l),s' d] [AV.v (Value.pointer (some (Addr.mk y 0 none))),AV.slice 1 (off + 1) l 1 (Cp.ex l),s' d])).a ((p' (OW (AO.cells (rowV encS ws) 18) (AO.cells (AV.rens (nmR 1) (rowV encS ws)) 18))).a ((p' (OW (AO.any (famN G)) (AO.any (famN G)))).a t')))).a (((p' (FactAt Tryd.prog (AO.any (famN G1)) (Fc.load 46 (Addr.mk y 0 none) (Value.map (some ynb))))).a t').a (((p' (FactAt Tryd.prog (AO.any (famN G1)) (Fc.len 46 ynb (Value.int IntKind.i64 (Int.ofNat n))))).a t').a (((p' (Wk (b' (Int.ofNat n == Int.ofNat 0)) (AV.lit false))).a t').a (((p' (Wk (AV.lit false) (AV.lit false))).a t').a t')))))))))))) := by kernel_rfl
def hRB (nb : Nat) (w : ByteArray) (y ynb ydb : Nat) (n : Nat) : ClaimT := hintL (hR5 nb w (pk y) false ++ [(fRem, 9, 3, hf (mpV ynb)), (fRem, 9, 4, hf (ix 0)), (fRem, 9, 5, hv (.lit true)), (fRem, 9, 10, hf (mpV ydb)), (fRem, 9, 11, hf (ix (Int.ofNat n))), (fRem, 9, 12, hv (.lit false)), (fRem, 9, 13, hv (.lit false))])
theorem oRB_eq (ws : List ByteArray) (G G1 : List Nd) (b nb off l : Nat) (w d : ByteArray) (y ynb ydb n : Nat) (t : Bool) (F : HP) : wRun [(fRem, cRem ws G G1 y (off + 1) l d t)] (hRB nb w y ynb ydb n) [] default fRem [ptrV b, sR off (l + 1), sv d] (oR ws G) [1, 2] F = VT.leaf (b' t) [some (AO.cells (AV.rens (sgN (nmR 1) [] 0) (rowV encS ws)) 18),some (AO.any (famN G1))] 1100 (((p' (Wk (b' false) (AV.lit false))).a t').a (((p' (FactAt Tryd.prog (AO.any (famN G)) (Fc.load 46 (Addr.mk b 0 none) (Value.map (some nb))))).a t').a (((p' (true = true)).a t').a (((p' (off.blt (rowV encS ws).length = true)).a ((p' ((rowV encS ws).getD off (u') = AV.v (Value.string ((rowV encS ws).getD off (u')).strOf))).a ((p' (Wk (AV.v (Value.string ((rowV encS ws).getD off (u')).strOf)) (s' w))).a t'))).a (((p' (FactAt Tryd.prog (AO.any (famN G)) (Fc.look 46 nb (Value.string w) (Value.pointer (some (Addr.mk y 0 none)))))).a t').a (((p' (Wk (b' false) (AV.lit false))).a t').a (((p' (true = true)).a ((p' ((l + 1).ble (l + 1) = true)).a ((p' ((l + 1).ble (l + 1) = true)).a t'))).a (((Cnd.p True).a ((p' (VW [AV.v (Value.pointer (some (Addr.mk y 0 none))),AV.slice 1 (off + 1) l 1 (Cp.ex l),s' d] [AV.v (Value.pointer (some (Addr.mk y 0 none))),AV.slice 1 (off + 1) l 1 (Cp.ex l),s' d])).a ((p' (OW (AO.cells (rowV encS ws) 18) (AO.cells (AV.rens (nmR 1) (rowV encS ws)) 18))).a ((p' (OW (AO.any (famN G)) (AO.any (famN G)))).a t')))).a (((p' (FactAt Tryd.prog (AO.any (famN G1)) (Fc.load 46 (Addr.mk y 0 none) (Value.map (some ynb))))).a t').a (((p' (FactAt Tryd.prog (AO.any (famN G1)) (Fc.len 46 ynb (Value.int IntKind.i64 (Int.ofNat 0))))).a t').a (((p' (Wk (b' true) (AV.lit true))).a t').a (((p' (FactAt Tryd.prog (AO.any (famN G1)) (Fc.load 47 (Addr.mk y 1 none) (Value.map (some ydb))))).a t').a (((p' (FactAt Tryd.prog (AO.any (famN G1)) (Fc.len 47 ydb (Value.int IntKind.i64 (Int.ofNat n))))).a t').a (((p' (Wk (b' (Int.ofNat n == Int.ofNat 0)) (AV.lit false))).a t').a (((p' (Wk (AV.lit false) (AV.lit false))).a t').a t'))))))))))))))) := by kernel_rfl
def hRP (G2 : AO) (nb : Nat) (w : ByteArray) (y ynb ydb : Nat) : ClaimT := hintL (hR5 nb w (pk y) false ++ [(fRem, 9, 3, hf (mpV ynb)), (fRem, 9, 4, hf (ix 0)), (fRem, 9, 5, hv (.lit true)), (fRem, 9, 10, hf (mpV ydb)), (fRem, 9, 11, hf (ix 0)), (fRem, 9, 12, hv (.lit true)), (fRem, 9, 13, hv (.lit true)), (fRem, 10, 3, hf (mpV nb)), (fRem, 10, 6, hv (sv w)), (fRem, 10, 7, hw G2)])
theorem oRP_eq (ws : List ByteArray) (G G1 G2 : List Nd) (b nb off l : Nat) (w d : ByteArray) (y ynb ydb : Nat) (t : Bool) (F : HP) : wRun [(fRem, cRem ws G G1 y (off + 1) l d t)] (hRP (famO G2) nb w y ynb ydb) [] default fRem [ptrV b, sR off (l + 1), sv d] (oR ws G) [1, 2] F = VT.leaf (b' t) [some (AO.cells (AV.rens (sgN (nmR 1) [] 0) (rowV encS ws)) 18),some (AO.any (famN G2))] 1100 (((p' (Wk (b' false) (AV.lit false))).a t').a (((p' (FactAt Tryd.prog (AO.any (famN G)) (Fc.load 46 (Addr.mk b 0 none) (Value.map (some nb))))).a t').a (((p' (true = true)).a t').a (((p' (off.blt (rowV encS ws).length = true)).a ((p' ((rowV encS ws).getD off (u') = AV.v (Value.string ((rowV encS ws).getD off (u')).strOf))).a ((p' (Wk (AV.v (Value.string ((rowV encS ws).getD off (u')).strOf)) (s' w))).a t'))).a (((p' (FactAt Tryd.prog (AO.any (famN G)) (Fc.look 46 nb (Value.string w) (Value.pointer (some (Addr.mk y 0 none)))))).a t').a (((p' (Wk (b' false) (AV.lit false))).a t').a (((p' (true = true)).a ((p' ((l + 1).ble (l + 1) = true)).a ((p' ((l + 1).ble (l + 1) = true)).a t'))).a (((Cnd.p True).a ((p' (VW [AV.v (Value.pointer (some (Addr.mk y 0 none))),AV.slice 1 (off + 1) l 1 (Cp.ex l),s' d] [AV.v (Value.pointer (some (Addr.mk y 0 none))),AV.slice 1 (off + 1) l 1 (Cp.ex l),s' d])).a ((p' (OW (AO.cells (rowV encS ws) 18) (AO.cells (AV.rens (nmR 1) (rowV encS ws)) 18))).a ((p' (OW (AO.any (famN G)) (AO.any (famN G)))).a t')))).a (((p' (FactAt Tryd.prog (AO.any (famN G1)) (Fc.load 46 (Addr.mk y 0 none) (Value.map (some ynb))))).a t').a (((p' (FactAt Tryd.prog (AO.any (famN G1)) (Fc.len 46 ynb (Value.int IntKind.i64 (Int.ofNat 0))))).a t').a (((p' (Wk (b' true) (AV.lit true))).a t').a (((p' (FactAt Tryd.prog (AO.any (famN G1)) (Fc.load 47 (Addr.mk y 1 none) (Value.map (some ydb))))).a t').a (((p' (FactAt Tryd.prog (AO.any (famN G1)) (Fc.len 47 ydb (Value.int IntKind.i64 (Int.ofNat 0))))).a t').a (((p' (Wk (b' true) (AV.lit true))).a t').a (((p' (Wk (AV.lit true) (AV.lit true))).a t').a (((p' (FactAt Tryd.prog (AO.any (famN G1)) (Fc.load 46 (Addr.mk b 0 none) (Value.map (some nb))))).a t').a (((p' (true = true)).a t').a (((p' (off.blt (AV.rens (sgN (nmR 1) [] 0) (rowV encS ws)).length = true)).a ((p' ((AV.rens (sgN (nmR 1) [] 0) (rowV encS ws)).getD off (u') = AV.v (Value.string ((AV.rens (sgN (nmR 1) [] 0) (rowV encS ws)).getD off (u')).strOf))).a ((p' (Wk (AV.v (Value.string ((AV.rens (sgN (nmR 1) [] 0) (rowV encS ws)).getD off (u')).strOf)) (s' w))).a t'))).a (((p' (FactAt Tryd.prog (AO.any (famN G1)) (Fc.del 46 nb (Value.string w) (AO.any (famN G2))))).a t').a t'))))))))))))))))))) := by kernel_rfl
/-! Remove. -/
theorem oRmT_eq (pat d : ByteArray) (root m : Nat) (G G1 : List Nd) (ws : List ByteArray) (n : Nat) (F : HP) : wRun [(fWords, cWd pat n ws), (fRem, cRem ws G G1 root 0 n d true)] (hintL [(fRemove, 2, 0, hv (.lit true)), (fRemove, 3, 4, hv (iv (Int.ofNat m)))]) [] default fRemove [.ptr 0 0, sv pat, sv d] (trU root (m + 1) G) [0, 2] F = VT.leaf (b' true) [some (AO.cells [AV.v (Value.pointer (some (Addr.mk root 0 none))),i' m] 90),some (AO.any (famN G1))] 1101 (((p' (true = true)).a t').a (((p' (pat = pat)).a ((p' (VW [s' pat] [s' pat])).a t')).a (((Cnd.p True).a ((p' (VW [AV.v (Value.pointer (some (Addr.mk root 0 none))),AV.slice 1100 0 n 1 (Cp.ex n),s' d] [AV.v (Value.pointer (some (Addr.mk root 0 none))),AV.slice 1100 0 n 1 (Cp.ex n),s' d])).a ((p' (OW (AO.cells (AV.rens (sgN (fun k => k) [1000] 1100) (rowV encS ws)) 18) (AO.cells (AV.rens (nmR 1100) (rowV encS ws)) 18))).a ((p' (OW (AO.any (famN G)) (AO.any (famN G)))).a t')))).a (((p' (Wk (b' true) (AV.lit true))).a t').a (((p' (true = true)).a ((p' (i' (m + 1) = i' (m + 1))).a t')).a (((p' (Wk (z' (IntKind.i64.wrap (Int.ofNat (m + 1) - Int.ofNat 1))) (i' m))).a t').a (((p' (true = true)).a t').a t'))))))) := by kernel_rfl
theorem oRmF_eq (pat d : ByteArray) (root m : Nat) (G G1 : List Nd) (ws : List ByteArray) (n : Nat) (F : HP) : wRun [(fWords, cWd pat n ws), (fRem, cRem ws G G1 root 0 n d false)] (hintL [(fRemove, 2, 0, hv (.lit false))]) [] default fRemove [.ptr 0 0, sv pat, sv d] (trU root m G) [0, 2] F = VT.leaf (b' false) [some (AO.cells [AV.v (Value.pointer (some (Addr.mk root 0 none))),i' m] 90),some (AO.any (famN G1))] 1101 (((p' (true = true)).a t').a (((p' (pat = pat)).a ((p' (VW [s' pat] [s' pat])).a t')).a (((Cnd.p True).a ((p' (VW [AV.v (Value.pointer (some (Addr.mk root 0 none))),AV.slice 1100 0 n 1 (Cp.ex n),s' d] [AV.v (Value.pointer (some (Addr.mk root 0 none))),AV.slice 1100 0 n 1 (Cp.ex n),s' d])).a ((p' (OW (AO.cells (AV.rens (sgN (fun k => k) [1000] 1100) (rowV encS ws)) 18) (AO.cells (AV.rens (nmR 1100) (rowV encS ws)) 18))).a ((p' (OW (AO.any (famN G)) (AO.any (famN G)))).a t')))).a (((p' (Wk (b' false) (AV.lit false))).a t').a t')))) := by kernel_rfl
end
end Go.Proofs.YtbmoancedlbhlaaDoor.Tpc

/- Topic: remove: the tree. -/
set_option linter.unusedVariables false
set_option linter.unusedSimpArgs false
set_option maxRecDepth 100000
namespace Go.Proofs.YtbmoancedlbhlaaDoor.Tpc
open Go Go.RowKit Go.Proofs.YtbmoancedlbhlaaDoor.Eng Go.Proofs.YtbmoancedlbhlaaDoor.Kit
def delL (L : Pairs) (pat d : ByteArray) : Pairs := L.filter fun e => !(decide (e.1 = pat) && decide (e.2 = d))
theorem mem_delL {L : Pairs} {pat d : ByteArray} {e : ByteArray × ByteArray} : e ∈ delL L pat d ↔ e ∈ L ∧ ¬ (e.1 = pat ∧ e.2 = d) := by
  unfold delL
  rw [List.mem_filter]
  simp only [Bool.not_eq_true', Bool.and_eq_false_iff, decide_eq_false_iff_not]
  refine ⟨fun ⟨h1, h2⟩ => ⟨h1, fun h => ?_⟩, fun ⟨h1, h2⟩ => ⟨h1, ?_⟩⟩
  · rcases h2 with h2 | h2
    · exact h2 h.1
    · exact h2 h.2
  · by_cases h : e.1 = pat
    · exact .inr fun h' => h2 ⟨h, h'⟩
    · exact .inl h
theorem Shp.swap {g root : Nat} {G X R : List Nd} {c c' : Nd} (hs : Shp G X g root) (hc : c ∈ G) (hp : G.Perm (c :: R)) (hq : c'.p = c.p ∧ c'.b = c.b ∧ c'.nb = c.nb ∧ c'.db = c.db ∧ c'.nx = c.nx ∧ c'.nc = c.nc) : Shp (c' :: R) X g root := by
  obtain ⟨p1, p2, p3, p4, p5, p6⟩ := hq
  have hmem : ∀ t, t ∈ G ↔ t = c ∨ t ∈ R := fun t => by rw [hp.mem_iff, List.mem_cons]
  have fw : ∀ t ∈ G, ∃ t' ∈ c' :: R, t'.p = t.p ∧ t'.b = t.b ∧ t'.nx = t.nx := fun t ht => by
    rcases (hmem t).1 ht with rfl | ht
    · exact ⟨_, List.mem_cons_self, p1, p2, p5⟩
    · exact ⟨t, List.mem_cons_of_mem _ ht, rfl, rfl, rfl⟩
  have bw : ∀ t' ∈ c' :: R, ∃ t ∈ G, t'.p = t.p ∧ t'.b = t.b ∧ t'.nx = t.nx ∧ t'.nc = t.nc := fun t' ht => by
    rcases List.mem_cons.1 ht with rfl | ht
    · exact ⟨c, hc, p1, p2, p5, p6⟩
    · exact ⟨t', (hmem t').2 (.inr ht), rfl, rfl, rfl, rfl⟩
  have hbl : blocks (c' :: R ++ X) = blocks (c :: R ++ X) := by
    simp only [blocks, List.cons_append, List.flatMap_cons, p2, p3, p4]
  refine ⟨?_, ?_, ?_, ?_, ?_, hs.dead, ?_, ?_, ?_⟩
  · show (blocks (c' :: R ++ X)).Nodup
    rw [hbl]
    exact ((hp.append_right X).flatMap_right _).nodup_iff.1 hs.bl
  · have := (hp.map (·.p)).nodup_iff.1 hs.pp
    simp only [List.map_cons] at this ⊢
    rw [p1]; exact this
  · obtain ⟨r, hr, e1, e2⟩ := hs.rt
    obtain ⟨r', q1, q2, q3, _⟩ := fw r hr
    exact ⟨r', q1, q2.trans e1, q3.trans e2⟩
  · intro t' ht w' y hy
    obtain ⟨t, q1, q2, q3, q4, _⟩ := bw t' ht
    rw [q4] at hy
    obtain ⟨u, u1, u2, u3⟩ := hs.nx t q1 w' y hy
    obtain ⟨u', v1, v2, v3, _⟩ := fw u u1
    exact ⟨u', v1, by rw [v2, u2, q2], v3.trans u3⟩
  · intro t' ht q w' e
    obtain ⟨t, q1, q2, q3, q4, _⟩ := bw t' ht
    obtain ⟨s, s1, s2, s3⟩ := hs.par t q1 q w' (q2 ▸ e)
    obtain ⟨s', v1, v2, v3, v4⟩ := fw s s1
    exact ⟨s', v1, v2.trans s2, by rw [q3, v4]; exact s3⟩
  · have := hp.length_eq
    have h2 := hs.gl
    simp only [List.length_cons] at this ⊢
    omega
  · intro t' ht
    obtain ⟨t, q1, q2, _⟩ := bw t' ht
    have := hs.pl t q1
    rw [q2]; omega
  · intro t' ht
    obtain ⟨t, q1, q2, q3, q4, q5⟩ := bw t' ht
    rw [q4, q5]; exact hs.ki t q1
section
variable {L : Pairs} {g root : Nat} {G X R : List Nd} {c : Nd}
theorem TrInv.leaf {pat d : ByteArray} (h : TrInv L g ⟨root, G, X⟩) (hc : c ∈ G) (hp : G.Perm (c :: R)) (hcp : c.p = dots pat) : TrInv (delL L pat d) g ⟨root, delDs c d :: R, X⟩ := by
  have hs : Shp G X g root := h.shp
  have hds : ∀ n ∈ G, ∀ d x, klook d n.ds = some x ↔ x = 1 ∧ ∃ pat, (pat, d) ∈ L ∧ dots pat = n.p := h.ds
  have hcov : ∀ e ∈ L, ∃ n ∈ G, n.p = dots e.1 := h.cov
  have hkd : ∀ n ∈ G, KI n.ds n.dc ∧ n.ds.length ≤ g ∧ ∀ e ∈ n.ds, e.1.size ≤ 1099511627776 := h.kd
  have hmem : ∀ t, t ∈ G ↔ t = c ∨ t ∈ R := fun t => by rw [hp.mem_iff, List.mem_cons]
  have hcR : c ∉ R := fun hcr => by
    have := (hp.map (·.p)).nodup_iff.1 hs.pp
    rw [List.map_cons, List.nodup_cons] at this
    exact this.1 (List.mem_map_of_mem hcr)
  obtain ⟨k1, k2, k3⟩ := hkd c hc
  refine ⟨hs.swap hc hp ⟨rfl, rfl, rfl, rfl, rfl, rfl⟩, ?_, ?_, h.nd.filter _, ?_⟩
  · intro t' ht d' x
    rcases List.mem_cons.1 ht with rfl | ht
    · show klook d' (kdel c.ds d) = some x ↔ x = 1 ∧ ∃ pat', (pat', d') ∈ delL L pat d ∧ dots pat' = c.p
      rw [klook_kdel k1]
      by_cases e : d' = d
      · subst e
        rw [if_pos rfl]
        constructor
        · intro hx; cases hx
        · rintro ⟨_, p', h1, h2⟩
          exact absurd ⟨dots_inj (h2.trans hcp), rfl⟩ (mem_delL.1 h1).2
      · rw [if_neg e, hds c hc]
        constructor
        · rintro ⟨h1, p', h2, h3⟩; exact ⟨h1, p', mem_delL.2 ⟨h2, fun q => e q.2⟩, h3⟩
        · rintro ⟨h1, p', h2, h3⟩; exact ⟨h1, p', (mem_delL.1 h2).1, h3⟩
    · rw [hds t' ((hmem t').2 (.inr ht))]
      constructor
      · rintro ⟨h1, p', h2, h3⟩
        refine ⟨h1, p', mem_delL.2 ⟨h2, fun q => ?_⟩, h3⟩
        have q : p' = pat := q.1
        rw [q, ← hcp] at h3
        exact hcR (pp_inj hs.pp hc ((hmem t').2 (.inr ht)) h3 ▸ ht)
      · rintro ⟨h1, p', h2, h3⟩; exact ⟨h1, p', (mem_delL.1 h2).1, h3⟩
  · intro e he
    obtain ⟨n, hn, e2⟩ := hcov e (mem_delL.1 he).1
    rcases (hmem n).1 hn with rfl | hn
    · exact ⟨_, List.mem_cons_self, e2⟩
    · exact ⟨n, List.mem_cons_of_mem _ hn, e2⟩
  · intro t' ht
    rcases List.mem_cons.1 ht with rfl | ht
    · have hsub := kdel_sub c.ds d
      exact ⟨k1.kdel d, Nat.le_trans hsub.length_le k2, fun e he => k3 e (hsub.subset he)⟩
    · exact hkd t' ((hmem t').2 (.inr ht))
theorem TrInv.prune {t : Nd} {w : ByteArray} (h : TrInv L g ⟨root, G, X⟩) (hp : G.Perm (c :: t :: R)) (hk : klook w c.nx = some t.b) (htp : t.p = c.p ++ [w]) (htn : t.nx = []) (htd : t.ds = []) : TrInv L g ⟨root, delNx c w :: R, t :: X⟩ := by
  have hs : Shp G X g root := h.shp
  have hds : ∀ n ∈ G, ∀ d x, klook d n.ds = some x ↔ x = 1 ∧ ∃ pat, (pat, d) ∈ L ∧ dots pat = n.p := h.ds
  have hcov : ∀ e ∈ L, ∃ n ∈ G, n.p = dots e.1 := h.cov
  have hkd : ∀ n ∈ G, KI n.ds n.dc ∧ n.ds.length ≤ g ∧ ∀ e ∈ n.ds, e.1.size ≤ 1099511627776 := h.kd
  have hmem : ∀ u, u ∈ G ↔ u = c ∨ u = t ∨ u ∈ R := fun u => by rw [hp.mem_iff, List.mem_cons, List.mem_cons]
  have hc : c ∈ G := (hmem c).2 (.inl rfl)
  have ht : t ∈ G := (hmem t).2 (.inr (.inl rfl))
  have hki := hs.ki c hc
  have hpp := (hp.map (·.p)).nodup_iff.1 hs.pp
  simp only [List.map_cons, List.nodup_cons, List.mem_cons, not_or] at hpp
  obtain ⟨⟨n1, n2⟩, n3, n4⟩ := hpp
  -- what leads to the node that goes is but that one word
  have fw : ∀ u ∈ G, u ≠ t → ∃ u' ∈ delNx c w :: R, u'.p = u.p ∧ u'.b = u.b ∧ ∀ w' y, klook w' u.nx = some y → y ≠ t.b → klook w' u'.nx = some y := fun u hu hne => by
    rcases (hmem u).1 hu with rfl | rfl | hu
    · refine ⟨_, List.mem_cons_self, rfl, rfl, fun w' y hy hyt => ?_⟩
      show klook w' (kdel u.nx w) = some y
      rw [klook_kdel hki, if_neg (fun e => by rw [e, hk] at hy; exact hyt (Option.some.inj hy).symm)]
      exact hy
    · exact absurd rfl hne
    · exact ⟨u, List.mem_cons_of_mem _ hu, rfl, rfl, fun w' y hy _ => hy⟩
  have bw : ∀ u' ∈ delNx c w :: R, ∃ u ∈ G, u ≠ t ∧ u'.p = u.p ∧ u'.b = u.b ∧ u'.ds = u.ds ∧ u'.dc = u.dc ∧ KI u'.nx u'.nc ∧ ∀ w' y, klook w' u'.nx = some y → klook w' u.nx = some y ∧ ¬ (u = c ∧ w' = w) := fun u' hu => by
    rcases List.mem_cons.1 hu with rfl | hu
    · refine ⟨c, hc, fun e => n1 (by rw [e]), rfl, rfl, rfl, rfl, hki.kdel w, fun w' y hy => ?_⟩
      have hy : klook w' (kdel c.nx w) = some y := hy
      rw [klook_kdel hki] at hy
      split at hy
      · cases hy
      · rename_i e; exact ⟨hy, fun q => e q.2⟩
    · have huG := (hmem u').2 (.inr (.inr hu))
      refine ⟨u', huG, fun e => n3 (by rw [← e]; exact List.mem_map_of_mem hu), rfl, rfl, rfl, rfl, hs.ki u' huG, fun w' y hy => ⟨hy, fun q => n2 (by rw [← q.1]; exact List.mem_map_of_mem hu)⟩⟩
  have hperm : (delNx c w :: R ++ t :: X).Perm (delNx c w :: t :: R ++ X) := by
    show (delNx c w :: (R ++ t :: X)).Perm (delNx c w :: t :: (R ++ X))
    exact (List.perm_middle).cons _
  refine ⟨⟨?_, ?_, ?_, ?_, ?_, ?_, ?_, ?_, ?_⟩, ?_, ?_, h.nd, ?_⟩
  · show (blocks (delNx c w :: R ++ t :: X)).Nodup
    have h1 : (blocks (delNx c w :: t :: R ++ X)).Nodup := ((hp.append_right X).flatMap_right _).nodup_iff.1 hs.bl
    exact (hperm.flatMap_right _).nodup_iff.2 h1
  · show (c.p :: R.map (·.p)).Nodup
    exact List.nodup_cons.2 ⟨n2, n4⟩
  · obtain ⟨r, hr, e1, e2⟩ := hs.rt
    have : r ≠ t := fun e => by rw [e, htp] at e1; simp at e1
    obtain ⟨r', q1, q2, q3, _⟩ := fw r hr this
    exact ⟨r', q1, q2.trans e1, q3.trans e2⟩
  · intro u' hu w' y hy
    obtain ⟨u, q1, q2, q3, q4, _, _, _, q5⟩ := bw u' hu
    obtain ⟨hy, hne⟩ := q5 w' y hy
    obtain ⟨v, v1, v2, v3⟩ := hs.nx u q1 w' y hy
    have hvt : v ≠ t := fun e => by
      rw [e, htp] at v2
      obtain ⟨a1, a2⟩ := List.append_inj' v2 rfl
      have a2 : w = w' := by simpa using a2
      exact hne ⟨(pp_inj hs.pp hc q1 a1).symm, a2.symm⟩
    obtain ⟨v', b1, b2, b3, _⟩ := fw v v1 hvt
    exact ⟨v', b1, by rw [b2, v2, q3], b3.trans v3⟩
  · intro u' hu q w' e
    obtain ⟨u, q1, q2, q3, q4, _⟩ := bw u' hu
    obtain ⟨s, s1, s2, s3⟩ := hs.par u q1 q w' (q3 ▸ e)
    have hst : s ≠ t := fun e2 => by rw [e2, htn] at s3; cases s3
    obtain ⟨s', b1, b2, b3, b4⟩ := fw s s1 hst
    refine ⟨s', b1, b2.trans s2, by rw [q4]; exact b4 _ _ s3 fun e2 => q2 (hs.inj q1 ht e2)⟩
  · intro x hx
    rcases List.mem_cons.1 hx with rfl | hx
    · exact htn
    · exact hs.dead x hx
  · have := hp.length_eq
    have h2 := hs.gl
    simp only [List.length_cons] at this ⊢
    omega
  · intro u' hu
    obtain ⟨u, q1, q2, q3, _⟩ := bw u' hu
    have := hs.pl u q1
    rw [q3]; exact this
  · intro u' hu
    obtain ⟨u, q1, q2, q3, q4, q5, q6, q7, _⟩ := bw u' hu
    exact q7
  · intro u' hu d x
    obtain ⟨u, q1, q2, q3, q4, q5, q6, _⟩ := bw u' hu
    rw [q5, q3]; exact hds u q1 d x
  · intro e he
    obtain ⟨n, hn, e2⟩ := hcov e he
    have hnt : n ≠ t := fun e3 => by
      have := (hds n hn e.2 1).2 ⟨rfl, e.1, he, e2.symm⟩
      rw [e3, htd] at this; cases this
    obtain ⟨n', v1, v2, _⟩ := fw n hn hnt
    exact ⟨n', v1, v2.trans e2⟩
  · intro u' hu
    obtain ⟨u, q1, q2, q3, q4, q5, q6, _⟩ := bw u' hu
    rw [q5, q6]; exact hkd u q1
end
end Go.Proofs.YtbmoancedlbhlaaDoor.Tpc

/- Topic: remove; Remove. -/
set_option linter.unusedVariables false
set_option linter.unusedSimpArgs false
set_option maxRecDepth 100000
namespace Go.Proofs.YtbmoancedlbhlaaDoor.Tpc
open Go Go.RowKit Go.Proofs.YtbmoancedlbhlaaDoor.Eng Go.Proofs.YtbmoancedlbhlaaDoor.Kit
theorem mem_perm {α : Type} {a : α} {l : List α} (h : a ∈ l) : ∃ R, l.Perm (a :: R) := by
  obtain ⟨l1, l2, rfl⟩ := List.append_of_mem h
  exact ⟨_, List.perm_middle⟩
theorem del_perm {G G' R R' : List Nd} {t : TypeId} {m : Nat} {k : Value} (h : FactAt Tryd.prog (famO R) (.del t m k (famO R'))) (hp : G.Perm R) (hp' : R'.Perm G') : FactAt Tryd.prog (famO G) (.del t m k (famO G')) := fun N D w tk ty hD => by
  obtain ⟨w', h1, h2, h3, h4, h5, D', h6, h7⟩ := h N D w tk ty (famN_perm hp hD)
  exact ⟨w', h1, h2, h3, h4, h5, D', famN_perm hp' h6, h7⟩
theorem gRm_ro : ∀ args, RO (gRm args) := by
  intro args
  unfold gRm
  split
  · exact RO.ret _
  · exact RO.fail _
theorem cRem_ok {ws : List ByteArray} {G G1 : List Nd} {y off l : Nat} {d : ByteArray} {t : Bool} (h : Tri Tryd.prog default fRem [ptrV y, sR off l, sv d] (oR ws G) (bv t) (oR ws G1)) (F : HP) : C1OK Tryd.prog F fRem (cRem ws G G1 y off l d t) :=
  mkC_ok (W := default) oldDef (fun _ => bv t) gRm_ro (fun _ => rfl) (fun p _ => h) fun p => ⟨rfl, rfl, ⟨trivial, rfl, trivial, trivial⟩, all_cons (rS_cl _ _) (all_cons trivial all_nil), ⟨trivial, trivial⟩, all_cons (rS_cl _ _) (all_cons trivial all_nil)⟩
theorem rS_get1 (M : List ByteArray) (i : Nat) (hi : i < M.length) (d : AV) : (rowV encS M).getD i d = sv (M.getD i nil0) := by
  have := rS_get M i hi d
  simpa using this
theorem rS_lt1 (M : List ByteArray) (i : Nat) (hi : i < M.length) : i.blt (rowV encS M).length = true := by rw [rS_len, Nat.blt_eq]; exact hi
theorem Shp.pre {g root : Nat} {G X : List Nd} (h : Shp G X g root) {s : Nd} (hs' : s ∈ G) (w : ByteArray) : ∀ (n : Nat) (r : Path), r.length = n → ∀ (t : Nd), t ∈ G → t.p = s.p ++ w :: r → ∃ c, klook w s.nx = some c
  | 0, r, hr, t, ht, hp => by
    rw [List.eq_nil_of_length_eq_zero hr] at hp
    obtain ⟨u, hu, e1, e2⟩ := h.par t ht s.p w hp
    rw [← pp_inj h.pp hu hs' e1]
    exact ⟨_, e2⟩
  | n + 1, r, hr, t, ht, hp => by
    obtain ⟨q, x, rfl⟩ : ∃ q x, r = q ++ [x] := ⟨_, _, (List.dropLast_concat_getLast (l := r) (fun e => by rw [e] at hr; cases hr)).symm⟩
    have e : t.p = (s.p ++ w :: q) ++ [x] := by rw [hp]; simp
    obtain ⟨u, hu, e1, e2⟩ := h.par t ht _ _ e
    exact h.pre hs' w n q (by simpa using hr) u hu e1
theorem delL_none {L : Pairs} {pat d : ByteArray} (h : (pat, d) ∉ L) : delL L pat d = L := by
  unfold delL
  rw [List.filter_eq_self]
  intro e he
  simp only [Bool.not_eq_true', Bool.and_eq_false_iff, decide_eq_false_iff_not]
  by_cases h1 : e.1 = pat
  · refine .inr fun h2 => h ?_
    rw [← h1, ← h2]; exact he
  · exact .inl h1
theorem dsV_one {L : Pairs} {g : Nat} {s : TrS} {c : Nd} {pat d : ByteArray} (h : TrInv L g s) (hc : c ∈ s.G) (hcp : c.p = dots pat) : dsV c d = ix (if inB L pat d = true then 1 else 0) := by
  unfold dsV
  by_cases hin : inB L pat d = true
  · rw [if_pos hin]
    rw [inB_iff] at hin
    rw [(h.ds c hc d 1).2 ⟨rfl, pat, hin, hcp.symm⟩]; rfl
  · rw [if_neg hin]
    rw [inB_iff] at hin
    cases hx : klook d c.ds with
    | none => rfl
    | some x =>
      obtain ⟨_, pat', h1, h2⟩ := (h.ds c hc d x).1 hx
      rw [dots_inj (h2.trans hcp)] at h1
      exact absurd h1 hin
section
variable {L : Pairs} {g : Nat} {pat d : ByteArray}
def RemOK (L : Pairs) (g : Nat) (pat d : ByteArray) (off l : Nat) (s : TrS) (c : Nd) : Prop :=
  ∃ s' : TrS, TrInv (delL L pat d) g s' ∧ s'.root = s.root ∧ (∀ n ∈ s.G, n.p.length ≤ off → ∃ n' ∈ s'.G, n'.p = n.p ∧ n'.b = n.b ∧ n'.nb = n.nb ∧ n'.db = n.db) ∧
    Tri Tryd.prog default fRem [ptrV c.b, sR off l, sv d] (oR (dots pat) (s.G ++ s.X)) (bv (inB L pat d)) (oR (dots pat) (s'.G ++ s'.X))
theorem rem_tri : ∀ (l off : Nat) (s : TrS) (c : Nd), TrInv L g s → c ∈ s.G → off + l = (dots pat).length → c.p = (dots pat).take off → RemOK L g pat d off l s c
  | 0, off, ⟨root, G, X⟩, c, h, hc, hl, hcp => by
    have hcp : c.p = dots pat := by rw [hcp, List.take_of_length_le (by omega)]
    obtain ⟨R, hp⟩ := mem_perm (show c ∈ G from hc)
    refine ⟨⟨root, delDs c d :: R, X⟩, h.leaf hc hp hcp, rfl, fun n hn _ => ?_, ?_⟩
    · rcases List.mem_cons.1 (hp.mem_iff.1 hn) with rfl | hn
      · exact ⟨_, List.mem_cons_self, rfl, rfl, rfl, rfl⟩
      · exact ⟨n, List.mem_cons_of_mem _ hn, rfl, rfl, rfl, rfl⟩
    · have f1 := fc_ds (List.mem_append_left X (show c ∈ G from hc))
      have f2 := fc_look_ds (List.mem_append_left X (show c ∈ G from hc)) d
      rw [dsV_one h hc hcp] at f2
      have f3 := del_perm (G := G ++ X) (G' := delDs c d :: R ++ X) (fc_del_ds c (R ++ X) d) (hp.append_right X) (List.Perm.refl _)
      have e : decide ((if inB L pat d = true then (1 : Int) else 0) > Int.ofNat 0) = inB L pat d := by
        cases inB L pat d <;> rfl
      refine tri_run (con := []) (hints := hRL (famO (delDs c d :: R ++ X)) c.db (if inB L pat d = true then 1 else 0) (inB L pat d)) (lc := []) [1, 2] rfl (fun F _ => noC) (fun _ _ => noL) fun F => ?_
      refine cast (congrArg (VAll _) (oRL_eq (dots pat) (G ++ X) (delDs c d :: R ++ X) c.b c.db off (if inB L pat d = true then 1 else 0) (inB L pat d) d F).symm) ⟨⟨?_, (fit_mk (vs' := [bv (inB L pat d)]) (H' := oR (dots pat) (delDs c d :: R ++ X)) [] rfl rfl (VW.refl _) ⟨⟨_, rfl, rS_ow rfl rfl⟩, ⟨_, rfl, OW.refl _⟩, trivial⟩).fits rfl⟩⟩
      have e2 := Wk.of_eq (congrArg bv e)
      simp only [Cnd.holds, Nat.blt_eq, true_and, and_true]
      and_intros
      all_goals first
        | exact f1
        | exact f2
        | exact f3
        | exact e2 | (with_reducible first | exact trivial | exact rfl | exact Wk.refl _ | exact VW.refl _ | exact OW.refl _ | exact wk_lit _ | assumption) | exact rfl | exact Wk.refl _ | exact VW.refl _ | exact OW.refl _ | ((repeat (first | exact VW.nil | refine VW.cons (Wk.refl _) ?_ | refine VW.cons (Wk.any _) ?_ | refine VW.cons (wk_cap (Nat.le_refl _)) ?_)); done)
  | l + 1, off, ⟨root, G, X⟩, c, h, hc, hl, hcp => by
    have hc : c ∈ G := hc
    have hs : Shp G X g root := h.shp
    have hoff : off < (dots pat).length := by omega
    have htk := take_next (dots pat) nil0 off hoff
    have g0 := rS_get1 (dots pat) off hoff
    have g1 := rS_lt1 (dots pat) off hoff
    have hdr : dots pat = (dots pat).take off ++ (dots pat).getD off nil0 :: (dots pat).drop (off + 1) := by
      have := List.take_append_drop (off + 1) (dots pat)
      rw [htk, List.append_assoc] at this
      exact this.symm
    have kb : (l + 1).ble (l + 1) = true := by rw [Nat.ble_eq]; exact Nat.le_refl _
    generalize (dots pat).getD off nil0 = w at htk g0 hdr
    have f1 := fc_nx (List.mem_append_left X hc)
    cases hk : klook w c.nx with
    | none =>
      have hin : (pat, d) ∉ L := fun hin => by
        obtain ⟨n, hn, e⟩ := h.cov _ hin
        have e : n.p = c.p ++ w :: (dots pat).drop (off + 1) := by rw [e, hcp]; exact hdr
        obtain ⟨y, hy⟩ := hs.pre hc w _ _ rfl n hn e
        rw [hk] at hy; cases hy
      have hb : inB L pat d = false := by
        cases hq : inB L pat d with
        | false => rfl
        | true => exact absurd (inB_iff.1 hq) hin
      have f2 := look_nx_none (List.mem_append_left X hc) hk
      refine ⟨⟨root, G, X⟩, by rw [delL_none hin]; exact h, rfl, fun n hn _ => ⟨n, hn, rfl, rfl, rfl, rfl⟩, ?_⟩
      rw [hb]
      refine tri_run (con := []) (hints := hintL (hR5 c.nb w (.pointer none) true)) (lc := []) [1, 2] rfl (fun F _ => noC) (fun _ _ => noL) fun F => ?_
      refine cast (congrArg (VAll _) (oRM_eq (dots pat) (G ++ X) c.b c.nb off l w d F).symm) ⟨⟨?_, (fit_mk (vs' := [bv false]) (H' := oR (dots pat) (G ++ X)) [] rfl rfl (VW.refl _) ⟨⟨_, rfl, rS_ow rfl rfl⟩, ⟨_, rfl, OW.refl _⟩, trivial⟩).fits rfl⟩⟩
      simp only [Cnd.holds, g0, g1, AV.strOf, sv, Nat.blt_eq, true_and, and_true]
      and_intros
      all_goals first
        | exact f1
        | exact f2 | (with_reducible first | exact trivial | exact rfl | exact Wk.refl _ | exact VW.refl _ | exact OW.refl _ | exact wk_lit _ | assumption) | exact rfl | exact Wk.refl _ | exact VW.refl _ | exact OW.refl _ | ((repeat (first | exact VW.nil | refine VW.cons (Wk.refl _) ?_ | refine VW.cons (Wk.any _) ?_ | refine VW.cons (wk_cap (Nat.le_refl _)) ?_)); done)
    | some y =>
      obtain ⟨t0, ht0, ht0p, ht0b⟩ := hs.nx c hc w y hk
      obtain ⟨s1, h1, hr1, hpres, htri⟩ := rem_tri l (off + 1) ⟨root, G, X⟩ t0 h ht0 (by omega) (by rw [ht0p, hcp, htk])
      obtain ⟨rt1, G1, X1⟩ := s1
      have hr1 : rt1 = root := hr1
      subst hr1
      have hs1 : Shp G1 X1 g rt1 := h1.shp
      have hcl : c.p.length = off := by rw [hcp, List.length_take]; omega
      have htl : t0.p.length = off + 1 := by rw [ht0p, List.length_append, hcl]; rfl
      obtain ⟨c1, hc1, c1p, c1b, c1n, c1d⟩ := hpres c hc (by omega)
      obtain ⟨t1, ht1, t1p, t1b, t1n, t1d⟩ := hpres t0 ht0 (by omega)
      have hc1 : c1 ∈ G1 := hc1
      have ht1 : t1 ∈ G1 := ht1
      have hk1 : klook w c1.nx = some t1.b := by
        obtain ⟨u, hu, e1, e2⟩ := hs1.par t1 ht1 c.p w (by rw [t1p, ht0p])
        rw [pp_inj hs1.pp hu hc1 (e1.trans c1p.symm)] at e2
        exact e2
      have f2 := look_nx_some (List.mem_append_left X hc) hk
      have f3 := fc_nx (List.mem_append_left X1 ht1)
      have f4 := fc_len_nx (List.mem_append_left X1 ht1)
      have f5 := fc_ds (List.mem_append_left X1 ht1)
      have f6 := fc_len_ds (List.mem_append_left X1 ht1)
      rw [show t1.b = y from t1b.trans ht0b] at f3 f5
      rw [show t0.b = y from ht0b] at htri
      have hpres' : ∀ n ∈ G, n.p.length ≤ off → ∃ n' ∈ G1, n'.p = n.p ∧ n'.b = n.b ∧ n'.nb = n.nb ∧ n'.db = n.db := fun n hn hle => hpres n hn (by omega)
      by_cases hnx : t1.nx = []
      · by_cases hds : t1.ds = []
        · -- the node goes
          have hct : c1 ≠ t1 := fun e => by
            have := congrArg (fun n : Nd => n.p.length) e
            simp only [c1p, t1p, hcl, htl] at this
            omega
          obtain ⟨R0, hp0⟩ := mem_perm hc1
          have ht1R : t1 ∈ R0 := by
            rcases List.mem_cons.1 (hp0.mem_iff.1 ht1) with e | ht
            · exact absurd e.symm hct
            · exact ht
          obtain ⟨R, hpR⟩ := mem_perm ht1R
          have hp : G1.Perm (c1 :: t1 :: R) := hp0.trans (hpR.cons _)
          have hI := h1.prune hp hk1 (by rw [t1p, ht0p, c1p]) hnx hds
          have hperm : (delNx c1 w :: (t1 :: R ++ X1)).Perm (delNx c1 w :: R ++ t1 :: X1) := by
            show (delNx c1 w :: (t1 :: (R ++ X1))).Perm (delNx c1 w :: (R ++ t1 :: X1))
            exact (List.perm_middle.symm).cons _
          have f7 := del_perm (G := G1 ++ X1) (fc_del_nx c1 (t1 :: R ++ X1) w) (hp.append_right X1) hperm
          have f8 := fc_nx (List.mem_append_left X1 hc1)
          rw [c1n] at f7
          rw [c1n, c1b] at f8
          rw [hnx] at f4
          rw [hds] at f6
          refine ⟨⟨rt1, delNx c1 w :: R, t1 :: X1⟩, hI, rfl, fun n hn hle => ?_, ?_⟩
          · obtain ⟨n1, hn1, e1, e2, e3, e4⟩ := hpres' n hn hle
            have hnt : n1 ≠ t1 := fun e => by
              have := congrArg (fun n : Nd => n.p.length) e
              simp only [e1, t1p, htl] at this
              omega
            rcases List.mem_cons.1 (hp.mem_iff.1 hn1) with rfl | hn1
            · exact ⟨_, List.mem_cons_self, e1, e2, e3, e4⟩
            · rcases List.mem_cons.1 hn1 with e | hn1
              · exact absurd e hnt
              · exact ⟨n1, List.mem_cons_of_mem _ hn1, e1, e2, e3, e4⟩
          · refine tri_run (con := [(fRem, cRem (dots pat) (G ++ X) (G1 ++ X1) y (off + 1) l d (inB L pat d))]) (hints := hRP (famO (delNx c1 w :: R ++ t1 :: X1)) c.nb w y t1.nb t1.db) (lc := []) [1, 2] rfl (fun F _ => one_c (cRem_ok htri F)) (fun _ _ => noL) fun F => ?_
            refine cast (congrArg (VAll _) (oRP_eq (dots pat) (G ++ X) (G1 ++ X1) (delNx c1 w :: R ++ t1 :: X1) c.b c.nb off l w d y t1.nb t1.db (inB L pat d) F).symm) ⟨⟨?_, (fit_mk (vs' := [bv (inB L pat d)]) (H' := oR (dots pat) (delNx c1 w :: R ++ t1 :: X1)) [] rfl rfl (VW.refl _) ⟨⟨_, rfl, rS_ow (by rw [rens_rowV]) rfl⟩, ⟨_, rfl, OW.refl _⟩, trivial⟩).fits rfl⟩⟩
            simp only [Cnd.holds, g0, g1, AV.strOf, sv, rens_rowV, kb, Nat.blt_eq, true_and, and_true]
            and_intros
            all_goals first
              | exact f1
              | exact f2
              | exact f3
              | exact f4
              | exact f5
              | exact f6
              | exact f7
              | exact f8 | (with_reducible first | exact trivial | exact rfl | exact Wk.refl _ | exact VW.refl _ | exact OW.refl _ | exact wk_lit _ | assumption) | exact rfl | exact Wk.refl _ | exact VW.refl _ | exact OW.refl _ | ((repeat (first | exact VW.nil | refine VW.cons (Wk.refl _) ?_ | refine VW.cons (Wk.any _) ?_ | refine VW.cons (wk_cap (Nat.le_refl _)) ?_)); done)
        · refine ⟨⟨rt1, G1, X1⟩, h1, rfl, hpres', ?_⟩
          have hne : (Int.ofNat t1.ds.length == Int.ofNat 0) = false := by
            rw [beq_eq_false_iff_ne]
            intro e
            have : t1.ds.length = 0 := Int.ofNat.inj e
            exact hds (List.eq_nil_of_length_eq_zero this)
          rw [hnx] at f4
          refine tri_run (con := [(fRem, cRem (dots pat) (G ++ X) (G1 ++ X1) y (off + 1) l d (inB L pat d))]) (hints := hRB c.nb w y t1.nb t1.db t1.ds.length) (lc := []) [1, 2] rfl (fun F _ => one_c (cRem_ok htri F)) (fun _ _ => noL) fun F => ?_
          refine cast (congrArg (VAll _) (oRB_eq (dots pat) (G ++ X) (G1 ++ X1) c.b c.nb off l w d y t1.nb t1.db t1.ds.length (inB L pat d) F).symm) ⟨⟨?_, (fit_mk (vs' := [bv (inB L pat d)]) (H' := oR (dots pat) (G1 ++ X1)) [] rfl rfl (VW.refl _) ⟨⟨_, rfl, rS_ow (by rw [rens_rowV]) rfl⟩, ⟨_, rfl, OW.refl _⟩, trivial⟩).fits rfl⟩⟩
          simp only [Cnd.holds, g0, g1, AV.strOf, sv, rens_rowV, kb, Nat.blt_eq, true_and, and_true]
          and_intros
          all_goals first
            | exact f1
            | exact f2
            | exact f3
            | exact f4
            | exact f5
            | exact f6
            | exact wk_litE hne | (with_reducible first | exact trivial | exact rfl | exact Wk.refl _ | exact VW.refl _ | exact OW.refl _ | exact wk_lit _ | assumption) | exact rfl | exact Wk.refl _ | exact VW.refl _ | exact OW.refl _ | ((repeat (first | exact VW.nil | refine VW.cons (Wk.refl _) ?_ | refine VW.cons (Wk.any _) ?_ | refine VW.cons (wk_cap (Nat.le_refl _)) ?_)); done)
      · refine ⟨⟨rt1, G1, X1⟩, h1, rfl, hpres', ?_⟩
        have hne : (Int.ofNat t1.nx.length == Int.ofNat 0) = false := by
          rw [beq_eq_false_iff_ne]
          intro e
          have : t1.nx.length = 0 := Int.ofNat.inj e
          exact hnx (List.eq_nil_of_length_eq_zero this)
        refine tri_run (con := [(fRem, cRem (dots pat) (G ++ X) (G1 ++ X1) y (off + 1) l d (inB L pat d))]) (hints := hRA c.nb w y t1.nb t1.nx.length) (lc := []) [1, 2] rfl (fun F _ => one_c (cRem_ok htri F)) (fun _ _ => noL) fun F => ?_
        refine cast (congrArg (VAll _) (oRA_eq (dots pat) (G ++ X) (G1 ++ X1) c.b c.nb off l w d y t1.nb t1.nx.length (inB L pat d) F).symm) ⟨⟨?_, (fit_mk (vs' := [bv (inB L pat d)]) (H' := oR (dots pat) (G1 ++ X1)) [] rfl rfl (VW.refl _) ⟨⟨_, rfl, rS_ow (by rw [rens_rowV]) rfl⟩, ⟨_, rfl, OW.refl _⟩, trivial⟩).fits rfl⟩⟩
        simp only [Cnd.holds, g0, g1, AV.strOf, sv, rens_rowV, kb, Nat.blt_eq, true_and, and_true]
        and_intros
        all_goals first
          | exact f1
          | exact f2
          | exact f3
          | exact f4
          | exact f5
          | exact f6
          | exact wk_litE hne | (with_reducible first | exact trivial | exact rfl | exact Wk.refl _ | exact VW.refl _ | exact OW.refl _ | exact wk_lit _ | assumption) | exact rfl | exact Wk.refl _ | exact VW.refl _ | exact OW.refl _ | ((repeat (first | exact VW.nil | refine VW.cons (Wk.refl _) ?_ | refine VW.cons (Wk.any _) ?_ | refine VW.cons (wk_cap (Nat.le_refl _)) ?_)); done)
end
end Go.Proofs.YtbmoancedlbhlaaDoor.Tpc

