/- The engine's maps and the rest do what the model does. No program. -/
import Derived.Test.YtnnojnlejlokhaaGreatDoorEngEq
set_option linter.unusedVariables false
set_option linter.unusedSimpArgs false
namespace Go.Proofs.YtnnojnlejlokhaaGreatDoor.Eng
open Go Go.RowKit
variable {t : TypeId}
theorem DH' {P : Program} {α : Type} : ∀ (s : Sem α) {a : α}, CE' P s = some a -> ∀ w, s.run P w = .ok a w := by
 intro s
 induction s with
 | pure b => intro a h w; simp only [CE', Option.some.injEq] at h; subst h; rfl
 | program k ih => intro a h w; exact ih P h w
 | mark m k ih => intro a h w; exact ih h w
 | _ => intro a h; cases h
theorem HI' {N : A9'} : ∀ {l : List (AV × AV × Nat)} {r : List MapEntry}, ERs N l r ↔ l.length = r.length /\ ∀ (j : Nat) (x : AV × AV × Nat) (y : MapEntry), l[j]? = some x -> r[j]? = some y -> ER N x y
 | [], r => by
  simp only [ERs]
  constructor
  ·rintro rfl; exact ⟨rfl, fun j x y h => by simp at h⟩
  ·rintro ⟨h, _⟩; exact List.eq_nil_of_length_eq_zero (by simpa using h.symm)
 | x :: l, [] => by simp [ERs]
 | x :: l, y :: r => by
  simp only [ERs]
  constructor
  ·rintro ⟨e, r', h1, h2, h3⟩; cases h3; obtain ⟨h3, h4⟩ := HI'.1 h2
   refine ⟨by simp [h3], fun j a b ha hb => ?_⟩
   cases j with
   | zero => simp at ha hb; subst ha hb; exact h1
   | succ j => exact h4 j a b (by simpa using ha) (by simpa using hb)
  ·rintro ⟨h1, h2⟩
   exact ⟨y, r, h2 0 x y rfl rfl, HI'.2 ⟨by simpa using h1, fun j a b ha hb => h2 (j + 1) a b (by simpa using ha) (by simpa using hb)⟩, rfl⟩
theorem ERs.get {N : A9'} {l : List (AV × AV × Nat)} {r : List MapEntry} (h : ERs N l r) {j : Nat} {x : AV × AV × Nat} (hx : l[j]? = some x) : ∃ y, r[j]? = some y /\ ER N x y := by
 obtain ⟨h1, h2⟩ := HI'.1 h; have hj : j < l.length := (List.getElem?_eq_some_iff.1 hx).1; have hr : r[j]? = some r[j] := List.getElem?_eq_getElem ω; exact ⟨_, hr, h2 j x _ hx hr⟩
theorem ERs.set {N : A9'} {l : List (AV × AV × Nat)} {r : List MapEntry} (h : ERs N l r) {j : Nat} {x : AV × AV × Nat} {y : MapEntry} (hxy : ER N x y) : ERs N (l.set j x) (r.set j y) := by
 obtain ⟨h1, h2⟩ := HI'.1 h
 refine HI'.2 ⟨by simp [h1], fun k a b ha hb => ?_⟩
 rw [List.getElem?_set] at ha hb; split at ha
 ·rename_i e; subst e; rw [if_pos rfl] at hb; split at ha
  ·split at hb
   ·cases ha; cases hb; exact hxy
   ·cases hb
  ·cases ha
 ·rename_i e; rw [if_neg e] at hb; exact h2 k a b ha hb
theorem ERs.push {N : A9'} {l : List (AV × AV × Nat)} {r : List MapEntry} (h : ERs N l r) {x : AV × AV × Nat} {y : MapEntry} (hxy : ER N x y) : ERs N (l ++ [x]) (r ++ [y]) := by
 induction l generalizing r with
 | nil => simp only [ERs] at h; subst h; exact ⟨y, [], hxy, rfl, rfl⟩
 | cons a l ih =>
  obtain ⟨e, r', h1, h2, rfl⟩ := h; exact ⟨e, r' ++ [y], h1, ih h2, rfl⟩
theorem ERs.erase {N : A9'} {l : List (AV × AV × Nat)} {r : List MapEntry} (h : ERs N l r) (j : Nat) : ERs N (l.eraseIdx j) (r.eraseIdx j) := by
 induction l generalizing r j with
 | nil => simp only [ERs] at h; subst h; simp [ERs]
 | cons a l ih =>
  obtain ⟨e, r', h1, h2, rfl⟩ := h
  cases j with
  | zero => exact h2
  | succ j => exact ⟨e, _, h1, ih h2 j, rfl⟩
section
variable {P : Program} {E : Env} {W0 w : World} {N : A9'} {F : HP} {st : Bool} {h h' : T} {n n' : Nat} {lg lg' : Log} {c : Cnd}
theorem Q8' {kk : IntKind} (hd : P.underlying t = some (.int kk)) (m : Nat) (k : IntKind) (a b : Int) (w : World) : (Op.equalIn (m + 1) t (.int k a) (.int k b)).run P w = .ok (a == b) w := by
 simp only [Op.equalIn, Sem.run_bind, run_underlying hd, Result.andThen_ok, if_true, Sem.run_pure]
theorem L6' (hd : P.underlying t = some .string) (m : Nat) (a b : Δ) (w : World) : (Op.equalIn (m + 1) t (.string a) (.string b)).run P w = .ok (a == b) w := by
 simp only [Op.equalIn, Sem.run_bind, run_underlying hd, Result.andThen_ok, Sem.run_pure]
theorem OS' (hd : P.underlying t = some .bool) (m : Nat) (a b : Bool) (w : World) : (Op.equalIn (m + 1) t (.bool a) (.bool b)).run P w = .ok (a == b) w := by
 simp only [Op.equalIn, Sem.run_bind, run_underlying hd, Result.andThen_ok, Sem.run_pure]
theorem M3' {d : TypeDesc} (hd : P.underlying t = some d) {a b : Value} {r : Bool} (hs : Instr.sameNow d a b = some r) (w : World) : (Op.equal t a b).run P w = .ok r w := by
 unfold Instr.sameNow at hs; split at hs
 ·split at hs
  ·rename_i k n k' m hk; cases hs; subst hk; exact Q8' hd 9999 _ _ _ w
  ·cases hs
 ·cases hs; exact L6' hd 9999 _ _ w
 ·cases hs; exact OS' hd 9999 _ _ w
 ·cases hs
theorem Q1' (hE : EnvOk P E) (r : Rep W0 N F h w) {d : TypeDesc} (hd : P.underlying t = some d) {a b : AV} {va vb : Value} {q : Bool} (ha : VR N a va) (hb : VR N b vb) (he : (Q2' P E t a b).run st h n lg = .ok q h' n' lg' c) :
  (Op.equal t va vb).run P w = .ok q w /\ (∀ r', Instr.sameNow d va vb = some r' -> r' = q) /\ h' = h /\ n' = n := by
 unfold Q2' at he; split at he
 ·rename_i x y hx hy; obtain rfl := DM' hx ha; obtain rfl := DM' hy hb; simp only [hd, Option.getD_some] at he
  cases hs : Instr.sameNow d va vb with
  | some r0 =>
   rw [hs] at he; obtain ⟨rfl, rfl, rfl⟩ := A7' he
   exact ⟨M3' hd hs w, fun r' hr => by cases hr; rfl, rfl, rfl⟩
  | none =>
   rw [hs] at he; obtain ⟨h1, rfl, rfl⟩ := MI' he; exact ⟨DH' _ h1 w, (fun r' hr => by cases hr), rfl, rfl⟩
 ·obtain ⟨h1, rfl, rfl, h2, h3, _⟩ := J9' hE r ha hb he
  refine ⟨h1, fun r' hr => ?_, rfl, rfl⟩
  cases va <;> simp only [KC', Bool.false_eq_true] at h2 <;> cases d <;> simp [Instr.sameNow] at hr
def FR (N : A9') : Option (Nat × AV) -> Option (Nat × Value) -> Prop
 | none, none => True
 | some (j, x), some (k, y) => j = k /\ VR N x y
 | _, _ => False
theorem LR' (hE : EnvOk P E) (rr : Rep W0 N F h w) {t : TypeId} {d : TypeDesc} (hd : P.underlying t = some d) {k : AV} {vk : Value} (hk : VR N k vk) : ∀ (es : List (AV × AV × Nat)) (es' : List MapEntry) (i : Nat) {h' : T} {n n' : Nat} {lg lg' : Log} {c : Cnd} {r : Option (Nat × AV)}, ERs N es es' ->
  (Eng.findKey P E t k es i).run st h n lg = .ok r h' n' lg' c ->
  h' = h /\ n' = n /\ ∃ r', FR N r r' /\ (Instr.findAsking t vk es' i).run P w = .ok r' w /\ (∀ r'', Instr.findNow d vk es' i = some r'' -> r'' = r') /\ ∀ j x, r = some (j, x) -> i <= j /\ ∃ e, es[j - i]? = some e /\ e.2.1 = x
 | [], es', i, h', n, n', lg, lg', c, r, hes, he => by
  simp only [ERs] at hes; subst hes; obtain ⟨rfl, rfl, rfl⟩ := A7' he
  exact ⟨rfl, rfl, none, trivial, rfl, fun r'' h => by cases h; rfl, fun j x h => by cases h⟩
 | (a, x, b) :: es, es', i, h', n, n', lg, lg', c, r, hes, he => by
  obtain ⟨e, es'', ⟨h1, h2, h3⟩, h4, rfl⟩ := hes; unfold Eng.findKey at he; obtain ⟨eq, g1, n1, lg1, c1, c2, e1, he2, _⟩ := run_bind (Q2' P E t k a) _ he; clear he; obtain ⟨q1, q2, hg, rfl⟩ := Q1' hE rr hd hk h1 e1; rw [hg] at he2
  cases eq with
  | true =>
   obtain ⟨rfl, rfl, rfl⟩ := A7' he2
   refine ⟨rfl, rfl, some (i, e.val), ⟨rfl, h2⟩, ?_, fun r'' hr => ?_, fun j y hj => ?_⟩
   ·simp [Instr.findAsking, Sem.run_bind, q1]
   ·simp only [Instr.findNow] at hr; split at hr
    ·cases hr; rfl
    ·rename_i hs; cases q2 _ hs
    ·cases hr
   ·cases hj; exact ⟨Nat.le_refl _, (a, x, b), by simp, rfl⟩
  | false =>
   obtain ⟨rfl, rfl, r', f1, f2, f3, f4⟩ := LR' hE rr hd hk es es'' (i + 1) h4 he2
   refine ⟨rfl, rfl, r', f1, ?_, fun r'' hr => ?_, fun j y hj => ?_⟩
   ·simp [Instr.findAsking, Sem.run_bind, q1, f2]
   ·simp only [Instr.findNow] at hr; split at hr
    ·rename_i hs; cases q2 _ hs
    ·exact f3 _ hr
    ·cases hr
   ·obtain ⟨k1, e0, k2, k3⟩ := f4 j y hj
    exact ⟨ω, e0, by rw [show j - i = (j - (i + 1)) + 1 from ω]; simpa using k2, k3⟩
theorem CP' (hE : EnvOk P E) (rr : Rep W0 N F h w) {d : TypeDesc} (hd : P.underlying t = some d) {k : AV} {vk : Value} (hk : VR N k vk) {es : List (AV × AV × Nat)} {es' : List MapEntry} {r : Option (Nat × AV)} (hes : ERs N es es')
  (he : (Eng.findKey P E t k es 0).run st h n lg = .ok r h' n' lg' c) : h' = h /\ n' = n /\ ∃ r', FR N r r' /\ (Instr.findKey t vk es').run P w = .ok r' w /\ ∀ j x, r = some (j, x) -> ∃ e, es[j]? = some e /\ e.2.1 = x := by
 obtain ⟨h1, h2, r', h3, h4, h5, h6⟩ := LR' hE rr hd hk es es' 0 hes he
 refine ⟨h1, h2, r', h3, ?_, fun j x hj => by obtain ⟨_, h7⟩ := h6 j x hj; simpa using h7⟩
 simp only [Instr.findKey, Sem.run_bind, run_underlying hd, Result.andThen_ok]
 cases hn : Instr.findNow d vk es' 0 with
 | some r0 => simp only [h5 _ hn, Sem.run_pure]
 | none => exact h4
theorem I0' {α : Type} {r : α} {k : AV} {vk : Value} {f : Unit -> AP α} (hk : VR N k vk) (he : (SQ' P t k >>= f).run st h n lg = .ok r h' n' lg' c) :
  ∃ d, P.underlying t = some d /\ (∀ b w, (Instr.checkKey b 10000 t vk).run P w = .ok () w) /\ (f ()).run st h n lg = .ok r h' n' lg' c := by
 unfold SQ' at he; split at he
 ·rename_i i off; simp only [VR] at hk; obtain ⟨l, _, rfl⟩ := hk; split at he
  ·rename_i e hd
   refine ⟨_, hd, fun b w => ?_, he⟩
   have : ∀ m, (Instr.checkKey b (m + 1) t (.pointer (some ⟨l.blk, l.off + off, none⟩))).run P w = .ok () w := fun m => by
    simp only [Instr.checkKey, Sem.run_bind, run_underlying hd, Result.andThen_ok, Sem.run_pure]
   exact this 9999
  ·exact (A4' he).elim
 ·obtain ⟨v, hv, he2⟩ := (by
   cases hv : k.val? with
   | none => rw [hv] at he; cases he
   | some v => exact ⟨v, rfl, by rw [hv] at he; exact he⟩ : ∃ v, k.val? = some v /\ ((AP.opt "key type" (P.underlying t) >>= fun _ => AP.opt "key check" (CE' P (Instr.checkKey true 10000 t v)) >>= fun _ => AP.opt "key check" (CE' P (Instr.checkKey false 10000 t v))) >>= f).run st h n lg = .ok r h' n' lg' c)
  obtain rfl := DM' hv hk
  cases hd : P.underlying t with
  | none => rw [hd] at he2; cases he2
  | some d =>
   rw [hd] at he2; have he3 : ((AP.opt "key check" (CE' P (Instr.checkKey true 10000 t vk)) >>= fun _ => AP.opt "key check" (CE' P (Instr.checkKey false 10000 t vk))) >>= f).run st h n lg = .ok r h' n' lg' c := he2
   cases hp : CE' P (Instr.checkKey true 10000 t vk) with
   | none => rw [hp] at he3; cases he3
   | some u =>
    rw [hp] at he3; have he4 : (AP.opt "key check" (CE' P (Instr.checkKey false 10000 t vk)) >>= f).run st h n lg = .ok r h' n' lg' c := he3; obtain ⟨u2, h2, he5⟩ := BK' he4
    exact ⟨d, rfl, fun b w => by cases b; exact DH' _ h2 w; exact DH' _ hp w, he5⟩
theorem GS' {a b : AV} {va vb : Value} (h : CO' a b = true) (ha : VR N a va) (hb : VR N b vb) (w : World) : (Instr.keyThatStays va vb).run P w = .ok vb w := by
 unfold CO' at h; split at h
 ·rename_i i x j y; simp only [VR] at ha hb; obtain ⟨l, h1, rfl⟩ := ha; obtain ⟨l', h2, rfl⟩ := hb; rw [Bool.and_eq_true] at h; obtain rfl : i = j := Nat.eq_of_beq_eq_true h.1; obtain rfl : x = y := Nat.eq_of_beq_eq_true h.2; obtain rfl : l' = l := Option.some.inj (h2.symm.trans h1); unfold Instr.keyThatStays; rw [if_pos (by simp [Instr.sameBits])]; rfl
 ·split at h
  ·rename_i x y hx hy; obtain rfl := DM' hx ha; obtain rfl := DM' hy hb; unfold Instr.keyThatStays; rw [if_pos h]; rfl
  ·cases h
end
end Go.Proofs.YtnnojnlejlokhaaGreatDoor.Eng
