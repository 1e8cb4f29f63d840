/- slices.Sorted(maps.Keys(m)) in the engine. No program. -/
import Derived.Test.YtjjjchmkonnpfaaEngCode2
import Derived.Sort.KeysCollected
import Derived.Lib.SlKeysI
import Derived.Maps.Own
set_option linter.unusedVariables false
set_option linter.unusedSimpArgs false
namespace Go.Proofs.Ytjjjchmkonnpfaa.Eng
open Go Go.RowKit Go.Maps Go.MapKept
open Go.WideElems (Fit rd rg)
section
variable {α : Type} {le : α -> α -> Bool}
theorem LD' (x : α) : ∀ l, (insS le x l).Perm (x :: l)
 | [] => .refl _
 | y :: l => by
  unfold insS; split
  ·exact .refl _
  ·exact ((LD' x l).cons y).trans (.swap x y l)
theorem J7' : ∀ l : List α, (QA' le l).Perm l
 | [] => .refl _
 | x :: l => (LD' x _).trans ((J7' l).cons x)
theorem LC' (tr : ∀ a b c, le a b = true -> le b c = true -> le a c = true) (to : ∀ a b, (le a b || le b a) = true) (x : α) : ∀ l : List α, l.Pairwise (fun a b => le a b = true) -> (insS le x l).Pairwise (fun a b => le a b = true)
 | [], _ => by simp [insS]
 | y :: l, h => by
  unfold insS; rw [List.pairwise_cons] at h; split
  ·rename_i hxy; rw [List.pairwise_cons]
   refine ⟨fun z hz => ?_, List.pairwise_cons.2 h⟩
   rcases List.mem_cons.1 hz with rfl | hz
   ·exact hxy
   ·exact tr _ _ _ hxy (h.1 z hz)
  ·rename_i hxy
   have hyx : le y x = true := by
    have := to x y; rw [Bool.or_eq_true] at this
    rcases this with h | h
    ·rw [hxy] at h; cases h
    ·exact h
   rw [List.pairwise_cons]
   refine ⟨fun z hz => ?_, LC' tr to x l h.2⟩
   have := (LD' (le := le) x l).mem_iff.1 hz
   rcases List.mem_cons.1 this with rfl | hz
   ·exact hyx
   ·exact h.1 z hz
theorem JS' (tr : ∀ a b c, le a b = true -> le b c = true -> le a c = true) (to : ∀ a b, (le a b || le b a) = true) : ∀ l : List α, (QA' le l).Pairwise (fun a b => le a b = true)
 | [] => by simp [QA']
 | x :: l => LC' tr to x _ (JS' tr to l)
end
theorem leZ_eq (a b : Int) : leZ a b = decide (a <= b) := rfl
def a7' (P : Program) (fS g : FuncId) (e : TypeId) : Prop :=
 ∀ (Bm b nn : Nat) (D0 : DataW Unit) (R : Value -> Option (DataW Unit × List MemPlace)) (w : World), Bm < w.heap.size -> w.cell? ⟨Bm, 0, none⟩ = some (.map (some b)) -> w.ownsMap P e R b nn D0 -> Maps.size D0 <= maxLen -> Maps.size D0 * 16 <= 140737488355328 ->
  Calls P fS #[.func (.func g) #[] #[.pointer (some ⟨Bm, 0, none⟩)]] w fun en w' => ∃ (v : Value) (ss : List Γ), en = .returned v /\ ss.Perm (strKeys D0) /\
   w'.ownsRow w.heap.size e 1 v ss.length ((ss.mergeSort (fun x y => decide (x <= y))).map encStr) /\ (v = .slice none 0 0 ↔ ss = []) /\ Below w.heap.size w w'
def GG' (P : Program) (fS g : FuncId) (e : TypeId) : Prop :=
 ∀ (Bm b nn : Nat) (D0 : DataW Unit) (R : Value -> Option (DataW Unit × List MemPlace)) (w : World), Bm < w.heap.size -> w.cell? ⟨Bm, 0, none⟩ = some (.map (some b)) -> w.ownsMap P e R b nn D0 -> Maps.size D0 <= maxLen -> Maps.size D0 * 8 <= 140737488355328 ->
  Calls P fS #[.func (.func g) #[] #[.pointer (some ⟨Bm, 0, none⟩)]] w fun en w' => ∃ (v : Value) (ss : List Int), en = .returned v /\ ss.Perm (intKeys D0) /\
   w'.ownsRow w.heap.size e 1 v ss.length ((ss.mergeSort (fun x y => decide (x <= y))).map encZ) /\ (v = .slice none 0 0 ↔ ss = []) /\ Below w.heap.size w w'
section
variable {P : Program} {E : Env} {W0 w : World} {N : A4'} {F : HP} {st : Bool} {h h' : T} {n n' : Nat} {lg lg' : Log} {c : Cnd}
theorem HR' : ∀ {es : List (AV × AV × Nat)} {ks : List Int} {es' : List MapEntry}, IT' es = some ks -> ERs N es es' -> es'.map (·.key) = ks.map encZ
 | [], ks, es', h, he => by
  simp only [IT', Option.some.injEq] at h; subst h; simp only [ERs] at he; subst he; rfl
 | (a, x, b) :: es, ks, es', h, he => by
  obtain ⟨e, r, h1, h2, rfl⟩ := he; unfold IT' at h; split at h
  ·rename_i hh; cases hh
  ·rename_i s _ _ l hh; cases hh; split at h
   ·rename_i q hq; cases h; have hk : e.key = .int .i64 s := VR_v.1 h1.1; rw [List.map_cons, List.map_cons, HR' hq h2, hk]
   ·cases h
  ·cases h
theorem ERs.borns : ∀ {es : List (AV × AV × Nat)} {es' : List MapEntry}, ERs N es es' -> es'.map (·.born) = es.map (·.2.2)
 | [], es', he => by simp only [ERs] at he; subst he; rfl
 | (a, x, b) :: es, es', ⟨e, r, h1, h2, h3⟩ => by subst h3; rw [List.map_cons, List.map_cons, ERs.borns h2, h1.2.2]
end
end Go.Proofs.Ytjjjchmkonnpfaa.Eng
