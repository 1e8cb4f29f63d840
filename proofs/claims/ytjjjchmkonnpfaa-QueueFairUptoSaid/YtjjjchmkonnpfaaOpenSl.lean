/- A slice of structs that comes in, whatever its struct: its cells, read as a list of plain records. -/
import Derived.Test.YtjjjchmkonnpfaaMem
import Derived.Test.YtjjjchmkonnpfaaPieces
import Derived.Deep.Slices
import Derived.SizedLaws
set_option linter.unusedVariables false
set_option linter.unusedSimpArgs false
namespace Go.Proofs.Ytjjjchmkonnpfaa
open Go.ChangeShapes Go.WideShapes Go.RowKit Go.Deep
section
variable {H : Type} {enc : TypeId × Value → H} {P : Program} {w : World} {base : Nat} {spare : Nat → Bool} {held : Bool}
/-- No part of what is read weighs more than memory holds. -/
def Light (P : Program) (t : TypeId) (d : DataW H) : Prop := ∀ n ∈ d.weights P t, n ≤ reachBytes
theorem light_args {ts : List TypeId} {ds : List (DataW H)} (h : (DataW.weightsEach P ts ds).all (· ≤ reachBytes) = true) {j : Nat} {t : TypeId} {d : DataW H} (ht : ts[j]? = some t) (hd : ds[j]? = some d) : Light P t d := fun n hn => by
  simpa using List.all_eq_true.1 h n (DataW.weights_mem_each ht hd n hn)
theorem weightsAll_mem {e : TypeId} : ∀ {l : List (DataW H)} {d : DataW H}, d ∈ l → ∀ n ∈ d.weights P e, n ∈ DataW.weightsAll P e l
  | x :: l, d, hd, n, hn => by
    rw [DataW.weightsAll, List.mem_append]
    rcases List.mem_cons.1 hd with rfl | hd
    · exact .inl hn
    · exact .inr (weightsAll_mem hd n hn)
theorem Light.elem {t e : TypeId} {elems sp : List (DataW H)} (hu : P.underlying t = some (.slice e)) (h : Light P t (.slice elems sp)) {d : DataW H} (hd : d ∈ elems) : Light P e d := fun n hn => by
  refine h n ?_
  simp only [DataW.weights, hu, List.mem_cons, List.mem_append]
  exact .inr (.inl (weightsAll_mem hd n hn))
theorem Light.len {t e : TypeId} {elems sp : List (DataW H)} (hu : P.underlying t = some (.slice e)) (h : Light P t (.slice elems sp)) : (elems.length + sp.length) * P.bytesOf e ≤ reachBytes :=
  h _ (by simp only [DataW.weights, hu, List.mem_cons, true_or])
theorem Light.field {t : TypeId} {fs : Array Field} {parts : List (DataW H)} (hu : P.underlying t = some (.struct fs)) (h : Light P t (.agg parts)) {i : Nat} {f : Field} {d : DataW H} (hf : fs[i]? = some f) (hp : parts[i]? = some d) : Light P f.type d := fun n hn => by
  refine h n ?_
  simp only [DataW.weights, hu]
  exact DataW.weights_mem_each (j := i) (by simp [hf]) hp n hn
theorem Light.str {t : TypeId} {bytes : List UInt8} (h : Light P t (.lit (.string bytes) : DataW H)) : bytes.length ≤ reachBytes := h _ (by simp [DataW.weights])

theorem open_rd {α : Type} (f : α → List Value) {size : Nat} (h0 : 0 < size) (hf : ∀ x, (f x).length = size) {t e : TypeId} (ht : P.underlying t = some (.slice e)) (hC : P.cellsOf e = size)
    {Q : α → Prop} (hopen : ∀ (n : Nat) (cs : List Value) (x : DataW H × List MemPlace), DataW.trod enc P w base spare held n e cs = some x → Light P e x.1 → ∃ p : α, cs = f p ∧ Q p)
    {fuel : Nat} {A : Option Addr} {len cap : Nat} {x : DataW H × List MemPlace} (h : DataW.trod enc P w base spare held fuel t [.slice A len cap] = some x) (hlight : Light P t x.1) :
    ∃ l : List α, l.length = len ∧ len ≤ maxLen ∧ len * P.bytesOf e ≤ reachBytes ∧ Rd w A len size (l.flatMap f) ∧ ∀ p ∈ l, Q p := by
  rcases open_slice ht h with ⟨hcs, _⟩ | ⟨a, len', cap', m, n, D, Pl, hcs, hb, hl, hm, hmm, hx, hi⟩
  · simp only [List.cons.injEq, Value.slice.injEq, and_true] at hcs
    obtain ⟨rfl, rfl, rfl⟩ := hcs
    exact ⟨[], rfl, Nat.zero_le _, by omega, Rd.nil _, fun p hp => by cases hp⟩
  · simp only [List.cons.injEq, Value.slice.injEq, and_true] at hcs
    obtain ⟨rfl, rfl, rfl⟩ := hcs
    rw [hx] at hlight
    have hlb := hlight.len ht
    have hlm : len ≤ m := by rw [hmm]; split <;> omega
    have hall : ∀ i : Fin len, ∃ p : α, Q p ∧ ∀ j u, (f p)[j]? = some u → w.cell? (a.add (i.1 * size + j)) = some u := fun i => by
      obtain ⟨cs', hc, ht'⟩ := hi i.1 (by omega)
      obtain ⟨p, rfl, hq⟩ := hopen _ _ _ ht' (hlight.elem ht (List.mem_map.2 ⟨i.1, List.mem_range.2 i.2, rfl⟩))
      refine ⟨p, hq, fun j u hu => ?_⟩
      obtain ⟨_, hcl, hat⟩ := World.cells?_some hc
      have hj : j < P.cellsOf e := by rw [hC, ← hf p]; exact (List.getElem?_eq_some_iff.1 hu).1
      rw [← hu, ← hat j hj, hC, add_add']
    obtain ⟨g, hg⟩ := Classical.axiomOfChoice hall
    refine ⟨List.ofFn g, by simp, by omega, ?_, ?_, fun p hp => ?_⟩
    · refine Nat.le_trans (Nat.mul_le_mul_right _ ?_) hlb
      simp
    rotate_left
    · obtain ⟨i, rfl⟩ := List.mem_ofFn.1 hp
      exact (hg i).1
    refine ⟨by rw [pieces_length hf]; simp, fun _ => ⟨a, rfl⟩, fun ad he j u hu => ?_⟩
    obtain rfl := Option.some.inj he
    have hj : j < len * size := by
      have := (List.getElem?_eq_some_iff.1 hu).1
      rw [pieces_length hf] at this
      simpa using this
    have hq : j / size < len := by rw [Nat.div_lt_iff_lt_mul h0]; exact hj
    have hd : j / size * size + j % size = j := by rw [Nat.mul_comm]; exact Nat.div_add_mod j size
    have hk : j / size < (List.ofFn g).length := by simpa using hq
    have hp := pieces_get hf (List.ofFn g) (j / size) (j % size) hk (Nat.mod_lt _ h0)
    rw [hd, hu] at hp
    have := (hg ⟨j / size, hq⟩).2 (j % size) u (by rw [hp]; simp)
    rwa [hd] at this
end
end Go.Proofs.Ytjjjchmkonnpfaa
