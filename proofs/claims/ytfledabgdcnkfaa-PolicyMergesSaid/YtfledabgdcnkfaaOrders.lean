/- A region that draws its order of evaluation and whose orders are of a few kinds (a variable is made now ahead of a call, now behind it): one walk for each kind. No program. -/
import Derived.Test.YtfledabgdcnkfaaRegion
set_option linter.unusedVariables false
set_option linter.unusedSimpArgs false
set_option linter.constructorNameAsVariable false
namespace Go.Proofs.Ytfledabgdcnkfaa
namespace Ord
open _root_.Go.Proofs.Ytfledabgdcnkfaa.Text (NoWay YieldsR masks masks_good left wp_some wp_unput)

/-- held · read · a call that is known to give a value and to leave the world · write. -/
inductive Cls where
  | h
  | r
  | c
  | w
  deriving DecidableEq

structure Plan where
  holds : List Nat
  vals : List (Nat × Value)

def Plan.val (p : Plan) (i : Nat) : Option Value := (p.vals.find? fun x => x.1 == i).map (·.2)
def Plan.calls (p : Plan) (i : Nat) : Bool := p.vals.any fun x => x.1 == i
def Plan.cls (p : Plan) (i : Nat) (o : Oper) : Cls :=
  if p.calls i then .c else match Text.clsAt p.holds i o with
    | .h => .h
    | .r => .r
    | .w => .w

section
variable {P : Program} {ops : Array Oper} {I : World → Prop} {p : Plan}

/-- What an operation gives, whatever the state but for what it looks at. -/
def gives (P : Program) (m : Sem Next) (w : World) (R : Value → World → Prop) : Prop :=
  match m.run P w with
  | .ok (.value v) w' => R v w'
  | .ok .skip w' => R undef w'
  | .ok (.enter f args) w' => Calls P f args w' fun e w'' => match e with
      | .returned v => R v w''
      | _ => False
  | _ => False

theorem gives_wp {o : Oper} {a : Act} {w : World} {R : Value → World → Prop} {K : Act → World → Prop} {Q : Exit → Act → World → Prop} (h : gives P (execOp a.eval o) w R) (hk : ∀ v w', R v w' → K (a.put o.dst v) w') : o.wp P a w K Q := by
  unfold gives at h
  unfold Oper.wp
  generalize (execOp a.eval o).run P w = r at *
  cases r with
  | ok n w' =>
    cases n <;> simp only [Oper.upon] at h ⊢
    case value v => exact hk _ _ h
    case skip => exact hk _ _ h
    case enter f args =>
      refine Calls.mono h fun e w'' he => ?_
      cases e with
      | returned v => exact hk _ _ he
      | panicked c => exact he.elim
      | outgrown => exact he.elim
    all_goals exact h.elim
  | halt x w' => exact h.elim

theorem gives_call {a : Act} {o : Oper} {w : World} {f : FuncId} {args : Array Value} {v : Value} (h : (execOp a.eval o).run P w = .ok (.enter f args) w) (hc : Calls P f args w fun e w' => e = .returned v ∧ w = w') :
    gives P (execOp a.eval o) w fun v' w' => v' = v ∧ w' = w := by
  unfold gives
  rw [h]
  refine hc.mono fun e w' he => ?_
  obtain ⟨rfl, rfl⟩ := he
  exact ⟨rfl, rfl⟩

/-- In every world that meets the condition the call gives v and leaves the world. -/
def CallsIf (P : Program) (ops : Array Oper) (I : World → Prop) (o : Oper) (val : Option Value) (v : Value) (a : Act) : Prop :=
  (Region.wanted o (yielded ops a.tmps) = true ∧ val = some v ∧ ∀ w, I w → gives P (execOp a.eval o) w fun v' w' => v' = v ∧ w' = w) ∨
  (Region.wanted o (yielded ops a.tmps) = false ∧ v = undef)

def Yv (P : Program) (ops : Array Oper) (I : World → Prop) (c : Cls) (val : Option Value) (o : Oper) (v : Value) (a : Act) (w : World) : Prop :=
  match c with
  | .h => YieldsIf P ops I o v a
  | .r => YieldsR P ops o v a w
  | .c => CallsIf P ops I o val v a
  | .w => False

theorem Yv.of_same {c : Cls} {val : Option Value} {o : Oper} {v : Value} {a a' : Act} {w : World} (hy : Yv P ops I c val o v a w) (he : execOp a'.eval o = execOp a.eval o)
    (hw : Region.wanted o (yielded ops a'.tmps) = Region.wanted o (yielded ops a.tmps)) : Yv P ops I c val o v a' w := by
  cases c
  · exact YieldsIf.of_same hy he hw
  · exact YieldsR.of_same hy he hw
  · show CallsIf P ops I o val v a'
    unfold CallsIf
    rw [he, hw]
    exact hy
  · exact hy.elim
/-- Where it doesn't hang on the world. -/
theorem Yv.world {c : Cls} {val : Option Value} {o : Oper} {v : Value} {a : Act} {w w' : World} (hy : Yv P ops I c val o v a w) (hc : c = .h ∨ c = .c) : Yv P ops I c val o v a w' := by
  rcases hc with rfl | rfl <;> exact hy
theorem Yv.unique {c : Cls} {val : Option Value} {o : Oper} {v u : Value} {a : Act} {w : World} (hI : I w) (h : Yv P ops I c val o v a w) (h' : Yv P ops I c val o u a w) : v = u := by
  cases c
  · exact (Text.YieldsIf.at h hI).unique (Text.YieldsIf.at h' hI)
  · exact YieldsR.unique h h'
  · rcases h with ⟨h1, h2, _⟩ | ⟨h1, h2⟩ <;> rcases h' with ⟨h3, h4, _⟩ | ⟨h3, h4⟩
    · rw [h2] at h4; exact Option.some.inj h4
    · rw [h1] at h3; cases h3
    · rw [h1] at h3; cases h3
    · rw [h2, h4]
  · exact h.elim
theorem Yv.wpOp {c : Cls} {val : Option Value} {i : Nat} {o : Oper} {v : Value} {a : Act} (hi : ops[i]? = some o) {w : World} (hI : I w) (hy : Yv P ops I c val o v a w) {K : Act → World → Prop} {Q : Exit → Act → World → Prop} (h : K (a.put o.dst v) w) : wpOp P ops Q i K a w := by
  cases c
  · exact (Text.YieldsIf.at hy hI).wpOp hi h
  · exact YieldsR.wpOp hi hy h
  · unfold Go.wpOp
    simp only [hi]
    rcases hy with ⟨hw, _, hv⟩ | ⟨hw, rfl⟩
    · simp only [hw, if_true]
      exact .inl (gives_wp (hv w hI) fun v' w' ⟨e1, e2⟩ => by rw [e1, e2]; exact h)
    · simp only [hw, Bool.false_eq_true, if_false]; exact h
  · exact hy.elim

def step (P : Program) (ops : Array Oper) (I : World → Prop) (p : Plan) (i : Nat) (K : Act → World → Prop) (a : Act) (w : World) : Prop :=
  match ops[i]? with
  | none => False
  | some o => if p.cls i o = .w then wpOp P ops NoWay i (fun a' w' => I w' ∧ K a' w') a w else ∃ v, Yv P ops I (p.cls i o) (p.val i) o v a w ∧ K (a.put o.dst v) w
def steps (P : Program) (ops : Array Oper) (I : World → Prop) (p : Plan) (K : Act → World → Prop) : List Nat → Act → World → Prop
  | [], a, w => K a w
  | i :: l, a, w => step P ops I p i (steps P ops I p K l) a w

theorem step_mono {i : Nat} {K K' : Act → World → Prop} {a : Act} {w : World} (h : ∀ a w, I w → K a w → K' a w) (hI : I w) (hs : step P ops I p i K a w) : step P ops I p i K' a w := by
  unfold step at *
  split at hs
  · exact hs
  · split at hs
    · rename_i hc; rw [if_pos hc]; exact wpOp_mono (fun a w ⟨h1, h2⟩ => ⟨h1, h a w h1 h2⟩) hs
    · rename_i hc; rw [if_neg hc]; obtain ⟨v, hy, hk⟩ := hs; exact ⟨v, hy, h _ _ hI hk⟩

/-- What is put behind an operation may be put ahead of it. -/
theorem wp_put {j : Nat} {oi oj : Oper} {v : Value} (hj : ops[j]? = some oj) (hap : oi.apart ops oj = true) (hsj : ∀ cs b, oj.op ≠ .select cs b)
    {K : Act → World → Prop} {a : Act} {w : World} (h : wpOp P ops NoWay j K (a.put oi.dst v) w) :
    wpOp P ops NoWay j (fun a' w' => (∃ ds u, a' = ({ a with defers := ds } : Act).put oj.dst u) ∧ K (a'.put oi.dst v) w') a w := by
  obtain ⟨h1, h2, h3⟩ := Oper.apart_spec hap
  unfold wpOp at *
  simp only [hj] at *
  rw [wanted_put oj a oi.dst v h1] at h
  split
  · rename_i hw
    simp only [hw, if_true] at h
    rcases h with h | ⟨_, _, _, h⟩
    case inr => exact h.elim
    refine .inl ?_
    unfold Oper.wp at *
    rw [execOp_put oj hsj a oi.dst v h1] at h
    generalize (execOp a.eval oj).run P w = r at *
    cases r with
    | ok n w' =>
      cases n <;> simp only [Oper.upon] at h ⊢
      case value u => exact ⟨⟨a.defers, u, rfl⟩, by rw [← Act.put_comm a v u h2]; exact h⟩
      case skip => exact ⟨⟨a.defers, undef, rfl⟩, by rw [← Act.put_comm a v undef h2]; exact h⟩
      case defer d =>
        refine ⟨⟨d :: a.defers, undef, rfl⟩, ?_⟩
        rw [← Act.put_comm _ v undef h2, ← Act.put_defers]
        exact h
      case enter f args =>
        refine Calls.mono h fun e w'' he => ?_
        cases e with
        | returned u => exact ⟨⟨a.defers, u, rfl⟩, by rw [← Act.put_comm a v u h2]; exact he⟩
        | panicked c => exact he
        | outgrown => exact he
      case row row args => exact Rows.mono h fun u w'' he => ⟨⟨a.defers, u, rfl⟩, by rw [← Act.put_comm a v u h2]; exact he⟩
    | halt x w' =>
      cases x <;> simp only [Oper.upon] at h ⊢
      case panic u => exact h
  · rename_i hw
    simp only [hw] at h
    exact ⟨⟨a.defers, undef, rfl⟩, by rw [← Act.put_comm a v undef h2]; exact h⟩

/-- May two operations come in either order? -/
def calmCls : Cls → Cls → Bool
  | .h, _ | _, .h | .c, _ | _, .c | .r, .r => true
  | _, _ => false
def calm (ops : Array Oper) (p : Plan) (j i : Nat) : Bool :=
  match ops[j]?, ops[i]? with
  | some oj, some oi => oi.apart ops oj && oj.apart ops oi && calmCls (p.cls j oj) (p.cls i oi)
  | _, _ => false

theorem step_swap {j i : Nat} (hs : Region.noSelect ops = true) (hc : calm ops p j i = true) {K : Act → World → Prop} {a : Act} {w : World} (hI : I w)
    (h : step P ops I p j (step P ops I p i K) a w) : step P ops I p i (step P ops I p j K) a w := by
  unfold calm at hc
  split at hc
  case h_2 => cases hc
  rename_i oj oi hoj hoi
  simp only [Bool.and_eq_true] at hc
  obtain ⟨⟨hap, hap'⟩, hcl⟩ := hc
  have hsi := Region.noSelect_spec hs i oi
  have hsj := Region.noSelect_spec hs j oj
  obtain ⟨a1, a2, a3⟩ := Oper.apart_spec hap
  have ei : ∀ (a : Act) v, execOp (a.put oj.dst v).eval oi = execOp a.eval oi := fun a v => execOp_put oi (fun cs b => hsi cs b hoi) a oj.dst v a3
  have wi : ∀ (a : Act) v, Region.wanted oi (yielded ops (a.put oj.dst v).tmps) = Region.wanted oi (yielded ops a.tmps) := fun a v => wanted_put oi a oj.dst v a3
  have ej : ∀ (a : Act) v, execOp (a.put oi.dst v).eval oj = execOp a.eval oj := fun a v => execOp_put oj (fun cs b => hsj cs b hoj) a oi.dst v a1
  have wj : ∀ (a : Act) v, Region.wanted oj (yielded ops (a.put oi.dst v).tmps) = Region.wanted oj (yielded ops a.tmps) := fun a v => wanted_put oj a oi.dst v a1
  have comm : ∀ (a : Act) u v, (a.put oi.dst u).put oj.dst v = (a.put oj.dst v).put oi.dst u := fun a u v => Act.put_comm a u v a2
  unfold step at h ⊢
  simp only [hoj, hoi] at h ⊢
  by_cases hj : p.cls j oj = .w <;> by_cases hi : p.cls i oi = .w
  · rw [hj, hi] at hcl; cases hcl
  · -- the write ahead of the other
    simp only [hj, hi, if_true, if_false] at h ⊢
    have hcc : p.cls i oi = .h ∨ p.cls i oi = .c := by
      rw [hj] at hcl; cases hx : p.cls i oi <;> simp_all [calmCls]
    obtain ⟨ds, v0, w0, hI0, u, hu, _⟩ := wp_some hoj h
    have hu' : ∀ w, Yv P ops I (p.cls i oi) (p.val i) oi u a w := fun w => (hu.of_same (a' := a) (ei { a with defers := ds } v0).symm (wi { a with defers := ds } v0).symm).world hcc
    refine ⟨u, hu' w, wp_unput hoj hap (fun cs b => hsj cs b hoj) (fun ds v w' hh => ?_) h⟩
    obtain ⟨hI', u', hu2, hk⟩ := hh
    have e : u' = u := Yv.unique hI' hu2 ((hu' w').of_same (a' := { a with defers := ds }.put oj.dst v) (ei { a with defers := ds } v) (wi { a with defers := ds } v))
    subst e
    exact ⟨hI', hk⟩
  · simp only [hj, hi, if_true, if_false] at h ⊢
    have hcc : p.cls j oj = .h ∨ p.cls j oj = .c := by
      rw [hi] at hcl; cases hx : p.cls j oj <;> simp_all [calmCls]
    obtain ⟨v, hv, hw⟩ := h
    refine wpOp_mono (fun a' w' ⟨⟨ds, u, ha⟩, h2, h3⟩ => ⟨h2, v, ?_, h3⟩) (wp_put hoi hap' (fun cs b => hsi cs b hoi) hw)
    subst ha
    exact (hv.world hcc).of_same (ej { a with defers := ds } u) (wj { a with defers := ds } u)
  · simp only [hj, hi, if_false] at h ⊢
    obtain ⟨v, hv, u, hu, hk⟩ := h
    exact ⟨u, hu.of_same (ei a v).symm (wi a v).symm, v, hv.of_same (ej a u) (wj a u), by rw [comm]; exact hk⟩

theorem pull {i : Nat} (hs : Region.noSelect ops = true) {K : Act → World → Prop} : ∀ (l l' : List Nat) (a : Act) (w : World), I w → (∀ j ∈ l, calm ops p j i = true) →
    steps P ops I p K (l ++ i :: l') a w → step P ops I p i (steps P ops I p K (l ++ l')) a w
  | [], _, _, _, _, _, h => h
  | j :: l, l', a, w, hI, hc, h => by
    have h1 : step P ops I p j (step P ops I p i (steps P ops I p K (l ++ l'))) a w :=
      step_mono (fun a' w' hI' hk => pull hs l l' a' w' hI' (fun k hk => hc k (by simp [hk])) hk) hI h
    exact step_swap hs (hc j (by simp)) hI h1

theorem step_wpOp {i : Nat} {K : Act → World → Prop} {Q : Exit → Act → World → Prop} {a : Act} {w : World} (hI : I w) (h : step P ops I p i K a w) :
    wpOp P ops Q i (fun a' w' => I w' ∧ K a' w') a w := by
  unfold step at h
  split at h
  · exact h.elim
  · rename_i o ho
    split at h
    · unfold wpOp at h ⊢
      simp only [ho] at h ⊢
      split
      · rename_i hw
        simp only [hw, if_true] at h
        rcases h with h | ⟨_, _, _, h⟩
        · refine .inl ?_
          unfold Oper.wp at *
          generalize (execOp a.eval o).run P w = r at *
          cases r with
          | ok n w' =>
            cases n <;> simp only [Oper.upon] at h ⊢
            case value v => exact h
            case skip => exact h
            case defer d => exact h
            case enter f args =>
              refine Calls.mono h fun e w'' he => ?_
              cases e with
              | returned v => exact he
              | panicked c => exact he.elim
              | outgrown => obtain ⟨_, _, h⟩ := he; exact h.elim
            case row row args => exact h
          | halt x w' => cases x <;> simp only [Oper.upon] at h ⊢; exact h.elim
        · exact h.elim
      · rename_i hw
        simp only [hw] at h
        exact h
    · obtain ⟨v, hv, hk⟩ := h
      exact hv.wpOp ho hI ⟨hI, hk⟩
end

/-! The order that is drawn, and one of ours that it can be turned into. -/

/-- x comes ahead of y in a list. -/
def ahead (l : List Nat) (x y : Nat) : Prop := ∃ l1 l2, l = l1 ++ x :: l2 ∧ y ∈ l2

theorem main {P : Program} {ops : Array Oper} {I : World → Prop} {p : Plan} (hs : Region.noSelect ops = true) {Q : Exit → Act → World → Prop} : ∀ (π σ : List Nat) (a : Act) (w : World), I w →
    (∀ x, x ∈ σ ↔ x ∈ π) → π.Nodup → σ.Nodup → (∀ x y, ahead σ x y → ahead π y x → calm ops p x y = true) → steps P ops I p (Q .normal) σ a w → wpOps P ops Q π a w
  | [], σ, a, w, _, hm, _, _, _, h => by
    have : σ = [] := by
      cases σ with
      | nil => rfl
      | cons x l => have := (hm x).1 (by simp); cases this
    subst this
    exact h
  | i :: π, σ, a, w, hI, hm, hπ, hσ, hc, h => by
    obtain ⟨l1, l2, rfl⟩ := List.append_of_mem ((hm i).2 (by simp))
    have hi1 : i ∉ l1 := fun hx => by
      rw [List.nodup_append] at hσ
      exact hσ.2.2 i hx i (by simp) rfl
    have hi2 : i ∉ l2 := fun hx => by
      rw [List.nodup_append] at hσ
      exact (List.nodup_cons.1 hσ.2.1).1 hx
    have hp := pull (P := P) hs l1 l2 a w hI (fun j hj => by
      refine hc j i ?_ ⟨[], π, rfl, ?_⟩
      · obtain ⟨m1, m2, rfl⟩ := List.append_of_mem hj
        exact ⟨m1, m2 ++ i :: l2, by simp, by simp⟩
      · have hmem := (hm j).1 (by simp [hj])
        rcases List.mem_cons.1 hmem with rfl | h'
        · exact absurd hj hi1
        · exact h') h
    rw [wpOps_cons]
    refine wpOp_mono (fun a' w' ⟨hI', hk⟩ => main hs π (l1 ++ l2) a' w' hI' (fun x => ?_) (List.nodup_cons.1 hπ).2 ?_ (fun x y hxy hyx => hc x y ?_ ?_) hk) (step_wpOp hI hp)
    · have := hm x
      simp only [List.mem_append, List.mem_cons] at this ⊢
      constructor
      · intro hx
        rcases this.1 (by rcases hx with hx | hx <;> simp [hx]) with rfl | hx'
        · rcases hx with hx | hx
          · exact absurd hx hi1
          · exact absurd hx hi2
        · exact hx'
      · intro hx
        rcases this.2 (.inr hx) with h' | rfl | h'
        · exact .inl h'
        · exact absurd hx (List.nodup_cons.1 hπ).1
        · exact .inr h'
    · rw [List.nodup_append] at hσ ⊢
      exact ⟨hσ.1, (List.nodup_cons.1 hσ.2.1).2, fun x hx y hy => hσ.2.2 x hx y (by simp [hy])⟩
    · obtain ⟨m1, m2, he, hy⟩ := hxy
      rw [List.append_eq_append_iff] at he
      rcases he with ⟨k, rfl, rfl⟩ | ⟨k, rfl, hkk⟩
      · exact ⟨l1 ++ i :: k, m2, by simp, hy⟩
      · cases k with
        | nil =>
          simp at hkk
          exact ⟨m1 ++ [i], m2, by simp [← hkk], hy⟩
        | cons z k =>
          simp at hkk
          obtain ⟨rfl, rfl⟩ := hkk
          refine ⟨m1, k ++ i :: l2, by simp, ?_⟩
          simp only [List.mem_append, List.mem_cons] at hy ⊢
          rcases hy with hy | hy
          · exact .inl hy
          · exact .inr (.inr hy)
    · obtain ⟨m1, m2, he, hy⟩ := hyx
      exact ⟨i :: m1, m2, by rw [he]; rfl, hy⟩

/-! What is drawn. -/
inductive Lin (ops : Array Oper) : Array Bool → List Nat → Prop where
  | nil {listed : Array Bool} (h : Region.ready .any ops listed = []) : Lin ops listed []
  | cons {listed : Array Bool} {i : Nat} {l : List Nat} (h : i ∈ Region.ready .any ops listed) (hl : Lin ops (listed.setIfInBounds i true) l) : Lin ops listed (i :: l)

/-- How many are not listed. -/
def open_ (n : Nat) (listed : Array Bool) : Nat := (left n listed).length

theorem lin_of (ops : Array Oper) : ∀ (fuel t : Nat) (listed : Array Bool), listed.size = ops.size → open_ ops.size listed ≤ fuel → Lin ops listed (Region.linearise.go .any ops fuel t listed [])
  | 0, t, listed, hsz, hf => by
    refine .nil ?_
    cases hr : Region.ready .any ops listed with
    | nil => rfl
    | cons i r =>
      exfalso
      have hi : i ∈ Region.ready .any ops listed := by rw [hr]; simp
      obtain ⟨hun, o, ho, _⟩ := mem_ready.1 hi
      have : i ∈ left ops.size listed := by
        rw [left, List.mem_filter]
        exact ⟨List.mem_range.2 (Array.getElem?_eq_some_iff.1 ho).1, by simp [hun]⟩
      have h0 : left ops.size listed = [] := List.eq_nil_of_length_eq_zero (by unfold open_ at hf; omega)
      rw [h0] at this
      cases this
  | fuel + 1, t, listed, hsz, hf => by
    simp only [Region.linearise.go]
    change Lin ops listed (match (Region.ready .any ops listed)[t % (Region.ready .any ops listed).length]? with
      | some i => Region.linearise.go .any ops fuel (t / (Region.ready .any ops listed).length) (listed.setIfInBounds i true) [i]
      | none => [].reverse)
    cases hi : (Region.ready .any ops listed)[t % (Region.ready .any ops listed).length]? with
    | none =>
      refine .nil ?_
      cases hr : Region.ready .any ops listed with
      | nil => rfl
      | cons x xs =>
        rw [hr] at hi
        have hlt : t % (x :: xs).length < (x :: xs).length := Nat.mod_lt _ (by simp)
        simp at hi
        simp at hlt
        omega
    | some i =>
      simp only []
      rw [linearise_go_acc, List.reverse_singleton, List.singleton_append]
      have hmem := List.mem_of_getElem? hi
      obtain ⟨hun, _⟩ := mem_ready.1 hmem
      refine .cons hmem (lin_of ops fuel _ _ (by simp [hsz]) ?_)
      obtain ⟨l1, l2, e1, e2, _⟩ := Text.left_set hsz hun
      unfold open_ at hf ⊢
      rw [e1] at hf
      rw [e2]
      simp only [List.length_append, List.length_cons] at hf ⊢
      omega

section
variable {l : List Oper}
theorem lin_facts (hb : ∀ j o, l.toArray[j]? = some o → ∀ e ∈ o.after, Region.binds .any e = true → e.on < j) : ∀ {listed : Array Bool} {π : List Nat}, Lin l.toArray listed π → listed.size = l.length →
    (∀ x, x ∈ π ↔ x ∈ left l.length listed) ∧ π.Nodup ∧
    (∀ x y, (∀ j o, l.toArray[j]? = some o → listed.getD j false = true → ∀ e ∈ o.after, Region.binds .any e = true → listed.getD e.on false = true) → x ∈ π → y ∈ π → x ≠ y → ((masks l []).getD y 0).testBit x = true → ahead π x y) := by
  intro listed π h
  induction h with
  | @nil listed hr =>
    intro hsz
    have h0 : left l.length listed = [] := by
      cases hL : left l.length listed with
      | nil => rfl
      | cons i r =>
        exfalso
        have him : i ∈ left l.length listed := by rw [hL]; simp
        rw [left, List.mem_filter, List.mem_range] at him
        have hun : listed.getD i true = false := by simpa using him.2
        obtain ⟨l1, l2, e1, _, hbb⟩ := Text.left_set hsz hun
        have hl1 : l1 = [] := by
          cases l1 with
          | nil => rfl
          | cons x xs =>
            rw [hL, List.cons_append] at e1
            have hx : i = x := (List.cons.inj e1).1
            have := (hbb x (by simp)).1
            omega
        have hready : i ∈ Region.ready .any l.toArray listed := by
          refine mem_ready.2 ⟨hun, l.toArray[i]'(by simpa using him.1), Array.getElem?_eq_getElem _, fun e he hbd => ?_⟩
          have hlt := hb i _ (Array.getElem?_eq_getElem (by simpa using him.1)) e he hbd
          cases hx : listed.getD e.on true with
          | false =>
            exfalso
            obtain ⟨m1, m2, f1, _, _⟩ := Text.left_set hsz hx
            have hmem : e.on ∈ left l.length listed := by rw [f1]; simp
            rw [e1, hl1] at hmem
            simp only [List.nil_append, List.mem_cons] at hmem
            have hsorted : (left l.length listed).Pairwise (· < ·) := List.Pairwise.filter _ List.pairwise_lt_range
            rw [e1, hl1, List.nil_append, List.pairwise_cons] at hsorted
            rcases hmem with hmem | hmem
            · omega
            · have := hsorted.1 _ hmem; omega
          | true =>
            have hon : e.on < listed.size := by omega
            simp [hon] at hx ⊢
            exact hx
        rw [hr] at hready
        cases hready
    rw [h0]
    exact ⟨fun x => Iff.rfl, List.nodup_nil, fun x y _ hx => by cases hx⟩
  | @cons listed i π hi hl ih =>
    intro hsz
    obtain ⟨hun, o, ho, hall⟩ := mem_ready.1 hi
    obtain ⟨l1, l2, e1, e2, hbb⟩ := Text.left_set hsz hun
    obtain ⟨ih1, ih2, ih3⟩ := ih (by simp [hsz])
    have hnd : (left l.length listed).Nodup := List.Pairwise.filter _ List.nodup_range
    rw [e1, List.nodup_append] at hnd
    have hi1 : i ∉ l1 := fun hx => hnd.2.2 i hx i (by simp) rfl
    have hi2 : i ∉ l2 := fun hx => (List.nodup_cons.1 hnd.2.1).1 hx
    have hiπ : i ∉ π := fun hx => by
      rw [ih1 i, e2, List.mem_append] at hx
      exact hx.elim hi1 hi2
    refine ⟨fun x => ?_, List.nodup_cons.2 ⟨hiπ, ih2⟩, fun x y hcl hx hy hxy hm => ?_⟩
    · rw [e1, List.mem_cons, ih1 x, e2]
      simp only [List.mem_append, List.mem_cons]
      constructor
      · rintro (rfl | hx | hx)
        · exact .inr (.inl rfl)
        · exact .inl hx
        · exact .inr (.inr hx)
      · rintro (hx | rfl | hx)
        · exact .inr (.inl hx)
        · exact .inl rfl
        · exact .inr (.inr hx)
    · rcases List.mem_cons.1 hx with rfl | hx'
      · rcases List.mem_cons.1 hy with rfl | hy'
        · exact absurd rfl hxy
        · exact ⟨[], π, rfl, hy'⟩
      · rcases List.mem_cons.1 hy with rfl | hy'
        · -- y is the first, x must be listed already
          exfalso
          have hgood : _root_.Go.Proofs.Ytfledabgdcnkfaa.Text.Good l.toArray (fun k => listed.getD k false = true) (masks l []) :=
            masks_good (listed := fun k => listed.getD k false = true) (fun j o ho hj e he hb => hcl j o ho hj e he hb) l [] (fun k => by simp) (fun j i hj => by simp at hj)
          have hlm : ∀ (l : List Oper) (acc : List Nat), (masks l acc).length = acc.length + l.length := by
            intro l
            induction l with
            | nil => intro acc; rfl
            | cons o l ih => intro acc; rw [masks, ih]; simp; omega
          have hyl : y < l.length := by simpa using (Array.getElem?_eq_some_iff.1 ho).1
          have hxl := hgood y x (by rw [hlm]; simpa using hyl) ⟨o, ho, hall⟩ hm
          have hxm := (ih1 x).1 hx'
          rw [e2] at hxm
          have hxu : x ∈ left l.length listed := by
            rw [e1]; simp only [List.mem_append, List.mem_cons] at hxm ⊢
            rcases hxm with h | h
            · exact .inl h
            · exact .inr (.inr h)
          rw [left, List.mem_filter, List.mem_range] at hxu
          have h2 : listed.getD x true = false := by simpa using hxu.2
          rcases Nat.lt_or_ge x listed.size with h' | h'
          · simp [h'] at h2 hxl; rw [h2] at hxl; cases hxl
          · omega
        · obtain ⟨m1, m2, he, hmem⟩ := ih3 x y (fun j oj hj hlj e he hbd => by
            by_cases hij : i = j
            · subst hij
              have : oj = o := Option.some.inj (hj.symm.trans ho)
              subst this
              exact getD_set_true (hall e he hbd)
            · rw [getD_set_ne false hij] at hlj
              exact getD_set_true (hcl j oj hj hlj e he hbd)) hx' hy' hxy hm
          exact ⟨i :: m1, m2, by rw [he]; rfl, hmem⟩
end

/-! Orders of ours that serve every order that is drawn. -/
def aheadB : List Nat → Nat → Nat → Bool
  | [], _, _ => false
  | z :: l, x, y => (z == x && l.contains y) || aheadB l x y

theorem ahead_mem {l : List Nat} {x y : Nat} (h : ahead l x y) : x ∈ l ∧ y ∈ l := by
  obtain ⟨l1, l2, rfl, hy⟩ := h
  simp [hy]
theorem aheadB_iff : ∀ {l : List Nat} {x y : Nat}, aheadB l x y = true ↔ ahead l x y
  | [], x, y => ⟨fun h => by simp [aheadB] at h, fun ⟨l1, l2, h, _⟩ => by simp at h⟩
  | z :: l, x, y => by
    rw [aheadB, Bool.or_eq_true, Bool.and_eq_true, aheadB_iff (l := l)]
    constructor
    · rintro (⟨h1, h2⟩ | ⟨l1, l2, rfl, hy⟩)
      · exact ⟨[], l, by simpa using h1, by simpa using h2⟩
      · exact ⟨z :: l1, l2, rfl, hy⟩
    · rintro ⟨l1, l2, h, hy⟩
      cases l1 with
      | nil =>
        simp only [List.nil_append, List.cons.injEq] at h
        obtain ⟨rfl, rfl⟩ := h
        exact .inl ⟨by simp, by simpa using hy⟩
      | cons u l1 =>
        simp only [List.cons_append, List.cons.injEq] at h
        obtain ⟨rfl, rfl⟩ := h
        exact .inr ⟨l1, l2, rfl, hy⟩
theorem ahead_cons {z : Nat} {l : List Nat} {x y : Nat} : ahead (z :: l) x y ↔ (z = x ∧ y ∈ l) ∨ ahead l x y := by
  rw [← aheadB_iff, aheadB, Bool.or_eq_true, Bool.and_eq_true, aheadB_iff]
  simp
theorem ahead_total : ∀ {l : List Nat} {x y : Nat}, x ∈ l → y ∈ l → x ≠ y → ahead l x y ∨ ahead l y x
  | z :: l, x, y, hx, hy, hn => by
    rw [ahead_cons, ahead_cons]
    rcases List.mem_cons.1 hx with rfl | hx'
    · rcases List.mem_cons.1 hy with rfl | hy'
      · exact absurd rfl hn
      · exact .inl (.inl ⟨rfl, hy'⟩)
    · rcases List.mem_cons.1 hy with rfl | hy'
      · exact .inr (.inl ⟨rfl, hx'⟩)
      · rcases ahead_total hx' hy' hn with h | h
        · exact .inl (.inr h)
        · exact .inr (.inr h)
theorem ahead_trans : ∀ {l : List Nat} {x y z : Nat}, l.Nodup → ahead l x y → ahead l y z → ahead l x z
  | [], _, _, _, _, h, _ => by obtain ⟨l1, l2, h, _⟩ := h; simp at h
  | u :: l, x, y, z, hn, h, h' => by
    rw [ahead_cons] at h h' ⊢
    rw [List.nodup_cons] at hn
    rcases h with ⟨rfl, hy⟩ | h
    · rcases h' with ⟨rfl, _⟩ | h'
      · exact absurd hy hn.1
      · exact .inl ⟨rfl, (ahead_mem h').2⟩
    · rcases h' with ⟨rfl, _⟩ | h'
      · exact absurd (ahead_mem h).2 hn.1
      · exact .inr (ahead_trans hn.2 h h')
theorem ahead_irrefl : ∀ {l : List Nat} {x : Nat}, l.Nodup → ¬ ahead l x x
  | [], _, _, h => by obtain ⟨l1, l2, h, _⟩ := h; simp at h
  | u :: l, x, hn, h => by
    rw [ahead_cons] at h
    rw [List.nodup_cons] at hn
    rcases h with ⟨rfl, hy⟩ | h
    · exact hn.1 hy
    · exact ahead_irrefl hn.2 h
theorem ahead_asymm {l : List Nat} {x y : Nat} (hn : l.Nodup) (h : ahead l x y) (h' : ahead l y x) : False := ahead_irrefl hn (ahead_trans hn h h')

def before (ms : List Nat) (x y : Nat) : Bool := (ms.getD y 0).testBit x
def bad (p : Plan) (l : List Oper) : List (Nat × Nat) :=
  let ms := masks l []
  (List.range l.length).flatMap fun y => (List.range y).filterMap fun x =>
    if before ms x y || before ms y x || (calm l.toArray p x y && calm l.toArray p y x) then none else some (x, y)
/-- No order has all of these. -/
def cyclic (ms : List Nat) (ch : List (Nat × Nat)) : Bool :=
  ch.any fun a => ch.any fun b => a.2 == b.1 && (before ms b.2 a.1 || ch.contains (b.2, a.1))
def cover (ms : List Nat) : List (Nat × Nat) → List (List Nat) → List (Nat × Nat) → Bool
  | [], os, ch => !os.isEmpty || cyclic ms ch
  | (x, y) :: B, os, ch => cyclic ms ch || (cover ms B (os.filter fun σ => aheadB σ x y) ((x, y) :: ch) && cover ms B (os.filter fun σ => aheadB σ y x) ((y, x) :: ch))
def okOrders (p : Plan) (l : List Oper) (os : List (List Nat)) : Bool :=
  let ms := masks l []
  let B := bad p l
  Region.noSelect l.toArray &&
  (List.range l.length).all (fun j => ((l.toArray[j]?).map (·.after.all fun e => !Region.binds .any e || decide (e.on < j))).getD false) &&
  cover ms B os [] &&
  B.all (fun x => decide (x.1 < l.length) && decide (x.2 < l.length) && x.1 != x.2) &&
  os.all fun σ => (List.range l.length).all (fun i => σ.contains i) && σ.all (fun i => decide (i < l.length)) && decide σ.Nodup &&
    (List.range l.length).all fun x => (List.range l.length).all fun y => !aheadB σ x y || calm l.toArray p x y || before ms x y || B.contains (x, y) || B.contains (y, x)

theorem cyclic_spec {ms : List Nat} {π : List Nat} (hn : π.Nodup) (hms : ∀ x y, x ∈ π → y ∈ π → x ≠ y → before ms x y = true → ahead π x y) {ch : List (Nat × Nat)} (hch : ∀ x ∈ ch, ahead π x.1 x.2) (h : cyclic ms ch = true) : False := by
  simp only [cyclic, List.any_eq_true, Bool.and_eq_true, Bool.or_eq_true] at h
  obtain ⟨a, ha, b, hb, h1, h2⟩ := h
  have e : a.2 = b.1 := by simpa using h1
  have hab : ahead π a.1 b.2 := ahead_trans hn (hch a ha) (e ▸ hch b hb)
  rcases h2 with h2 | h2
  · by_cases hne : b.2 = a.1
    · exact ahead_irrefl hn (hne ▸ hab)
    · exact ahead_asymm hn hab (hms _ _ (ahead_mem hab).2 (ahead_mem hab).1 hne h2)
  · exact ahead_asymm hn hab (hch _ (by simpa using h2))
theorem cover_spec {ms : List Nat} {π : List Nat} (hn : π.Nodup) (hms : ∀ x y, x ∈ π → y ∈ π → x ≠ y → before ms x y = true → ahead π x y) :
    ∀ (B : List (Nat × Nat)) (os : List (List Nat)) (ch : List (Nat × Nat)), (∀ x ∈ B, x.1 ∈ π ∧ x.2 ∈ π ∧ x.1 ≠ x.2) → (∀ x ∈ ch, ahead π x.1 x.2) → cover ms B os ch = true →
      ∃ σ ∈ os, ∀ x ∈ B, (aheadB σ x.1 x.2 = true ∧ ahead π x.1 x.2) ∨ (aheadB σ x.2 x.1 = true ∧ ahead π x.2 x.1)
  | [], os, ch, hB, hch, h => by
    rw [cover, Bool.or_eq_true] at h
    rcases h with h | h
    · cases os with
      | nil => simp at h
      | cons σ os => exact ⟨σ, by simp, fun x hx => by cases hx⟩
    · exact (cyclic_spec hn hms hch h).elim
  | (x, y) :: B, os, ch, hB, hch, h => by
    rw [cover, Bool.or_eq_true, Bool.and_eq_true] at h
    rcases h with h | ⟨h1, h2⟩
    · exact (cyclic_spec hn hms hch h).elim
    · obtain ⟨b1, b2, b3⟩ := hB (x, y) (by simp)
      rcases ahead_total b1 b2 b3 with ha | ha
      · obtain ⟨σ, hσ, hall⟩ := cover_spec hn hms B _ _ (fun z hz => hB z (by simp [hz])) (fun z hz => by
          rcases List.mem_cons.1 hz with rfl | hz
          · exact ha
          · exact hch z hz) h1
        rw [List.mem_filter] at hσ
        refine ⟨σ, hσ.1, fun z hz => ?_⟩
        rcases List.mem_cons.1 hz with rfl | hz
        · exact .inl ⟨hσ.2, ha⟩
        · exact hall z hz
      · obtain ⟨σ, hσ, hall⟩ := cover_spec hn hms B _ _ (fun z hz => hB z (by simp [hz])) (fun z hz => by
          rcases List.mem_cons.1 hz with rfl | hz
          · exact ha
          · exact hch z hz) h2
        rw [List.mem_filter] at hσ
        refine ⟨σ, hσ.1, fun z hz => ?_⟩
        rcases List.mem_cons.1 hz with rfl | hz
        · exact .inr ⟨hσ.2, ha⟩
        · exact hall z hz

theorem region_steps {P : Program} {l : List Oper} {I : World → Prop} {p : Plan} {os : List (List Nat)} {id : Nat} {Q : Exit → Act → World → Prop} {a : Act} {w : World} (hm : P.follows .mixedOrders = true)
    (hok : okOrders p l os = true) (hI : I w.drew) (h : ∀ σ ∈ os, steps P l.toArray I p (Q .normal) σ a w.drew) : (Code.region id l.toArray true).wp P Q a w := by
  simp only [okOrders, Bool.and_eq_true] at hok
  obtain ⟨⟨⟨⟨hsel, hback⟩, hcov⟩, hB⟩, hos⟩ := hok
  refine wp_region_draw fun t => ?_
  have hsch : Region.schedule (P.follows .mixedOrders) l.toArray t = Region.linearise .any l.toArray t := by
    unfold Region.schedule; rw [hm]; rfl
  rw [hsch]
  have hfirst : left l.length (Array.replicate l.toArray.size false) = List.range l.length := by
    unfold left
    refine List.filter_eq_self.2 fun i hi => ?_
    have := List.mem_range.1 hi
    simp [this]
  have hlin : Lin l.toArray (Array.replicate l.toArray.size false) (Region.linearise .any l.toArray t) := by
    unfold Region.linearise
    refine lin_of _ _ _ _ (by simp) ?_
    have hfirst' : left l.toArray.size (Array.replicate l.toArray.size false) = List.range l.length := by
      have e : l.toArray.size = l.length := by simp
      rw [e]; rw [e] at hfirst; exact hfirst
    unfold open_; rw [hfirst']; simp
  generalize Region.linearise .any l.toArray t = π at hlin ⊢
  obtain ⟨f1, f2, f3⟩ := lin_facts (l := l) (fun j o ho e he hb => by
    have hj : j < l.length := by simpa using (Array.getElem?_eq_some_iff.1 ho).1
    have h1 := List.all_eq_true.1 hback j (List.mem_range.2 hj)
    simp only [ho, Option.map_some, Option.getD_some, Array.all_eq_true_iff_forall_mem] at h1
    have h2 := h1 e he
    simpa [hb] using h2) hlin (by simp)
  rw [hfirst] at f1
  have f3' : ∀ x y, x ∈ π → y ∈ π → x ≠ y → before (masks l []) x y = true → ahead π x y := fun x y hx hy hxy hb => f3 x y (fun j o _ hj => by
    exfalso
    rcases Nat.lt_or_ge j l.length with h' | h'
    · simp [h'] at hj
    · simp [h'] at hj) hx hy hxy hb
  obtain ⟨σ, hσ, hall⟩ := cover_spec f2 f3' _ _ [] (fun x hx => by
    have := List.all_eq_true.1 hB x hx
    simp only [Bool.and_eq_true, decide_eq_true_eq, bne_iff_ne] at this
    exact ⟨(f1 _).2 (List.mem_range.2 this.1.1), (f1 _).2 (List.mem_range.2 this.1.2), this.2⟩) (fun x hx => by cases hx) hcov
  have hone := List.all_eq_true.1 hos σ hσ
  simp only [Bool.and_eq_true, decide_eq_true_eq] at hone
  obtain ⟨⟨⟨m1, m2⟩, m3⟩, m4⟩ := hone
  have hmem : ∀ x, x ∈ σ ↔ x ∈ π := fun x => by
    rw [f1, List.mem_range]
    constructor
    · intro hx; simpa using List.all_eq_true.1 m2 x hx
    · intro hx; simpa using List.all_eq_true.1 m1 x (List.mem_range.2 hx)
  refine main hsel π σ a w.drew hI hmem f2 m3 (fun x y hxy hyx => ?_) (h σ hσ)
  have hx := List.mem_range.1 ((f1 x).1 (ahead_mem hyx).2)
  have hy := List.mem_range.1 ((f1 y).1 (ahead_mem hyx).1)
  have h1 := List.all_eq_true.1 (List.all_eq_true.1 m4 x (List.mem_range.2 hx)) y (List.mem_range.2 hy)
  simp only [Bool.or_eq_true, Bool.not_eq_true', aheadB_iff.2 hxy, Bool.true_eq_false, false_or] at h1
  have hne : x ≠ y := fun e => ahead_irrefl f2 (e ▸ hyx)
  rcases h1 with ((h1 | h1) | h1) | h1
  · exact h1
  · exact (ahead_asymm f2 (f3' x y (ahead_mem hyx).2 (ahead_mem hyx).1 hne h1) hyx).elim
  · rcases hall (x, y) (by simpa using h1) with ⟨_, h2⟩ | ⟨h2, _⟩
    · exact (ahead_asymm f2 h2 hyx).elim
    · exact (ahead_asymm m3 hxy (aheadB_iff.1 h2)).elim
  · rcases hall (y, x) (by simpa using h1) with ⟨h2, _⟩ | ⟨_, h2⟩
    · exact (ahead_asymm m3 hxy (aheadB_iff.1 h2)).elim
    · exact (ahead_asymm f2 h2 hyx).elim

/-! The walk of one order. -/
def look : List Oper → Nat → Option Oper
  | [], _ => none
  | o :: _, 0 => some o
  | _ :: l, n + 1 => look l n
theorem look_eq : ∀ (l : List Oper) (i : Nat), l.toArray[i]? = look l i
  | [], i => by simp [look]
  | o :: l, 0 => by simp [look]
  | o :: l, n + 1 => by have := look_eq l n; simp [look] at this ⊢; exact this

/-- The steps, to be walked. -/
def U (P : Program) (l : List Oper) (I : World → Prop) (p : Plan) (K : Act → World → Prop) (σ : List Nat) (a : Act) (w : World) : Prop := steps P l.toArray I p K σ a w

theorem wp_region_orders {P : Program} {l : List Oper} {id : Nat} {Q : Exit → Act → World → Prop} {a : Act} {w : World} (I : World → Prop) (p : Plan) (os : List (List Nat)) (hm : P.follows .mixedOrders = true)
    (hok : okOrders p l os = true) (hI : I w.drew) (h : ∀ K : Act → World → Prop, (∀ a w, I w → Q .normal a w → K a w) → ∀ σ ∈ os, U P l I p K σ a w.drew) : (Code.region id l.toArray true).wp P Q a w :=
  region_steps hm hok hI (h _ fun _ _ _ h => h)

section
variable {P : Program} {l : List Oper} {I : World → Prop} {p : Plan} {K : Act → World → Prop} {a : Act} {w : World} {o : Oper} {i : Nat} {σ : List Nat}
theorem step_at (ho : look l i = some o) {K : Act → World → Prop} : step P l.toArray I p i K a w = (if p.cls i o = .w then wpOp P l.toArray NoWay i (fun a' w' => I w' ∧ K a' w') a w else ∃ v, Yv P l.toArray I (p.cls i o) (p.val i) o v a w ∧ K (a.put o.dst v) w) := by
  unfold step
  rw [look_eq, ho]
theorem u_nil (h : K a w) : U P l I p K [] a w := h
theorem u_skip (ho : look l i = some o) (hw : Region.wanted o (yielded l.toArray a.tmps) = false) (hI : I w) (h : U P l I p K σ (a.put o.dst undef) w) : U P l I p K (i :: σ) a w := by
  show step P l.toArray I p i _ a w
  rw [step_at ho]
  split
  · unfold wpOp
    simp only [look_eq, ho, hw]
    exact ⟨hI, h⟩
  · rename_i hc
    refine ⟨undef, ?_, h⟩
    unfold Yv
    cases hx : p.cls i o with
    | h => exact .inr ⟨hw, rfl⟩
    | r => exact .inr ⟨hw, rfl⟩
    | c => exact .inr ⟨hw, rfl⟩
    | w => exact (hc hx).elim
theorem u_held (ho : look l i = some o) (hc : p.cls i o = .h) (hw : Region.wanted o (yielded l.toArray a.tmps) = true) (v : Value) (hv : ∀ w1, I w1 → (execOp a.eval o).run P w1 = .ok (.value v) w1)
    (h : U P l I p K σ (a.put o.dst v) w) : U P l I p K (i :: σ) a w := by
  show step P l.toArray I p i _ a w
  rw [step_at ho]
  simp only [hc, reduceCtorEq, if_false]
  exact ⟨v, .inl ⟨hw, hv⟩, h⟩
theorem u_read (ho : look l i = some o) (hc : p.cls i o = .r) (hw : Region.wanted o (yielded l.toArray a.tmps) = true) (v : Value) (hv : (execOp a.eval o).run P w = .ok (.value v) w)
    (h : U P l I p K σ (a.put o.dst v) w) : U P l I p K (i :: σ) a w := by
  show step P l.toArray I p i _ a w
  rw [step_at ho]
  simp only [hc, reduceCtorEq, if_false]
  exact ⟨v, .inl ⟨hw, hv⟩, h⟩
/-- A call that is known to give a value and to leave the world. -/
theorem u_call (ho : look l i = some o) (hc : p.cls i o = .c) (hw : Region.wanted o (yielded l.toArray a.tmps) = true) (v : Value) (hval : p.val i = some v) (hv : ∀ w1, I w1 → gives P (execOp a.eval o) w1 fun v' w' => v' = v ∧ w' = w1)
    (h : U P l I p K σ (a.put o.dst v) w) : U P l I p K (i :: σ) a w := by
  show step P l.toArray I p i _ a w
  rw [step_at ho]
  simp only [hc, reduceCtorEq, if_false]
  exact ⟨v, .inl ⟨hw, hval, hv⟩, h⟩
theorem u_write (ho : look l i = some o) (hc : p.cls i o = .w) (hw : Region.wanted o (yielded l.toArray a.tmps) = true)
    (h : ∀ K' : Act → World → Prop, (∀ a' w', I w' → (I w' → U P l I p K σ a' w') → K' a' w') → o.wp P a w K' NoWay) : U P l I p K (i :: σ) a w := by
  show step P l.toArray I p i _ a w
  rw [step_at ho]
  simp only [hc, if_true]
  unfold wpOp
  simp only [look_eq, ho, hw, if_true]
  exact .inl (h _ fun a' w' h1 h2 => ⟨h1, h2 h1⟩)
end
end Ord
end Go.Proofs.Ytfledabgdcnkfaa
