/- A closed call of a program with maps, sorts and laid variables. No program. -/
import Derived.Test.YtnnojnlejlokhaaGreatDoorEngSorted
set_option linter.unusedVariables false
set_option linter.unusedSimpArgs false
namespace Go.Proofs.YtnnojnlejlokhaaGreatDoor.Eng
open Go Go.RowKit
variable {P : Program}
structure Cfg where
 strs : List (FuncId × FuncId × TypeId)
 ints : List (FuncId × FuncId × TypeId)
 same : List FuncId
 clone : List FuncId
 laid : List (Nat × List Value)
def fV' (l : List FuncId) (f : FuncId) : Bool := l.any fun x => Nat.beq x f
def U6' (f g : FuncId) : List (FuncId × FuncId × TypeId) -> Option TypeId
 | [] => none
 | (a, b, e) :: l => match Nat.beq a f && Nat.beq b g with
  | true => some e
  | false => U6' f g l
def WK' (g : Nat) : List (Nat × List Value) -> Option (List Value)
 | [] => none
 | (a, vs) :: l => match Nat.beq a g with
  | true => some vs
  | false => WK' g l
def conK (K : Cfg) (f : FuncId) (args : List AV) : Option (AP AV) :=
 match args with
 | [.func (.func g) [] [.ptr i 0]] => match U6' f g K.strs with
  | some e => some (GF' e i)
  | none => match U6' f g K.ints with
   | some e => some (IF' e i)
   | none => none
 | _ => none
def envK (P : Program) (K : Cfg) (w : World) : Env :=
 { W := default, F := HP.old w, strict := true, info := fun t => P.info? t, fn := fun f => P.funcs[f]?, con := conK K, wk := fun _ _ => False, ow := fun _ _ => False, gd := fun _ _ _ => False, fc := fun _ _ => False, claim := fun _ _ _ => none, lcon := fun _ _ => none, same := fV' K.same, clone := fV' K.clone, laid := fun g => WK' g K.laid }
structure CfgOk (P : Program) (K : Cfg) : Prop where
 strs : ∀ x ∈ K.strs, P.underlying x.2.2 = some .string /\ DT' P x.1 x.2.1 x.2.2
 ints : ∀ x ∈ K.ints, P.underlying x.2.2 = some (.int .i64) /\ S9' P x.1 x.2.1 x.2.2
 same : ∀ f ∈ K.same, ∀ v w, (callFunc f #[v]).run P w = .ok (.value v) w
 clone : ∀ f ∈ K.clone, ∀ t b es k w, w.heap[b]? = some (.map es k) -> (callFunc f #[.iface t (.map (some b))]).run P w = .ok (.value (.iface t (.map (some w.heap.size)))) (w.alloc (.map es k))
def SA' (K : Cfg) (w : World) : Prop := ∀ x ∈ K.laid, ∀ j v, x.2[j]? = some v -> w.cell? ⟨x.1, j, none⟩ = some v
theorem OE' {l : List FuncId} {f : FuncId} (h : fV' l f = true) : f ∈ l := by
 obtain ⟨x, hx, hq⟩ := List.any_eq_true.1 h; rw [<- Nat.eq_of_beq_eq_true hq]; exact hx
theorem KB' {f g : FuncId} {e : TypeId} : ∀ {l : List (FuncId × FuncId × TypeId)}, U6' f g l = some e -> (f, g, e) ∈ l
 | [], h => by cases h
 | (a, b, e') :: l, h => by
  unfold U6' at h; split at h
  ·rename_i hq; rw [Bool.and_eq_true] at hq; cases h; rw [Nat.eq_of_beq_eq_true hq.1, Nat.eq_of_beq_eq_true hq.2]; exact List.mem_cons_self
  ·exact List.mem_cons_of_mem _ (KB' h)
theorem NU' {g : Nat} {vs : List Value} : ∀ {l : List (Nat × List Value)}, WK' g l = some vs -> (g, vs) ∈ l
 | [], h => by cases h
 | (a, b) :: l, h => by
  unfold WK' at h; split at h
  ·rename_i hq; cases h; rw [Nat.eq_of_beq_eq_true hq]; exact List.mem_cons_self
  ·exact List.mem_cons_of_mem _ (NU' h)
theorem UZ' {K : Cfg} (hK : CfgOk P K) {w : World} (hL : SA' K w) : EnvOk P (envK P K w) where
 wk := fun _ _ h => h.elim
 ow := fun _ _ h => h.elim
 gd := fun _ _ _ h => h.elim
 fc := fun _ _ h => h.elim
 info := fun _ _ h => h
 fn := fun _ _ h => h
 old := fun D w' _ a v hv => by
  have : (default : World).cell? a = none := by
   have : (default : World).heap[a.block]? = none := by show (#[] : Array Obj)[a.block]? = none; simp
   simp [World.cell?, this]
  have h2 : (envK P K w).W.cell? a = none := this; rw [h2] at hv; cases hv
 laid := fun D w' hF g vs h j v hv => by
  have h1 := hL _ (NU' h) j v hv; have hF' : (HP.old w).on D w' := hF
  have hb : w'.heap[g]? = w.heap[g]? := hF'.2 g (by
   simp only [World.cell?] at h1
   cases hg : w.heap[g]? with
   | none => rw [hg] at h1; cases h1
   | some o => exact (Array.getElem?_eq_some_iff.1 hg).1)
  simp only [World.cell?, hb] at h1 ⊢; exact h1
 same := fun f h => hK.same f (OE' h)
 clone := fun f h => hK.clone f (OE' h)
theorem RO' {K : Cfg} (hK : CfgOk P K) (w : World) : IB' P (envK P K w) := by
 intro st W0 N h w1 f args vargs v h' n n' lg lg' c p hp he hc r ha hf; have hp' : conK K f args = some p := hp; unfold conK at hp'; split at hp'
 ·rename_i g i
  have hva : ∃ l, N i = some l /\ vargs = #[.func (.func g) #[] #[.pointer (some ⟨l.blk, l.off + 0, none⟩)]] := by
   obtain ⟨y, r0, h1, h2, h3⟩ := (by simpa only [VRs] using ha : ∃ y r, VR N (.func (.func g) [] [.ptr i 0]) y /\ r = [] /\ vargs.toList = y :: r); subst h2; simp only [VR] at h1; obtain ⟨f', c', q1, q2, rfl⟩ := h1; simp only [VRs] at q1; subst q1; obtain ⟨z, r1, q3, q4, rfl⟩ := (by simpa only [VRs] using q2 : ∃ y r, VR N (.ptr i 0) y /\ r = [] /\ c' = y :: r); subst q4; simp only [VR] at q3; obtain ⟨l, hl, rfl⟩ := q3
   exact ⟨l, hl, by apply Array.ext'; simpa using h3⟩
  obtain ⟨l, hl, rfl⟩ := hva; split at hp'
  ·rename_i e he3; cases hp'; obtain ⟨hu, hS⟩ := hK.strs _ (KB' he3); exact EZ' hu hS r hl hf he
  ·split at hp'
   ·rename_i e he3; cases hp'; obtain ⟨hu, hS⟩ := hK.ints _ (KB' he3); exact K0' hu hS r hl hf he
   ·cases hp'
 ·cases hp'
theorem OT' (P : Program) (K : Cfg) (w : World) : DU' P (envK P K w) := by
 intro st W0 N h w1 g b tmps tmps' ax a h' n n' lg lg' c Q p hp
 cases hf : CC' b <;> rw [hf] at hp <;> cases hp
theorem CM' {K : Cfg} (hK : CfgOk P K) (hm : P.follows .mixedOrders = true) {fuel : Nat} {f : FuncId} {args : List Value} {x : Value} (he : ∀ w, V9' ((D3' P (envK P K w) fuel f (vmap args)).run true .nil 0 []) = some x) {w : World} (hL : SA' K w) :
  Calls P f args.toArray w fun e w' => e = .returned x /\ Below w.heap.size w w' := by
 have he := he w
 cases hr : (D3' P (envK P K w) fuel f (vmap args)).run true .nil 0 [] with
 | bad why => rw [hr] at he; cases he
 | ok v h' n' lg c =>
  rw [hr] at he
  cases c with
  | t =>
   refine (DB' (UZ' hK hL) hm (RO' hK w) (OT' P K w) hr trivial (M8' w) (VRs.vmap args) (fun _ _ _ => rfl)).mono ?_; rintro e w' ⟨y, N', rfl, r', hv, _⟩; have : y = x := DM' he hv; subst this; exact ⟨rfl, r'.old_below⟩
  | _ => cases he
end Go.Proofs.YtnnojnlejlokhaaGreatDoor.Eng
