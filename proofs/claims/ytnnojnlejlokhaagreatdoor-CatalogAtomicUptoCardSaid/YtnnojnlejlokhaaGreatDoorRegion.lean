/- A region that draws its order of evaluation, walked once, in the order of the text. No program. -/
import Derived.WalkKit
import Derived.OrdersHeld
set_option linter.unusedVariables false
set_option linter.unusedSimpArgs false
namespace Go.Proofs.YtnnojnlejlokhaaGreatDoor
variable {i : Nat} {v : Value}
namespace Text
inductive Cls where
 | h
 | r
 | w
 deriving DecidableEq
def fU' : Op -> Cls
 | .move _ | .assign _ | .pick .. | .nilCheck _ | .binOp .. | .unOp .. | .makeInterface .. | .makeFunc .. | .slice .. | .fieldAddr .. | .field .. | .indexAddr .. | .index .. | .extract .. | .typeAssert .. | .build .. => .h
 | .call { callee := .builtin .len, .. } => .h
 | .load .. | .lookup .. => .r
 | _ => .w
def V8' (holds : List Nat) (k : Nat) (o : Oper) : Cls := if holds.contains k then .h else fU' o.op
section
variable {P : Program} {ops : Array Oper} {I : World -> Prop} {holds : List Nat}
def D5' (P : Program) (ops : Array Oper) (o : Oper) (v : Value) (a : Act) (w : World) : Prop :=
 (Region.wanted o (yielded ops a.tmps) = true /\ (execOp a.eval o).run P w = .ok (.value v) w) \/
 (Region.wanted o (yielded ops a.tmps) = false /\ v = undef)
theorem D5'.of_same {o : Oper} {a a' : Act} {w : World} (hy : D5' P ops o v a w) (he : execOp a'.eval o = execOp a.eval o)
  (hw : Region.wanted o (yielded ops a'.tmps) = Region.wanted o (yielded ops a.tmps)) : D5' P ops o v a' w := by
 unfold D5' at *; rw [he, hw]; exact hy
theorem YieldsIf.at {o : Oper} {a : Act} {w : World} (h : YieldsIf P ops I o v a) (hI : I w) : D5' P ops o v a w :=
 h.imp (fun ⟨h1, h2⟩ => ⟨h1, h2 w hI⟩) id
theorem D5'.wpOp {o : Oper} {a : Act} (hi : ops[i]? = some o) {w : World} (hy : D5' P ops o v a w)
  {K : Act -> World -> Prop} {Q : Exit -> Act -> World -> Prop} (h : K (a.put o.dst v) w) : wpOp P ops Q i K a w := by
 unfold Go.wpOp; simp only [hi]
 rcases hy with ⟨hw, hv⟩ | ⟨hw, rfl⟩
 ·simp only [hw, if_true, Oper.wp, hv, Oper.upon]; exact .inl h
 ·simp only [hw, Bool.false_eq_true, if_false]; exact h
theorem D5'.unique {o : Oper} {u : Value} {a : Act} {w : World} (h : D5' P ops o v a w) (h' : D5' P ops o u a w) : v = u := by
 rcases h with ⟨h1, h2⟩ | ⟨h1, h2⟩ <;> rcases h' with ⟨h3, h4⟩ | ⟨h3, h4⟩
 ·rw [h2] at h4; cases h4; rfl
 ·rw [h1] at h3; cases h3
 ·rw [h1] at h3; cases h3
 ·rw [h2, h4]
def VX' : Exit -> Act -> World -> Prop := fun _ _ _ => False
def step (P : Program) (ops : Array Oper) (I : World -> Prop) (holds : List Nat) (i : Nat) (K : Act -> World -> Prop) (a : Act) (w : World) : Prop :=
 match ops[i]? with
 | none => False
 | some o => match V8' holds i o with
  | .h => ∃ v, YieldsIf P ops I o v a /\ K (a.put o.dst v) w
  | .r => ∃ v, D5' P ops o v a w /\ K (a.put o.dst v) w
  | .w => wpOp P ops VX' i (fun a' w' => I w' /\ K a' w') a w
def WA' (P : Program) (ops : Array Oper) (I : World -> Prop) (holds : List Nat) (K : Act -> World -> Prop) : List Nat -> Act -> World -> Prop
 | [], a, w => K a w
 | i :: l, a, w => step P ops I holds i (WA' P ops I holds K l) a w
theorem TP' {K K' : Act -> World -> Prop} {a : Act} {w : World} (h : ∀ a w, I w -> K a w -> K' a w) (hI : I w) (hs : step P ops I holds i K a w) : step P ops I holds i K' a w := by
 unfold step at *; split at hs
 ·exact hs
 ·rename_i o ho; split at hs
  ·obtain ⟨v, hy, hk⟩ := hs; exact ⟨v, hy, h _ _ hI hk⟩
  ·obtain ⟨v, hy, hk⟩ := hs; exact ⟨v, hy, h _ _ hI hk⟩
  ·exact wpOp_mono (fun a w ⟨h1, h2⟩ => ⟨h1, h a w h1 h2⟩) hs
theorem a2' {o : Oper} (ho : ops[i]? = some o) {K : Act -> World -> Prop} {a : Act} {w : World} (h : wpOp P ops VX' i K a w) :
  ∃ ds v w', K ({ a with defers := ds }.put o.dst v) w' := by
 unfold wpOp at h; simp only [ho] at h; split at h
 ·rcases h with h | ⟨_, _, _, h⟩
  ·unfold Oper.wp at h
   generalize (execOp a.eval o).run P w = r at *
   cases r with
   | ok n w' =>
    cases n <;> simp only [Oper.upon] at h
    case value u => exact ⟨a.defers, u, w', h⟩
    case skip => exact ⟨a.defers, undef, w', h⟩
    case defer d => exact ⟨d :: a.defers, undef, w', h⟩
    case enter f args =>
     obtain ⟨e, w'', fr, he, _⟩ := h []
     cases e with
     | returned u => exact ⟨a.defers, u, w'', he⟩
     | panicked c => exact he.elim
     | outgrown => obtain ⟨_, _, h⟩ := he; exact h.elim
    case row row args =>
     obtain ⟨u, w'', he, _⟩ := h default []; exact ⟨a.defers, u, w'', he⟩
   | halt x w' => cases x <;> simp only [Oper.upon] at h; exact h.elim
  ·exact h.elim
 ·exact ⟨a.defers, undef, w, h⟩
theorem W4' {j : Nat} {oi oj : Oper} {u : Value} (hj : ops[j]? = some oj) (hap : oi.apart ops oj = true)
  (hsj : ∀ cs b, oj.op ≠ .select cs b) {K K' : Act -> World -> Prop} {a : Act} {w : World}
  (hk : ∀ ds v w', K ({ a with defers := ds }.put oj.dst v) w' -> K' (({ a with defers := ds }.put oj.dst v).put oi.dst u) w')
  (h : wpOp P ops VX' j K a w) : wpOp P ops VX' j K' (a.put oi.dst u) w := by
 obtain ⟨h1, h2, h3⟩ := Oper.apart_spec hap
 have hk0 : ∀ v w', K (a.put oj.dst v) w' -> K' ((a.put oi.dst u).put oj.dst v) w' := fun v w' hh => by
  rw [Act.put_comm a u v h2]; exact hk a.defers v w' hh
 unfold wpOp at *; simp only [hj] at *; rw [wanted_put oj a oi.dst u h1]; split
 ·rename_i hw; simp only [hw, if_true] at h
  rcases h with h | ⟨_, _, _, h⟩
  ·refine .inl ?_; unfold Oper.wp at *; rw [execOp_put oj hsj a oi.dst u h1]
   generalize (execOp a.eval oj).run P w = r at *
   cases r with
   | ok n w' =>
    cases n <;> simp only [Oper.upon] at h ⊢
    case value v => exact hk0 v w' h
    case skip => exact hk0 undef w' h
    case defer d =>
     rw [Act.put_defers, Act.put_comm _ u undef h2]; exact hk (d :: a.defers) undef w' h
    case enter f args =>
     refine Calls.mono h fun e w'' he => ?_
     cases e with
     | returned v => exact hk0 v w'' he
     | panicked c => exact he
     | outgrown => exact he
    case row row args => exact Rows.mono h fun v w'' he => hk0 v w'' he
   | halt x w' =>
    cases x <;> simp only [Oper.upon] at h ⊢
    case panic v => exact h
  ·exact h.elim
 ·rename_i hw; simp only [hw] at h; exact hk0 undef w h
def calm (ops : Array Oper) (holds : List Nat) (j i : Nat) : Bool :=
 match ops[j]?, ops[i]? with
 | some oj, some oi => oi.apart ops oj && oj.apart ops oi &&
  (match V8' holds j oj, V8' holds i oi with
   | .h, _ | _, .h | .r, .r => true
   | _, _ => false)
 | _, _ => false
theorem TO' {j : Nat} (hs : Region.noSelect ops = true) (hc : calm ops holds j i = true) {K : Act -> World -> Prop} {a : Act} {w : World} (hI : I w)
  (h : step P ops I holds j (step P ops I holds i K) a w) : step P ops I holds i (step P ops I holds j K) a w := by
 unfold calm at hc; split at hc
 case h_2 => cases hc
 rename_i oj oi hoj hoi; simp only [Bool.and_eq_true] at hc; obtain ⟨⟨hap, hap'⟩, hcl⟩ := hc; have hsi := Region.noSelect_spec hs i oi; have hsj := Region.noSelect_spec hs j oj; obtain ⟨a1, a2, a3⟩ := Oper.apart_spec hap
 have ei : ∀ (a : Act) v, execOp (a.put oj.dst v).eval oi = execOp a.eval oi := fun a v => execOp_put oi (fun cs b => hsi cs b hoi) a oj.dst v a3
 have wi : ∀ (a : Act) v, Region.wanted oi (yielded ops (a.put oj.dst v).tmps) = Region.wanted oi (yielded ops a.tmps) := fun a v => wanted_put oi a oj.dst v a3
 have ej : ∀ (a : Act) v, execOp (a.put oi.dst v).eval oj = execOp a.eval oj := fun a v => execOp_put oj (fun cs b => hsj cs b hoj) a oi.dst v a1
 have wj : ∀ (a : Act) v, Region.wanted oj (yielded ops (a.put oi.dst v).tmps) = Region.wanted oj (yielded ops a.tmps) := fun a v => wanted_put oj a oi.dst v a1
 have comm : ∀ (a : Act) u v, (a.put oi.dst u).put oj.dst v = (a.put oj.dst v).put oi.dst u := fun a u v => Act.put_comm a u v a2
 unfold step at h ⊢; simp only [hoj, hoi] at h ⊢
 cases hj : V8' holds j oj <;> cases hi : V8' holds i oi <;> simp only [hj, hi] at h hcl ⊢
 case h.h =>
  obtain ⟨v, hv, u, hu, hk⟩ := h
  exact ⟨u, hu.of_same (ei a v).symm (wi a v).symm, v, hv.of_same (ej a u) (wj a u), by rw [comm]; exact hk⟩
 case h.r =>
  obtain ⟨v, hv, u, hu, hk⟩ := h
  exact ⟨u, hu.of_same (ei a v).symm (wi a v).symm, v, hv.of_same (ej a u) (wj a u), by rw [comm]; exact hk⟩
 case r.h =>
  obtain ⟨v, hv, u, hu, hk⟩ := h
  exact ⟨u, hu.of_same (ei a v).symm (wi a v).symm, v, hv.of_same (ej a u) (wj a u), by rw [comm]; exact hk⟩
 case r.r =>
  obtain ⟨v, hv, u, hu, hk⟩ := h
  exact ⟨u, hu.of_same (ei a v).symm (wi a v).symm, v, hv.of_same (ej a u) (wj a u), by rw [comm]; exact hk⟩
 case h.w =>
  obtain ⟨v, hv, hw⟩ := h; have := wpOp_putIf (Q := VX') hoi hap' (fun cs b => hsj cs b hoj) (fun cs b => hsi cs b hoi) (fun _ _ _ h => h) hv hw; exact wpOp_mono (fun a' w' ⟨h1, h2, h3⟩ => ⟨h2, v, h1, h3⟩) this
 case w.h =>
  obtain ⟨ds, v0, w0, hI0, u, hu, _⟩ := a2' hoj h; have hu' : YieldsIf P ops I oi u a := hu.of_same (ei { a with defers := ds } v0).symm (wi { a with defers := ds } v0).symm; refine ⟨u, hu', W4' hoj hap (fun cs b => hsj cs b hoj) (fun ds v w' hh => ?_) h⟩; obtain ⟨hI', u', hu2, hk⟩ := hh; have e : u' = u := D5'.unique (YieldsIf.at hu2 hI') (YieldsIf.at (hu'.of_same (a' := { a with defers := ds }.put oj.dst v) (ei { a with defers := ds } v) (wi { a with defers := ds } v)) hI'); subst e; exact ⟨hI', hk⟩
 case r.w => cases hcl
 case w.r => cases hcl
 case w.w => cases hcl
theorem pull {i : Nat} (hs : Region.noSelect ops = true) {K : Act -> World -> Prop} : ∀ (l l' : List Nat) (a : Act) (w : World), I w -> (∀ j ∈ l, calm ops holds j i = true) ->
  WA' P ops I holds K (l ++ i :: l') a w -> step P ops I holds i (WA' P ops I holds K (l ++ l')) a w
 | [], _, _, _, _, _, h => h
 | j :: l, l', a, w, hI, hc, h => by
  have h1 : step P ops I holds j (step P ops I holds i (WA' P ops I holds K (l ++ l'))) a w :=
   TP' (fun a' w' hI' hk => pull hs l l' a' w' hI' (fun k hk => hc k (by simp [hk])) hk) hI h
  exact TO' hs (hc j (by simp)) hI h1
end
def mask (acc : List Nat) (o : Oper) : Nat := o.after.toList.foldl (fun s e => if Region.binds .any e then s ||| 2 ^ e.on ||| acc.getD e.on 0 else s) 0
def masks : List Oper -> List Nat -> List Nat
 | [], acc => acc
 | o :: l, acc => masks l (acc ++ [mask acc o])
def Closed (ops : Array Oper) (listed : Nat -> Prop) : Prop := ∀ j o, ops[j]? = some o -> listed j -> ∀ e ∈ o.after, Region.binds .any e = true -> listed e.on
def Ahead (ops : Array Oper) (listed : Nat -> Prop) (j : Nat) : Prop := ∃ o, ops[j]? = some o /\ ∀ e ∈ o.after, Region.binds .any e = true -> listed e.on
def Good (ops : Array Oper) (listed : Nat -> Prop) (acc : List Nat) : Prop := ∀ j i, j < acc.length -> Ahead ops listed j -> (acc.getD j 0).testBit i = true -> listed i
theorem OO' (listed : Nat -> Prop) (acc : List Nat) : ∀ (es : List Edge) (s : Nat), (∀ i, s.testBit i = true -> listed i) ->
  (∀ e ∈ es, Region.binds .any e = true -> listed e.on /\ ∀ i, (acc.getD e.on 0).testBit i = true -> listed i) ->
  ∀ i, (es.foldl (fun s e => if Region.binds .any e then s ||| 2 ^ e.on ||| acc.getD e.on 0 else s) s).testBit i = true -> listed i
 | [], _, hs, _, i, h => hs i h
 | e :: es, s, hs, he, i, h => by
  rw [List.foldl_cons] at h; refine OO' listed acc es _ ?_ (fun e' he' => he e' (by simp [he'])) i h; intro i hi; split at hi
  ·rename_i hb; obtain ⟨h1, h2⟩ := he e (by simp) hb; rw [Nat.testBit_or, Nat.testBit_or, Bool.or_eq_true, Bool.or_eq_true, Nat.testBit_two_pow] at hi
   rcases hi with (hi | hi) | hi
   ·exact hs i hi
   ·have : e.on = i := by simpa using hi
    exact this ▸ h1
   ·exact h2 i hi
  ·exact hs i hi
theorem masks_good {ops : Array Oper} {listed : Nat -> Prop} (hcl : Closed ops listed) : ∀ (l : List Oper) (acc : List Nat), (∀ k, l[k]? = ops[acc.length + k]?) -> Good ops listed acc -> Good ops listed (masks l acc)
 | [], _, _, h => h
 | o :: l, acc, hl, h => by
  refine masks_good hcl l _ (fun k => by have := hl (k + 1); simpa [Nat.add_assoc, Nat.add_comm 1 k] using this) ?_; intro j i hj ha hb
  have ho : ops[acc.length]? = some o := by simpa using (hl 0).symm
  rw [List.length_append, List.length_singleton] at hj
  by_cases hlt : j < acc.length
  ·rw [List.getD, List.getElem?_append_left hlt, <- List.getD] at hb; exact h j i hlt ha hb
  ·have : j = acc.length := by omega
   subst this
   have e : (acc ++ [mask acc o]).getD acc.length 0 = mask acc o := by simp
   rw [e] at hb; obtain ⟨o', ho', hall⟩ := ha; have : o' = o := Option.some.inj (ho'.symm.trans ho); subst this; refine OO' listed acc o'.after.toList 0 (by simp) (fun e he hbd => ?_) i hb; have hle := hall e (by simpa using he) hbd
   refine ⟨hle, fun i hi => ?_⟩
   by_cases hlt : e.on < acc.length
   ·have hon : ∃ oe, ops[e.on]? = some oe := by
     have hsz : acc.length < ops.size := (Array.getElem?_eq_some_iff.1 ho).1; exact ⟨ops[e.on], Array.getElem?_eq_getElem (by omega)⟩
    obtain ⟨oe, hoe⟩ := hon
    exact h e.on i hlt ⟨oe, hoe, fun e' he' hb' => hcl e.on oe hoe hle e' he' hb'⟩ hi
   ·rw [List.getD, List.getElem?_eq_none (by omega)] at hi; simp at hi
section
variable {P : Program} {I : World -> Prop} {holds : List Nat} {l : List Oper}
def left (n : Nat) (listed : Array Bool) : List Nat := (List.range n).filter fun i => !listed.getD i true
theorem left_set {n : Nat} {listed : Array Bool} (hsz : listed.size = n) (hi : listed.getD i true = false) :
  ∃ l1 l2, left n listed = l1 ++ i :: l2 /\ left n (listed.setIfInBounds i true) = l1 ++ l2 /\ ∀ j ∈ l1, j < i /\ listed.getD j true = false := by
 have hin : i < n := by
  rcases Nat.lt_or_ge i listed.size with h | h
  ·omega
  ·simp [Array.getElem?_eq_none h] at hi
 have hr : List.range n = List.range i ++ i :: (List.range' (i + 1) (n - (i + 1))) := by
  rw [List.range_eq_range', List.range_eq_range']
  have e1 : List.range' 0 n = List.range' 0 i ++ List.range' i (n - i) := by
   have := List.range'_append (s := 0) (m := i) (n := n - i) (step := 1); simp only [Nat.one_mul, Nat.zero_add] at this; rw [this]; congr 1; omega
  have e2 : List.range' i (n - i) = i :: List.range' (i + 1) (n - (i + 1)) := by
   rw [show n - i = (n - (i + 1)) + 1 from by omega, List.range'_succ]
  rw [e1, e2]
 have hset : ∀ j, j ≠ i -> (listed.setIfInBounds i true).getD j true = listed.getD j true := fun j hj => getD_set_ne true (Ne.symm hj)
 refine ⟨(List.range i).filter fun j => !listed.getD j true, (List.range' (i + 1) (n - (i + 1))).filter fun j => !listed.getD j true, ?_, ?_, ?_⟩
 ·unfold left; rw [hr, List.filter_append, List.filter_cons]; simp [hi]
 ·unfold left; rw [hr, List.filter_append, List.filter_cons]
  have hii : (listed.setIfInBounds i true).getD i true = true := by simp [show i < listed.size by omega]
  simp only [hii, Bool.not_true, Bool.false_eq_true, if_false]
  congr 1
  ·exact List.filter_congr fun j hj => by rw [hset j (by have := List.mem_range.1 hj; omega)]
  ·exact List.filter_congr fun j hj => by
    have := List.mem_range'.1 hj; obtain ⟨k, hk, rfl⟩ := this; rw [hset _ (by omega)]
 ·intro j hj; rw [List.mem_filter] at hj
  exact ⟨List.mem_range.1 hj.1, by simpa using hj.2⟩
variable {ops : Array Oper} {K : Act -> World -> Prop} {a : Act} {w : World} {o : Oper} {rest : List Oper} {k : Nat}
end
end Text
end Go.Proofs.YtnnojnlejlokhaaGreatDoor
