/- The operations of a region, in whatever order. No program. -/
import Derived.Test.YtnnojnlejlokhaaGreatDoorEngOps3
set_option linter.unusedVariables false
set_option linter.unusedSimpArgs false
namespace Go.Proofs.YtnnojnlejlokhaaGreatDoor.Eng
open Go Go.RowKit
section
variable {P : Program} {E : Env} {ρ ρ' : Operand -> AV}
theorem H2' {x : Operand} (h : ρ x = ρ' x) : E0' ρ x = E0' ρ' x := by simp [E0', h]
theorem NY' {l : List Operand} (h : ∀ x ∈ l, ρ x = ρ' x) : opsVal? ρ l = opsVal? ρ' l := by
 unfold opsVal?
 induction l with
 | nil => rfl
 | cons x l ih => rw [List.all_cons, List.all_cons, h x (by simp), ih (fun y hy => h y (by simp [hy]))]
theorem QQ' (cl : Call) (type : TypeId) (h : ∀ x ∈ cl.operands, ρ x = ρ' x) : QR' P E cl type ρ = QR' P E cl type ρ' := by
 obtain ⟨callee, args, argTypes⟩ := cl
 have hargs : args.toList.map ρ = args.toList.map ρ' := List.map_congr_left fun x hx => h x (by simp [Call.operands]; exact .inr (by simpa using hx))
 cases callee with
 | value f =>
  have hf : ρ f = ρ' f := h f (by simp [Call.operands]); simp only [QR', hargs, hf]
 | invoke r m =>
  have hr : ρ r = ρ' r := h r (by simp [Call.operands]); simp only [QR', hargs, hr]
 | builtin b =>
  simp only [QR', hargs]
  generalize args.toList.map ρ' = l
  generalize argTypes.toList = m
  cases b <;> first | rfl | (rcases l with _ | ⟨a, _ | ⟨b, _ | ⟨c, l⟩⟩⟩ <;> rcases m with _ | ⟨d, _ | ⟨e, _ | ⟨f, m⟩⟩⟩ <;> rfl)
theorem T7' (o : Oper) (h : ∀ x ∈ o.op.operands, ρ x = ρ' x) : aOp1 P E ρ o = aOp1 P E ρ' o := by
 obtain ⟨dst, op, type, pos, after, guard⟩ := o
 have pairs : ∀ ps : Array (Nat × Operand), (∀ x ∈ ps.map (·.2), ρ x = ρ' x) -> (ps.toList.map fun (i, x) => (i, ρ x)) = (ps.toList.map fun (i, x) => (i, ρ' x)) := fun ps hp =>
  List.map_congr_left fun p hm => by
   obtain ⟨i, x⟩ := p; simp only [hp x (Array.mem_map.2 ⟨(i, x), by simpa using hm, rfl⟩)]
 cases op <;> simp only [Op.operands] at h <;> simp only [aOp1]
 case build t ps => rw [pairs ps fun x hx => h x (by simpa using hx)]
 case buildSlice t n ps => rw [pairs ps fun x hx => h x (by simpa using hx)]
 case makeFunc fn first captured =>
  rw [List.map_congr_left (l := first.toList) fun x hx => h x (by simp at hx; simp [hx]), List.map_congr_left (l := captured.toList) fun x hx => h x (by simp at hx; simp [hx])]
 case call c => exact QQ' c _ h
 case makeMap t r => cases r <;> simp_all
 case next it b => cases b <;> simp_all
 case slice t x lo hi mx => cases lo <;> cases hi <;> cases mx <;> simp_all
 all_goals (first | rfl | (simp_all; done))
theorem VT' (o : Oper) (h : ∀ x ∈ o.op.operands, ρ x = ρ' x) : aOp P E ρ o = aOp P E ρ' o := by
 unfold aOp; rw [T7' o h, NY' (fun x hx => h x (by simpa using hx))]
 cases hk : RB' o.op with
 | false => rfl
 | true =>
  have : execOp (E0' ρ) o = execOp (E0' ρ') o := execOp_congr o (fun cs b ho => by rw [ho] at hk; cases hk) (fun x hx => H2' (h x hx)); rw [this]
  cases hv : opsVal? ρ' o.op.operands.toList with
  | false => rfl
  | true =>
   have he : UY' E ρ o.op = UY' E ρ' o.op := by
    unfold UY'
    cases E.strict with
    | true => rfl
    | false =>
     cases hop : o.op with
     | binOp op2 t x y yt =>
      simp only; rw [H2' (h x (by rw [hop]; simp [Op.operands])), H2' (h y (by rw [hop]; simp [Op.operands]))]
     | _ => rfl
   rw [he]
theorem OQ' {tmps : List AV} {dst : Option Nat} {v : AV} {x : Operand} (h : ∀ d, dst = some d -> x ≠ .tmp d) : IP' (putA tmps dst v) x = IP' tmps x := by
 cases dst with
 | none => rfl
 | some d =>
  cases x with
  | tmp t =>
   have hne : d ≠ t := fun e => h d rfl (e ▸ rfl)
   simp [IP', Q6', putA, List.getElem?_set_ne hne]
  | _ => rfl
theorem VS' {ops : Array Oper} (o : Oper) (tmps : List AV) (dst : Option Nat) (v : AV) (h : ∀ d, dst = some d -> d ∉ o.looksAt ops) : aOp P E (IP' (putA tmps dst v)) o = aOp P E (IP' tmps) o :=
 VT' o fun x hx => OQ' fun d hd hxd => h d hd (by
  subst hxd
  exact List.mem_append_left _ (List.mem_filterMap.2 ⟨.tmp d, by simpa using hx, rfl⟩))
theorem T9' {ρ ρ' : Operand -> AV} (op : Op) (h : ∀ x ∈ op.operands.toList, ρ' x = ρ x) : aAlt E ρ' op = aAlt E ρ op := by
 cases op with
 | call c =>
  unfold aAlt
  cases hc : c.callee with
  | builtin b =>
   have hops : (Op.call c).operands.toList = c.args.toList := by simp [Op.operands, Call.operands, hc]
   rw [hops] at h
   cases b with
   | append =>
    simp only [hc]; split
    ·rename_i s x ts tx e1 e2 e3; rw [e2] at h; rw [h s (by simp), h x (by simp)]
    ·rfl
   | _ => simp only [hc]
  | _ => simp only [hc]
 | slice t x lo hi mx =>
  cases mx with
  | none =>
   unfold aAlt; have hx := h x (by simp [Op.operands])
   have hlo : lo.map ρ' = lo.map ρ := by
    cases lo with
    | none => rfl
    | some y => exact congrArg some (h y (by simp [Op.operands]))
   have hhi : hi.map ρ' = hi.map ρ := by
    cases hi with
    | none => rfl
    | some y => exact congrArg some (h y (by simp [Op.operands]))
   simp only [hx, hlo, hhi]
  | some m =>
   cases hi with
   | none => rfl
   | some hi =>
    unfold aAlt
    have hlo : lo.map ρ' = lo.map ρ := by
     cases lo with
     | none => rfl
     | some y => exact congrArg some (h y (by simp [Op.operands]))
    simp only [h x (by simp [Op.operands]), h hi (by simp [Op.operands]), h m (by simp [Op.operands]), hlo]
 | index t x ix =>
  unfold aAlt; simp only [h x (by simp [Op.operands]), h ix (by simp [Op.operands])]
 | binOp op2 t x y ty =>
  cases op2 with
  | add =>
   unfold aAlt; simp only [h x (by simp [Op.operands]), h y (by simp [Op.operands])]
  | _ => rfl
 | lookup t x k ok =>
  cases ok with
  | true => rfl
  | false =>
   unfold aAlt; simp only [h x (by simp [Op.operands]), h k (by simp [Op.operands])]
 | mapUpdate t m k x =>
  unfold aAlt; simp only [h m (by simp [Op.operands]), h k (by simp [Op.operands]), h x (by simp [Op.operands])]
 | _ => rfl
theorem QV' {ρ ρ' : Operand -> AV} (op : Op) (y : Value) (h : ∀ x, x ∈ op.operands.toList -> ρ' x = ρ x) : PE' E ρ' op y = PE' E ρ op y := by
 cases op with
 | load t a =>
  unfold PE'; simp only [h a (by simp [Op.operands])]
 | lookup t x k ok =>
  cases ok with
  | true => rfl
  | false =>
   unfold PE'; simp only [h x (by simp [Op.operands]), h k (by simp [Op.operands])]
 | call c =>
  unfold PE'
  cases hc : c.callee with
  | builtin b =>
   have hops : (Op.call c).operands.toList = c.args.toList := by simp [Op.operands, Call.operands, hc]
   rw [hops] at h
   cases b with
   | len =>
    simp only [hc]; split
    ·rename_i x t e1 e2 e3; rw [e2] at h; rw [h x (by simp)]
    ·rfl
   | _ => simp only [hc]
  | _ => simp only [hc]
 | _ => rfl
theorem VR' {ρ ρ' : Operand -> AV} (op : Op) (o' : AO) (h : ∀ x, x ∈ op.operands.toList -> ρ' x = ρ x) : aWr E ρ' op o' = aWr E ρ op o' := by
 cases op with
 | mapUpdate t m k x =>
  unfold aWr; simp only [h m (by simp [Op.operands]), h k (by simp [Op.operands]), h x (by simp [Op.operands])]
 | call c =>
  unfold aWr
  cases hc : c.callee with
  | builtin b =>
   have hops : (Op.call c).operands.toList = c.args.toList := by simp [Op.operands, Call.operands, hc]
   rw [hops] at h
   cases b with
   | delete =>
    simp only [hc]; split
    ·rename_i m k t tk e1 e2 e3; rw [e2] at h; rw [h m (by simp), h k (by simp)]
    ·rfl
   | _ => simp only [hc]
  | _ => simp only [hc]
 | _ => rfl
theorem T5' {ρ ρ' : Operand -> AV} (op : Op) (s : Δ) (h : ∀ x, x ∈ op.operands.toList -> ρ' x = ρ x) : aTxt E ρ' op s = aTxt E ρ op s := by
 cases op with
 | convert a b x =>
  unfold aTxt; simp only [h x (by simp [Op.operands])]
 | _ => rfl
theorem YD' {ops : Array Oper} {alt : Alt} (o : Oper) (tmps : List AV) (dst : Option Nat) (v : AV) (h : ∀ d, dst = some d -> d ∉ o.looksAt ops) : aOpX alt P E (IP' (putA tmps dst v)) o = aOpX alt P E (IP' tmps) o := by
 have hev : ∀ x, x ∈ o.op.operands.toList -> IP' (putA tmps dst v) x = IP' tmps x := fun x hx => OQ' fun d hd hxd => h d hd (by
  subst hxd
  exact List.mem_append_left _ (List.mem_filterMap.2 ⟨.tmp d, by simpa using hx, rfl⟩))
 cases alt with
 | yes => exact T9' o.op hev
 | no => exact VS' o tmps dst v h
 | fact y => exact QV' o.op y hev
 | wr o' => exact VR' o.op o' hev
 | txt s => exact T5' o.op s hev
 | force => simp only [aOpX, VS' o tmps dst v h]
theorem JU' {ops : Array Oper} (o : Oper) (tmps : List AV) (dst : Option Nat) (v : AV) (h : ∀ d, dst = some d -> d ∉ o.looksAt ops) :
  Region.wanted o (C9' ops (putA tmps dst v)) = Region.wanted o (C9' ops tmps) := by
 cases dst with
 | none => rfl
 | some d =>
  unfold Region.wanted
  cases hg : o.guard with
  | none => rfl
  | some gw =>
   obtain ⟨g, want⟩ := gw
   have hy : C9' ops (putA tmps (some d) v) g = C9' ops tmps g := by
    unfold C9'
    cases ht : (ops[g]?).bind (·.dst) with
    | none => rfl
    | some t =>
     have hne : d ≠ t := fun e => h d rfl (by subst e; simp [Oper.looksAt, hg, ht])
     simp [putA, List.getElem?_set_ne hne]
   simp only [hy]
theorem P0' {ops : Array Oper} (o : Oper) (tmps : List AV) (dst : Option Nat) (v : AV) (h : ∀ d, dst = some d -> d ∉ o.looksAt ops) : L7' ops (putA tmps dst v) o = L7' ops tmps o := by
 cases dst with
 | none => rfl
 | some d =>
  unfold L7'
  cases hg : o.guard with
  | none => rfl
  | some gw =>
   obtain ⟨g, want⟩ := gw; simp only
   have he : ((ops[g]?).bind (·.dst)).bind (fun x => (putA tmps (some d) v)[x]?) = ((ops[g]?).bind (·.dst)).bind (fun x => tmps[x]?) := by
    cases ht : (ops[g]?).bind (·.dst) with
    | none => rfl
    | some t =>
     have hne : d ≠ t := fun e => h d rfl (by subst e; simp [Oper.looksAt, hg, ht])
     simp [putA, List.getElem?_set_ne hne]
   rw [he]
theorem U5' (tmps : List AV) {x y : Option Nat} (v u : AV) (h : ∀ d, x = some d -> y ≠ some d) : putA (putA tmps x v) y u = putA (putA tmps y u) x v := by
 cases x with
 | none => rfl
 | some d =>
  cases y with
  | none => rfl
  | some e =>
   have hne : d ≠ e := fun he => h d rfl (he ▸ rfl)
   exact List.set_comm _ _ hne
theorem NO' {ops : Array Oper} {rc : Rc} {alt : Alt} (o : Oper) (tmps : List AV) (dst : Option Nat) (v : AV) (h : ∀ d, dst = some d -> d ∉ o.looksAt ops) : M5' alt P E rc o (putA tmps dst v) = M5' alt P E rc o tmps := by
 unfold M5'; rw [YD' o tmps dst v h]
end
theorem LK' {P : Program} {E : Env} {hn : Nat -> Option Hint} {i : Nat} {ops : Array Oper} {rc : Rc} (o : Oper) (tmps : List AV) (dst : Option Nat) (v : AV) (h : ∀ d, dst = some d -> d ∉ o.looksAt ops) : DQ' P E rc hn i o (putA tmps dst v) = DQ' P E rc hn i o tmps := by
 unfold DQ'
 cases hn i with
 | none => exact NO' o tmps dst v h
 | some t =>
  show (M5' t.alt P E rc o (putA tmps dst v)).bind _ = (M5' t.alt P E rc o tmps).bind _; rw [NO' o tmps dst v h]
structure Rcd where
 want : Bool
 v : AV
 u : AV
 lo : Nat
 hi : Nat
 lg : Log
 c : Cnd
def Rcd.mk' (r : Rcd) : Mk := ⟨r.lg, r.lo, r.hi⟩
abbrev S := List AV × T
section
variable (P : Program) (E : Env) (rc : Rc) (hn : Nat -> Option Hint) (st : Bool) (ops : Array Oper) (R : Nat -> Rcd)
def AStep (i : Nat) (s s' : S) : Prop :=
 ∃ o, ops[i]? = some o /\ L7' ops s.1 o = false /\ Region.wanted o (C9' ops s.1) = (R i).want /\
  (((R i).want = true /\ s'.1 = putA s.1 o.dst (R i).u /\ Wk (R i).v (R i).u /\ ∃ h', (DQ' P E rc hn i o s.1).run st s.2 (R i).lo [] = .ok (R i).v h' (R i).hi (R i).lg (R i).c /\ ∀ k, s'.2.find k = h'.find k) \/
   ((R i).want = false /\ s'.1 = putA s.1 o.dst AV.undef /\ ∀ k, s'.2.find k = s.2.find k))
def GZ' : List Nat -> S -> S -> Prop
 | [], s, z => s = z
 | i :: l, s, z => ∃ s', AStep P E rc hn st ops R i s s' /\ GZ' l s' z
end
section
variable {P : Program} {E : Env} {rc : Rc} {hn : Nat -> Option Hint} {st : Bool} {ops : Array Oper} {R : Nat -> Rcd}
def hS' (ops : Array Oper) (R : Nat -> Rcd) (j i : Nat) : Prop :=
 ∃ oj oi, ops[j]? = some oj /\ ops[i]? = some oi /\ oi.apart ops oj = true /\ oj.apart ops oi = true /\ ((R j).want = true -> (R i).want = true -> Y1' (R j).mk' (R i).mk' = false)
theorem QZ' {lg : Log} {x : Nat × Bool} (h : x ∈ lg) : M1' lg x.1 = true := List.any_eq_true.2 ⟨x, h, Nat.beq_refl _⟩
theorem SU' {a b : Mk} (h : Y1' a b = false) :
  (∀ k, (k, true) ∈ a.lg -> ∀ x ∈ b.lg, x.1 ≠ k) /\ (∀ k, (k, true) ∈ b.lg -> ∀ x ∈ a.lg, x.1 ≠ k) /\ (∀ x ∈ b.lg, ¬ (a.lo <= x.1 /\ x.1 < a.hi)) /\ (∀ x ∈ a.lg, ¬ (b.lo <= x.1 /\ x.1 < b.hi)) /\ (a.hi <= b.lo \/ b.lo = b.hi) := by
 simp only [Y1', Bool.or_eq_false_iff] at h; obtain ⟨⟨⟨⟨h1, h2⟩, h3⟩, h4⟩, h5⟩ := h
 have rng : ∀ {lo hi : Nat} {lg : Log}, Q3' lo hi lg = false -> ∀ x ∈ lg, ¬ (lo <= x.1 /\ x.1 < hi) := fun {lo hi lg} hr x hx hh => by
  have := List.any_eq_false.1 hr x hx; apply this; simp only [Bool.and_eq_true, Nat.ble_eq, Nat.blt_eq]; exact hh
 refine ⟨fun k hk x hx e => ?_, fun k hk x hx e => ?_, rng h3, rng h4, ?_⟩
 ·have := List.any_eq_false.1 h1 _ hk; apply this; subst e; simp only [Bool.true_and]; exact QZ' hx
 ·have := List.any_eq_false.1 h2 _ hk; apply this; subst e; simp only [Bool.true_and]; exact QZ' hx
 ·simp only [Bool.not_eq_false', Bool.or_eq_true, Nat.ble_eq] at h5; exact h5.imp id Nat.eq_of_beq_eq_true
theorem T0' {j i : Nat} (hi : hS' ops R j i) {s z : S} (h : GZ' P E rc hn st ops R [j, i] s z) : GZ' P E rc hn st ops R [i, j] s z := by
 obtain ⟨oj, oi, hoj, hoi, hap, hap', hcl⟩ := hi; obtain ⟨a1, a2, a3⟩ := Oper.apart_spec hap; obtain ⟨s1, ⟨oj', hoj', bj, wj, hj⟩, s2, ⟨oi', hoi', bi, wi, hi2⟩, rfl⟩ := h; obtain rfl : oj' = oj := Option.some.inj (hoj'.symm.trans hoj); obtain rfl : oi' = oi := Option.some.inj (hoi'.symm.trans hoi)
 have hcomm : ∀ (t : List AV) (u v : AV), putA (putA t oj'.dst u) oi'.dst v = putA (putA t oi'.dst v) oj'.dst u := fun t u v => (U5' t v u a2).symm
 have wi' : ∀ v, s1.1 = putA s.1 oj'.dst v -> Region.wanted oi' (C9' ops s.1) = (R i).want := fun v hv => by
  rw [<- wi, hv, JU' oi' s.1 oj'.dst v a3]
 have wj' : ∀ v, Region.wanted oj' (C9' ops (putA s.1 oi'.dst v)) = (R j).want := fun v => by
  rw [JU' oj' s.1 oi'.dst v a1, wj]
 have bi' : ∀ v, s1.1 = putA s.1 oj'.dst v -> L7' ops s.1 oi' = false := fun v hv => by
  rw [<- bi, hv, P0' oi' s.1 oj'.dst v a3]
 have bj' : ∀ v, L7' ops (putA s.1 oi'.dst v) oj' = false := fun v => by
  rw [P0' oj' s.1 oi'.dst v a1, bj]
 have ri : ∀ v, s1.1 = putA s.1 oj'.dst v -> DQ' P E rc hn i oi' s1.1 = DQ' P E rc hn i oi' s.1 := fun v hv => by
  rw [hv]; exact LK' oi' s.1 oj'.dst v a3
 have rj : ∀ v, DQ' P E rc hn j oj' (putA s.1 oi'.dst v) = DQ' P E rc hn j oj' s.1 := fun v => LK' oj' s.1 oi'.dst v a1
 rcases hj with ⟨wjt, tj, kj, hj', ej, fj⟩ | ⟨wjf, tj, fj⟩
 ·rcases hi2 with ⟨wit, ti, ki, hi', ei, fi⟩ | ⟨wif, ti, fi⟩
  ·obtain ⟨c1, c2, c3, c4, c5⟩ := SU' (hcl wjt wit); simp only [Rcd.mk'] at c1 c2 c3 c4 c5; obtain ⟨newj, nj, uj, lj⟩ := K2' _ ej; obtain ⟨newi, ni, ui, li⟩ := K2' _ ei; rw [List.append_nil] at nj ni; subst nj ni
   have dis : ∀ k, (R j).lo <= k -> k < (R j).hi -> (R i).lo <= k -> k < (R i).hi -> False := fun k h1 h2 h3 h4 => ω
   -- the later one, ahead
   obtain ⟨g', e1, p1, p2⟩ := li s.2 [] (fun x hx => by
    rw [fj x.1, uj x.1 (fun hw => ?_)]
    rcases hw with hw | hw
    ·exact c1 _ hw x hx rfl
    ·exact c3 x hx hw) (fun k h1 h2 => by
    rw [fj k, uj k (fun hw => ?_)]
    rcases hw with hw | hw
    ·exact c4 _ hw ⟨h1, h2⟩
    ·exact dis k hw.1 hw.2 h1 h2)
   rw [List.append_nil] at e1
   -- the earlier one, behind
   obtain ⟨g'', e2, p3, p4⟩ := lj g' [] (fun x hx => by
    rw [p2 x.1 (fun hw => ?_)]
    rcases hw with hw | hw
    ·exact c2 _ hw x hx rfl
    ·exact c4 x hx hw) (fun k h1 h2 => by
    rw [p2 k (fun hw => ?_)]
    rcases hw with hw | hw
    ·exact c3 _ hw ⟨h1, h2⟩
    ·exact dis k h1 h2 hw.1 hw.2)
   rw [List.append_nil] at e2
   refine ⟨(putA s.1 oi'.dst (R i).u, g'), ⟨oi', hoi, bi' _ tj, wi' _ tj, .inl ⟨wit, rfl, ki, g', by rw [<- ri _ tj]; exact e1, fun k => rfl⟩⟩, s2, ⟨oj', hoj, bj' _, wj' _, .inl ⟨wjt, ?_, kj, g'', by rw [rj]; exact e2, fun k => ?_⟩⟩, rfl⟩
   ·rw [ti, tj]; exact hcomm _ _ _
   ·rw [fi k]
    by_cases hwj : Wr (R j).lg (R j).lo (R j).hi k
    ·rw [p3 k hwj, ui k (fun hw => ?_), fj k]
     rcases hwj with h1 | h1 <;> rcases hw with h2 | h2
     ·exact c1 _ h1 _ h2 rfl
     ·exact c4 _ h1 h2
     ·exact c3 _ h2 h1
     ·exact dis k h1.1 h1.2 h2.1 h2.2
    ·rw [p4 k hwj]
     by_cases hwi : Wr (R i).lg (R i).lo (R i).hi k
     ·rw [p1 k hwi]
     ·rw [p2 k hwi, ui k hwi, fj k, uj k hwj]
  ·refine ⟨(putA s.1 oi'.dst AV.undef, s.2), ⟨oi', hoi, bi' _ tj, wi' _ tj, .inr ⟨wif, rfl, fun k => rfl⟩⟩, s2, ⟨oj', hoj, bj' _, wj' _, .inl ⟨wjt, ?_, kj, hj', by rw [rj]; exact ej, fun k => ?_⟩⟩, rfl⟩
   ·rw [ti, tj]; exact hcomm _ _ _
   ·rw [fi k, fj k]
 ·rcases hi2 with ⟨wit, ti, ki, hi', ei, fi⟩ | ⟨wif, ti, fi⟩
  ·obtain ⟨newi, ni, ui, li⟩ := K2' _ ei; rw [List.append_nil] at ni; subst ni; obtain ⟨g', e1, p1, p2⟩ := li s.2 [] (fun x hx => (fj x.1).symm) (fun k h1 h2 => (fj k).symm); rw [List.append_nil] at e1
   refine ⟨(putA s.1 oi'.dst (R i).u, g'), ⟨oi', hoi, bi' _ tj, wi' _ tj, .inl ⟨wit, rfl, ki, g', by rw [<- ri _ tj]; exact e1, fun k => rfl⟩⟩, s2, ⟨oj', hoj, bj' _, wj' _, .inr ⟨wjf, ?_, fun k => ?_⟩⟩, rfl⟩
   ·rw [ti, tj]; exact hcomm _ _ _
   ·rw [fi k]
    by_cases hwi : Wr (R i).lg (R i).lo (R i).hi k
    ·exact (p1 k hwi).symm
    ·rw [p2 k hwi, ui k hwi, fj k]
  ·refine ⟨(putA s.1 oi'.dst AV.undef, s.2), ⟨oi', hoi, bi' _ tj, wi' _ tj, .inr ⟨wif, rfl, fun k => rfl⟩⟩, s2, ⟨oj', hoj, bj' _, wj' _, .inr ⟨wjf, ?_, fun k => ?_⟩⟩, rfl⟩
   ·rw [ti, tj]; exact hcomm _ _ _
   ·rw [fi k, fj k]
theorem L0' {i : Nat} : ∀ (l l' : List Nat) {s z : S}, (∀ j ∈ l, hS' ops R j i) -> GZ' P E rc hn st ops R (l ++ i :: l') s z -> GZ' P E rc hn st ops R (i :: (l ++ l')) s z
 | [], _, _, _, _, h => h
 | j :: l, l', s, z, hc, ⟨s', h1, h2⟩ => by
  obtain ⟨s2, h3, h4⟩ := L0' l l' (fun k hk => hc k (by simp [hk])) h2; obtain ⟨m1, k1, m2, k2, rfl⟩ := T0' (hc j (by simp)) (show GZ' P E rc hn st ops R [j, i] s s2 from ⟨s', h1, s2, h3, rfl⟩); exact ⟨m1, k1, m2, k2, h4⟩
end
end Go.Proofs.YtnnojnlejlokhaaGreatDoor.Eng
