/- The engine's definitions: values, objects and operations with names of their own for blocks. No program, no proof. -/
import GoSem.Step
import GoSem.ClaimWide
import Derived.Control
import Derived.Test.YtnnojnlejlokhaaGreatDoorSat
import Derived.Test.YtnnojnlejlokhaaGreatDoorMd
set_option linter.unusedVariables false
set_option linter.unusedSimpArgs false
namespace Go.Proofs.YtnnojnlejlokhaaGreatDoor.Eng
open Go
noncomputable section
inductive Cp where
 | ex (c : Nat)
 | lo (c : Nat)
def Cp.least : Cp -> Nat
 | .ex c | .lo c => c
inductive AV where
 | v (x : Value)
 | lit (b : Bool)
 | ptr (i off : Nat)
 | slice (i off len sz : Nat) (cap : Cp)
 | mt
 | un
 | map (i : Nat)
 | iface (t : TypeId) (x : AV)
 | func (fn : Fn) (first captured : List AV)
 | agg (cs : List AV)
 | tuple (vs : List AV)
 | any
 deriving Inhabited
inductive AO where
 | cells (cs : List AV) (e : TypeId)
 | map (es : List (AV × AV × Nat)) (clock : Nat)
 | striter (s : Δ) (pos : Nat)
 | miter (m : Option Nat) (since : Nat) (seen : List Nat) (last : Nat)
 | any (h : HP)
 | own (m : Md) (h : Nat -> Nat -> HP)
 | same (i b : Nat)
mutual
def AV.val? : AV -> Option Value
 | .v x => some x
 | .lit b => some (.bool b)
 | .iface t x => match x.val? with | some x => some (.iface t x) | none => none
 | .func fn f c => match AV.vals? f, AV.vals? c with | some f, some c => some (.func fn f.toArray c.toArray) | _, _ => none
 | .agg cs => match AV.vals? cs with | some cs => some (.agg cs.toArray) | none => none
 | .tuple cs => match AV.vals? cs with | some cs => some (.tuple cs.toArray) | none => none
 | _ => none
def AV.vals? : List AV -> Option (List Value)
 | [] => some []
 | x :: l => match x.val?, AV.vals? l with | some x, some l => some (x :: l) | _, _ => none
end
def vmap (l : List Value) : List AV := l.map .v
def AV.known : AV -> Bool
 | .any => false
 | _ => true
def AV.cells : AV -> List AV
 | .any => []
 | .lit b => [.v (.bool b)]
 | .agg cs => cs
 | .v (.agg cs) => vmap cs.toList
 | x => [x]
def oneV : Value -> Bool
 | .agg _ | .tuple _ => false
 | _ => true
def AV.one : AV -> Bool
 | .v x => oneV x
 | .agg _ | .tuple _ | .any => false
 | _ => true
def AV.undef : AV := .v Go.undef
def AV.plain : AV -> AV
 | .lit b => .v (.bool b)
 | x => x
def AV.intOf : AV -> Int
 | .v (.int _ n) => n
 | _ => 0
def AV.bool? : AV -> Option Bool
 | .v (.bool b) => some b
 | .lit b => some b
 | _ => none
def AV.boolOf (x : AV) : Bool := match x.bool? with
 | some b => b
 | none => false
def AV.strOf : AV -> Δ
 | .v (.string s) => s
 | _ => .empty
inductive T where
 | nil
 | leaf (o : AO)
 | node (l r : T)
def T.depth : Nat := 20
def T.get : Nat -> T -> Nat -> Option AO
 | _, .nil, _ => none
 | 0, .leaf o, _ => some o
 | 0, .node _ _, _ => none
 | _ + 1, .leaf _, _ => none
 | d + 1, .node l r, i => match Nat.beq (i % 2) 0 with | true => T.get d l (i / 2) | false => T.get d r (i / 2)
def T.getF : Nat -> T -> Nat -> Option AO := fun d => @Nat.rec (fun _ => T -> Nat -> Option AO)
 (fun t i => @T.rec (fun _ => Option AO) none (fun o => some o) (fun _ _ _ _ => none) t)
 (fun d ih t i => @T.rec (fun _ => Option AO) none (fun _ => none) (fun l r _ _ => @Bool.rec (fun _ => Option AO) (ih r (i / 2)) (ih l (i / 2)) (Nat.beq (i % 2) 0)) t) d
theorem T.getF_eq (d : Nat) (t : T) (i : Nat) : T.getF d t i = T.get d t i := by
 induction d generalizing t i with
 | zero => cases t <;> rfl
 | succ d ih =>
  cases t with
  | nil => rfl
  | leaf => rfl
  | node l r =>
   unfold T.get; rw [<- ih l, <- ih r]; show @Bool.rec (fun _ => Option AO) (T.getF d r (i / 2)) (T.getF d l (i / 2)) (Nat.beq (i % 2) 0) = _
   cases Nat.beq (i % 2) 0 <;> rfl
def T.left : T -> T
 | .node l _ => l
 | _ => .nil
def T.right : T -> T
 | .node _ r => r
 | _ => .nil
def T.set : Nat -> T -> Nat -> T -> T
 | 0, _, _, x => x
 | d + 1, t, i, x => match Nat.beq (i % 2) 0 with
  | true => .node (T.set d t.left (i / 2) x) t.right
  | false => .node t.left (T.set d t.right (i / 2) x)
section
universe u
variable {β : Sort u}
def natK (n : Nat) (k : Nat -> β) : β := match n with
 | 0 => k 0
 | m + 1 => k (Nat.succ m)
def L5' {α : Type} (l : List α) : (List α -> β) -> β :=
 @List.rec α (fun _ => (List α -> β) -> β) (fun k => k []) (fun a _ ih k => ih fun t => k (a :: t)) l
theorem IL' (n : Nat) (k : Nat -> β) : natK n k = k n := by cases n <;> rfl
theorem DD' {α : Type} (l : List α) (k : List α -> β) : L5' l k = k l := by
 induction l generalizing k with
 | nil => rfl
 | cons a l ih => exact ih fun t => k (a :: t)
def intK (n : Int) (k : Int -> β) : β := match n with
 | .ofNat m => natK m fun m => k (.ofNat m)
 | .negSucc m => natK m fun m => k (.negSucc m)
theorem UQ' (n : Int) (k : Int -> β) : intK n k = k n := by
 cases n with
 | ofNat m => exact IL' m fun m => k (.ofNat m)
 | negSucc m => exact IL' m fun m => k (.negSucc m)
def valK (x : Value) (k : Value -> β) : β := match x with
 | .bool b => match b with | true => k (.bool true) | false => k (.bool false)
 | .int i n => intK n fun n => k (.int i n)
 | .string s => L5' s.data.toList fun l => k (.string ⟨⟨l⟩⟩)
 | .pointer a => match a with | none => k (.pointer none) | some a => k (.pointer (some a))
 | .tuple vs => L5' vs.toList fun l => k (.tuple ⟨l⟩)
 | .agg vs => L5' vs.toList fun l => k (.agg ⟨l⟩)
 | x => k x
theorem a7' (x : Value) (k : Value -> β) : valK x k = k x := by
 cases x
 case bool b => cases b <;> rfl
 case int i n => exact UQ' n fun n => k (.int i n)
 case string s => exact DD' s.data.toList fun l => k (.string ⟨⟨l⟩⟩)
 case pointer a => cases a <;> rfl
 case tuple vs => exact DD' vs.toList fun l => k (.tuple ⟨l⟩)
 case agg vs => exact DD' vs.toList fun l => k (.agg ⟨l⟩)
 all_goals rfl
def avK (x : AV) (k : AV -> β) : β := match x with
 | .v x => valK x fun x => k (.v x)
 | .ptr i off => natK i fun i => natK off fun off => k (.ptr i off)
 | .slice i off len sz cap => natK i fun i => natK off fun off => natK len fun len => natK sz fun sz => match cap with | .ex c => natK c fun c => k (.slice i off len sz (.ex c)) | .lo c => natK c fun c => k (.slice i off len sz (.lo c))
 | .map i => natK i fun i => k (.map i)
 | .agg cs => L5' cs fun cs => k (.agg cs)
 | .tuple cs => L5' cs fun cs => k (.tuple cs)
 | x => k x
theorem avK_eq (x : AV) (k : AV -> β) : avK x k = k x := by
 cases x <;> simp only [avK, IL', DD', a7']
 case slice cap => cases cap <;> simp only [IL']
def aoK (x : AO) (k : AO -> β) : β := match x with
 | .cells cs e => L5' cs fun cs => k (.cells cs e)
 | .map es c => L5' es fun es => natK c fun c => k (.map es c)
 | .striter s pos => natK pos fun pos => k (.striter s pos)
 | .miter m a seen b => natK a fun a => L5' seen fun seen => natK b fun b => k (.miter m a seen b)
 | .any h => k (.any h)
 | .own m h => k (.own m h)
 | .same i b => k (.same i b)
theorem ZV' (x : AO) (k : AO -> β) : aoK x k = k x := by
 cases x <;> simp only [aoK, IL', DD']
def T.setK : Nat -> T -> Nat -> T -> (T -> β) -> β := fun d => @Nat.rec (fun _ => T -> Nat -> T -> (T -> β) -> β)
 (fun _ _ x k => k x)
 (fun d ih t i x k => @T.rec (fun _ => β)
  (@Bool.rec (fun _ => β) (ih .nil (i / 2) x fun r => k (.node .nil r)) (ih .nil (i / 2) x fun l => k (.node l .nil)) (Nat.beq (i % 2) 0))
  (fun _ => @Bool.rec (fun _ => β) (ih .nil (i / 2) x fun r => k (.node .nil r)) (ih .nil (i / 2) x fun l => k (.node l .nil)) (Nat.beq (i % 2) 0))
  (fun l r _ _ => @Bool.rec (fun _ => β) (ih r (i / 2) x fun r => k (.node l r)) (ih l (i / 2) x fun l => k (.node l r)) (Nat.beq (i % 2) 0)) t) d
theorem T.setK_eq (d : Nat) (t : T) (i : Nat) (x : T) (k : T -> β) : T.setK d t i x k = k (T.set d t i x) := by
 induction d generalizing t i k with
 | zero => rfl
 | succ d ih =>
  have key : ∀ (l r : T), @Bool.rec (fun _ => β) (T.setK d r (i / 2) x fun r => k (.node l r)) (T.setK d l (i / 2) x fun l => k (.node l r)) (Nat.beq (i % 2) 0) = k (match Nat.beq (i % 2) 0 with | true => .node (T.set d l (i / 2) x) r | false => .node l (T.set d r (i / 2) x)) := by
   intro l r; cases Nat.beq (i % 2) 0
   ·exact ih r (i / 2) fun r => k (.node l r)
   ·exact ih l (i / 2) fun l => k (.node l r)
  cases t with
  | nil => exact key .nil .nil
  | leaf o => exact key .nil .nil
  | node l r => exact key l r
end
def T.limit : Nat := 1048576
def T.find (t : T) (i : Nat) : Option AO := match Nat.blt i T.limit with | true => T.getF T.depth t i | false => none
abbrev Log := List (Nat × Bool)
inductive AP : Type -> Type 1 where
 | ret {α : Type} (a : α) : AP α
 | fail {α : Type} (why : String) : AP α
 | read {α : Type} (i : Nat) (k : AO -> AP α) : AP α
 | write {α : Type} (i : Nat) (o : AO) (k : AP α) : AP α
 | kill {α : Type} (i : Nat) (k : AP α) : AP α
 | new {α : Type} (o : AO) (k : Nat -> AP α) : AP α
 | need {α : Type} (p : Prop) (k : AP α) : AP α
 | ite {α : Type} (b : Bool) (x y : AP α) : AP α
 | listen {α : Type} (p : AP AV) (k : AV -> Log -> Nat -> Nat -> AP α) : AP α
namespace AP
def bind {α β : Type} : AP α -> (α -> AP β) -> AP β
 | .ret a, f => f a
 | .fail why, _ => .fail why
 | .read i k, f => .read i fun o => (k o).bind f
 | .write i o k, f => .write i o (k.bind f)
 | .kill i k, f => .kill i (k.bind f)
 | .new o k, f => .new o fun i => (k i).bind f
 | .need p k, f => .need p (k.bind f)
 | .ite b x y, f => .ite b (x.bind f) (y.bind f)
 | .listen p k, f => .listen p fun v l a b => (k v l a b).bind f
instance : Monad AP where
 pure := AP.ret
 bind := AP.bind
def opt {α : Type} (why : String) : Option α -> AP α
 | some a => .ret a
 | none => .fail why
end AP
inductive Cnd where
 | t
 | p (q : Prop)
 | a (x y : Cnd)
def Cnd.holds : Cnd -> Prop
 | .t => True
 | .p q => q
 | .a x y => x.holds /\ y.holds
instance : CoeSort Cnd Prop := ⟨Cnd.holds⟩
instance : Coe Cnd Prop := ⟨Cnd.holds⟩
def Cnd.and (x y : Cnd) : Cnd := match x with
 | .t => y
 | x => .a x y
def Cnd.none : Cnd -> Bool
 | .t => true
 | _ => false
theorem Cnd.and_iff (x y : Cnd) : (Cnd.and x y).holds ↔ x.holds /\ y.holds := by cases x <;> simp [Cnd.and, Cnd.holds]
inductive Out (α : Type) where
 | ok (a : α) (h : T) (n : Nat) (lg : Log) (c : Cnd)
 | bad (why : String)
def Out.and {α : Type} (p : Cnd) : Out α -> Out α
 | .ok a h n lg c => .ok a h n lg (p.and c)
 | .bad why => .bad why
def own (n n' : Nat) (x : Nat × Bool) : Bool := Nat.blt x.1 n || Nat.ble n' x.1
def AP.run (st : Bool) {α : Type} (p : AP α) (h : T) (n : Nat) (lg : Log) : Out α :=
 match p with
 | .ret a => .ok a h n lg .t
 | .fail why => .bad why
 | .read i k => match h.find i with
  | some o => (k o).run st h n ((i, false) :: lg)
  | none => .bad "read no such object"
 | .write i o k => match h.find i with
  | some _ => (match st with
   | true => aoK o fun o => T.setK T.depth h i (.leaf o) fun h => k.run st h n ((i, true) :: lg)
   | false => k.run st (T.set T.depth h i (.leaf o)) n ((i, true) :: lg))
  | none => .bad "write no such object"
 | .kill i k => match h.find i with
  | some _ => T.setK T.depth h i .nil fun h => k.run st h n ((i, true) :: lg)
  | none => .bad "kill no such object"
 | .new o k => match Nat.blt n T.limit with
  | true => (match st with
   | true => aoK o fun o => T.setK T.depth h n (.leaf o) fun h => natK (n + 1) fun n' => (k n).run st h n' lg
   | false => (k n).run st (T.set T.depth h n (.leaf o)) (n + 1) lg)
  | false => .bad "no more names"
 | .need p k => (k.run st h n lg).and (.p p)
 | .ite b x y => match b with
  | true => x.run st h n lg
  | false => y.run st h n lg
 | .listen p k => match p.run st h n [] with
  | .ok v h' n' l c => L5' (l.filter (own n n') ++ lg) fun lg => ((k v l n n').run st h' n' lg).and c
  | .bad why => .bad why
inductive Fc where
 | load (t : TypeId) (a : Addr) (y : Value)
 | look (t : TypeId) (m : Nat) (k y : Value)
 | len (t : TypeId) (m : Nat) (y : Value)
 | upd (t : TypeId) (m : Nat) (k x : Value) (o' : AO)
 | del (t : TypeId) (m : Nat) (k : Value) (o' : AO)
inductive Alt where
 | no
 | yes
 | fact (y : Value)
 | wr (o' : AO)
 | force
 | txt (s : Δ)
structure Hint where
 val : Option AV
 ptr : Option Nat
 objs : List (Nat × AO)
 alt : Alt
inductive AX where
 | normal
 | exit (id : Nat)
 | ret
structure Env where
 strict : Bool
 info : TypeId -> Option TypeInfo
 fn : FuncId -> Option Func
 con : FuncId -> List AV -> Option (AP AV)
 claim : FuncId -> Nat -> Nat -> Option Hint
 lcon : FuncId -> Nat -> Option (Code × (List AV -> AP (AX × List AV)))
 wk : AV -> AV -> Prop
 ow : AO -> AO -> Prop
 gd : AO -> AV -> List (AV × AV × Nat) -> Prop
 fc : AO -> Fc -> Prop
 same : FuncId -> Bool
 clone : FuncId -> Bool
 laid : Nat -> Option (List Value)
 W : World
 F : HP
 pan : World -> List PanicEntry -> World -> Prop := fun _ _ _ => False
 dead : Bool := false
def Env.under (E : Env) (t : TypeId) : Option TypeDesc :=
 match E.info t with
 | some { desc := .named _ u, .. } => (E.info u).map (·.desc)
 | some i => some i.desc
 | none => none
def Env.size (E : Env) (t : TypeId) : AP Nat := do pure (<- AP.opt "size" (E.info t)).size
def Env.bytes (E : Env) (t : TypeId) : AP Nat := do pure (<- AP.opt "bytes" (E.info t)).bytes
def Env.zero (E : Env) (t : TypeId) : AP Value := do AP.opt "zero" (<- AP.opt "zero" (E.info t)).zero
def Env.desc (E : Env) (t : TypeId) : AP TypeDesc := AP.opt "desc" (E.under t)
def Env.agg (E : Env) (t : TypeId) : AP Bool := do
 match <- E.desc t with
 | .struct _ | .array _ _ => pure true
 | _ => pure false
def CE' {α : Type} (P : Program) : Sem α -> Option α
 | .pure a => some a
 | .program k => CE' P (k P)
 | .mark _ k => CE' P k
 | _ => none
def UD' : Int -> Option Nat
 | .ofNat n => some n
 | .negSucc _ => none
def asInt : AV -> AP Int
 | .v (.int _ n) => pure n
 | _ => .fail "int expected"
def L8' (x : AV) : AP Nat := do AP.opt "a number below nought" (UD' (<- asInt x))
def AJ' (b : Bool) (why : String) : AP Unit := match b with | true => .ret () | false => .fail why
def BH' (strict b : Bool) (why : String) : AP Unit := match strict with
 | true => AJ' b why
 | false => .need (b = true) (.ret ())
def BR' (i : Nat) : AP (List AV × TypeId) := .read i fun
 | .cells cs e => .ret (cs, e)
 | _ => .fail "cells expected"
def D1' (i : Nat) : AP (List (AV × AV × Nat) × Nat) := .read i fun
 | .map es c => .ret (es, c)
 | _ => .fail "map expected"
def eta (z : Value) (x : AV) : AP AV := match z with
 | .int k _ => .need (x = .v (.int k x.intOf)) (.ret (.v (.int k x.intOf)))
 | .bool _ => .need (x.bool? = some x.boolOf) (.ret (.v (.bool x.boolOf)))
 | .string _ => .need (x = .v (.string x.strOf)) (.ret (.v (.string x.strOf)))
 | _ => .ret x
def etaV (z : Value) (x : AV) : AV := match z with
 | .int k _ => .v (.int k x.intOf)
 | .bool _ => .v (.bool x.boolOf)
 | .string _ => .v (.string x.strOf)
 | _ => x
def etas : List Value -> List AV -> Nat -> List AV
 | [], _, _ => []
 | z :: zs, l, k => etaV z (l.getD k AV.undef) :: etas zs l (k + 1)
def etaA (z : Value) (x : AV) : AP AV := match z with
 | .agg zs => (match x with
  | .agg cs => .need (cs = etas zs.toList cs 0) (.ret (.agg (etas zs.toList cs 0)))
  | x => .ret x)
 | z => eta z x
def etaM (z : Value) (x : AV) : AP AV := match z with
 | .agg _ => .ret x
 | z => eta z x
def slot (strict : Bool) (l : List AV) (k : Nat) : AP AV := match strict with
 | true => AP.opt "no such cell" l[k]?
 | false => .need (Nat.blt k l.length = true) (.ret (l.getD k AV.undef))
def span (strict : Bool) (l : List AV) (k n : Nat) : AP (List AV) := do
 let r := (l.drop k).take n
 BH' strict (Nat.beq r.length n) "no such cells"
 pure r
def splice (l : List AV) (k : Nat) (r : List AV) : List AV := l.take k ++ r ++ l.drop (k + r.length)
def part (E : Env) (t : TypeId) (cs : List AV) (off : Nat) : AP AV := do
 match <- E.agg t with
 | true => do pure (.agg (<- span E.strict cs off (<- E.size t)))
 | false => slot E.strict cs off
def AM' (W : World) (a : Addr) (n : Nat) : List Value := (List.range n).map fun j => (W.cell? (a.add j)).getD Go.undef
def MX' (E : Env) (t : TypeId) (a : Addr) : AP AV := match E.strict with
 | true => match a.spot, E.laid a.block with
  | none, some vs => part E t (vmap vs) a.off
  | _, _ => .fail "load memory that was there"
 | false => do
  match <- E.agg t with
  | true => do
   let n <- E.size t
   .need (((List.range n).all fun j => (E.W.cell? (a.add j)).isSome) = true) (.ret (.agg (vmap (AM' E.W a n))))
  | false => .need ((E.W.cell? a).isSome = true) (.ret (.v ((E.W.cell? a).getD Go.undef)))
def LW' (E : Env) (t : TypeId) : AV -> AP AV
 | .ptr i off => do part E t (<- BR' i).1 off
 | .v (.pointer (some a)) => MX' E t a
 | _ => .fail "load a pointer of our own expected"
def MY' (E : Env) (t : TypeId) (x : AV) : AP AV := match E.strict with
 | true => LW' E t x
 | false => (LW' E t x).bind fun v => match (E.info t).bind (·.zero) with
  | some z => etaA z v
  | none => .ret v
def VF' (E : Env) (t : TypeId) (x y : AV) : AP Unit :=
 match x with
 | .ptr i off => do
  let (cs, e) <- BR' i
  let r := y.cells
  AJ' y.known "store of what"
  AJ' (Nat.beq r.length (<- E.size t)) "store size"
  BH' E.strict (Nat.ble (off + r.length) cs.length) "store beyond"
  AJ' (r.all AV.one) "store one cell each"
  .write i (.cells (splice cs off r) e) (.ret ())
 | _ => .fail "store a pointer of our own expected"
def N4' (place : Nat -> Option (Nat × Nat)) (cs : List AV) : List (Nat × AV) -> AP (List AV)
 | [] => pure cs
 | (i, x) :: rest => do
  let (off, size) <- AP.opt "fill" (place i)
  let r := x.cells
  AJ' x.known "fill with what"
  AJ' (Nat.beq r.length size) "fill size"
  AJ' (Nat.ble (off + size) cs.length) "fill beyond"
  N4' place (splice cs off r) rest
def HV' (E : Env) : List Field -> AP (List (Nat × Nat))
 | [] => pure []
 | f :: l => do
  let n <- E.size f.type
  pure ((f.offset, n) :: (<- HV' E l))
def rep (z : List AV) : Nat -> List AV
 | 0 => []
 | n + 1 => z ++ rep z n
def VP' (E : Env) (t : TypeId) (parts : List (Nat × AV)) : AP AV := do
 let z := vmap (<- E.zero t).cells.toList
 match <- E.desc t with
 | .struct fs => do
  let pl <- HV' E fs.toList
  pure (.agg (<- N4' (fun i => pl[i]?) z parts))
 | .array _ e => do
  let n <- E.size e
  pure (.agg (<- N4' (fun i => some (i * n, n)) z parts))
 | _ => .fail "build"
def HH' (E : Env) (t : TypeId) (len : Nat) (parts : List (Nat × AV)) : AP AV := do
 match <- E.desc t with
 | .slice e => do
  let n <- E.size e
  AJ' (Nat.blt 0 n) "buildSlice size"
  AJ' (Nat.ble (len * n) 16777216) "buildSlice too large"
  let z <- E.zero e
  AJ' (Nat.beq z.cells.toList.length n) "buildSlice zero"
  let cs <- N4' (fun i => some (i * n, n)) (rep (vmap z.cells.toList) len) parts
  .new (.cells cs (2 * e)) fun i => .ret (.slice i 0 len n (.ex len))
 | _ => .fail "buildSlice"
def IZ' (E : Env) (s : TypeId) (x : AV) (j : Nat) : AP AV := do
 match <- E.desc s, x with
 | .struct fs, .ptr i off => do
  let f <- AP.opt "field" fs[j]?
  AJ' (Nat.blt 0 (<- E.size f.type)) "fieldAddr size"
  pure (.ptr i (off + f.offset))
 | .struct fs, .v (.pointer (some a)) => do
  let f <- AP.opt "field" fs[j]?
  AJ' (Nat.blt 0 (<- E.size f.type)) "fieldAddr size"
  pure (.v (.pointer (some (a.add f.offset))))
 | _, _ => .fail "fieldAddr"
def IY' (E : Env) (t : TypeId) (x ix : AV) : AP AV := do
 let k <- L8' ix
 match <- E.desc t, x with
 | .array len e, .ptr i off => do
  BH' E.strict (Nat.blt k len) "index"
  pure (.ptr i (off + k * (<- E.size e)))
 | .array len e, .v (.pointer (some a)) => do
  BH' E.strict (Nat.blt k len) "index"
  let n <- E.size e
  pure (.v (.pointer (some (a.add (k * n)))))
 | .slice e, .v (.slice (some a) len _) => do
  BH' E.strict (Nat.blt k len) "index"
  let n <- E.size e
  pure (.v (.pointer (some (a.add (k * n)))))
 | .slice e, .slice i off len sz _ => do
  BH' E.strict (Nat.blt k len) "index"
  AJ' (Nat.beq sz (<- E.size e)) "index size"
  pure (.ptr i (off + k * sz))
 | _, _ => .fail "indexAddr"
def EA' (d : Nat) : Option AV -> AP Nat
 | none => pure d
 | some x => L8' x
def VG' (E : Env) (t : TypeId) (x : AV) (lo hi mx : Option AV) : AP AV := do
 match <- E.desc t, x with
 | .slice e, .slice i off len sz cap => do
  let h <- EA' len hi
  let l <- EA' 0 lo
  let m <- EA' cap.least mx
  let sz' <- E.size e
  AJ' (Nat.beq sz sz') "slice size"
  AJ' (mx.isNone || hi.isSome) "slice three"
  BH' E.strict (Nat.ble l h) "slice bounds"
  BH' E.strict (Nat.ble h m) "slice bounds"
  BH' E.strict (Nat.ble m cap.least) "slice bounds"
  pure (.slice i (off + l * sz) (h - l) sz (match mx, cap with | none, .lo c => .lo (c - l) | _, _ => .ex (m - l)))
 | .array n e, .ptr i off => do
  let h <- EA' n hi
  let l <- EA' 0 lo
  let m <- EA' n mx
  let sz <- E.size e
  AJ' (mx.isNone || hi.isSome) "slice three"
  BH' E.strict (Nat.ble l h) "slice bounds"
  BH' E.strict (Nat.ble h m) "slice bounds"
  BH' E.strict (Nat.ble m n) "slice bounds"
  let (cs, _) <- BR' i
  BH' E.strict (Nat.ble (off + n * sz) cs.length) "slice array"
  pure (.slice i (off + l * sz) (h - l) sz (.ex (m - l)))
 | _, _ => .fail "slice"
def GN' (E : Env) (sz n : Nat) : AV -> AP (List AV)
 | .slice i off len sz' _ => do
  AJ' (Nat.beq sz sz') "cells size"
  BH' E.strict (Nat.ble n len) "cells length"
  let (cs, _) <- BR' i
  span E.strict cs off (n * sz)
 | .v (.slice none 0 _) => pure []
 | .v (.slice (some a) len _) => match E.strict with
  | true => .fail "cells of what was there"
  | false => .need (Nat.ble n len = true) (.need (((List.range (n * sz)).all fun j => (E.W.cell? (a.add j)).isSome) = true) (.ret (vmap (AM' E.W a (n * sz)))))
 | .mt => do
  AJ' (Nat.beq n 0) "cells length"
  pure []
 | .v (.string s) => do
  AJ' (Nat.beq sz 1) "cells size"
  BH' E.strict (Nat.ble n s.size) "cells length"
  pure (vmap ((s.data.toList.take n).map fun b => .int .u8 b.toNat))
 | _ => .fail "cells of what"
def alen : AV -> AP Nat
 | .slice _ _ len _ _ => pure len
 | .v (.slice none 0 _) => pure 0
 | .v (.slice (some _) len _) => pure len
 | .mt => pure 0
 | .v (.string s) => pure s.size
 | _ => .fail "len of what"
def room : Nat := 140737488355328
def EC' : Nat := 9223372036854775807
def XP' : TypeDesc -> Bool
 | .slice _ | .string => true
 | _ => false
def roomy (strict : Bool) (len m : Nat) (cap : Cp) : Bool := match strict with
 | true => Nat.ble (len + m) cap.least
 | false => false
def XF' (off e : Nat) : Nat := match off with
 | 0 => e
 | _ + 1 => 2 * (e / 2) + 1
def GO' (strict : Bool) (e : TypeId) (sz bytes m : Nat) (news : List AV) (s : AV) : AP AV :=
 match s with
 | .v (.slice none 0 0) => do
  BH' strict (Nat.ble (m * bytes) room) "append room"
  BH' strict (Nat.ble m EC') "append room"
  .new (.cells news (2 * e)) fun i => .ret (.slice i 0 m sz (.lo m))
 | .mt => do
  BH' strict (Nat.ble (m * bytes) room) "append room"
  BH' strict (Nat.ble m EC') "append room"
  .new (.cells news (2 * e)) fun i => .ret (.slice i 0 m sz (.lo m))
 | .slice i off len sz' cap => do
  AJ' (Nat.beq sz sz') "append size"
  let (cs, e') <- BR' i
  BH' strict (Nat.ble (off + len * sz) cs.length) "append cells"
  match roomy strict len m cap with
  | true =>
   .write i (.cells (splice cs (off + len * sz) news) e') (.ret (.slice i off (len + m) sz cap))
  | false => do
   BH' strict (Nat.ble ((len + m) * bytes) room) "append room"
   BH' strict (Nat.ble (len + m) EC') "append room"
   let old <- span strict cs off (len * sz)
   match cap with
   | .ex c => do
    BH' strict (Nat.blt c (len + m)) "append is there room"
    .new (.cells (old ++ news) (2 * e)) fun i => .ret (.slice i 0 (len + m) sz (.lo (len + m)))
   | .lo _ => do
    AJ' (Nat.beq e (e' / 2)) "append type"
    .kill i (.new (.cells (old ++ news) (XF' off e')) fun i => .ret (.slice i 0 (len + m) sz (.lo (len + m))))
 | _ => .fail "append slice"
def ES' (sz : Nat) (s : AV) : AP AV :=
 match s with
 | .v (.slice none 0 0) => pure s
 | .mt => pure s
 | .slice _ _ _ sz' _ => do
  AJ' (Nat.beq sz sz') "append size"
  pure s
 | _ => .fail "append slice"
def PB' (strict : Bool) (e : TypeId) (sz bytes m : Nat) (news : List AV) (s : AV) : AP AV :=
 match strict with
 | true => match m with
  | 0 => ES' sz s
  | k + 1 => GO' true e sz bytes (k + 1) news s
 | false => .need (Nat.blt 0 m = true) (GO' false e sz bytes m news s)
def NA' (E : Env) (ts tx : TypeId) (s x : AV) : AP AV := do
 match <- E.desc ts with
 | .slice e => do
  let dx <- E.desc tx
  AJ' (XP' dx) "append of what"
  let sz <- E.size e
  let bytes <- E.bytes e
  let z <- E.zero e
  AJ' (Nat.beq z.cells.toList.length sz) "append zero"
  AJ' (Nat.blt 0 sz) "append size"
  let m <- alen x
  let news <- GN' E sz m x
  BH' E.strict (news.all AV.one) "append cells"
  PB' E.strict e sz bytes m news s
 | _ => .fail "append"
def IA' (E : Env) (ts tx : TypeId) (s x : AV) : AP AV := do
 match <- E.desc ts with
 | .slice e => do
  let dx <- E.desc tx
  AJ' (XP' dx) "append of what"
  let sz <- E.size e
  let m <- alen x
  .need (m = 0) (ES' sz s)
 | _ => .fail "append"
def QS' (E : Env) (ts tx : TypeId) (s x : AV) : AP AV := match x with
 | .v (.slice none 0 0) => IA' E ts tx s x
 | .mt => IA' E ts tx s x
 | _ => NA' E ts tx s x
def hP' (E : Env) (ts : TypeId) (d s : AV) : AP AV := do
 match <- E.desc ts with
 | .slice e => do
  let sz <- E.size e
  let ls <- alen s
  let ld <- alen d
  let news <- GN' E sz (Nat.min ls ld) s
  BH' E.strict (news.all AV.one) "copy cells"
  match d with
  | .slice i off len sz' _ => do
   AJ' (Nat.beq sz sz') "copy size"
   let (cs, e') <- BR' i
   BH' E.strict (Nat.ble (off + news.length) cs.length) "copy beyond"
   .write i (.cells (splice cs off news) e') (.ret (.v (.int .i64 (Nat.min ls ld))))
  | .v (.slice none 0 _) => pure (.v (.int .i64 (Nat.min ls ld)))
  | _ => .fail "copy slice"
 | _ => .fail "copy"
def IX' (E : Env) (t : TypeId) (l k : AV) : AP AV := do
 match <- E.desc t with
 | .slice e => do
  let sz <- E.size e
  let n <- L8' l
  let m <- L8' k
  let bytes <- E.bytes e
  let z <- E.zero e
  BH' E.strict (Nat.ble n m) "makeSlice"
  AJ' (Nat.blt 0 sz) "makeSlice"
  BH' E.strict (Nat.ble (bytes * m) room) "makeSlice"
  BH' E.strict (Nat.ble m 9223372036854775807) "makeSlice"
  AJ' (Nat.beq z.cells.toList.length sz) "makeSlice"
  .new (.cells (rep (vmap z.cells.toList) m) (2 * e)) fun i => .ret (.slice i 0 n sz (.ex m))
 | _ => .fail "makeSlice"
def LX' (E : Env) (t : TypeId) (x y : AV) : AP Bool := do
 match <- E.desc t, x, y with
 | .pointer _, .ptr _ _, .v (.pointer none) => pure false
 | .pointer _, .v (.pointer none), .ptr _ _ => pure false
 | .pointer e, .ptr i a, .ptr j b => do
  let sz <- E.size e
  AJ' (Nat.blt 0 sz) " of nothing"
  match Nat.beq i j with
  | true => pure (Nat.beq a b)
  | false => do
   let (_, e1) <- BR' i
   let (_, e2) <- BR' j
   AJ' (Nat.beq (e1 % 2) 0) " of two objects"
   AJ' (Nat.beq (e2 % 2) 0) " of two objects"
   pure false
 | .slice _, .slice .., .v (.slice none _ _) => pure false
 | .slice _, .v (.slice none _ _), .slice .. => pure false
 | .map _ _, .map _, .v (.map none) => pure false
 | .map _ _, .v (.map none), .map _ => pure false
 | .interface _, .iface _ _, .v .nilIface => pure false
 | .interface _, .v .nilIface, .iface _ _ => pure false
 | .func _ _ _, .func _ _ _, .v .nilFunc => pure false
 | .func _ _ _, .v .nilFunc, .func _ _ _ => pure false
 | _, _, _ => .fail " of what"
def Q2' (P : Program) (E : Env) (t : TypeId) (a b : AV) : AP Bool :=
 match a.val?, b.val? with
 | some a, some b => match Instr.sameNow ((P.underlying t).getD .invalid) a b with
  | some r => pure r
  | none => AP.opt "key " (CE' P (Op.equal t a b))
 | _, _ => LX' E t a b
def findKey (P : Program) (E : Env) (t : TypeId) (k : AV) : List (AV × AV × Nat) -> Nat -> AP (Option (Nat × AV))
 | [], _ => pure none
 | (a, x, _) :: l, i => do
  match <- Q2' P E t k a with
  | true => pure (some (i, x))
  | false => findKey P E t k l (i + 1)
def SQ' (P : Program) (t : TypeId) (k : AV) : AP Unit :=
 match k with
 | .ptr _ _ => match P.underlying t with
  | some (.pointer _) => .ret ()
  | _ => .fail "key type"
 | k => do
  let k <- AP.opt "key" k.val?
  let _ <- AP.opt "key type" (P.underlying t)
  let _ <- AP.opt "key check" (CE' P (Instr.checkKey true 10000 t k))
  AP.opt "key check" (CE' P (Instr.checkKey false 10000 t k))
def CO' (a b : AV) : Bool :=
 match a, b with
 | .ptr i x, .ptr j y => Nat.beq i j && Nat.beq x y
 | a, b => match a.val?, b.val? with
  | some a, some b => Instr.sameBits 10000 a b
  | _, _ => false
mutual
def valQ : Value -> Value -> Bool
 | .int i n, .int j m => decide (i = j) && decide (n = m)
 | .string s, .string t => decide (s = t)
 | .bool a, .bool b => a == b
 | .pointer (some a), .pointer (some b) => a.spot.isNone && (b.spot.isNone && (decide (a.block = b.block) && decide (a.off = b.off)))
 | .agg a, .agg b => HK' a.toList b.toList
 | _, _ => false
def HK' : List Value -> List Value -> Bool
 | [], [] => true
 | a :: l, b :: r => valQ a b && HK' l r
 | _, _ => false
end
def keyQ : AV -> AV -> Bool
 | .ptr i x, .ptr j y => Nat.beq i j && Nat.beq x y
 | .v a, .v b => valQ a b
 | _, _ => false
def B4' (k : AV) : List (AV × AV × Nat) -> Nat -> Option (Nat × AV)
 | [], _ => none
 | (a, x, _) :: l, i => match keyQ k a with
  | true => some (i, x)
  | false => B4' k l (i + 1)
def D2' (r : Option (Nat × AV)) (z : Value) : AV := match r with
 | some (_, v) => v
 | none => .v z
def foundV (r : Option (Nat × AV)) (z : Value) (ok : Bool) : AV := match ok with
 | true => .tuple [D2' r z, .v (.bool r.isSome)]
 | false => D2' r z
def D6' (k : AV) (es : List (AV × AV × Nat)) : Prop := ∀ j v, B4' k es 0 = some (j, v) -> ∃ e, es[j]? = some e /\ CO' e.1 k = true
def setE (k x : AV) (es : List (AV × AV × Nat)) (c : Nat) : List (AV × AV × Nat) := match B4' k es 0 with
 | some (j, _) => es.set j (k, x, ((es[j]?).map (·.2.2)).getD 0)
 | none => es ++ [(k, x, c)]
def GC' (k : AV) (es : List (AV × AV × Nat)) (c : Nat) : Nat := match B4' k es 0 with
 | some _ => c
 | none => c + 1
def delE (k : AV) (es : List (AV × AV × Nat)) : List (AV × AV × Nat) := match B4' k es 0 with
 | some (j, _) => es.eraseIdx j
 | none => es
def JT' (P : Program) (E : Env) (t : TypeId) (x k : AV) (ok : Bool) : AP AV := do
 match <- E.desc t with
 | .map kt e => do
  let es <- (match x with
   | .map i => do pure (<- D1' i).1
   | .v (.map none) => pure []
   | _ => AP.fail "lookup")
  SQ' P kt k
  match E.strict with
  | true => do
   match <- findKey P E kt k es 0 with
   | some (_, v) => pure (if ok then .tuple [v, .v (.bool true)] else v)
   | none => do
    let z <- E.zero e
    pure (if ok then .tuple [.v z, .v (.bool false)] else .v z)
  | false => .need (findKey P E kt k es 0 = .ret (B4' k es 0)) do
   let z <- E.zero e
   pure (foundV (B4' k es 0) z ok)
 | _ => .fail "lookup map"
def etaL (z : Value) (v : AV) : AP AV := match v with
 | .tuple [x, b] => (etaM z x).bind fun x => .ret (.tuple [x, b])
 | v => etaA z v
def zeroEl (E : Env) (t : TypeId) : Option Value := match E.under t with
 | some (.map _ e) => (E.info e).bind (·.zero)
 | _ => none
def QJ' (P : Program) (E : Env) (t : TypeId) (x k : AV) (ok : Bool) : AP AV := match E.strict with
 | true => JT' P E t x k ok
 | false => (JT' P E t x k ok).bind fun v => match zeroEl E t with
  | some z => (match ok with
   | true => etaL z v
   | false => etaM z v)
  | none => .ret v
def ensE (k z : AV) (es : List (AV × AV × Nat)) (c : Nat) : List (AV × AV × Nat) := match B4' k es 0 with
 | some (j, _) => (match es[j]? with
  | some (_, x, b) => es.set j (k, x, b)
  | none => es)
 | none => es ++ [(k, z, c)]
def TR' (k : AV) (es : List (AV × AV × Nat)) (c : Nat) : Nat := match B4' k es 0 with
 | some (j, _) => ((es[j]?).map (·.2.2)).getD 0
 | none => c
def valE (k z : AV) (es : List (AV × AV × Nat)) : AV := match B4' k es 0 with
 | some (_, v) => v
 | none => z
def GL' (P : Program) (E : Env) (t : TypeId) (m k x : AV) : AP Unit := do
 match <- E.desc t, m with
 | .map kt _, .map i => do
  let (es, c) <- D1' i
  SQ' P kt k
  match E.strict with
  | true => do
   match <- findKey P E kt k es 0 with
   | some (j, _) => do
    let (a, _, born) <- AP.opt "entry" es[j]?
    AJ' (CO' a k) "which key stays"
    .write i (.map (es.set j (k, x, born)) c) (.ret ())
   | none => .write i (.map (es ++ [(k, x, c)]) (c + 1)) (.ret ())
  | false => .need (findKey P E kt k es 0 = .ret (B4' k es 0)) (.need (D6' k es) (.write i (.map (setE k x es c) (GC' k es c)) (.ret ())))
 | _, _ => .fail "mapUpdate"
def KZ' (P : Program) (E : Env) (t : TypeId) (m k : AV) : AP AV := do
 match <- E.desc t, m with
 | .map kt e, .map i => do
  let (es, c) <- D1' i
  SQ' P kt k
  match E.strict with
  | true => do
   match <- findKey P E kt k es 0 with
   | some (j, v) => do
    let (a, x, born) <- AP.opt "entry" es[j]?
    AJ' (CO' a k) "which key stays"
    .write i (.map (es.set j (k, x, born)) c) (.ret (.tuple [v, .v (.int .i64 born)]))
   | none => do
    let z <- E.zero e
    .write i (.map (es ++ [(k, .v z, c)]) (c + 1)) (.ret (.tuple [.v z, .v (.int .i64 c)]))
  | false => .need (findKey P E kt k es 0 = .ret (B4' k es 0)) (.need (D6' k es) do
   let z <- E.zero e
   .write i (.map (ensE k (.v z) es c) (GC' k es c)) (.ret (.tuple [valE k (.v z) es, .v (.int .i64 (Int.ofNat (TR' k es c)))])))
 | _, _ => .fail "mapEntry"
def GW' (born : Nat) : List (AV × AV × Nat) -> Nat -> Option Nat
 | [], _ => none
 | (_, _, b) :: l, i => match Nat.beq b born with | true => some i | false => GW' born l (i + 1)
def YK' (b : Nat) (x : AV) (es : List (AV × AV × Nat)) : List (AV × AV × Nat) := match GW' b es 0 with
 | some j => (match es[j]? with
  | some (k, _, born) => es.set j (k, x, born)
  | none => es)
 | none => es
def HG' (st : Bool) (m stamp x : AV) : AP Unit :=
 match m with
 | .map i => do
  let (es, c) <- D1' i
  let b <- L8' stamp
  match st with
  | true => do
   let j <- AP.opt "entry" (GW' b es 0)
   let (k, _, born) <- AP.opt "entry" es[j]?
   .write i (.map (es.set j (k, x, born)) c) (.ret ())
  | false => .need ((GW' b es 0).isSome = true) (.write i (.map (YK' b x es) c) (.ret ()))
 | _ => .fail "entryStore"
def QN' (P : Program) (E : Env) (t : TypeId) (m k : AV) : AP AV := do
 match <- E.desc t, m with
 | .map kt _, .map i => do
  let (es, c) <- D1' i
  SQ' P kt k
  match E.strict with
  | true => do
   match <- findKey P E kt k es 0 with
   | some (j, _) => .write i (.map (es.eraseIdx j) c) (.ret (.tuple []))
   | none => .write i (.map es c) (.ret (.tuple []))
  | false => .need (findKey P E kt k es 0 = .ret (B4' k es 0)) (.write i (.map (delE k es) c) (.ret (.tuple [])))
 | _, _ => .fail "delete"
def VO' (E : Env) (t : TypeId) (m : AV) : AP AV := do
 match <- E.desc t, m with
 | .map _ _, .map i => do
  let (_, c) <- D1' i
  .write i (.map [] c) (.ret (.v (.tuple #[])))
 | .slice _, .slice _ _ 0 _ _ => .ret (.v (.tuple #[]))
 | .slice e, .slice i off (k + 1) sz _ => do
  let sz' <- E.size e
  let z <- E.zero e
  AJ' (Nat.beq sz sz') "clear size"
  AJ' (Nat.beq z.cells.toList.length sz) "clear zero"
  AJ' ((vmap z.cells.toList).all AV.one) "clear cells"
  let (cs, e') <- BR' i
  BH' E.strict (Nat.ble (off + (k + 1) * sz) cs.length) "clear beyond"
  .write i (.cells (splice cs off (rep (vmap z.cells.toList) (k + 1))) e') (.ret (.v (.tuple #[])))
 | _, _ => .fail "clear"
def VL' (E : Env) (t : TypeId) (x : AV) : AP AV := do
 match <- E.desc t, x with
 | .map _ _, .map i => do
  let (es, _) <- D1' i
  pure (.v (.int .i64 es.length))
 | .slice _, .slice _ _ len _ _ => pure (.v (.int .i64 len))
 | .slice _, .mt => pure (.v (.int .i64 0))
 | .pointer a, .ptr _ _ => do
  match <- E.desc a with
  | .array n _ => pure (.v (.int .i64 n))
  | _ => .fail "len"
 | .array n _, _ => pure (.v (.int .i64 n))
 | _, _ => .fail "len"
def V2' : AV -> Option (TypeId × AV)
 | .iface t y => some (t, y)
 | .v (.iface t y) => some (t, .v y)
 | _ => none
def HD' (E : Env) (x : AV) (asserted : TypeId) (ok : Bool) : AP AV := do
 let holds (v : AV) : AP AV := pure (if ok then .tuple [v, .v (.bool true)] else v)
 let failsA : AP AV := match ok with
  | true => do pure (.tuple [.v (<- E.zero asserted), .v (.bool false)])
  | false => .fail "typeAssert"
 let dyn := V2' x
 match <- E.desc asserted with
 | .interface want => do
  match dyn with
  | some (t, _) => do
   let i <- AP.opt "typeAssert" (E.info t)
   match Instr.missingMethod want i.methods with
   | none => holds x
   | some _ => failsA
  | none => match x with
   | .v .nilIface => failsA
   | _ => .fail "typeAssert value"
 | _ => do
  match dyn with
  | some (t, y) => if Nat.beq t asserted then holds y else failsA
  | none => match x with
   | .v .nilIface => failsA
   | _ => .fail "typeAssert value"
inductive AN where
 | value (x : AV)
 | enter (f : FuncId) (args : List AV)
def anew (o : AO) (f : Nat -> AV) : AP AN := .new o fun i => .ret (.value (f i))
def aval (p : AP AV) : AP AN := p.bind fun x => .ret (.value x)
def SY' (p : AP Unit) : AP AN := p.bind fun _ => .ret (.value AV.undef)
def opsVal? (ρ : Operand -> AV) (l : List Operand) : Bool := l.all fun x => (ρ x).val?.isSome
def N0' (E : Env) (r : AV) (name : String) (args : List AV) : AP AN := do
 let (t, y) <- AP.opt "invoke value" (V2' r)
 let i <- AP.opt "invoke" (E.info t)
 let m <- AP.opt "invoke method" (i.methods.find? (·.name == name))
 AJ' m.path.toList.isEmpty "invoke path"
 let (f, ptrRecv) <- AP.opt "invoke interface" m.func
 let fn <- AP.opt "invoke function" (E.fn f)
 AJ' (fn.body.isSome && fn.name != "runtime.NumGoroutine") "invoke body"
 let d <- E.desc t
 match d, ptrRecv with
 | .pointer e, false => do
  match y with
  | .ptr i off => do
   let x <- MY' E e (.ptr i off)
   pure (.enter f (x :: args))
  | _ => .fail "invoke receiver"
 | .pointer _, true => pure (.enter f (y :: args))
 | _, false => pure (.enter f (y :: args))
 | _, true => .fail "invoke receiver"
def QL' (P : Program) (f : FuncId) (args : List AV) : AP AN := do
 let vs <- AP.opt "extern values" (AV.vals? args)
 match CE' P (callFunc f vs.toArray) with
 | some (.value x) => .ret (.value (.v x))
 | _ => .fail "extern"
def LY' (P : Program) (E : Env) (f : FuncId) (args : List AV) : AP AN := do
 let fn <- AP.opt "call function" (E.fn f)
 match fn.body.isSome with
 | false => match E.same f, args with
  | true, [x] => .ret (.value x)
  | _, _ => QL' P f args
 | true => do
  AJ' (fn.name != "runtime.NumGoroutine") ("call no body " ++ fn.name)
  pure (.enter f args)
def E0' (ρ : Operand -> AV) (x : Operand) : Value := ((ρ x).val?).getD Go.undef
def bytesOf : List AV -> Option (List Int)
 | [] => some []
 | .v (.int .u8 n) :: l => match bytesOf l with | some r => some (n :: r) | none => none
 | _ => none
def N7' (E : Env) (src dst : TypeId) (x : AV) : AP AV := do
 let ds <- E.desc src
 let dd <- E.desc dst
 match ds, dd, x with
 | .string, .slice e, .v (.string s) => do
  match <- E.desc e with
  | .int .u8 => .new (.cells (vmap (s.data.toList.map fun b => .int .u8 b.toNat)) (2 * e + 1)) fun i => .ret (.slice i 0 s.size 1 (.lo s.size))
  | _ => .fail "convert"
 | .slice e, .string, .slice i off len sz _ => do
  match <- E.desc e with
  | .int .u8 => do
   AJ' (Nat.beq sz 1) "convert size"
   let (all, _) <- BR' i
   let cs <- span E.strict all off len
   let ns <- AP.opt "convert bytes" (bytesOf cs)
   pure (.v (.string (ns.foldl (fun r n => r.push (UInt8.ofNat n.toNat)) ByteArray.empty)))
  | _ => .fail "convert"
 | .slice _, .slice e, .slice i off len sz cap => do
  AJ' (Nat.beq src dst) "convert type"
  match <- E.desc e with
  | .int .u8 => do
   let (cs, e') <- BR' i
   .write i (.cells cs (2 * (e' / 2) + 1)) (.ret (.slice i off len sz cap))
  | _ => .fail "convert"
 | .pointer t, .unsafePointer, .ptr i off => do
  let n <- E.size t
  AJ' (Nat.blt 0 n) "convert size"
  let (cs, _) <- BR' i
  BH' E.strict (Nat.blt off cs.length) "convert beyond"
  pure (.ptr i off)
 | .unsafePointer, .pointer u, .ptr i 0 => do
  let n <- E.size u
  AJ' (Nat.blt 0 n) "convert size"
  let (cs, e) <- BR' i
  AJ' (Nat.beq e (2 * u)) "convert type"
  BH' E.strict (Nat.ble n cs.length) "convert beyond"
  pure (.ptr i 0)
 | _, _, _ => .fail "convert what"
def Z9' : Int -> Bool
 | .ofNat k => Nat.blt k 256
 | .negSucc _ => false
def IV' : AV -> AP AV
 | .slice i off _ _ cap => do
  AJ' (Nat.blt 0 cap.least) "sliceData"
  pure (.ptr i off)
 | _ => .fail "sliceData"
def EQ' (E : Env) (pt : TypeId) (p k : AV) : AP AV := do
 let n <- L8' k
 match n, p with
 | 0, .ptr _ _ => pure (.v (.string .empty))
 | n + 1, .ptr i 0 => do
  match <- E.desc pt with
  | .pointer e => do
   let sz <- E.size e
   AJ' (Nat.beq sz 1) "text size"
   let (cs, e') <- BR' i
   AJ' (Nat.beq e' (2 * e)) "text type"
   BH' E.strict (Nat.ble (n + 1) EC') "text length"
   let cs <- span E.strict cs 0 (n + 1)
   let ns <- AP.opt "text bytes" (bytesOf cs)
   AJ' (ns.all Z9') "text bytes"
   .kill i (.ret (.v (.string ⟨(ns.map fun n => UInt8.ofNat n.toNat).toArray⟩)))
  | _ => .fail "text"
 | _, _ => .fail "text what"
def S8' : AV -> AP AN
 | .iface t (.map i) => do
  let (es, k) <- D1' i
  .new (.map es k) fun j => .ret (.value (.iface t (.map j)))
 | _ => .fail "maps.clone"
def amax : AV -> AV -> AP AV
 | .v (.int k a), .v (.int _ b) => pure (.v (.int k (if b > a then b else a)))
 | _, _ => .fail "max"
def amin : AV -> AV -> AP AV
 | .v (.int k a), .v (.int _ b) => pure (.v (.int k (if b < a then b else a)))
 | _, _ => .fail "min"
def QR' (P : Program) (E : Env) (c : Call) (type : TypeId) (ρ : Operand -> AV) : AP AN :=
 let args := c.args.toList.map ρ
 match c.callee, args, c.argTypes.toList with
 | .builtin .append, [s, x], [ts, tx] => aval (QS' E ts tx s x)
 | .builtin .copy, [d, s], [ts, _] => aval (hP' E ts d s)
 | .builtin .delete, [m, k], [ts, _] => aval (QN' P E ts m k)
 | .builtin .clear, [m], [ts] => aval (VO' E ts m)
 | .builtin .unsafeSliceData, [x], _ => aval (IV' x)
 | .builtin .unsafeString, [p, k], [pt, _] => aval (EQ' E pt p k)
 | .builtin .len, [x], [ts] => aval (VL' E ts x)
 | .builtin .max, [x, y], _ => aval (amax x y)
 | .builtin .min, [x, y], _ => aval (amin x y)
 | .builtin _, _, _ => .fail "builtin"
 | .invoke r name, _, _ => N0' E (ρ r) name args
 | .value f, _, _ =>
  match ρ f with
  | .v (.func (.func f) first captured) => (match E.clone f, vmap first.toList ++ args ++ vmap captured.toList with
   | true, [x] => S8' x
   | _, l => LY' P E f l)
  | .func (.func f) first captured => LY' P E f (first ++ args ++ captured)
  | _ => .fail "call of what"
def VM' (E : Env) (t : TypeId) (x : AV) (j : Nat) : AP AV := do
 match <- E.desc t with
 | .struct fs => do
  let f <- AP.opt "field" fs[j]?
  match x with
  | .agg cs => part E f.type cs f.offset
  | _ => .fail "field"
 | _ => .fail "field"
def VJ' (i : Nat) : AO -> AP AV
 | .striter s pos => match Nat.blt pos s.size with
  | true => .write i (.striter s (pos + (Utf8.decode s pos).2)) (.ret (.tuple [.v (.bool true), .v (.int .i64 pos), .v (.int .i32 (Utf8.decode s pos).1)]))
  | false => .ret (.tuple [.v (.bool false)])
 | _ => .fail "next"
def anext (it : AV) : AP AV :=
 match it with
 | .ptr i 0 => .read i (VJ' i)
 | _ => .fail "next"
def anextE (i m since : Nat) (seen : List Nat) (last : Nat) : AP AV := do
 let (es, clock) <- D1' m
 AJ' (seen.isEmpty || es.isEmpty || es.any fun e => Nat.blt e.2.2 last) "next all are gone"
 let left := es.filter fun e => !(seen.contains e.2.2)
 match left.filter (fun e => Nat.blt e.2.2 since), left.filter (fun e => !(Nat.blt e.2.2 since)) with
 | [], [] => .ret (.tuple [.v (.bool false)])
 | [e], [] => .write i (.miter (some m) since (seen ++ [e.2.2]) clock) (.ret (.tuple [.v (.bool true), e.1, e.2.1]))
 | _, _ => .fail "next more than one entry"
def ZW' (it : AV) : AP AV :=
 match it with
 | .ptr i 0 => .read i fun
  | .miter none _ _ _ => .ret (.tuple [.v (.bool false)])
  | .miter (some m) since seen last => anextE i m since seen last
  | _ => .fail "next"
 | _ => .fail "next"
def QM' (m : Nat) (seen : List Nat) (stepped : Nat) : AP AV := do
 let stamp <- AP.opt "entry" seen.getLast?
 let (es, clock) <- D1' m
 AJ' (Nat.beq clock stepped) "entry an insertion"
 let e <- AP.opt "entry gone" (es.find? fun e => Nat.beq e.2.2 stamp)
 .ret (.tuple [e.1, e.2.1])
def ZX' (it : AV) : AP AV :=
 match it with
 | .ptr i 0 => .read i fun
  | .miter (some m) _ seen stepped => QM' m seen stepped
  | _ => .fail "entry"
 | _ => .fail "entry"
def S7' (j : Nat) : AV -> AP AV
 | .tuple vs => AP.opt "extract" vs[j]?
 | .v (.tuple vs) => (AP.opt "extract" vs[j]?).bind fun x => .ret (.v x)
 | _ => .fail "extract"
def RB' : Op -> Bool
 | .nilCheck _ | .binOp .. | .unOp .. | .convert .. | .slice .. | .field .. | .index .. | .waits _ => true
 | .call { callee := .builtin .append, .. } | .call { callee := .builtin .copy, .. } | .call { callee := .builtin .delete, .. } => false
 | .call { callee := .builtin _, .. } => true
 | _ => false
def O5' (o : Operand) (x : AV) : AV := match o with
 | .const _ => (match x with
  | .v (.bool b) => .lit b
  | x => x)
 | _ => x
def aOp1 (P : Program) (E : Env) (ρ : Operand -> AV) (o : Oper) : AP AN :=
 match o.op with
 | .move x | .assign x => .ret (.value (ρ x))
 | .pick c a b => match ρ c with
  | .lit x => match x with
   | true => .ret (.value (O5' a (ρ a)))
   | false => .ret (.value (O5' b (ρ b)))
  | .v (.bool x) => match E.strict with
   | true => match x with
    | true => .ret (.value (ρ a))
    | false => .ret (.value (ρ b))
   | false => .ite x (.ret (.value (O5' a (ρ a)))) (.ret (.value (O5' b (ρ b))))
  | _ => .fail "pick"
 | .alloc e => do
  let z <- E.zero e
  anew (.cells (vmap z.cells.toList) (2 * e)) fun i => .ptr i 0
 | .box e x => do
  AJ' (ρ x).known "box of what"
  anew (.cells (ρ x).cells (2 * e)) fun i => .ptr i 0
 | .build t ps => aval (VP' E t (ps.toList.map fun (i, x) => (i, ρ x)))
 | .buildSlice t n ps => aval (HH' E t n (ps.toList.map fun (i, x) => (i, ρ x)))
 | .load t a => aval (MY' E t (ρ a))
 | .store t a x => SY' (VF' E t (ρ a) (ρ x))
 | .nilCheck x => match ρ x with
  | .ptr i off => .ret (.value (.ptr i off))
  | .iface t x => .ret (.value (.iface t x))
  | .func (.func f) a b => .ret (.value (.func (.func f) a b))
  | _ => .fail "nilCheck"
 | .binOp op t x y _ => match op with
  | .eql => (LX' E t (ρ x) (ρ y)).bind fun b => .ret (.value (.v (.bool b)))
  | .neq => (LX' E t (ρ x) (ρ y)).bind fun b => .ret (.value (.v (.bool !b)))
  | _ => .fail "binOp"
 | .makeInterface t x => do
  match <- E.desc t with
  | .interface _ => .fail "makeInterface"
  | _ => .ret (.value (.iface t (ρ x)))
 | .makeFunc fn first cap => .ret (.value (.func fn (first.toList.map ρ) (cap.toList.map ρ)))
 | .makeMap _ none => anew (.map [] 0) .map
 | .makeSlice t l c => aval (IX' E t (ρ l) (ρ c))
 | .slice t x lo hi mx => aval (VG' E t (ρ x) (lo.map ρ) (hi.map ρ) (mx.map ρ))
 | .fieldAddr s x f => aval (IZ' E s (ρ x) f)
 | .field t x j => aval (VM' E t (ρ x) j)
 | .indexAddr t x ix => aval (IY' E t (ρ x) (ρ ix))
 | .lookup t x k ok => aval (QJ' P E t (ρ x) (ρ k) ok)
 | .mapUpdate t m k x => SY' (GL' P E t (ρ m) (ρ k) (ρ x))
 | .insert t m k x => SY' (GL' P E t (ρ m) (ρ k) (ρ x))
 | .mapEntry t m k => aval (KZ' P E t (ρ m) (ρ k))
 | .entryStore _ m s x => SY' (HG' E.strict (ρ m) (ρ s) (ρ x))
 | .range t x => do
  match <- E.desc t, ρ x with
  | .string, .v (.string s) => anew (.striter s 0) fun i => .ptr i 0
  | .map _ _, .v (.map none) => anew (.miter none 0 [] 0) fun i => .ptr i 0
  | .map _ _, .map m => do
   let (_, clock) <- D1' m
   anew (.miter (some m) clock [] clock) fun i => .ptr i 0
  | _, _ => .fail "range"
 | .next it true => aval (anext (ρ it))
 | .next it false => aval (ZW' (ρ it))
 | .entry it => aval (ZX' (ρ it))
 | .typeAssert x _ t ok => aval (HD' E (ρ x) t ok)
 | .extract t j => aval (S7' j (ρ t))
 | .convert s d x => aval (N7' E s d (ρ x))
 | .call c => QR' P E c o.type ρ
 | _ => .fail "an operation that the engine lacks"
def YE' (P : Program) (t : TypeId) (a b : Array Value) (q : Bool) : Prop := ∀ w, (Op.equal t (.agg a) (.agg b)).run P w = .ok q w
def UY' (E : Env) (ρ : Operand -> AV) (op : Op) : Option (TypeId × Array Value × Array Value × Bool) := match E.strict with
 | true => none
 | false => match op with
  | .binOp op2 t x y _ => match E.under t with
   | some (.struct _) | some (.array _ _) => match E0' ρ x, E0' ρ y with
    | .agg a, .agg b => match op2 with
     | .eql => some (t, a, b, true)
     | .neq => some (t, a, b, false)
     | _ => none
    | _, _ => none
   | _ => none
  | _ => none
def eqAggA (P : Program) (t : TypeId) (a b : Array Value) (pos : Bool) : AP AN :=
 (AJ' (!(P.eqGuardType P.depth t)) "equal").bind fun _ => .need (YE' P t a b (HK' a.toList b.toList)) (.ret (.value (.v (.bool (match pos with | true => HK' a.toList b.toList | false => !(HK' a.toList b.toList))))))
def aOp (P : Program) (E : Env) (ρ : Operand -> AV) (o : Oper) : AP AN :=
 match RB' o.op with
 | false => aOp1 P E ρ o
 | true => match opsVal? ρ o.op.operands.toList with
  | false => aOp1 P E ρ o
  | true => match UY' E ρ o.op with
   | some (t, a, b, pos) => eqAggA P t a b pos
   | none => match CE' P (execOp (E0' ρ) o) with
    | some (.value x) => .ret (.value (.v x))
    | _ => aOp1 P E ρ o
def QG' (E : Env) (t : TypeId) (x : AV) (lo hi : Option AV) : AP AV := do
 match <- E.desc t, x with
 | .slice e, .v (.slice a len cap) => do
  let h <- EA' len hi
  let l <- EA' 0 lo
  let sz <- E.size e
  .need (l <= h) (.need (h <= cap) (.ret (.v (match l with
   | 0 => .slice a h cap
   | l + 1 => .slice (if cap = l + 1 then a else a.map (·.add ((l + 1) * sz))) (h - (l + 1)) (cap - (l + 1))))))
 | .string, .v (.string s) => do
  let h <- EA' s.size hi
  let l <- EA' 0 lo
  .need (l <= h) (.need (h <= s.size) (.ret (.v (.string (s.extract l h)))))
 | _, _ => .fail "alt slice"
def QH' (E : Env) (t : TypeId) (x : AV) (lo : Option AV) (hi mx : AV) : AP AV := do
 match <- E.desc t, x with
 | .slice e, .v (.slice a len cap) => do
  let h <- EA' len (some hi)
  let l <- EA' 0 lo
  let m <- L8' mx
  let sz <- E.size e
  .need (l <= h) (.need (h <= m) (.need (m <= cap) (.ret (.v (match l with
   | 0 => .slice a h m
   | l + 1 => .slice (if m = l + 1 then a else a.map (·.add ((l + 1) * sz))) (h - (l + 1)) (m - (l + 1)))))))
 | _, _ => .fail "alt slice"
def QK' (E : Env) (t : TypeId) (x ix : AV) : AP AV := do
 match <- E.desc t, x with
 | .string, .v (.string s) => do
  let k <- L8' ix
  .need (k < s.size) (.ret (.v (.int .u8 (s.data.toList.getD k 0).toNat)))
 | _, _ => .fail "alt index"
def QP' (E : Env) (t : TypeId) (x y : AV) : AP AV := do
 match <- E.desc t, x, y with
 | .string, .v (.string a), .v (.string b) => .need (a.size + b.size <= EC') (.ret (.v (.string (a ++ b))))
 | _, _, _ => .fail "alt concat"
def hO' (E : Env) (k : AV) (es : List (AV × AV × Nat)) : AP Unit := .read 2 fun a => .need (E.gd a k es) (.ret ())
def MW' (E : Env) (t : TypeId) (x k : AV) : AP AV := do
 match <- E.desc t, x with
 | .map kt e, .map i => do
  let (es, _) <- D1' i
  match <- E.desc kt with
  | .pointer el => do
   let sz <- E.size el
   AJ' (Nat.blt 0 sz) "keys of nothing"
   hO' E k es
   let z <- E.zero e
   etaA z (D2' (B4' k es 0) z)
  | _ => .fail "keys of what"
 | _, _ => .fail "lookup of what"
def HE' (E : Env) (t : TypeId) (m k x : AV) : AP Unit := do
 match <- E.desc t, m with
 | .map kt _, .map i => do
  let (es, c) <- D1' i
  match <- E.desc kt with
  | .pointer el => do
   let sz <- E.size el
   AJ' (Nat.blt 0 sz) "keys of nothing"
   hO' E k es
   .write i (.map (setE k x es c) (GC' k es c)) (.ret ())
  | _ => .fail "keys of what"
 | _, _ => .fail "update of what"
def aAlt (E : Env) (ρ : Operand -> AV) (op : Op) : AP AN :=
 match op with
 | .call c => match c.callee, c.args.toList, c.argTypes.toList with
  | .builtin .append, [s, x], [ts, tx] => aval (IA' E ts tx (ρ s) (ρ x))
  | _, _, _ => .fail "alt"
 | .slice t x lo hi none => aval (QG' E t (ρ x) (lo.map ρ) (hi.map ρ))
 | .slice t x lo (some hi) (some mx) => aval (QH' E t (ρ x) (lo.map ρ) (ρ hi) (ρ mx))
 | .index t x ix => aval (QK' E t (ρ x) (ρ ix))
 | .binOp .add t x y _ => aval (QP' E t (ρ x) (ρ y))
 | .lookup t x k false => aval (MW' E t (ρ x) (ρ k))
 | .mapUpdate t m k x => SY' (HE' E t (ρ m) (ρ k) (ρ x))
 | _ => .fail "alt"
def PE' (E : Env) (ρ : Operand -> AV) (op : Op) (y : Value) : AP AN :=
 match op with
 | .load t a => match ρ a with
  | .v (.pointer (some ad)) => .read 2 fun o => .need (E.fc o (.load t ad y)) (.ret (.value (.v y)))
  | _ => .fail "fact load"
 | .lookup t x k false => match ρ x, (ρ k).val? with
  | .v (.map (some m)), some kv => .read 2 fun o => .need (E.fc o (.look t m kv y)) (.ret (.value (.v y)))
  | _, _ => .fail "fact look"
 | .call c => match c.callee, c.args.toList, c.argTypes.toList with
  | .builtin .len, [x], [t] => match ρ x with
   | .v (.map (some m)) => .read 2 fun o => .need (E.fc o (.len t m y)) (.ret (.value (.v y)))
   | _ => .fail "fact len"
  | _, _, _ => .fail "fact call"
 | _ => .fail "fact"
def aWr (E : Env) (ρ : Operand -> AV) (op : Op) (o' : AO) : AP AN :=
 match op with
 | .mapUpdate t m k x => match ρ m, (ρ k).val?, (ρ x).val? with
  | .v (.map (some b)), some kv, some xv => .read 2 fun o => .need (E.fc o (.upd t b kv xv o')) (.write 2 o' (.ret (.value AV.undef)))
  | _, _, _ => .fail "turn update"
 | .call c => match c.callee, c.args.toList, c.argTypes.toList with
  | .builtin .delete, [m, k], [t, _] => match ρ m, (ρ k).val? with
   | .v (.map (some b)), some kv => .read 2 fun o => .need (E.fc o (.del t b kv o')) (.write 2 o' (.ret (.value (.v (.tuple #[])))))
   | _, _ => .fail "turn delete"
  | _, _, _ => .fail "turn call"
 | _ => .fail "turn"
def txtV (s : Δ) : List AV := vmap (s.data.toList.map fun b => .int .u8 b.toNat)
def TxtAt (W : World) (a : Addr) (s : Δ) : Prop := ∀ j, j < s.size -> W.cell? (a.add j) = some (.int .u8 (s.data.toList.getD j 0).toNat)
def hQ' (E : Env) (src dst : TypeId) (x : AV) (s : Δ) : AP AV := do
 let ds <- E.desc src
 let dd <- E.desc dst
 match ds, dd, x with
 | .slice e, .string, .slice i off len sz _ => do
  match <- E.desc e with
  | .int .u8 => do
   AJ' (Nat.beq sz 1) "text size"
   let (all, _) <- BR' i
   .need (off + len <= all.length /\ List.take len (List.drop off all) = txtV s) (.ret (.v (.string s)))
  | _ => .fail "text"
 | .slice e, .string, .v (.slice (some a) len _) => do
  match <- E.desc e with
  | .int .u8 => .need (s.size = len /\ TxtAt E.W a s) (.ret (.v (.string s)))
  | _ => .fail "text"
 | .slice e, .string, .v (.slice none _ _) => do
  match <- E.desc e with
  | .int .u8 => .need (s = ByteArray.empty) (.ret (.v (.string s)))
  | _ => .fail "text"
 | .int _, .string, .v (.int _ n) => .need (s = Utf8.encode n) (.ret (.v (.string s)))
 | _, _, _ => .fail "text of what"
def aTxt (E : Env) (ρ : Operand -> AV) (op : Op) (s : Δ) : AP AN := match op with
 | .convert src dst x => aval (hQ' E src dst (ρ x) s)
 | _ => .fail "text"
def UV' (v : AV) : AV := match v with
 | .v (.bool b) => (match b with | true => .lit true | false => .lit false)
 | .v (.int k n) => intK n fun n => .v (.int k n)
 | v => v
def ZI' : AN -> AN
 | .value v => .value (UV' v)
 | x => x
def aOpX (alt : Alt) (P : Program) (E : Env) (ρ : Operand -> AV) (o : Oper) : AP AN := match alt with
 | .yes => aAlt E ρ o.op
 | .no => aOp P E ρ o
 | .fact y => PE' E ρ o.op y
 | .wr o' => aWr E ρ o.op o'
 | .force => (aOp P E ρ o).bind fun x => .ret (ZI' x)
 | .txt s => aTxt E ρ o.op s
def leS : Γ -> Γ -> Bool
 | [], _ => true
 | _ :: _, [] => false
 | a :: l, b :: r => match Nat.blt a.toNat b.toNat with
  | true => true
  | false => match Nat.beq a.toNat b.toNat with
   | true => leS l r
   | false => false
def leZ (a b : Int) : Bool := decide (a <= b)
def insS {α : Type} (le : α -> α -> Bool) (x : α) : List α -> List α
 | [] => [x]
 | y :: l => match le x y with
  | true => x :: y :: l
  | false => y :: insS le x l
def HO' {α : Type} (le : α -> α -> Bool) : List α -> List α
 | [] => []
 | x :: l => insS le x (HO' le l)
def GE' : List (AV × AV × Nat) -> Option (List Γ)
 | [] => some []
 | (.v (.string s), _, _) :: l => match GE' l with | some r => some (s.data.toList :: r) | none => none
 | _ => none
def I1' : List (AV × AV × Nat) -> Option (List Int)
 | [] => some []
 | (.v (.int .i64 n), _, _) :: l => match I1' l with | some r => some (n :: r) | none => none
 | _ => none
def aO' (e : TypeId) : List AV -> AP AV
 | [] => .ret (.v (.slice none 0 0))
 | x :: l => .new (.cells (x :: l) (2 * e)) fun j => .ret (.slice j 0 (l.length + 1) 1 (.lo (l.length + 1)))
def SK' {α : Type} (eq : α -> α -> Bool) : List α -> Bool
 | [] => true
 | x :: l => (l.all fun y => !(eq x y)) && SK' eq l
def JL' (es : List (AV × AV × Nat)) (clock : Nat) : Bool := (es.all fun e => Nat.blt e.2.2 clock) && SK' Nat.beq (es.map (·.2.2))
def GF' (e : TypeId) (i : Nat) : AP AV := do
 let (cs, e') <- BR' i
 AJ' (Nat.beq (e' % 2) 0) "sorted of what"
 match cs with
 | [.map m] => do
  let (es, clock) <- D1' m
  let ks <- AP.opt "sorted keys" (GE' es)
  AJ' (JL' es clock) "sorted stamps"
  AJ' (SK' (fun a b => leS a b && leS b a) ks) "sorted two keys"
  AJ' (ks.all fun k => Nat.ble k.length 1000000) "sorted long keys"
  AJ' (Nat.ble es.length 1000000) "sorted many keys"
  aO' e ((HO' leS ks).map fun s => .v (.string ⟨⟨s⟩⟩))
 | _ => .fail "sorted of what"
def IF' (e : TypeId) (i : Nat) : AP AV := do
 let (cs, e') <- BR' i
 AJ' (Nat.beq (e' % 2) 0) "sorted of what"
 match cs with
 | [.map m] => do
  let (es, clock) <- D1' m
  let ks <- AP.opt "sorted keys" (I1' es)
  AJ' (JL' es clock) "sorted stamps"
  AJ' (SK' (fun a b => leZ a b && leZ b a) ks) "sorted two keys"
  AJ' (ks.all fun k => (Lit.int .i64 k).wf) "sorted great keys"
  AJ' (Nat.ble es.length 1000000) "sorted many keys"
  aO' e ((HO' leZ ks).map fun n => .v (.int .i64 n))
 | _ => .fail "sorted of what"
def getL (l : List AV) : Nat -> AV := @List.rec AV (fun _ => Nat -> AV) (fun _ => AV.undef) (fun a _ ih i => @Nat.rec (fun _ => AV) a (fun j _ => ih j) i) l
theorem Q6' (l : List AV) (i : Nat) : getL l i = l.getD i AV.undef := by
 induction l generalizing i with
 | nil => rfl
 | cons a l ih =>
  cases i with
  | zero => rfl
  | succ i => exact (ih i).trans (by simp)
def IP' (tmps : List AV) : Operand -> AV
 | .tmp t => getL tmps t
 | .const x => .v x
 | .global g => .v (.pointer (some ⟨g, 0, none⟩))
 | .func f => .v (.func (.func f) #[] #[])
def C9' (ops : Array Oper) (tmps : List AV) (j : Nat) : Option Bool :=
 match ((ops[j]?).bind (·.dst)).bind (tmps[·]?) with
 | some (.v (.bool b)) => some b
 | some (.lit b) => some b
 | _ => none
def putA (tmps : List AV) (dst : Option Nat) (x : AV) : List AV := match dst with | some d => tmps.set d x | none => tmps
section
universe u
variable {β : Sort u}
def setLK {α : Type} (x : α) (l : List α) : Nat -> (List α -> β) -> β :=
 @List.rec α (fun _ => Nat -> (List α -> β) -> β) (fun _ k => k []) (fun a l ih i k => @Nat.rec (fun _ => β) (k (x :: l)) (fun j _ => ih j fun l => k (a :: l)) i) l
theorem WD' {α : Type} (x : α) (l : List α) (i : Nat) (k : List α -> β) : setLK x l i k = k (l.set i x) := by
 induction l generalizing i k with
 | nil => rfl
 | cons a l ih =>
  cases i with
  | zero => rfl
  | succ i => exact ih i fun l => k (a :: l)
def putK (tmps : List AV) (dst : Option Nat) (x : AV) (k : List AV -> β) : β := match dst with | some d => setLK x tmps d k | none => k tmps
theorem PR' (tmps : List AV) (dst : Option Nat) (x : AV) (k : List AV -> β) : putK tmps dst x k = k (putA tmps dst x) := by
 cases dst with
 | none => rfl
 | some d => exact WD' x tmps d k
end
structure Mk where
 lg : Log
 lo : Nat
 hi : Nat
def M1' (lg : Log) (i : Nat) : Bool := lg.any fun x => Nat.beq x.1 i
def Q3' (lo hi : Nat) (lg : Log) : Bool := lg.any fun x => Nat.ble lo x.1 && Nat.blt x.1 hi
def Y1' (a b : Mk) : Bool :=
 a.lg.any (fun x => x.2 && M1' b.lg x.1) || b.lg.any (fun x => x.2 && M1' a.lg x.1) || Q3' a.lo a.hi b.lg || Q3' b.lo b.hi a.lg || !(Nat.ble a.hi b.lo || Nat.beq b.lo b.hi)
def maskOf (acc : List Nat) (o : Oper) : Nat := o.after.toList.foldl (fun s e => if Region.binds .any e then s ||| 2 ^ e.on ||| acc.getD e.on 0 else s) 0
def ME' : List Oper -> List Nat -> List Nat
 | [], acc => acc
 | o :: l, acc => ME' l (acc ++ [maskOf acc o])
def free1 (ops : Array Oper) (marks : List Mk) (j i : Nat) : Bool :=
 match ops[j]?, ops[i]? with
 | some oj, some oi => oi.apart ops oj && oj.apart ops oi && !(Y1' (marks.getD j ⟨[], 0, 0⟩) (marks.getD i ⟨[], 0, 0⟩))
 | _, _ => false
def EN' (ops : Array Oper) (marks : List Mk) : Bool :=
 let ms := ME' ops.toList []
 (List.range ops.size).all (fun j => ((ops[j]?).map (·.after.all fun e => !Region.binds .any e || decide (e.on < j))).getD false) &&
 (List.range ops.size).all fun i => (List.range i).all fun j => (ms.getD i 0).testBit j || free1 ops marks j i
def L7' (ops : Array Oper) (tmps : List AV) (o : Oper) : Bool :=
 match o.guard with
 | none => false
 | some (j, _) => match ((ops[j]?).bind (·.dst)).bind (tmps[·]?) with
  | some .any => true
  | _ => false
def ZB' (i : Nat) (rest : List Oper) : Bool := rest.any fun o => match o.guard with
 | some (j, _) => Nat.beq j i
 | none => false
def g4' {α : Type} (fork : Bool) (v : AV) (k : AV -> AP α) : AP α := match fork with
 | true => (match v with
  | .v (.bool b) => .ite b (k (.lit true)) (k (.lit false))
  | v => k v)
 | false => k v
def HR' (st : Bool) (ro : Nat -> Oper -> List AV -> AP AV) (all : Array Oper) : List Oper -> Nat -> List AV -> List Mk -> AP (List AV × List Mk)
 | [], _, tmps, mk => pure (tmps, mk.reverse)
 | o :: rest, i, tmps, mk =>
  match L7' all tmps o with
  | true => .fail "a guard that is not known"
  | false => match Region.wanted o (C9' all tmps) with
   | false => putK tmps o.dst AV.undef fun tmps => HR' st ro all rest (i + 1) tmps (⟨[], 0, 0⟩ :: mk)
   | true => .listen (ro i o tmps) fun v lg a b => match st with
    | true => avK v fun v => putK tmps o.dst v fun tmps => HR' st ro all rest (i + 1) tmps (⟨lg, a, b⟩ :: mk)
    | false => g4' (ZB' i rest) v fun v => putK tmps o.dst v fun tmps => HR' st ro all rest (i + 1) tmps (⟨lg, a, b⟩ :: mk)
def EL' (E : Env) (tmps : List AV) : List ResultVar -> AP (List AV)
 | [] => pure []
 | .tmp t :: l => do pure (tmps.getD t AV.undef :: (<- EL' E tmps l))
 | .cell a t :: l => do
  let x <- MY' E t (tmps.getD a AV.undef)
  pure (x :: (<- EL' E tmps l))
def CC' : Code -> Option Nat
 | .region id _ _ => some id
 | .seq a b => match CC' a with | some i => some i | none => CC' b
 | .cond _ a b => match CC' a with | some i => some i | none => CC' b
 | .block _ b | .loop b | .scope b => CC' b
 | _ => none
abbrev Rc := FuncId -> Code -> List AV -> AP (AX × List AV)
def K3' (E : Env) (rc : Rc) (f : FuncId) (args : List AV) : AP AV := do
 let fn <- AP.opt "function" (E.fn f)
 let c <- AP.opt ("no body " ++ fn.name) fn.body
 let (x, tmps) <- rc f c (args ++ List.replicate (fn.ntmps - args.length) AV.undef)
 match x with
 | .exit _ => .fail "exit"
 | _ => do
  let rs <- EL' E tmps fn.results.toList
  match rs with
  | [x] => pure x.plain
  | _ => pure (.tuple (rs.map AV.plain))
def M5' (alt : Alt) (P : Program) (E : Env) (rc : Rc) (o : Oper) (tmps : List AV) : AP AV := do
 match <- aOpX alt P E (IP' tmps) o with
 | .value x => pure x
 | .enter f args => match E.con f (args.map AV.plain) with
  | some p => p
  | none => K3' E rc f (args.map AV.plain)
def TU' (c : Operand) (b : Bool) (tmps : List AV) : List AV := match c with
 | .tmp t => tmps.set t (.lit b)
 | _ => tmps
def bB' (E : Env) (k : AP AV) : List (Nat × AO) -> AP AV
 | [] => k
 | x :: l => .read x.1 fun o => .need (E.ow o x.2) (.write x.1 x.2 (bB' E k l))
def hintA (E : Env) (t : Hint) (v : AV) : AP AV := bB' E (match t.ptr with
 | some j => .read j fun
  | .same i b => (match v with
   | .v (.map _) => .need (E.wk v (.v (.map (some b)))) (.ret (.map i))
   | _ => .need (E.wk v (.v (.pointer (some ⟨b, 0, none⟩)))) (.ret (.ptr i 0)))
  | _ => .fail "hint"
 | none => match t.val with
  | some u => .need (E.wk v u) (.ret u)
  | none => .ret v) t.objs
def DQ' (P : Program) (E : Env) (rc : Rc) (hn : Nat -> Option Hint) (i : Nat) (o : Oper) (tmps : List AV) : AP AV := match hn i with
 | none => M5' .no P E rc o tmps
 | some t => (M5' t.alt P E rc o tmps).bind (hintA E t)
def XX' : Nat := 999
def RL' (E : Env) (tmps : List AV) : AP (AX × List AV) :=
 match E.dead with
 | false => pure (.normal, tmps)
 | true => .read XX' fun o => match o with
  | .own _ h => .need (∀ a b D w, ¬ (h a b).on D w) (pure (.ret, tmps))
  | _ => pure (.normal, tmps)
def OU' (P : Program) (E : Env) (rc : Rc) (g : FuncId) (c : Code) (tmps : List AV) : AP (AX × List AV) :=
 match c with
 | .skip | .label _ => pure (.normal, tmps)
 | .region id ops draw => do
  let (tmps', mk) <- HR' E.strict (DQ' P E rc (E.claim g id)) ops ops.toList 0 tmps []
  match draw with
  | false => RL' E tmps'
  | true => do
   AJ' (EN' ops mk) "region the order matters"
   RL' E tmps'
 | .seq a b => do
  match <- rc g a tmps with
  | (.normal, tmps) => rc g b tmps
  | r => pure r
 | .cond c a b => match IP' tmps c with
  | .lit x => match x with
   | true => rc g a tmps
   | false => rc g b tmps
  | .v (.bool x) => match E.strict with
   | true => match x with
    | true => rc g a tmps
    | false => rc g b tmps
   | false => .ite x (rc g a (TU' c true tmps)) (rc g b (TU' c false tmps))
  | _ => .fail "cond"
 | .block id b => do
  match <- rc g b tmps with
  | (.exit j, tmps) => match Nat.beq j id with | true => pure (.normal, tmps) | false => pure (.exit j, tmps)
  | r => pure r
 | .loop b => match (CC' b).bind (E.lcon g) with
  | some p => .need (b = p.1) (p.2 tmps)
  | none => do
   match <- rc g b tmps with
   | (.normal, tmps) => rc g (.loop b) tmps
   | r => pure r
 | .exit id => pure (.exit id, tmps)
 | .ret => pure (.ret, tmps)
 | _ => .fail "code"
def CT' (P : Program) (E : Env) : Nat -> Rc
 | 0, _, _, _ => .fail "fuel"
 | n + 1, g, c, tmps => OU' P E (CT' P E n) g c tmps
def D3' (P : Program) (E : Env) (fuel : Nat) (f : FuncId) (args : List AV) : AP AV := K3' E (CT' P E fuel) f args
end
end Go.Proofs.YtnnojnlejlokhaaGreatDoor.Eng
