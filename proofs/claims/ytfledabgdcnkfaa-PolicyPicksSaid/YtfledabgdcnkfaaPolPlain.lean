/- The data of package policy, plainly: no program. -/
import Derived.Test.YtfledabgdcnkfaaGlobLaw
import Derived.WalkKit
set_option linter.unusedVariables false
set_option linter.unusedSimpArgs false
namespace Go.Proofs.Ytfledabgdcnkfaa
namespace Pol

structure Conf where
  ttl : Int
  exp : Int
  mlen : Int
  mprio : Int
  dlx : ByteArray
  dlk : ByteArray
  alt : ByteArray
  hdlx : Bool
  hdlk : Bool
  halt : Bool

def Conf.cells (c : Conf) : List Value := [.int .i64 c.ttl, .int .i64 c.exp, .int .i64 c.mlen, .int .i64 c.mprio, .string c.dlx, .string c.dlk, .string c.alt, .bool c.hdlx, .bool c.hdlk, .bool c.halt]
def Conf.zero : Conf := ⟨0, 0, 0, 0, ByteArray.empty, ByteArray.empty, ByteArray.empty, false, false, false⟩
def Conf.none : Conf := ⟨-1, -1, -1, -1, ByteArray.empty, ByteArray.empty, ByteArray.empty, false, false, false⟩

structure Pol where
  vhost : ByteArray
  name : ByteArray
  pat : ByteArray
  apply : ByteArray
  prio : Int
  conf : Conf

def Pol.cells (p : Pol) : List Value := [.string p.vhost, .string p.name, .string p.pat, .string p.apply, .int .i64 p.prio, .int .i64 p.conf.ttl, .int .i64 p.conf.exp, .int .i64 p.conf.mlen, .int .i64 p.conf.mprio, .string p.conf.dlx, .string p.conf.dlk, .string p.conf.alt, .bool p.conf.hdlx, .bool p.conf.hdlk, .bool p.conf.halt]
def Pol.zero : Pol := ⟨ByteArray.empty, ByteArray.empty, ByteArray.empty, ByteArray.empty, 0, Conf.zero⟩

/-- All cells of a list of policies, one behind the other. -/
def polCells (l : List Pol) : List Value := l.flatMap Pol.cells

theorem pol_length (p : Pol) : p.cells.length = 15 := rfl
theorem polCells_length (l : List Pol) : (polCells l).length = l.length * 15 := by
  induction l with
  | nil => rfl
  | cons p l ih => simp only [polCells, List.flatMap_cons, List.length_append, pol_length, List.length_cons] at *; omega

def either (own by_ : Int) : Int := if 0 ≤ own then own else by_
def merge (own by_ : Conf) : Conf where
  ttl := either own.ttl by_.ttl
  exp := either own.exp by_.exp
  mlen := either own.mlen by_.mlen
  mprio := either own.mprio by_.mprio
  dlx := if own.hdlx then own.dlx else by_.dlx
  dlk := if own.hdlk then own.dlk else by_.dlk
  alt := if own.halt then own.alt else by_.alt
  hdlx := if own.hdlx then own.hdlx else by_.hdlx
  hdlk := if own.hdlk then own.hdlk else by_.hdlk
  halt := if own.halt then own.halt else by_.halt
theorem merge_eq (own by_ : Conf) (x7 x8 x9 : Bool) (h7 : own.hdlx = x7) (h8 : own.hdlk = x8) (h9 : own.halt = x9) :
    (merge own by_).cells = [.int .i64 (either own.ttl by_.ttl), .int .i64 (either own.exp by_.exp), .int .i64 (either own.mlen by_.mlen), .int .i64 (either own.mprio by_.mprio),
      .string (bif x7 then own.dlx else by_.dlx), .string (bif x8 then own.dlk else by_.dlk), .string (bif x9 then own.alt else by_.alt),
      .bool (bif x7 then own.hdlx else by_.hdlx), .bool (bif x8 then own.hdlk else by_.hdlk), .bool (bif x9 then own.halt else by_.halt)] := by
  subst h7 h8 h9
  obtain ⟨_, _, _, _, _, _, _, a, b, c⟩ := own
  cases a <;> cases b <;> cases c <;> rfl
/-- A value of a field: its list and its table as they lie. -/
structure Val where
  kind : Int
  num : Int
  text : ByteArray
  list : Value
  table : Value
def Val.cells (v : Val) : List Value := [.int .i64 v.kind, .int .i64 v.num, .string v.text, v.list, v.table]
structure Fld where
  name : ByteArray
  val : Val
def Fld.cells (f : Fld) : List Value := [.string f.name, .int .i64 f.val.kind, .int .i64 f.val.num, .string f.val.text, f.val.list, f.val.table]
def fldCells (l : List Fld) : List Value := l.flatMap Fld.cells
theorem fld_length (f : Fld) : f.cells.length = 6 := rfl

def numCode (v : Val) (least most : Int) : Int :=
  if v.kind = 98 ∨ v.kind = 115 ∨ v.kind = 73 ∨ v.kind = 108 then (if v.num < least ∨ most < v.num then 32 else 0) else 30
def textCode (v : Val) : Int := if v.kind = 83 then (if 255 < v.text.size then 1 else 0) else 30
/-- What a field sets. -/
def setCode (c : Conf) (f : Fld) : Int × Conf :=
  if f.name.toList = [120, 45, 109, 101, 115, 115, 97, 103, 101, 45, 116, 116, 108] then (numCode f.val 0 2147483647, if numCode f.val 0 2147483647 = 0 then { c with ttl := f.val.num } else c)
  else if f.name.toList = [120, 45, 101, 120, 112, 105, 114, 101, 115] then (numCode f.val 1 2147483647, if numCode f.val 1 2147483647 = 0 then { c with exp := f.val.num } else c)
  else if f.name.toList = [120, 45, 109, 97, 120, 45, 108, 101, 110, 103, 116, 104] then (numCode f.val 0 2147483647, if numCode f.val 0 2147483647 = 0 then { c with mlen := f.val.num } else c)
  else if f.name.toList = [120, 45, 109, 97, 120, 45, 112, 114, 105, 111, 114, 105, 116, 121] then (numCode f.val 0 9, if numCode f.val 0 9 = 0 then { c with mprio := f.val.num } else c)
  else if f.name.toList = [120, 45, 100, 101, 97, 100, 45, 108, 101, 116, 116, 101, 114, 45, 101, 120, 99, 104, 97, 110, 103, 101] then (textCode f.val, if textCode f.val = 0 then { c with dlx := f.val.text, hdlx := true } else c)
  else if f.name.toList = [120, 45, 100, 101, 97, 100, 45, 108, 101, 116, 116, 101, 114, 45, 114, 111, 117, 116, 105, 110, 103, 45, 107, 101, 121] then (textCode f.val, if textCode f.val = 0 then { c with dlk := f.val.text, hdlk := true } else c)
  else (0, c)
/-- What fields set, one behind the other, till one is refused. -/
def setAll : List Fld → Conf → Int × Conf
  | [], c => if c.hdlk = true ∧ c.hdlx = false then (2, Conf.zero) else (0, c)
  | f :: l, c => if (setCode c f).1 = 0 then setAll l (setCode c f).2 else ((setCode c f).1, Conf.zero)
structure Perm where
  user : ByteArray
  vhost : ByteArray
  conf : ByteArray
  write : ByteArray
  read : ByteArray
def Perm.cells (p : Perm) : List Value := [.string p.user, .string p.vhost, .string p.conf, .string p.write, .string p.read]
def permCells (l : List Perm) : List Value := l.flatMap Perm.cells
theorem perm_length (p : Perm) : p.cells.length = 5 := rfl
def Perm.zero : Perm := ⟨ByteArray.empty, ByteArray.empty, ByteArray.empty, ByteArray.empty, ByteArray.empty⟩
def may1 (user vhost : ByteArray) (way : Int) (name : ByteArray) (p : Perm) : Bool :=
  (p.user.toList == user.toList && p.vhost.toList == vhost.toList) &&
  (if way = 0 then Glob.gm p.conf.data.toList name.data.toList else if way = 1 then Glob.gm p.write.data.toList name.data.toList else if way = 2 then Glob.gm p.read.data.toList name.data.toList else false)
/-- Does the policy count for the name? -/
def fits (vhost name sort : ByteArray) (p : Pol) : Prop :=
  p.vhost.toList = vhost.toList ∧ (p.apply.toList = sort.toList ∨ p.apply.toList = [97, 108, 108]) ∧ Glob.gm p.pat.data.toList name.data.toList = true
def better (p q : Pol) : Prop := q.prio < p.prio ∨ p.prio = q.prio ∧ Op.bytesLess p.name.toList q.name.toList = true
instance (vhost name sort : ByteArray) (p : Pol) : Decidable (fits vhost name sort p) := by unfold fits; infer_instance
instance (p q : Pol) : Decidable (better p q) := by unfold better; infer_instance
def pickStep (vhost name sort : ByteArray) (st : Bool × Pol) (p : Pol) : Bool × Pol := if fits vhost name sort p ∧ (st.1 = false ∨ better p st.2) then (true, p) else st
def pick (vhost name sort : ByteArray) (l : List Pol) : Bool × Pol := l.foldl (pickStep vhost name sort) (false, Pol.zero)

theorem pick_take (vhost name sort : ByteArray) (l : List Pol) (k : Nat) (h : k < l.length) : pick vhost name sort (l.take (k + 1)) = pickStep vhost name sort (pick vhost name sort (l.take k)) l[k] := by
  rw [List.take_succ_eq_append_getElem h, pick, List.foldl_append]; rfl
theorem step_no {vhost name sort : ByteArray} {p : Pol} {st : Bool × Pol} (h : ¬ fits vhost name sort p) : pickStep vhost name sort st p = st := by
  unfold pickStep; rw [if_neg (fun hh => h hh.1)]
theorem step_keep {vhost name sort : ByteArray} {p q : Pol} (h : ¬ better p q) : pickStep vhost name sort (true, q) p = (true, q) := by
  unfold pickStep; rw [if_neg (fun hh => by rcases hh.2 with hh | hh; cases hh; exact h hh)]
theorem step_new {vhost name sort : ByteArray} {p q : Pol} (h : fits vhost name sort p) : pickStep vhost name sort (false, q) p = (true, p) := by
  unfold pickStep; rw [if_pos ⟨h, .inl rfl⟩]
theorem step_better {vhost name sort : ByteArray} {p q : Pol} (h : fits vhost name sort p) (hb : better p q) : pickStep vhost name sort (true, q) p = (true, p) := by
  unfold pickStep; rw [if_pos ⟨h, .inr hb⟩]
end Pol

/-- Cells of equal pieces: the j-th of the k-th. -/
theorem pieces_get {α : Type} {f : α → List Value} {m : Nat} (hf : ∀ x, (f x).length = m) : ∀ (l : List α) (k j : Nat) (h : k < l.length), j < m → (l.flatMap f)[k * m + j]? = (f l[k])[j]?
  | [], _, _, h, _ => by simp at h
  | x :: l, 0, j, _, hj => by
    rw [List.flatMap_cons, Nat.zero_mul, Nat.zero_add, List.getElem?_append_left (by rw [hf]; exact hj)]
    rfl
  | x :: l, k + 1, j, h, hj => by
    rw [List.flatMap_cons, List.getElem?_append_right (by rw [hf, Nat.add_mul]; omega), hf, show (k + 1) * m + j - m = k * m + j from by rw [Nat.add_mul]; omega]
    exact pieces_get hf l k j (by simpa using h) hj
theorem pieces_length {α : Type} {f : α → List Value} {m : Nat} (hf : ∀ x, (f x).length = m) (l : List α) : (l.flatMap f).length = l.length * m := by
  induction l with
  | nil => simp
  | cons p l ih => simp only [List.flatMap_cons, List.length_append, hf, List.length_cons, ih, Nat.add_mul]; omega
end Go.Proofs.Ytfledabgdcnkfaa
