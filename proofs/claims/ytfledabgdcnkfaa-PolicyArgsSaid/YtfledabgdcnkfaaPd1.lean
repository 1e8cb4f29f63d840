/- Parts of the proof, merged. -/
import Derived.LoopTactic
import Derived.WalkKit
/- Plain laws of the patterns of names: no program. -/
set_option linter.unusedVariables false
set_option linter.unusedSimpArgs false
namespace Go.Proofs.Ytfledabgdcnkfaa
namespace Glob

def gany (f : List UInt8 → Bool) : List UInt8 → Bool
  | [] => f []
  | d :: t => f (d :: t) || gany f t

def gm : List UInt8 → List UInt8 → Bool
  | [], t => t.isEmpty
  | c :: p, t => if c = 42 then gany (gm p) t else
    match t with
    | [] => false
    | d :: t' => (c == 63 || c == d) && gm p t'

theorem gany_iff (f : List UInt8 → Bool) (t : List UInt8) : gany f t = true ↔ ∃ k, k ≤ t.length ∧ f (t.drop k) = true := by
  induction t with
  | nil => simp [gany]
  | cons d t ih =>
    simp only [gany, Bool.or_eq_true, ih]
    constructor
    · rintro (h | ⟨k, hk, h⟩)
      · exact ⟨0, Nat.zero_le _, by simpa using h⟩
      · exact ⟨k + 1, by simp; omega, by simpa using h⟩
    · rintro ⟨k, hk, h⟩
      cases k with
      | zero => exact .inl (by simpa using h)
      | succ k => exact .inr ⟨k, by simp at hk; omega, by simpa using h⟩

theorem gm_star (p t : List UInt8) : gm (42 :: p) t = true ↔ ∃ k, k ≤ t.length ∧ gm p (t.drop k) = true := by
  simp only [gm, if_pos]
  exact gany_iff _ _

theorem gm_lit {c : UInt8} (hc : c ≠ 42) (p t : List UInt8) : gm (c :: p) t = match t with
    | [] => false
    | d :: t' => (c == 63 || c == d) && gm p t' := by
  simp only [gm, if_neg hc]

def lits : List UInt8 → List UInt8 → Bool
  | [], [] => true
  | c :: p, d :: t => (c != 42 && (c == 63 || c == d)) && lits p t
  | _, _ => false

theorem lits_length : ∀ (l m : List UInt8), lits l m = true → l.length = m.length
  | [], [], _ => rfl
  | [], _ :: _, h => by simp [lits] at h
  | _ :: _, [], h => by simp [lits] at h
  | c :: l, d :: m, h => by
    simp only [lits, Bool.and_eq_true] at h
    simp [lits_length l m h.2]

theorem lits_snoc : ∀ (l m : List UInt8) (c d : UInt8), lits l m = true → c ≠ 42 → (c == 63 || c == d) = true → lits (l ++ [c]) (m ++ [d]) = true
  | [], [], c, d, _, hc, h => by
    simp only [List.nil_append, lits, Bool.and_true, Bool.and_eq_true, bne_iff_ne]
    exact ⟨hc, h⟩
  | [], _ :: _, _, _, h, _, _ => by simp [lits] at h
  | _ :: _, [], _, _, h, _, _ => by simp [lits] at h
  | a :: l, b :: m, c, d, h, hc, he => by
    simp only [lits, Bool.and_eq_true, List.cons_append] at h ⊢
    exact ⟨h.1, lits_snoc l m c d h.2 hc he⟩

theorem gm_lits : ∀ (l m p t : List UInt8), lits l m = true → gm (l ++ p) (m ++ t) = gm p t
  | [], [], _, _, _ => rfl
  | [], _ :: _, _, _, h => by simp [lits] at h
  | _ :: _, [], _, _, h => by simp [lits] at h
  | c :: l, d :: m, p, t, h => by
    simp only [lits, Bool.and_eq_true, bne_iff_ne] at h
    rw [List.cons_append, List.cons_append, gm_lit h.1.1]
    simp [h.1.2, gm_lits l m p t h.2]

theorem gm_take : ∀ (l p t : List UInt8), (∀ c ∈ l, c ≠ 42) → gm (l ++ p) t = true → l.length ≤ t.length ∧ gm p (t.drop l.length) = true
  | [], p, t, _, h => ⟨Nat.zero_le _, h⟩
  | c :: l, p, t, hl, h => by
    rw [List.cons_append, gm_lit (hl c (by simp))] at h
    cases t with
    | nil => simp at h
    | cons d t =>
      simp only [Bool.and_eq_true] at h
      have := gm_take l p t (fun x hx => hl x (by simp [hx])) h.2
      exact ⟨by simp; exact this.1, by simpa using this.2⟩

theorem lits_nostar : ∀ (l m : List UInt8), lits l m = true → ∀ c ∈ l, c ≠ 42
  | [], _, _, c, hc => by cases hc
  | _ :: _, [], h, _, _ => by simp [lits] at h
  | a :: l, d :: m, h, c, hc => by
    simp only [lits, Bool.and_eq_true, bne_iff_ne] at h
    rcases List.mem_cons.1 hc with rfl | hc
    · exact h.1.1
    · exact lits_nostar l m h.2 c hc

theorem gm_greedy (l m p t : List UInt8) (h : lits l m = true) : gm (42 :: (l ++ 42 :: p)) (m ++ t) = gm (42 :: p) t := by
  rw [Bool.eq_iff_iff, gm_star]
  constructor
  · rintro ⟨k, hk, hg⟩
    have := gm_take l (42 :: p) _ (lits_nostar l m h) hg
    rw [gm_star] at this
    obtain ⟨hlen, k', hk', hg'⟩ := this
    rw [gm_star]
    have hl := lits_length l m h
    simp only [List.length_drop, List.length_append, List.drop_drop] at *
    refine ⟨k + k', by omega, ?_⟩
    rw [← hg']
    have e : k + l.length + k' = m.length + (k + k') := by omega
    have e' : (m ++ t).drop (m.length + (k + k')) = t.drop (k + k') := by rw [← List.drop_drop, List.drop_left]
    rw [e, e']
  · intro hg
    refine ⟨0, Nat.zero_le _, ?_⟩
    rw [List.drop_zero, gm_lits l m _ _ h]
    exact hg

theorem gm_atEnd (l m p : List UInt8) (h : lits l m = true) : gm (42 :: (l ++ p)) m = gm p [] := by
  rw [Bool.eq_iff_iff, gm_star]
  have hl := lits_length l m h
  constructor
  · rintro ⟨k, hk, hg⟩
    have := gm_take l p _ (lits_nostar l m h) hg
    have h0 : k = 0 := by have := this.1; simp at this; omega
    subst h0
    rw [List.drop_zero, hl, List.drop_length] at this
    exact this.2
  · intro hg
    refine ⟨0, Nat.zero_le _, ?_⟩
    have := gm_lits l m p [] h
    rw [List.append_nil] at this
    rw [List.drop_zero, this]
    exact hg

theorem gm_back (l m p t : List UInt8) (h : lits l m = true) (hno : gm p t = false) (hne : 0 < (m ++ t).length) :
    gm (42 :: (l ++ p)) (m ++ t) = gm (42 :: (l ++ p)) ((m ++ t).drop 1) := by
  rw [Bool.eq_iff_iff, gm_star, gm_star]
  constructor
  · rintro ⟨k, hk, hg⟩
    cases k with
    | zero =>
      rw [List.drop_zero, gm_lits l m p t h, hno] at hg
      cases hg
    | succ k => exact ⟨k, by simp at hk ⊢; omega, by rw [List.drop_drop, Nat.add_comm 1 k]; exact hg⟩
  · rintro ⟨k, hk, hg⟩
    refine ⟨k + 1, by rw [List.length_drop] at hk; omega, ?_⟩
    rw [List.drop_drop, Nat.add_comm 1 k] at hg
    exact hg

theorem gm_nil (p : List UInt8) : gm p [] = p.all (· == 42) := by
  induction p with
  | nil => rfl
  | cons c p ih =>
    by_cases hc : c = 42
    · subst hc; simp [gm, gany, ih]
    · rw [gm_lit hc]; simp [hc]

def Inv (P T : List UInt8) (i j : Nat) (s : Int) (b : Nat) : Prop :=
  i ≤ P.length ∧ j ≤ T.length ∧ b ≤ j ∧ -1 ≤ s ∧ s < i ∧
  ((s = -1 ∧ gm P T = gm (P.drop i) (T.drop j)) ∨
   (∃ (q : Nat) (l m : List UInt8), s = (q : Int) ∧ P.drop q = 42 :: (l ++ P.drop i) ∧ T.drop b = m ++ T.drop j ∧ lits l m = true ∧ l.length = i - (q + 1) ∧ m.length = j - b ∧
     gm P T = gm (P.drop q) (T.drop b)))

theorem inv_start (P T : List UInt8) : Inv P T 0 0 (-1) 0 :=
  ⟨Nat.zero_le _, Nat.zero_le _, Nat.le_refl _, by omega, by omega, .inl ⟨rfl, rfl⟩⟩

theorem inv_star {P T : List UInt8} {i j : Nat} {s : Int} {b : Nat} (h : Inv P T i j s b) (hi : i < P.length) (hc : P[i] = 42) : Inv P T (i + 1) j i j := by
  obtain ⟨h1, h2, h3, h4, h5, h6⟩ := h
  have hd : P.drop i = 42 :: P.drop (i + 1) := by rw [List.drop_eq_getElem_cons hi, hc]
  refine ⟨by omega, h2, Nat.le_refl _, by omega, by omega, .inr ⟨i, [], [], rfl, by simpa using hd, by simp, rfl, by simp, by simp, ?_⟩⟩
  rcases h6 with ⟨_, hg⟩ | ⟨q, l, m, rfl, hP, hT, hl, hll, hml, hg⟩
  · exact hg
  · rw [hg, hP, hT, hd, gm_greedy l m _ _ hl]

theorem inv_step {P T : List UInt8} {i j : Nat} {s : Int} {b : Nat} (h : Inv P T i j s b) (hi : i < P.length) (hj : j < T.length) (hc : P[i] ≠ 42)
    (hm : (P[i] == 63 || P[i] == T[j]) = true) : Inv P T (i + 1) (j + 1) s b := by
  obtain ⟨h1, h2, h3, h4, h5, h6⟩ := h
  have hd : P.drop i = P[i] :: P.drop (i + 1) := List.drop_eq_getElem_cons hi
  have hd' : T.drop j = T[j] :: T.drop (j + 1) := List.drop_eq_getElem_cons hj
  refine ⟨by omega, by omega, by omega, h4, by omega, ?_⟩
  rcases h6 with ⟨hs, hg⟩ | ⟨q, l, m, rfl, hP, hT, hl, hll, hml, hg⟩
  · refine .inl ⟨hs, ?_⟩
    rw [hg, hd, hd', gm_lit hc]
    simp [hm]
  · refine .inr ⟨q, l ++ [P[i]], m ++ [T[j]], rfl, ?_, ?_, lits_snoc l m _ _ hl hc hm, by simp; omega, by simp; omega, hg⟩
    · rw [hP, hd]; simp
    · rw [hT, hd']; simp

theorem gm_no {P T : List UInt8} {i j : Nat} (hj : j < T.length) (h : ∀ hi : i < P.length, P[i] ≠ 42 ∧ (P[i] == 63 || P[i] == T[j]) = false) : gm (P.drop i) (T.drop j) = false := by
  rw [List.drop_eq_getElem_cons hj]
  by_cases hi : i < P.length
  · rw [List.drop_eq_getElem_cons hi, gm_lit (h hi).1]
    simp only [(h hi).2, Bool.false_and]
  · rw [List.drop_of_length_le (by omega)]
    rfl

theorem inv_back {P T : List UInt8} {i j : Nat} {s : Int} {b : Nat} (hinv : Inv P T i j s b) (hj : j < T.length) (hs : 0 ≤ s)
    (h : ∀ hi : i < P.length, P[i] ≠ 42 ∧ (P[i] == 63 || P[i] == T[j]) = false) : ∃ q : Nat, s = (q : Int) ∧ Inv P T (q + 1) (b + 1) s (b + 1) ∧ q + 1 ≤ P.length := by
  obtain ⟨h1, h2, h3, h4, h5, h6⟩ := hinv
  rcases h6 with ⟨hs', _⟩ | ⟨q, l, m, rfl, hP, hT, hl, hll, hml, hg⟩
  · omega
  · have hq : q < P.length := by omega
    have hd : P.drop q = 42 :: P.drop (q + 1) := by
      have := List.drop_eq_getElem_cons hq
      rw [this] at hP ⊢
      rw [(List.cons.inj hP).1]
    refine ⟨q, rfl, ⟨by omega, by omega, Nat.le_refl _, by omega, by omega, .inr ⟨q, [], [], rfl, by simpa using hd, by simp, rfl, by simp, by simp, ?_⟩⟩, by omega⟩
    have hlen : 0 < (m ++ T.drop j).length := by simp; omega
    rw [hg, hP, hT, gm_back l m _ _ hl (gm_no hj h) hlen, ← hT, List.drop_drop]

theorem inv_none {P T : List UInt8} {i j : Nat} {s : Int} {b : Nat} (hinv : Inv P T i j s b) (hj : j < T.length) (hs : s < 0)
    (h : ∀ hi : i < P.length, P[i] ≠ 42 ∧ (P[i] == 63 || P[i] == T[j]) = false) : gm P T = false := by
  obtain ⟨h1, h2, h3, h4, h5, h6⟩ := hinv
  rcases h6 with ⟨_, hg⟩ | ⟨q, l, m, rfl, _⟩
  · rw [hg]; exact gm_no hj h
  · omega

theorem inv_end {P T : List UInt8} {i j : Nat} {s : Int} {b : Nat} (hinv : Inv P T i j s b) (hj : j = T.length) : gm P T = (P.drop i).all (· == 42) := by
  obtain ⟨h1, h2, h3, h4, h5, h6⟩ := hinv
  subst hj
  rcases h6 with ⟨_, hg⟩ | ⟨q, l, m, rfl, hP, hT, hl, hll, hml, hg⟩
  · rw [hg, List.drop_length, gm_nil]
  · rw [hg, hP, hT, List.drop_length, List.append_nil, gm_atEnd l m _ hl, gm_nil]

/-! The table by beginnings, as the reference has it. -/

def row (p t : List UInt8) : List Bool := (List.range (t.length + 1)).map fun j => gm p (t.take j)

end Glob
end Go.Proofs.Ytfledabgdcnkfaa

/- The data of package policy, plainly: no program. -/
set_option linter.unusedVariables false
set_option linter.unusedSimpArgs false
namespace Go.Proofs.Ytfledabgdcnkfaa
namespace Pol

structure Conf where
  ttl : Int
  exp : Int
  mlen : Int
  mprio : Int
  dlx : ByteArray
  dlk : ByteArray
  alt : ByteArray
  hdlx : Bool
  hdlk : Bool
  halt : Bool

def Conf.cells (c : Conf) : List Value := [.int .i64 c.ttl, .int .i64 c.exp, .int .i64 c.mlen, .int .i64 c.mprio, .string c.dlx, .string c.dlk, .string c.alt, .bool c.hdlx, .bool c.hdlk, .bool c.halt]
def Conf.zero : Conf := ⟨0, 0, 0, 0, ByteArray.empty, ByteArray.empty, ByteArray.empty, false, false, false⟩
def Conf.none : Conf := ⟨-1, -1, -1, -1, ByteArray.empty, ByteArray.empty, ByteArray.empty, false, false, false⟩

structure Pol where
  vhost : ByteArray
  name : ByteArray
  pat : ByteArray
  apply : ByteArray
  prio : Int
  conf : Conf

def Pol.cells (p : Pol) : List Value := [.string p.vhost, .string p.name, .string p.pat, .string p.apply, .int .i64 p.prio, .int .i64 p.conf.ttl, .int .i64 p.conf.exp, .int .i64 p.conf.mlen, .int .i64 p.conf.mprio, .string p.conf.dlx, .string p.conf.dlk, .string p.conf.alt, .bool p.conf.hdlx, .bool p.conf.hdlk, .bool p.conf.halt]
def Pol.zero : Pol := ⟨ByteArray.empty, ByteArray.empty, ByteArray.empty, ByteArray.empty, 0, Conf.zero⟩

def polCells (l : List Pol) : List Value := l.flatMap Pol.cells

theorem pol_length (p : Pol) : p.cells.length = 15 := rfl
def either (own by_ : Int) : Int := if 0 ≤ own then own else by_
def merge (own by_ : Conf) : Conf where
  ttl := either own.ttl by_.ttl
  exp := either own.exp by_.exp
  mlen := either own.mlen by_.mlen
  mprio := either own.mprio by_.mprio
  dlx := if own.hdlx then own.dlx else by_.dlx
  dlk := if own.hdlk then own.dlk else by_.dlk
  alt := if own.halt then own.alt else by_.alt
  hdlx := if own.hdlx then own.hdlx else by_.hdlx
  hdlk := if own.hdlk then own.hdlk else by_.hdlk
  halt := if own.halt then own.halt else by_.halt
theorem merge_eq (own by_ : Conf) (x7 x8 x9 : Bool) (h7 : own.hdlx = x7) (h8 : own.hdlk = x8) (h9 : own.halt = x9) :
    (merge own by_).cells = [.int .i64 (either own.ttl by_.ttl), .int .i64 (either own.exp by_.exp), .int .i64 (either own.mlen by_.mlen), .int .i64 (either own.mprio by_.mprio),
      .string (bif x7 then own.dlx else by_.dlx), .string (bif x8 then own.dlk else by_.dlk), .string (bif x9 then own.alt else by_.alt),
      .bool (bif x7 then own.hdlx else by_.hdlx), .bool (bif x8 then own.hdlk else by_.hdlk), .bool (bif x9 then own.halt else by_.halt)] := by
  subst h7 h8 h9
  obtain ⟨_, _, _, _, _, _, _, a, b, c⟩ := own
  cases a <;> cases b <;> cases c <;> rfl
structure Val where
  kind : Int
  num : Int
  text : ByteArray
  list : Value
  table : Value
def Val.cells (v : Val) : List Value := [.int .i64 v.kind, .int .i64 v.num, .string v.text, v.list, v.table]
structure Fld where
  name : ByteArray
  val : Val
def Fld.cells (f : Fld) : List Value := [.string f.name, .int .i64 f.val.kind, .int .i64 f.val.num, .string f.val.text, f.val.list, f.val.table]
def fldCells (l : List Fld) : List Value := l.flatMap Fld.cells
theorem fld_length (f : Fld) : f.cells.length = 6 := rfl

def numCode (v : Val) (least most : Int) : Int :=
  if v.kind = 98 ∨ v.kind = 115 ∨ v.kind = 73 ∨ v.kind = 108 then (if v.num < least ∨ most < v.num then 32 else 0) else 30
def textCode (v : Val) : Int := if v.kind = 83 then (if 255 < v.text.size then 1 else 0) else 30
def setCode (c : Conf) (f : Fld) : Int × Conf :=
  if f.name.toList = [120, 45, 109, 101, 115, 115, 97, 103, 101, 45, 116, 116, 108] then (numCode f.val 0 2147483647, if numCode f.val 0 2147483647 = 0 then { c with ttl := f.val.num } else c)
  else if f.name.toList = [120, 45, 101, 120, 112, 105, 114, 101, 115] then (numCode f.val 1 2147483647, if numCode f.val 1 2147483647 = 0 then { c with exp := f.val.num } else c)
  else if f.name.toList = [120, 45, 109, 97, 120, 45, 108, 101, 110, 103, 116, 104] then (numCode f.val 0 2147483647, if numCode f.val 0 2147483647 = 0 then { c with mlen := f.val.num } else c)
  else if f.name.toList = [120, 45, 109, 97, 120, 45, 112, 114, 105, 111, 114, 105, 116, 121] then (numCode f.val 0 9, if numCode f.val 0 9 = 0 then { c with mprio := f.val.num } else c)
  else if f.name.toList = [120, 45, 100, 101, 97, 100, 45, 108, 101, 116, 116, 101, 114, 45, 101, 120, 99, 104, 97, 110, 103, 101] then (textCode f.val, if textCode f.val = 0 then { c with dlx := f.val.text, hdlx := true } else c)
  else if f.name.toList = [120, 45, 100, 101, 97, 100, 45, 108, 101, 116, 116, 101, 114, 45, 114, 111, 117, 116, 105, 110, 103, 45, 107, 101, 121] then (textCode f.val, if textCode f.val = 0 then { c with dlk := f.val.text, hdlk := true } else c)
  else (0, c)
def setAll : List Fld → Conf → Int × Conf
  | [], c => if c.hdlk = true ∧ c.hdlx = false then (2, Conf.zero) else (0, c)
  | f :: l, c => if (setCode c f).1 = 0 then setAll l (setCode c f).2 else ((setCode c f).1, Conf.zero)
structure Perm where
  user : ByteArray
  vhost : ByteArray
  conf : ByteArray
  write : ByteArray
  read : ByteArray
def Perm.cells (p : Perm) : List Value := [.string p.user, .string p.vhost, .string p.conf, .string p.write, .string p.read]
def permCells (l : List Perm) : List Value := l.flatMap Perm.cells
theorem perm_length (p : Perm) : p.cells.length = 5 := rfl
def Perm.zero : Perm := ⟨ByteArray.empty, ByteArray.empty, ByteArray.empty, ByteArray.empty, ByteArray.empty⟩
def may1 (user vhost : ByteArray) (way : Int) (name : ByteArray) (p : Perm) : Bool :=
  (p.user.toList == user.toList && p.vhost.toList == vhost.toList) &&
  (if way = 0 then Glob.gm p.conf.data.toList name.data.toList else if way = 1 then Glob.gm p.write.data.toList name.data.toList else if way = 2 then Glob.gm p.read.data.toList name.data.toList else false)
def fits (vhost name sort : ByteArray) (p : Pol) : Prop :=
  p.vhost.toList = vhost.toList ∧ (p.apply.toList = sort.toList ∨ p.apply.toList = [97, 108, 108]) ∧ Glob.gm p.pat.data.toList name.data.toList = true
def better (p q : Pol) : Prop := q.prio < p.prio ∨ p.prio = q.prio ∧ Op.bytesLess p.name.toList q.name.toList = true
instance (vhost name sort : ByteArray) (p : Pol) : Decidable (fits vhost name sort p) := by unfold fits; infer_instance
instance (p q : Pol) : Decidable (better p q) := by unfold better; infer_instance
def pickStep (vhost name sort : ByteArray) (st : Bool × Pol) (p : Pol) : Bool × Pol := if fits vhost name sort p ∧ (st.1 = false ∨ better p st.2) then (true, p) else st
def pick (vhost name sort : ByteArray) (l : List Pol) : Bool × Pol := l.foldl (pickStep vhost name sort) (false, Pol.zero)

theorem pick_take (vhost name sort : ByteArray) (l : List Pol) (k : Nat) (h : k < l.length) : pick vhost name sort (l.take (k + 1)) = pickStep vhost name sort (pick vhost name sort (l.take k)) l[k] := by
  rw [List.take_succ_eq_append_getElem h, pick, List.foldl_append]; rfl
theorem step_no {vhost name sort : ByteArray} {p : Pol} {st : Bool × Pol} (h : ¬ fits vhost name sort p) : pickStep vhost name sort st p = st := by
  unfold pickStep; rw [if_neg (fun hh => h hh.1)]
theorem step_keep {vhost name sort : ByteArray} {p q : Pol} (h : ¬ better p q) : pickStep vhost name sort (true, q) p = (true, q) := by
  unfold pickStep; rw [if_neg (fun hh => by rcases hh.2 with hh | hh; cases hh; exact h hh)]
theorem step_new {vhost name sort : ByteArray} {p q : Pol} (h : fits vhost name sort p) : pickStep vhost name sort (false, q) p = (true, p) := by
  unfold pickStep; rw [if_pos ⟨h, .inl rfl⟩]
theorem step_better {vhost name sort : ByteArray} {p q : Pol} (h : fits vhost name sort p) (hb : better p q) : pickStep vhost name sort (true, q) p = (true, p) := by
  unfold pickStep; rw [if_pos ⟨h, .inr hb⟩]
end Pol

theorem pieces_get {α : Type} {f : α → List Value} {m : Nat} (hf : ∀ x, (f x).length = m) : ∀ (l : List α) (k j : Nat) (h : k < l.length), j < m → (l.flatMap f)[k * m + j]? = (f l[k])[j]?
  | [], _, _, h, _ => by simp at h
  | x :: l, 0, j, _, hj => by
    rw [List.flatMap_cons, Nat.zero_mul, Nat.zero_add, List.getElem?_append_left (by rw [hf]; exact hj)]
    rfl
  | x :: l, k + 1, j, h, hj => by
    rw [List.flatMap_cons, List.getElem?_append_right (by rw [hf, Nat.add_mul]; omega), hf, show (k + 1) * m + j - m = k * m + j from by rw [Nat.add_mul]; omega]
    exact pieces_get hf l k j (by simpa using h) hj
theorem pieces_length {α : Type} {f : α → List Value} {m : Nat} (hf : ∀ x, (f x).length = m) (l : List α) : (l.flatMap f).length = l.length * m := by
  induction l with
  | nil => simp
  | cons p l ih => simp only [List.flatMap_cons, List.length_append, hf, List.length_cons, ih, Nat.add_mul]; omega
end Go.Proofs.Ytfledabgdcnkfaa

