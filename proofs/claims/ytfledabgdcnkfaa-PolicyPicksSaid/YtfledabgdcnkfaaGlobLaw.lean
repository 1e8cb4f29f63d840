/- Plain laws of the patterns of names: no program. -/
import Derived.LoopTactic
set_option linter.unusedVariables false
set_option linter.unusedSimpArgs false
namespace Go.Proofs.Ytfledabgdcnkfaa
namespace Glob

def gany (f : List UInt8 → Bool) : List UInt8 → Bool
  | [] => f []
  | d :: t => f (d :: t) || gany f t

def gm : List UInt8 → List UInt8 → Bool
  | [], t => t.isEmpty
  | c :: p, t => if c = 42 then gany (gm p) t else
    match t with
    | [] => false
    | d :: t' => (c == 63 || c == d) && gm p t'

theorem gany_iff (f : List UInt8 → Bool) (t : List UInt8) : gany f t = true ↔ ∃ k, k ≤ t.length ∧ f (t.drop k) = true := by
  induction t with
  | nil => simp [gany]
  | cons d t ih =>
    simp only [gany, Bool.or_eq_true, ih]
    constructor
    · rintro (h | ⟨k, hk, h⟩)
      · exact ⟨0, Nat.zero_le _, by simpa using h⟩
      · exact ⟨k + 1, by simp; omega, by simpa using h⟩
    · rintro ⟨k, hk, h⟩
      cases k with
      | zero => exact .inl (by simpa using h)
      | succ k => exact .inr ⟨k, by simp at hk; omega, by simpa using h⟩

theorem gm_star (p t : List UInt8) : gm (42 :: p) t = true ↔ ∃ k, k ≤ t.length ∧ gm p (t.drop k) = true := by
  simp only [gm, if_pos]
  exact gany_iff _ _

theorem gm_lit {c : UInt8} (hc : c ≠ 42) (p t : List UInt8) : gm (c :: p) t = match t with
    | [] => false
    | d :: t' => (c == 63 || c == d) && gm p t' := by
  simp only [gm, if_neg hc]

/-- A piece of a pattern without a star matches a piece of a text of the same length. -/
def lits : List UInt8 → List UInt8 → Bool
  | [], [] => true
  | c :: p, d :: t => (c != 42 && (c == 63 || c == d)) && lits p t
  | _, _ => false

theorem lits_length : ∀ (l m : List UInt8), lits l m = true → l.length = m.length
  | [], [], _ => rfl
  | [], _ :: _, h => by simp [lits] at h
  | _ :: _, [], h => by simp [lits] at h
  | c :: l, d :: m, h => by
    simp only [lits, Bool.and_eq_true] at h
    simp [lits_length l m h.2]

theorem lits_snoc : ∀ (l m : List UInt8) (c d : UInt8), lits l m = true → c ≠ 42 → (c == 63 || c == d) = true → lits (l ++ [c]) (m ++ [d]) = true
  | [], [], c, d, _, hc, h => by
    simp only [List.nil_append, lits, Bool.and_true, Bool.and_eq_true, bne_iff_ne]
    exact ⟨hc, h⟩
  | [], _ :: _, _, _, h, _, _ => by simp [lits] at h
  | _ :: _, [], _, _, h, _, _ => by simp [lits] at h
  | a :: l, b :: m, c, d, h, hc, he => by
    simp only [lits, Bool.and_eq_true, List.cons_append] at h ⊢
    exact ⟨h.1, lits_snoc l m c d h.2 hc he⟩

/-- Over a piece without a star: the rest of the pattern must match the rest of the text. -/
theorem gm_lits : ∀ (l m p t : List UInt8), lits l m = true → gm (l ++ p) (m ++ t) = gm p t
  | [], [], _, _, _ => rfl
  | [], _ :: _, _, _, h => by simp [lits] at h
  | _ :: _, [], _, _, h => by simp [lits] at h
  | c :: l, d :: m, p, t, h => by
    simp only [lits, Bool.and_eq_true, bne_iff_ne] at h
    rw [List.cons_append, List.cons_append, gm_lit h.1.1]
    simp [h.1.2, gm_lits l m p t h.2]

/-- A pattern that begins with as many letters that are no star: the text has as many, and the rest matches the rest. -/
theorem gm_take : ∀ (l p t : List UInt8), (∀ c ∈ l, c ≠ 42) → gm (l ++ p) t = true → l.length ≤ t.length ∧ gm p (t.drop l.length) = true
  | [], p, t, _, h => ⟨Nat.zero_le _, h⟩
  | c :: l, p, t, hl, h => by
    rw [List.cons_append, gm_lit (hl c (by simp))] at h
    cases t with
    | nil => simp at h
    | cons d t =>
      simp only [Bool.and_eq_true] at h
      have := gm_take l p t (fun x hx => hl x (by simp [hx])) h.2
      exact ⟨by simp; exact this.1, by simpa using this.2⟩

theorem lits_nostar : ∀ (l m : List UInt8), lits l m = true → ∀ c ∈ l, c ≠ 42
  | [], _, _, c, hc => by cases hc
  | _ :: _, [], h, _, _ => by simp [lits] at h
  | a :: l, d :: m, h, c, hc => by
    simp only [lits, Bool.and_eq_true, bne_iff_ne] at h
    rcases List.mem_cons.1 hc with rfl | hc
    · exact h.1.1
    · exact lits_nostar l m h.2 c hc

/-- The first way over the piece serves as well as any other: a new star follows. -/
theorem gm_greedy (l m p t : List UInt8) (h : lits l m = true) : gm (42 :: (l ++ 42 :: p)) (m ++ t) = gm (42 :: p) t := by
  rw [Bool.eq_iff_iff, gm_star]
  constructor
  · rintro ⟨k, hk, hg⟩
    have := gm_take l (42 :: p) _ (lits_nostar l m h) hg
    rw [gm_star] at this
    obtain ⟨hlen, k', hk', hg'⟩ := this
    rw [gm_star]
    have hl := lits_length l m h
    simp only [List.length_drop, List.length_append, List.drop_drop] at *
    refine ⟨k + k', by omega, ?_⟩
    rw [← hg']
    have e : k + l.length + k' = m.length + (k + k') := by omega
    have e' : (m ++ t).drop (m.length + (k + k')) = t.drop (k + k') := by rw [← List.drop_drop, List.drop_left]
    rw [e, e']
  · intro hg
    refine ⟨0, Nat.zero_le _, ?_⟩
    rw [List.drop_zero, gm_lits l m _ _ h]
    exact hg

/-- At the text's end. -/
theorem gm_atEnd (l m p : List UInt8) (h : lits l m = true) : gm (42 :: (l ++ p)) m = gm p [] := by
  rw [Bool.eq_iff_iff, gm_star]
  have hl := lits_length l m h
  constructor
  · rintro ⟨k, hk, hg⟩
    have := gm_take l p _ (lits_nostar l m h) hg
    have h0 : k = 0 := by have := this.1; simp at this; omega
    subst h0
    rw [List.drop_zero, hl, List.drop_length] at this
    exact this.2
  · intro hg
    refine ⟨0, Nat.zero_le _, ?_⟩
    have := gm_lits l m p [] h
    rw [List.append_nil] at this
    rw [List.drop_zero, this]
    exact hg

/-- Behind a piece that fits comes a letter that doesn't: the star must swallow one more. -/
theorem gm_back (l m p t : List UInt8) (h : lits l m = true) (hno : gm p t = false) (hne : 0 < (m ++ t).length) :
    gm (42 :: (l ++ p)) (m ++ t) = gm (42 :: (l ++ p)) ((m ++ t).drop 1) := by
  rw [Bool.eq_iff_iff, gm_star, gm_star]
  constructor
  · rintro ⟨k, hk, hg⟩
    cases k with
    | zero =>
      rw [List.drop_zero, gm_lits l m p t h, hno] at hg
      cases hg
    | succ k => exact ⟨k, by simp at hk ⊢; omega, by rw [List.drop_drop, Nat.add_comm 1 k]; exact hg⟩
  · rintro ⟨k, hk, hg⟩
    refine ⟨k + 1, by rw [List.length_drop] at hk; omega, ?_⟩
    rw [List.drop_drop, Nat.add_comm 1 k] at hg
    exact hg

theorem gm_nil (p : List UInt8) : gm p [] = p.all (· == 42) := by
  induction p with
  | nil => rfl
  | cons c p ih =>
    by_cases hc : c = 42
    · subst hc; simp [gm, gany, ih]
    · rw [gm_lit hc]; simp [hc]

/-- What holds at the head of each round of the loop. -/
def Inv (P T : List UInt8) (i j : Nat) (s : Int) (b : Nat) : Prop :=
  i ≤ P.length ∧ j ≤ T.length ∧ b ≤ j ∧ -1 ≤ s ∧ s < i ∧
  ((s = -1 ∧ gm P T = gm (P.drop i) (T.drop j)) ∨
   (∃ (q : Nat) (l m : List UInt8), s = (q : Int) ∧ P.drop q = 42 :: (l ++ P.drop i) ∧ T.drop b = m ++ T.drop j ∧ lits l m = true ∧ l.length = i - (q + 1) ∧ m.length = j - b ∧
     gm P T = gm (P.drop q) (T.drop b)))

theorem inv_start (P T : List UInt8) : Inv P T 0 0 (-1) 0 :=
  ⟨Nat.zero_le _, Nat.zero_le _, Nat.le_refl _, by omega, by omega, .inl ⟨rfl, rfl⟩⟩

theorem inv_star {P T : List UInt8} {i j : Nat} {s : Int} {b : Nat} (h : Inv P T i j s b) (hi : i < P.length) (hc : P[i] = 42) : Inv P T (i + 1) j i j := by
  obtain ⟨h1, h2, h3, h4, h5, h6⟩ := h
  have hd : P.drop i = 42 :: P.drop (i + 1) := by rw [List.drop_eq_getElem_cons hi, hc]
  refine ⟨by omega, h2, Nat.le_refl _, by omega, by omega, .inr ⟨i, [], [], rfl, by simpa using hd, by simp, rfl, by simp, by simp, ?_⟩⟩
  rcases h6 with ⟨_, hg⟩ | ⟨q, l, m, rfl, hP, hT, hl, hll, hml, hg⟩
  · exact hg
  · rw [hg, hP, hT, hd, gm_greedy l m _ _ hl]

theorem inv_step {P T : List UInt8} {i j : Nat} {s : Int} {b : Nat} (h : Inv P T i j s b) (hi : i < P.length) (hj : j < T.length) (hc : P[i] ≠ 42)
    (hm : (P[i] == 63 || P[i] == T[j]) = true) : Inv P T (i + 1) (j + 1) s b := by
  obtain ⟨h1, h2, h3, h4, h5, h6⟩ := h
  have hd : P.drop i = P[i] :: P.drop (i + 1) := List.drop_eq_getElem_cons hi
  have hd' : T.drop j = T[j] :: T.drop (j + 1) := List.drop_eq_getElem_cons hj
  refine ⟨by omega, by omega, by omega, h4, by omega, ?_⟩
  rcases h6 with ⟨hs, hg⟩ | ⟨q, l, m, rfl, hP, hT, hl, hll, hml, hg⟩
  · refine .inl ⟨hs, ?_⟩
    rw [hg, hd, hd', gm_lit hc]
    simp [hm]
  · refine .inr ⟨q, l ++ [P[i]], m ++ [T[j]], rfl, ?_, ?_, lits_snoc l m _ _ hl hc hm, by simp; omega, by simp; omega, hg⟩
    · rw [hP, hd]; simp
    · rw [hT, hd']; simp

/-- The letters part, or the pattern is at its end. -/
theorem gm_no {P T : List UInt8} {i j : Nat} (hj : j < T.length) (h : ∀ hi : i < P.length, P[i] ≠ 42 ∧ (P[i] == 63 || P[i] == T[j]) = false) : gm (P.drop i) (T.drop j) = false := by
  rw [List.drop_eq_getElem_cons hj]
  by_cases hi : i < P.length
  · rw [List.drop_eq_getElem_cons hi, gm_lit (h hi).1]
    simp only [(h hi).2, Bool.false_and]
  · rw [List.drop_of_length_le (by omega)]
    rfl

theorem inv_back {P T : List UInt8} {i j : Nat} {s : Int} {b : Nat} (hinv : Inv P T i j s b) (hj : j < T.length) (hs : 0 ≤ s)
    (h : ∀ hi : i < P.length, P[i] ≠ 42 ∧ (P[i] == 63 || P[i] == T[j]) = false) : ∃ q : Nat, s = (q : Int) ∧ Inv P T (q + 1) (b + 1) s (b + 1) ∧ q + 1 ≤ P.length := by
  obtain ⟨h1, h2, h3, h4, h5, h6⟩ := hinv
  rcases h6 with ⟨hs', _⟩ | ⟨q, l, m, rfl, hP, hT, hl, hll, hml, hg⟩
  · omega
  · have hq : q < P.length := by omega
    have hd : P.drop q = 42 :: P.drop (q + 1) := by
      have := List.drop_eq_getElem_cons hq
      rw [this] at hP ⊢
      rw [(List.cons.inj hP).1]
    refine ⟨q, rfl, ⟨by omega, by omega, Nat.le_refl _, by omega, by omega, .inr ⟨q, [], [], rfl, by simpa using hd, by simp, rfl, by simp, by simp, ?_⟩⟩, by omega⟩
    have hlen : 0 < (m ++ T.drop j).length := by simp; omega
    rw [hg, hP, hT, gm_back l m _ _ hl (gm_no hj h) hlen, ← hT, List.drop_drop]

theorem inv_none {P T : List UInt8} {i j : Nat} {s : Int} {b : Nat} (hinv : Inv P T i j s b) (hj : j < T.length) (hs : s < 0)
    (h : ∀ hi : i < P.length, P[i] ≠ 42 ∧ (P[i] == 63 || P[i] == T[j]) = false) : gm P T = false := by
  obtain ⟨h1, h2, h3, h4, h5, h6⟩ := hinv
  rcases h6 with ⟨_, hg⟩ | ⟨q, l, m, rfl, _⟩
  · rw [hg]; exact gm_no hj h
  · omega

theorem inv_end {P T : List UInt8} {i j : Nat} {s : Int} {b : Nat} (hinv : Inv P T i j s b) (hj : j = T.length) : gm P T = (P.drop i).all (· == 42) := by
  obtain ⟨h1, h2, h3, h4, h5, h6⟩ := hinv
  subst hj
  rcases h6 with ⟨_, hg⟩ | ⟨q, l, m, rfl, hP, hT, hl, hll, hml, hg⟩
  · rw [hg, List.drop_length, gm_nil]
  · rw [hg, hP, hT, List.drop_length, List.append_nil, gm_atEnd l m _ hl, gm_nil]

/-! The table by beginnings, as the reference has it. -/

theorem gm_snoc_star (p t : List UInt8) : gm (p ++ [42]) t = true ↔ ∃ k, k ≤ t.length ∧ gm p (t.take k) = true := by
  induction p generalizing t with
  | nil =>
    rw [List.nil_append, gm_star]
    constructor
    · intro _; exact ⟨0, Nat.zero_le _, by simp [gm]⟩
    · intro _; exact ⟨t.length, Nat.le_refl _, by simp [gm]⟩
  | cons c p ih =>
    by_cases hc : c = 42
    · subst hc
      rw [List.cons_append, gm_star]
      constructor
      · rintro ⟨k, hk, h⟩
        obtain ⟨k', hk', h'⟩ := (ih _).1 h
        refine ⟨k + k', by simp at hk'; omega, (gm_star _ _).2 ⟨k, by simp at hk' ⊢; omega, ?_⟩⟩
        rw [List.drop_take, Nat.add_sub_cancel_left]
        exact h'
      · rintro ⟨k, hk, h⟩
        obtain ⟨k', hk', h'⟩ := (gm_star _ _).1 h
        simp only [List.length_take] at hk'
        refine ⟨k', by omega, (ih _).2 ⟨k - k', by simp; omega, ?_⟩⟩
        rw [List.drop_take] at h'
        exact h'
    · cases t with
      | nil =>
        rw [List.cons_append, gm_lit hc]
        simp [gm_lit hc]
      | cons d t =>
        rw [List.cons_append, gm_lit hc]
        simp only [Bool.and_eq_true]
        rw [ih]
        constructor
        · rintro ⟨h, k, hk, h'⟩
          refine ⟨k + 1, by simp; omega, ?_⟩
          rw [List.take_succ_cons, gm_lit hc]
          simp [h, h']
        · rintro ⟨k, hk, h⟩
          cases k with
          | zero => rw [List.take_zero, gm_lit hc] at h; simp at h
          | succ k =>
            rw [List.take_succ_cons, gm_lit hc] at h
            simp only [Bool.and_eq_true] at h
            exact ⟨h.1, k, by simp at hk; omega, h.2⟩

theorem gm_snoc_lit {c : UInt8} (hc : c ≠ 42) (p t : List UInt8) (d : UInt8) : gm (p ++ [c]) (t ++ [d]) = ((c == 63 || c == d) && gm p t) := by
  induction p generalizing t with
  | nil =>
    rw [List.nil_append, gm_lit hc]
    cases t with
    | nil => simp [gm]
    | cons e t => simp [gm]
  | cons a p ih =>
    by_cases ha : a = 42
    · subst ha
      rw [Bool.eq_iff_iff, List.cons_append, gm_star, Bool.and_eq_true, gm_star]
      constructor
      · rintro ⟨k, hk, h⟩
        by_cases hk' : k ≤ t.length
        · rw [List.drop_append_of_le_length hk', ih] at h
          simp only [Bool.and_eq_true] at h
          exact ⟨h.1, k, hk', h.2⟩
        · have : k = t.length + 1 := by simp at hk; omega
          subst this
          have h0 : (t ++ [d]).drop (t.length + 1) = [] := List.drop_of_length_le (by simp)
          rw [h0, gm_nil] at h
          simp [hc] at h
      · rintro ⟨h, k, hk, h'⟩
        refine ⟨k, by simp; omega, ?_⟩
        rw [List.drop_append_of_le_length hk, ih]
        simp [h, h']
    · rw [List.cons_append, gm_lit ha]
      cases t with
      | nil =>
        rw [List.nil_append, gm_lit ha]
        simp only
        rw [gm_nil]
        simp [hc]
      | cons e t =>
        rw [List.cons_append, gm_lit ha]
        simp only
        rw [ih]
        cases (a == 63 || a == e) <;> simp

theorem gm_snoc_lit_nil {c : UInt8} (hc : c ≠ 42) (p : List UInt8) : gm (p ++ [c]) [] = false := by
  rw [gm_nil]; simp [hc]

/-- The row of the table behind so many letters of the pattern. -/
def row (p t : List UInt8) : List Bool := (List.range (t.length + 1)).map fun j => gm p (t.take j)

theorem row_nil (t : List UInt8) : row [] t = true :: List.replicate t.length false := by
  unfold row
  rw [List.range_succ_eq_map, List.map_cons, List.map_map]
  congr 1
  refine List.ext_getElem (by simp) fun i h1 h2 => ?_
  simp at h1
  have : t ≠ [] := by
    rintro rfl; simp at h1
  simp [gm, this]

theorem snoc_star_succ (p t : List UInt8) (j : Nat) (hj : j < t.length) : gm (p ++ [42]) (t.take (j + 1)) = (gm p (t.take (j + 1)) || gm (p ++ [42]) (t.take j)) := by
  rw [Bool.eq_iff_iff, Bool.or_eq_true, gm_snoc_star, gm_snoc_star]
  constructor
  · rintro ⟨k, hk, h⟩
    simp only [List.length_take] at hk
    by_cases he : k = j + 1
    · left
      rw [List.take_take, he, Nat.min_self] at h
      exact h
    · right
      refine ⟨k, by simp; omega, ?_⟩
      rw [List.take_take, Nat.min_eq_left (by omega)] at h ⊢
      exact h
  · rintro (h | ⟨k, hk, h⟩)
    · exact ⟨j + 1, by simp; omega, by rw [List.take_take, Nat.min_self]; exact h⟩
    · simp only [List.length_take] at hk
      refine ⟨k, by simp; omega, ?_⟩
      rw [List.take_take, Nat.min_eq_left (by omega)] at h ⊢
      exact h

theorem snoc_star_zero (p t : List UInt8) : gm (p ++ [42]) (t.take 0) = gm p (t.take 0) := by
  rw [List.take_zero, gm_nil, gm_nil]; simp

theorem snoc_lit_succ {c : UInt8} (hc : c ≠ 42) (p t : List UInt8) (j : Nat) (hj : j < t.length) :
    gm (p ++ [c]) (t.take (j + 1)) = (gm p (t.take j) && (c == 63 || c == t[j])) := by
  rw [List.take_succ_eq_append_getElem hj, gm_snoc_lit hc, Bool.and_comm]

theorem row_length (p t : List UInt8) : (row p t).length = t.length + 1 := by simp [row]
theorem row_get (p t : List UInt8) (j : Nat) (h : j ≤ t.length) : (row p t)[j]? = some (gm p (t.take j)) := by
  have : (List.range (t.length + 1))[j]? = some j := by rw [List.getElem?_range (by omega)]
  simp [row, this]
theorem row_take (p t : List UInt8) (j : Nat) (h : j + 1 ≤ t.length) : (row p t).take (j + 1 + 1) = (row p t).take (j + 1) ++ [gm p (t.take (j + 1))] := by
  rw [List.take_add_one, row_get p t (j + 1) h]; rfl
theorem row_take_one (p t : List UInt8) : (row p t).take 1 = [gm p (t.take 0)] := by
  rw [List.take_add_one, List.take_zero, row_get p t 0 (Nat.zero_le _)]; rfl

theorem gm_self (t : List UInt8) (h : ∀ c ∈ t, c ≠ 42 ∧ c ≠ 63) (u : List UInt8) : gm t u = decide (t = u) := by
  induction t generalizing u with
  | nil => cases u <;> simp [gm]
  | cons c t ih =>
    rw [gm_lit (h c (by simp)).1]
    cases u with
    | nil => simp
    | cons d u =>
      have h63 : (c == 63) = false := by simpa using (h c (by simp)).2
      simp only [h63, Bool.false_or, ih (fun x hx => h x (by simp [hx])) u]
      by_cases hcd : c = d <;> by_cases htu : t = u <;> simp [hcd, htu]

theorem gm_begins (t : List UInt8) (h : ∀ c ∈ t, c ≠ 42) (u : List UInt8) : gm (t ++ [42]) (t ++ u) = true := by
  rw [gm_snoc_star]
  refine ⟨t.length, by simp, ?_⟩
  rw [List.take_left]
  clear u
  induction t with
  | nil => rfl
  | cons c t ih =>
    rw [gm_lit (h c (by simp))]
    simp [ih (fun x hx => h x (by simp [hx]))]

theorem gm_all (t : List UInt8) : gm [42] t = true := (gm_star _ _).2 ⟨t.length, Nat.le_refl _, by simp [gm]⟩

end Glob
end Go.Proofs.Ytfledabgdcnkfaa
