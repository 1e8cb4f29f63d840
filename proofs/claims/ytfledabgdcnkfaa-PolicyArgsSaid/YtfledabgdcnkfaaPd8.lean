/- Parts of the proof, merged. -/
import Derived.Test.YtfledabgdcnkfaaPd6
import Derived.Test.YtfledabgdcnkfaaPd7
import Derived.Test.YtfledabgdcnkfaaPd2
import Derived.Test.YtfledabgdcnkfaaPd5
import Derived.Test.YtfledabgdcnkfaaPd4
import Derived.Handy
import Derived.Laws.StructEq
/- The document's Args: its rounds. -/
set_option linter.unusedVariables false
set_option linter.unusedSimpArgs false
set_option maxRecDepth 100000
namespace Go.Proofs.Ytfledabgdcnkfaa.Tree
open Go Go.RowKit Go.Proofs.Ytfledabgdcnkfaa.Eng Go.Proofs.Ytfledabgdcnkfaa.Kit Go.Proofs.Ytfledabgdcnkfaa.Pol
theorem VAll.ite {α : Type} {Q : α → List (Option AO) → Nat → Prop} {b : Bool} {x y : VT α} (h1 : b = true → VAll Q x) (h2 : b = false → VAll Q y) : VAll Q (.ite b x y) := ⟨⟨fun h => (h1 h).out, fun h => (h2 h).out⟩⟩
abbrev K0 : List UInt8 := [120, 45, 109, 101, 115, 115, 97, 103, 101, 45, 116, 116, 108]
abbrev K1 : List UInt8 := [120, 45, 101, 120, 112, 105, 114, 101, 115]
abbrev K2 : List UInt8 := [120, 45, 109, 97, 120, 45, 108, 101, 110, 103, 116, 104]
abbrev K3 : List UInt8 := [120, 45, 109, 97, 120, 45, 112, 114, 105, 111, 114, 105, 116, 121]
abbrev K4 : List UInt8 := [120, 45, 100, 101, 97, 100, 45, 108, 101, 116, 116, 101, 114, 45, 101, 120, 99, 104, 97, 110, 103, 101]
abbrev K5 : List UInt8 := [120, 45, 100, 101, 97, 100, 45, 108, 101, 116, 116, 101, 114, 45, 114, 111, 117, 116, 105, 110, 103, 45, 107, 101, 121]
theorem q_of {nm : ByteArray} {L : List UInt8} : (nm.toList == (ByteArray.mk (Array.mk L)).toList) = decide (nm.toList = L) := by
  have e : (ByteArray.mk (Array.mk L)).toList = L := by rw [ByteArray.toList_eq]
  rw [e]
  by_cases h : nm.toList = L
  · rw [h, decide_eq_true rfl]; exact beq_self_eq_true _
  · rw [decide_eq_false h]; exact beq_eq_false_iff_ne.2 h
theorem q_t {nm : ByteArray} {L : List UInt8} (h : nm.toList = L) : Wk (.v (.bool (nm.toList == (ByteArray.mk (Array.mk L)).toList))) (.lit true) := wk_litE (q_of.trans (decide_eq_true h))
theorem q_f {nm : ByteArray} {L : List UInt8} (h : ¬ nm.toList = L) : Wk (.v (.bool (nm.toList == (ByteArray.mk (Array.mk L)).toList))) (.lit false) := wk_litE (q_of.trans (decide_eq_false h))
theorem q_n {nm : ByteArray} {L L' : List UInt8} (h : nm.toList = L) (hn : ¬ L = L') : ¬ nm.toList = L' := fun e => hn (h.symm.trans e)
def fl (nm : ByteArray) (r : Rv) : Fld := ⟨nm, ⟨r.k, r.n, r.t, .slice none 0 0, .slice none 0 0⟩⟩
def Rnd (oa : Option Addr) (n c j : Nat) (f : Conf) (g : Fld) : AX × List AV × Nat → List (Option AO) → Nat → Prop := fun r os _ => r.2.2 = 146 ∧
  ((r.1 = .normal ∧ (setCode f g).1 = 0 ∧ ∃ l, FitT kRa iRa r.2.1 os (aRa oa n c (j + 1)) (oRa (setCode f g).2) l) ∨ (r.1 = .ret ∧ (setCode f g).1 ≠ 0 ∧ ∃ l, FitT kRa iRa r.2.1 os (zRe (setCode f g).1) oRe l))
theorem bne_t {a b : Int} (h : (a != b) = true) : ¬ a = b := by simpa using h
theorem bne_f {a b : Int} (h : (a != b) = false) : a = b := by simpa using h
theorem dlt_t {a b : Int} (h : decide (a < b) = true) : a < b := of_decide_eq_true h
theorem dlt_f {a b : Int} (h : decide (a < b) = false) : ¬ a < b := of_decide_eq_false h
theorem dgt_t {a b : Int} (h : decide (a > b) = true) : b < a := of_decide_eq_true h
theorem dgt_f {a b : Int} (h : decide (a > b) = false) : ¬ b < a := of_decide_eq_false h
theorem deq_t {a b : Int} (h : (a == b) = true) : a = b := beq_iff_eq.1 h
theorem deq_f {a b : Int} (h : (a == b) = false) : ¬ a = b := beq_eq_false_iff_ne.1 h
theorem rnd_no {a : Addr} {n c j : Nat} {f : Conf} {g : Fld} {code : Int} (hc : (setCode f g).1 = code) (h0 : code ≠ 0) {x0 x4 x5 x6 : AV} {z : AO} {o1 o2 : Option AO} (hz : z = .cells (vmap Conf.zero.cells) tCf) : Rnd (some a) n c j f g (.ret, [x0, .ptr 1000 0, iv code, x4, x5, x6], 146) [some z, o1, o2] 1100 :=
  ⟨rfl, .inr ⟨rfl, by rw [hc]; exact h0, [(1000, 1000)], by kernel_rfl, by kernel_rfl, ⟨Wk.refl _, wk_int hc.symm, trivial⟩, ⟨_, rfl, by rw [hz]; exact OW.refl _⟩, trivial⟩⟩
theorem rnd_yes {a : Addr} {n c j : Nat} {f f' : Conf} {g : Fld} (hc : setCode f g = (0, f')) {z y x : AO} (hz : z = .cells (vmap Conf.zero.cells) tCf) (hy : y = .cells (vmap f'.cells) tCf) (hx : x = .cells (vmap Conf.zero.cells) tCf) :
    Rnd (some a) n c j f g (.normal, [slV (some a) n c, .ptr 1000 0, iv (Int.ofNat 0), .ptr 1001 0, .ptr 1002 0, iv (Int.ofNat (j + 1))], 146) [some z, some y, some x] 1100 := by
  refine ⟨rfl, .inl ⟨rfl, by rw [hc], [(1000, 1000), (1001, 1001), (1002, 1002)], by kernel_rfl, by kernel_rfl, ⟨Wk.refl _, Wk.refl _, Wk.refl _, Wk.refl _, Wk.refl _, Wk.refl _, trivial⟩, ⟨_, rfl, by rw [hz]; exact OW.refl _⟩, ⟨_, rfl, ?_⟩, ⟨_, rfl, by rw [hx]; exact OW.refl _⟩, trivial⟩⟩
  rw [hc, hy]
  exact OW.refl _
theorem rn0 (W : World) (a : Addr) (n c j : Nat) (nm : ByteArray) (r : Rv) (f : Conf) (F : HP) (h1 : j < n) (hn : n ≤ 140737488351232) (q1 : Cells W.cell? (a.add (j * 6)) (.string nm :: r.cells)) (hk : nm.toList = K0) : VAll (Rnd (some a) n c j f (fl nm r)) (wLoop [] (hRn 0 j nm r) [] W fRa (loopN fRa 3) (tms 0 146 (aRa (some a) n c j)) (oRa f) kRa iRa F) := by
  obtain ⟨a0, ac⟩ := c6 q1
  have aA := all5 ac
  obtain ⟨a1, a2, a3, a4, a5⟩ := c6b ac
  have hw := wrap_succ j (by omega)
  have e1 : decide (Int.ofNat j < (n : Int)) = true := ltTC h1
  have g1 : ¬ nm.toList = K1 := q_n hk (by decide)
  have g2 : ¬ nm.toList = K2 := q_n hk (by decide)
  have g3 : ¬ nm.toList = K3 := q_n hk (by decide)
  have g4 : ¬ nm.toList = K4 := q_n hk (by decide)
  have g5 : ¬ nm.toList = K5 := q_n hk (by decide)
  have hs : setCode f (fl nm r) = (numCode (fl nm r).val 0 2147483647, if numCode (fl nm r).val 0 2147483647 = 0 then { f with ttl := r.n } else f) := set_code0  hk
  have out : ∀ (hk : r.k = 98 ∨ r.k = 115 ∨ r.k = 73 ∨ r.k = 108) (ho : r.n < 0 ∨ 2147483647 < r.n), (setCode f (fl nm r)).1 = 32 := fun hk ho => by rw [hs]; exact num_out (v := (fl nm r).val) hk ho
  have fine : ∀ (hk : r.k = 98 ∨ r.k = 115 ∨ r.k = 73 ∨ r.k = 108) (h1 : 0 ≤ r.n) (h2 : r.n ≤ 2147483647), setCode f (fl nm r) = (0, { f with ttl := r.n }) := fun hk h1 h2 => by
    have e := num_ok (v := (fl nm r).val) hk h1 h2
    rw [hs, e, if_pos rfl]
  refine cast (congrArg (VAll _) (oR0_eq W a n c j nm r f F).symm) ?_
  refine VAll.ite (fun u1 => VAll.ite (fun u2 => VAll.ite (fun u3 => VAll.ite (fun u4 => ⟨⟨?_, rnd_no (by rw [hs]; exact num_bad (v := (fl nm r).val) (bne_t u1) (bne_t u2) (bne_t u3) (bne_t u4)) (by decide) rfl⟩⟩) fun u4 => VAll.ite (fun v1 => ⟨⟨?_, rnd_no (out (.inr (.inr (.inr (bne_f u4)))) (.inl (by have := dlt_t v1; simp only [Int.ofNat_eq_natCast] at this; omega))) (by decide) rfl⟩⟩) fun v1 => VAll.ite (fun v2 => ⟨⟨?_, rnd_no (out (.inr (.inr (.inr (bne_f u4)))) (.inr (by have := dgt_t v2; simp only [Int.ofNat_eq_natCast] at this; omega))) (by decide) rfl⟩⟩) fun v2 => ⟨⟨?_, rnd_yes (fine (.inr (.inr (.inr (bne_f u4)))) (by have := dlt_f v1; simp only [Int.ofNat_eq_natCast] at *; omega) (by have := dgt_f v2; simp only [Int.ofNat_eq_natCast] at *; omega)) rfl rfl rfl⟩⟩) fun u3 => VAll.ite (fun v1 => ⟨⟨?_, rnd_no (out (.inr (.inr (.inl (bne_f u3)))) (.inl (by have := dlt_t v1; simp only [Int.ofNat_eq_natCast] at this; omega))) (by decide) rfl⟩⟩) fun v1 => VAll.ite (fun v2 => ⟨⟨?_, rnd_no (out (.inr (.inr (.inl (bne_f u3)))) (.inr (by have := dgt_t v2; simp only [Int.ofNat_eq_natCast] at this; omega))) (by decide) rfl⟩⟩) fun v2 => ⟨⟨?_, rnd_yes (fine (.inr (.inr (.inl (bne_f u3)))) (by have := dlt_f v1; simp only [Int.ofNat_eq_natCast] at *; omega) (by have := dgt_f v2; simp only [Int.ofNat_eq_natCast] at *; omega)) rfl rfl rfl⟩⟩) fun u2 => VAll.ite (fun v1 => ⟨⟨?_, rnd_no (out (.inr (.inl (bne_f u2))) (.inl (by have := dlt_t v1; simp only [Int.ofNat_eq_natCast] at this; omega))) (by decide) rfl⟩⟩) fun v1 => VAll.ite (fun v2 => ⟨⟨?_, rnd_no (out (.inr (.inl (bne_f u2))) (.inr (by have := dgt_t v2; simp only [Int.ofNat_eq_natCast] at this; omega))) (by decide) rfl⟩⟩) fun v2 => ⟨⟨?_, rnd_yes (fine (.inr (.inl (bne_f u2))) (by have := dlt_f v1; simp only [Int.ofNat_eq_natCast] at *; omega) (by have := dgt_f v2; simp only [Int.ofNat_eq_natCast] at *; omega)) rfl rfl rfl⟩⟩) fun u1 => VAll.ite (fun v1 => ⟨⟨?_, rnd_no (out (.inl (bne_f u1)) (.inl (by have := dlt_t v1; simp only [Int.ofNat_eq_natCast] at this; omega))) (by decide) rfl⟩⟩) fun v1 => VAll.ite (fun v2 => ⟨⟨?_, rnd_no (out (.inl (bne_f u1)) (.inr (by have := dgt_t v2; simp only [Int.ofNat_eq_natCast] at this; omega))) (by decide) rfl⟩⟩) fun v2 => ⟨⟨?_, rnd_yes (fine (.inl (bne_f u1)) (by have := dlt_f v1; simp only [Int.ofNat_eq_natCast] at *; omega) (by have := dgt_f v2; simp only [Int.ofNat_eq_natCast] at *; omega)) rfl rfl rfl⟩⟩
  all_goals
    simp only [Cnd.holds, e1, h1, a0, aA, a1, a2, a3, a4, a5, Option.getD_some, Option.isSome_some, Nat.blt_eq, true_and, and_true]
    and_intros
    all_goals first
      | (with_reducible exact wk_int hw)
      | exact wk_litE e1
      | exact agg_wk rfl rfl rfl rfl rfl
      | exact wk_litE rfl
      | exact q_t hk
      | exact q_f g1
      | exact q_f g2
      | exact q_f g3
      | exact q_f g4
      | exact q_f g5 | (with_reducible first | exact trivial | exact rfl | exact Wk.refl _ | exact VW.refl _ | exact OW.refl _ | exact wk_lit _ | assumption) | exact rfl | exact Wk.refl _ | exact VW.refl _ | exact OW.refl _ | ((repeat (first | exact VW.nil | refine VW.cons (Wk.refl _) ?_ | refine VW.cons (Wk.any _) ?_ | refine VW.cons (wk_cap (Nat.le_refl _)) ?_)); done)
theorem rn1 (W : World) (a : Addr) (n c j : Nat) (nm : ByteArray) (r : Rv) (f : Conf) (F : HP) (h1 : j < n) (hn : n ≤ 140737488351232) (q1 : Cells W.cell? (a.add (j * 6)) (.string nm :: r.cells)) (hk : nm.toList = K1) : VAll (Rnd (some a) n c j f (fl nm r)) (wLoop [] (hRn 1 j nm r) [] W fRa (loopN fRa 3) (tms 0 146 (aRa (some a) n c j)) (oRa f) kRa iRa F) := by
  obtain ⟨a0, ac⟩ := c6 q1
  have aA := all5 ac
  obtain ⟨a1, a2, a3, a4, a5⟩ := c6b ac
  have hw := wrap_succ j (by omega)
  have e1 : decide (Int.ofNat j < (n : Int)) = true := ltTC h1
  have g0 : ¬ nm.toList = K0 := q_n hk (by decide)
  have g2 : ¬ nm.toList = K2 := q_n hk (by decide)
  have g3 : ¬ nm.toList = K3 := q_n hk (by decide)
  have g4 : ¬ nm.toList = K4 := q_n hk (by decide)
  have g5 : ¬ nm.toList = K5 := q_n hk (by decide)
  have hs : setCode f (fl nm r) = (numCode (fl nm r).val 1 2147483647, if numCode (fl nm r).val 1 2147483647 = 0 then { f with exp := r.n } else f) := set_code1 g0 hk
  have out : ∀ (hk : r.k = 98 ∨ r.k = 115 ∨ r.k = 73 ∨ r.k = 108) (ho : r.n < 1 ∨ 2147483647 < r.n), (setCode f (fl nm r)).1 = 32 := fun hk ho => by rw [hs]; exact num_out (v := (fl nm r).val) hk ho
  have fine : ∀ (hk : r.k = 98 ∨ r.k = 115 ∨ r.k = 73 ∨ r.k = 108) (h1 : 1 ≤ r.n) (h2 : r.n ≤ 2147483647), setCode f (fl nm r) = (0, { f with exp := r.n }) := fun hk h1 h2 => by
    have e := num_ok (v := (fl nm r).val) hk h1 h2
    rw [hs, e, if_pos rfl]
  refine cast (congrArg (VAll _) (oR1_eq W a n c j nm r f F).symm) ?_
  refine VAll.ite (fun u1 => VAll.ite (fun u2 => VAll.ite (fun u3 => VAll.ite (fun u4 => ⟨⟨?_, rnd_no (by rw [hs]; exact num_bad (v := (fl nm r).val) (bne_t u1) (bne_t u2) (bne_t u3) (bne_t u4)) (by decide) rfl⟩⟩) fun u4 => VAll.ite (fun v1 => ⟨⟨?_, rnd_no (out (.inr (.inr (.inr (bne_f u4)))) (.inl (by have := dlt_t v1; simp only [Int.ofNat_eq_natCast] at this; omega))) (by decide) rfl⟩⟩) fun v1 => VAll.ite (fun v2 => ⟨⟨?_, rnd_no (out (.inr (.inr (.inr (bne_f u4)))) (.inr (by have := dgt_t v2; simp only [Int.ofNat_eq_natCast] at this; omega))) (by decide) rfl⟩⟩) fun v2 => VAll.ite (fun v3 => ⟨⟨?_, rnd_no (out (.inr (.inr (.inr (bne_f u4)))) (.inl (by have := deq_t v3; simp only [Int.ofNat_eq_natCast] at this; omega))) (by decide) rfl⟩⟩) fun v3 => ⟨⟨?_, rnd_yes (fine (.inr (.inr (.inr (bne_f u4)))) (by have := dlt_f v1; have := deq_f v3; simp only [Int.ofNat_eq_natCast] at *; omega) (by have := dgt_f v2; have := deq_f v3; simp only [Int.ofNat_eq_natCast] at *; omega)) rfl rfl rfl⟩⟩) fun u3 => VAll.ite (fun v1 => ⟨⟨?_, rnd_no (out (.inr (.inr (.inl (bne_f u3)))) (.inl (by have := dlt_t v1; simp only [Int.ofNat_eq_natCast] at this; omega))) (by decide) rfl⟩⟩) fun v1 => VAll.ite (fun v2 => ⟨⟨?_, rnd_no (out (.inr (.inr (.inl (bne_f u3)))) (.inr (by have := dgt_t v2; simp only [Int.ofNat_eq_natCast] at this; omega))) (by decide) rfl⟩⟩) fun v2 => VAll.ite (fun v3 => ⟨⟨?_, rnd_no (out (.inr (.inr (.inl (bne_f u3)))) (.inl (by have := deq_t v3; simp only [Int.ofNat_eq_natCast] at this; omega))) (by decide) rfl⟩⟩) fun v3 => ⟨⟨?_, rnd_yes (fine (.inr (.inr (.inl (bne_f u3)))) (by have := dlt_f v1; have := deq_f v3; simp only [Int.ofNat_eq_natCast] at *; omega) (by have := dgt_f v2; have := deq_f v3; simp only [Int.ofNat_eq_natCast] at *; omega)) rfl rfl rfl⟩⟩) fun u2 => VAll.ite (fun v1 => ⟨⟨?_, rnd_no (out (.inr (.inl (bne_f u2))) (.inl (by have := dlt_t v1; simp only [Int.ofNat_eq_natCast] at this; omega))) (by decide) rfl⟩⟩) fun v1 => VAll.ite (fun v2 => ⟨⟨?_, rnd_no (out (.inr (.inl (bne_f u2))) (.inr (by have := dgt_t v2; simp only [Int.ofNat_eq_natCast] at this; omega))) (by decide) rfl⟩⟩) fun v2 => VAll.ite (fun v3 => ⟨⟨?_, rnd_no (out (.inr (.inl (bne_f u2))) (.inl (by have := deq_t v3; simp only [Int.ofNat_eq_natCast] at this; omega))) (by decide) rfl⟩⟩) fun v3 => ⟨⟨?_, rnd_yes (fine (.inr (.inl (bne_f u2))) (by have := dlt_f v1; have := deq_f v3; simp only [Int.ofNat_eq_natCast] at *; omega) (by have := dgt_f v2; have := deq_f v3; simp only [Int.ofNat_eq_natCast] at *; omega)) rfl rfl rfl⟩⟩) fun u1 => VAll.ite (fun v1 => ⟨⟨?_, rnd_no (out (.inl (bne_f u1)) (.inl (by have := dlt_t v1; simp only [Int.ofNat_eq_natCast] at this; omega))) (by decide) rfl⟩⟩) fun v1 => VAll.ite (fun v2 => ⟨⟨?_, rnd_no (out (.inl (bne_f u1)) (.inr (by have := dgt_t v2; simp only [Int.ofNat_eq_natCast] at this; omega))) (by decide) rfl⟩⟩) fun v2 => VAll.ite (fun v3 => ⟨⟨?_, rnd_no (out (.inl (bne_f u1)) (.inl (by have := deq_t v3; simp only [Int.ofNat_eq_natCast] at this; omega))) (by decide) rfl⟩⟩) fun v3 => ⟨⟨?_, rnd_yes (fine (.inl (bne_f u1)) (by have := dlt_f v1; have := deq_f v3; simp only [Int.ofNat_eq_natCast] at *; omega) (by have := dgt_f v2; have := deq_f v3; simp only [Int.ofNat_eq_natCast] at *; omega)) rfl rfl rfl⟩⟩
  all_goals
    simp only [Cnd.holds, e1, h1, a0, aA, a1, a2, a3, a4, a5, Option.getD_some, Option.isSome_some, Nat.blt_eq, true_and, and_true]
    and_intros
    all_goals first
      | (with_reducible exact wk_int hw)
      | exact wk_litE e1
      | exact agg_wk rfl rfl rfl rfl rfl
      | exact wk_litE rfl
      | exact q_f g0
      | exact q_t hk
      | exact q_f g2
      | exact q_f g3
      | exact q_f g4
      | exact q_f g5 | (with_reducible first | exact trivial | exact rfl | exact Wk.refl _ | exact VW.refl _ | exact OW.refl _ | exact wk_lit _ | assumption) | exact rfl | exact Wk.refl _ | exact VW.refl _ | exact OW.refl _ | ((repeat (first | exact VW.nil | refine VW.cons (Wk.refl _) ?_ | refine VW.cons (Wk.any _) ?_ | refine VW.cons (wk_cap (Nat.le_refl _)) ?_)); done)
theorem rn2 (W : World) (a : Addr) (n c j : Nat) (nm : ByteArray) (r : Rv) (f : Conf) (F : HP) (h1 : j < n) (hn : n ≤ 140737488351232) (q1 : Cells W.cell? (a.add (j * 6)) (.string nm :: r.cells)) (hk : nm.toList = K2) : VAll (Rnd (some a) n c j f (fl nm r)) (wLoop [] (hRn 2 j nm r) [] W fRa (loopN fRa 3) (tms 0 146 (aRa (some a) n c j)) (oRa f) kRa iRa F) := by
  obtain ⟨a0, ac⟩ := c6 q1
  have aA := all5 ac
  obtain ⟨a1, a2, a3, a4, a5⟩ := c6b ac
  have hw := wrap_succ j (by omega)
  have e1 : decide (Int.ofNat j < (n : Int)) = true := ltTC h1
  have g0 : ¬ nm.toList = K0 := q_n hk (by decide)
  have g1 : ¬ nm.toList = K1 := q_n hk (by decide)
  have g3 : ¬ nm.toList = K3 := q_n hk (by decide)
  have g4 : ¬ nm.toList = K4 := q_n hk (by decide)
  have g5 : ¬ nm.toList = K5 := q_n hk (by decide)
  have hs : setCode f (fl nm r) = (numCode (fl nm r).val 0 2147483647, if numCode (fl nm r).val 0 2147483647 = 0 then { f with mlen := r.n } else f) := set_code2 g0 g1 hk
  have out : ∀ (hk : r.k = 98 ∨ r.k = 115 ∨ r.k = 73 ∨ r.k = 108) (ho : r.n < 0 ∨ 2147483647 < r.n), (setCode f (fl nm r)).1 = 32 := fun hk ho => by rw [hs]; exact num_out (v := (fl nm r).val) hk ho
  have fine : ∀ (hk : r.k = 98 ∨ r.k = 115 ∨ r.k = 73 ∨ r.k = 108) (h1 : 0 ≤ r.n) (h2 : r.n ≤ 2147483647), setCode f (fl nm r) = (0, { f with mlen := r.n }) := fun hk h1 h2 => by
    have e := num_ok (v := (fl nm r).val) hk h1 h2
    rw [hs, e, if_pos rfl]
  refine cast (congrArg (VAll _) (oR2_eq W a n c j nm r f F).symm) ?_
  refine VAll.ite (fun u1 => VAll.ite (fun u2 => VAll.ite (fun u3 => VAll.ite (fun u4 => ⟨⟨?_, rnd_no (by rw [hs]; exact num_bad (v := (fl nm r).val) (bne_t u1) (bne_t u2) (bne_t u3) (bne_t u4)) (by decide) rfl⟩⟩) fun u4 => VAll.ite (fun v1 => ⟨⟨?_, rnd_no (out (.inr (.inr (.inr (bne_f u4)))) (.inl (by have := dlt_t v1; simp only [Int.ofNat_eq_natCast] at this; omega))) (by decide) rfl⟩⟩) fun v1 => VAll.ite (fun v2 => ⟨⟨?_, rnd_no (out (.inr (.inr (.inr (bne_f u4)))) (.inr (by have := dgt_t v2; simp only [Int.ofNat_eq_natCast] at this; omega))) (by decide) rfl⟩⟩) fun v2 => ⟨⟨?_, rnd_yes (fine (.inr (.inr (.inr (bne_f u4)))) (by have := dlt_f v1; simp only [Int.ofNat_eq_natCast] at *; omega) (by have := dgt_f v2; simp only [Int.ofNat_eq_natCast] at *; omega)) rfl rfl rfl⟩⟩) fun u3 => VAll.ite (fun v1 => ⟨⟨?_, rnd_no (out (.inr (.inr (.inl (bne_f u3)))) (.inl (by have := dlt_t v1; simp only [Int.ofNat_eq_natCast] at this; omega))) (by decide) rfl⟩⟩) fun v1 => VAll.ite (fun v2 => ⟨⟨?_, rnd_no (out (.inr (.inr (.inl (bne_f u3)))) (.inr (by have := dgt_t v2; simp only [Int.ofNat_eq_natCast] at this; omega))) (by decide) rfl⟩⟩) fun v2 => ⟨⟨?_, rnd_yes (fine (.inr (.inr (.inl (bne_f u3)))) (by have := dlt_f v1; simp only [Int.ofNat_eq_natCast] at *; omega) (by have := dgt_f v2; simp only [Int.ofNat_eq_natCast] at *; omega)) rfl rfl rfl⟩⟩) fun u2 => VAll.ite (fun v1 => ⟨⟨?_, rnd_no (out (.inr (.inl (bne_f u2))) (.inl (by have := dlt_t v1; simp only [Int.ofNat_eq_natCast] at this; omega))) (by decide) rfl⟩⟩) fun v1 => VAll.ite (fun v2 => ⟨⟨?_, rnd_no (out (.inr (.inl (bne_f u2))) (.inr (by have := dgt_t v2; simp only [Int.ofNat_eq_natCast] at this; omega))) (by decide) rfl⟩⟩) fun v2 => ⟨⟨?_, rnd_yes (fine (.inr (.inl (bne_f u2))) (by have := dlt_f v1; simp only [Int.ofNat_eq_natCast] at *; omega) (by have := dgt_f v2; simp only [Int.ofNat_eq_natCast] at *; omega)) rfl rfl rfl⟩⟩) fun u1 => VAll.ite (fun v1 => ⟨⟨?_, rnd_no (out (.inl (bne_f u1)) (.inl (by have := dlt_t v1; simp only [Int.ofNat_eq_natCast] at this; omega))) (by decide) rfl⟩⟩) fun v1 => VAll.ite (fun v2 => ⟨⟨?_, rnd_no (out (.inl (bne_f u1)) (.inr (by have := dgt_t v2; simp only [Int.ofNat_eq_natCast] at this; omega))) (by decide) rfl⟩⟩) fun v2 => ⟨⟨?_, rnd_yes (fine (.inl (bne_f u1)) (by have := dlt_f v1; simp only [Int.ofNat_eq_natCast] at *; omega) (by have := dgt_f v2; simp only [Int.ofNat_eq_natCast] at *; omega)) rfl rfl rfl⟩⟩
  all_goals
    simp only [Cnd.holds, e1, h1, a0, aA, a1, a2, a3, a4, a5, Option.getD_some, Option.isSome_some, Nat.blt_eq, true_and, and_true]
    and_intros
    all_goals first
      | (with_reducible exact wk_int hw)
      | exact wk_litE e1
      | exact agg_wk rfl rfl rfl rfl rfl
      | exact wk_litE rfl
      | exact q_f g0
      | exact q_f g1
      | exact q_t hk
      | exact q_f g3
      | exact q_f g4
      | exact q_f g5 | (with_reducible first | exact trivial | exact rfl | exact Wk.refl _ | exact VW.refl _ | exact OW.refl _ | exact wk_lit _ | assumption) | exact rfl | exact Wk.refl _ | exact VW.refl _ | exact OW.refl _ | ((repeat (first | exact VW.nil | refine VW.cons (Wk.refl _) ?_ | refine VW.cons (Wk.any _) ?_ | refine VW.cons (wk_cap (Nat.le_refl _)) ?_)); done)
theorem rn3 (W : World) (a : Addr) (n c j : Nat) (nm : ByteArray) (r : Rv) (f : Conf) (F : HP) (h1 : j < n) (hn : n ≤ 140737488351232) (q1 : Cells W.cell? (a.add (j * 6)) (.string nm :: r.cells)) (hk : nm.toList = K3) : VAll (Rnd (some a) n c j f (fl nm r)) (wLoop [] (hRn 3 j nm r) [] W fRa (loopN fRa 3) (tms 0 146 (aRa (some a) n c j)) (oRa f) kRa iRa F) := by
  obtain ⟨a0, ac⟩ := c6 q1
  have aA := all5 ac
  obtain ⟨a1, a2, a3, a4, a5⟩ := c6b ac
  have hw := wrap_succ j (by omega)
  have e1 : decide (Int.ofNat j < (n : Int)) = true := ltTC h1
  have g0 : ¬ nm.toList = K0 := q_n hk (by decide)
  have g1 : ¬ nm.toList = K1 := q_n hk (by decide)
  have g2 : ¬ nm.toList = K2 := q_n hk (by decide)
  have g4 : ¬ nm.toList = K4 := q_n hk (by decide)
  have g5 : ¬ nm.toList = K5 := q_n hk (by decide)
  have hs : setCode f (fl nm r) = (numCode (fl nm r).val 0 9, if numCode (fl nm r).val 0 9 = 0 then { f with mprio := r.n } else f) := set_code3 g0 g1 g2 hk
  have out : ∀ (hk : r.k = 98 ∨ r.k = 115 ∨ r.k = 73 ∨ r.k = 108) (ho : r.n < 0 ∨ 9 < r.n), (setCode f (fl nm r)).1 = 32 := fun hk ho => by rw [hs]; exact num_out (v := (fl nm r).val) hk ho
  have fine : ∀ (hk : r.k = 98 ∨ r.k = 115 ∨ r.k = 73 ∨ r.k = 108) (h1 : 0 ≤ r.n) (h2 : r.n ≤ 9), setCode f (fl nm r) = (0, { f with mprio := r.n }) := fun hk h1 h2 => by
    have e := num_ok (v := (fl nm r).val) hk h1 h2
    rw [hs, e, if_pos rfl]
  refine cast (congrArg (VAll _) (oR3_eq W a n c j nm r f F).symm) ?_
  refine VAll.ite (fun u1 => VAll.ite (fun u2 => VAll.ite (fun u3 => VAll.ite (fun u4 => ⟨⟨?_, rnd_no (by rw [hs]; exact num_bad (v := (fl nm r).val) (bne_t u1) (bne_t u2) (bne_t u3) (bne_t u4)) (by decide) rfl⟩⟩) fun u4 => VAll.ite (fun v1 => ⟨⟨?_, rnd_no (out (.inr (.inr (.inr (bne_f u4)))) (.inl (by have := dlt_t v1; simp only [Int.ofNat_eq_natCast] at this; omega))) (by decide) rfl⟩⟩) fun v1 => VAll.ite (fun v2 => ⟨⟨?_, rnd_no (out (.inr (.inr (.inr (bne_f u4)))) (.inr (by have := dgt_t v2; simp only [Int.ofNat_eq_natCast] at this; omega))) (by decide) rfl⟩⟩) fun v2 => VAll.ite (fun v3 => ⟨⟨?_, rnd_no (out (.inr (.inr (.inr (bne_f u4)))) (.inr (by have := dgt_t v3; simp only [Int.ofNat_eq_natCast] at this; omega))) (by decide) rfl⟩⟩) fun v3 => ⟨⟨?_, rnd_yes (fine (.inr (.inr (.inr (bne_f u4)))) (by have := dlt_f v1; have := dgt_f v3; simp only [Int.ofNat_eq_natCast] at *; omega) (by have := dgt_f v2; have := dgt_f v3; simp only [Int.ofNat_eq_natCast] at *; omega)) rfl rfl rfl⟩⟩) fun u3 => VAll.ite (fun v1 => ⟨⟨?_, rnd_no (out (.inr (.inr (.inl (bne_f u3)))) (.inl (by have := dlt_t v1; simp only [Int.ofNat_eq_natCast] at this; omega))) (by decide) rfl⟩⟩) fun v1 => VAll.ite (fun v2 => ⟨⟨?_, rnd_no (out (.inr (.inr (.inl (bne_f u3)))) (.inr (by have := dgt_t v2; simp only [Int.ofNat_eq_natCast] at this; omega))) (by decide) rfl⟩⟩) fun v2 => VAll.ite (fun v3 => ⟨⟨?_, rnd_no (out (.inr (.inr (.inl (bne_f u3)))) (.inr (by have := dgt_t v3; simp only [Int.ofNat_eq_natCast] at this; omega))) (by decide) rfl⟩⟩) fun v3 => ⟨⟨?_, rnd_yes (fine (.inr (.inr (.inl (bne_f u3)))) (by have := dlt_f v1; have := dgt_f v3; simp only [Int.ofNat_eq_natCast] at *; omega) (by have := dgt_f v2; have := dgt_f v3; simp only [Int.ofNat_eq_natCast] at *; omega)) rfl rfl rfl⟩⟩) fun u2 => VAll.ite (fun v1 => ⟨⟨?_, rnd_no (out (.inr (.inl (bne_f u2))) (.inl (by have := dlt_t v1; simp only [Int.ofNat_eq_natCast] at this; omega))) (by decide) rfl⟩⟩) fun v1 => VAll.ite (fun v2 => ⟨⟨?_, rnd_no (out (.inr (.inl (bne_f u2))) (.inr (by have := dgt_t v2; simp only [Int.ofNat_eq_natCast] at this; omega))) (by decide) rfl⟩⟩) fun v2 => VAll.ite (fun v3 => ⟨⟨?_, rnd_no (out (.inr (.inl (bne_f u2))) (.inr (by have := dgt_t v3; simp only [Int.ofNat_eq_natCast] at this; omega))) (by decide) rfl⟩⟩) fun v3 => ⟨⟨?_, rnd_yes (fine (.inr (.inl (bne_f u2))) (by have := dlt_f v1; have := dgt_f v3; simp only [Int.ofNat_eq_natCast] at *; omega) (by have := dgt_f v2; have := dgt_f v3; simp only [Int.ofNat_eq_natCast] at *; omega)) rfl rfl rfl⟩⟩) fun u1 => VAll.ite (fun v1 => ⟨⟨?_, rnd_no (out (.inl (bne_f u1)) (.inl (by have := dlt_t v1; simp only [Int.ofNat_eq_natCast] at this; omega))) (by decide) rfl⟩⟩) fun v1 => VAll.ite (fun v2 => ⟨⟨?_, rnd_no (out (.inl (bne_f u1)) (.inr (by have := dgt_t v2; simp only [Int.ofNat_eq_natCast] at this; omega))) (by decide) rfl⟩⟩) fun v2 => VAll.ite (fun v3 => ⟨⟨?_, rnd_no (out (.inl (bne_f u1)) (.inr (by have := dgt_t v3; simp only [Int.ofNat_eq_natCast] at this; omega))) (by decide) rfl⟩⟩) fun v3 => ⟨⟨?_, rnd_yes (fine (.inl (bne_f u1)) (by have := dlt_f v1; have := dgt_f v3; simp only [Int.ofNat_eq_natCast] at *; omega) (by have := dgt_f v2; have := dgt_f v3; simp only [Int.ofNat_eq_natCast] at *; omega)) rfl rfl rfl⟩⟩
  all_goals
    simp only [Cnd.holds, e1, h1, a0, aA, a1, a2, a3, a4, a5, Option.getD_some, Option.isSome_some, Nat.blt_eq, true_and, and_true]
    and_intros
    all_goals first
      | (with_reducible exact wk_int hw)
      | exact wk_litE e1
      | exact agg_wk rfl rfl rfl rfl rfl
      | exact wk_litE rfl
      | exact q_f g0
      | exact q_f g1
      | exact q_f g2
      | exact q_t hk
      | exact q_f g4
      | exact q_f g5 | (with_reducible first | exact trivial | exact rfl | exact Wk.refl _ | exact VW.refl _ | exact OW.refl _ | exact wk_lit _ | assumption) | exact rfl | exact Wk.refl _ | exact VW.refl _ | exact OW.refl _ | ((repeat (first | exact VW.nil | refine VW.cons (Wk.refl _) ?_ | refine VW.cons (Wk.any _) ?_ | refine VW.cons (wk_cap (Nat.le_refl _)) ?_)); done)
theorem rt4b (W : World) (a : Addr) (n c j : Nat) (nm : ByteArray) (r : Rv) (f : Conf) (F : HP) (h1 : j < n) (hn : n ≤ 140737488351232) (q1 : Cells W.cell? (a.add (j * 6)) (.string nm :: r.cells)) (hk : nm.toList = K4) (hb : ¬ r.k = 83) : VAll (Rnd (some a) n c j f (fl nm r)) (wLoop [] (hRt 4 j nm r true false) [] W fRa (loopN fRa 3) (tms 0 146 (aRa (some a) n c j)) (oRa f) kRa iRa F) := by
  obtain ⟨a0, ac⟩ := c6 q1
  have aA := all5 ac
  obtain ⟨a1, a2, a3, a4, a5⟩ := c6b ac
  have hw := wrap_succ j (by omega)
  have e1 : decide (Int.ofNat j < (n : Int)) = true := ltTC h1
  have g0 : ¬ nm.toList = K0 := q_n hk (by decide)
  have g1 : ¬ nm.toList = K1 := q_n hk (by decide)
  have g2 : ¬ nm.toList = K2 := q_n hk (by decide)
  have g3 : ¬ nm.toList = K3 := q_n hk (by decide)
  have g5 : ¬ nm.toList = K5 := q_n hk (by decide)
  have hs : setCode f (fl nm r) = (textCode (fl nm r).val, if textCode (fl nm r).val = 0 then { f with dlx := r.t, hdlx := true } else f) := set_code4 g0 g1 g2 g3 hk
  have hc : (setCode f (fl nm r)).1 = 30 := by rw [hs]; exact text_kind (v := (fl nm r).val) hb
  have c1 : (r.k != Int.ofNat 83) = true := by simpa using hb
  refine cast (congrArg (VAll _) (oT4b_eq W a n c j nm r f F).symm) ⟨⟨?_, rnd_no hc (by decide) rfl⟩⟩
  simp only [Cnd.holds, e1, h1, a0, aA, a1, a2, a3, a4, a5, Option.getD_some, Option.isSome_some, Nat.blt_eq, true_and, and_true]
  and_intros
  all_goals first
    | (with_reducible exact wk_int hw)
    | exact wk_litE e1
    | exact agg_wk rfl rfl rfl rfl rfl
    | exact wk_litE rfl
    | exact q_f g0
    | exact q_f g1
    | exact q_f g2
    | exact q_f g3
    | exact q_t hk
    | exact q_f g5
    | exact wk_litE c1 | (with_reducible first | exact trivial | exact rfl | exact Wk.refl _ | exact VW.refl _ | exact OW.refl _ | exact wk_lit _ | assumption) | exact rfl | exact Wk.refl _ | exact VW.refl _ | exact OW.refl _ | ((repeat (first | exact VW.nil | refine VW.cons (Wk.refl _) ?_ | refine VW.cons (Wk.any _) ?_ | refine VW.cons (wk_cap (Nat.le_refl _)) ?_)); done)
theorem rt4l (W : World) (a : Addr) (n c j : Nat) (nm : ByteArray) (r : Rv) (f : Conf) (F : HP) (h1 : j < n) (hn : n ≤ 140737488351232) (q1 : Cells W.cell? (a.add (j * 6)) (.string nm :: r.cells)) (hk : nm.toList = K4) (hb : r.k = 83) (hl : 255 < r.t.size) : VAll (Rnd (some a) n c j f (fl nm r)) (wLoop [] (hRt 4 j nm r false true) [] W fRa (loopN fRa 3) (tms 0 146 (aRa (some a) n c j)) (oRa f) kRa iRa F) := by
  obtain ⟨a0, ac⟩ := c6 q1
  have aA := all5 ac
  obtain ⟨a1, a2, a3, a4, a5⟩ := c6b ac
  have hw := wrap_succ j (by omega)
  have e1 : decide (Int.ofNat j < (n : Int)) = true := ltTC h1
  have g0 : ¬ nm.toList = K0 := q_n hk (by decide)
  have g1 : ¬ nm.toList = K1 := q_n hk (by decide)
  have g2 : ¬ nm.toList = K2 := q_n hk (by decide)
  have g3 : ¬ nm.toList = K3 := q_n hk (by decide)
  have g5 : ¬ nm.toList = K5 := q_n hk (by decide)
  have hs : setCode f (fl nm r) = (textCode (fl nm r).val, if textCode (fl nm r).val = 0 then { f with dlx := r.t, hdlx := true } else f) := set_code4 g0 g1 g2 g3 hk
  have hc : (setCode f (fl nm r)).1 = 1 := by rw [hs]; exact text_long (v := (fl nm r).val) hb hl
  have c1 : (r.k != Int.ofNat 83) = false := by simpa using hb
  have c2 : decide ((r.t.size : Int) > Int.ofNat 255) = true := decide_eq_true (by simp only [Int.ofNat_eq_natCast]; omega)
  refine cast (congrArg (VAll _) (oT4l_eq W a n c j nm r f F).symm) ⟨⟨?_, rnd_no hc (by decide) rfl⟩⟩
  simp only [Cnd.holds, e1, h1, a0, aA, a1, a2, a3, a4, a5, Option.getD_some, Option.isSome_some, Nat.blt_eq, true_and, and_true]
  and_intros
  all_goals first
    | (with_reducible exact wk_int hw)
    | exact wk_litE e1
    | exact agg_wk rfl rfl rfl rfl rfl
    | exact wk_litE rfl
    | exact q_f g0
    | exact q_f g1
    | exact q_f g2
    | exact q_f g3
    | exact q_t hk
    | exact q_f g5
    | exact wk_litE c1
    | exact wk_litE c2 | (with_reducible first | exact trivial | exact rfl | exact Wk.refl _ | exact VW.refl _ | exact OW.refl _ | exact wk_lit _ | assumption) | exact rfl | exact Wk.refl _ | exact VW.refl _ | exact OW.refl _ | ((repeat (first | exact VW.nil | refine VW.cons (Wk.refl _) ?_ | refine VW.cons (Wk.any _) ?_ | refine VW.cons (wk_cap (Nat.le_refl _)) ?_)); done)
theorem rt4o (W : World) (a : Addr) (n c j : Nat) (nm : ByteArray) (r : Rv) (f : Conf) (F : HP) (h1 : j < n) (hn : n ≤ 140737488351232) (q1 : Cells W.cell? (a.add (j * 6)) (.string nm :: r.cells)) (hk : nm.toList = K4) (hb : r.k = 83) (hl : r.t.size ≤ 255) : VAll (Rnd (some a) n c j f (fl nm r)) (wLoop [] (hRt 4 j nm r false false) [] W fRa (loopN fRa 3) (tms 0 146 (aRa (some a) n c j)) (oRa f) kRa iRa F) := by
  obtain ⟨a0, ac⟩ := c6 q1
  have aA := all5 ac
  obtain ⟨a1, a2, a3, a4, a5⟩ := c6b ac
  have hw := wrap_succ j (by omega)
  have e1 : decide (Int.ofNat j < (n : Int)) = true := ltTC h1
  have g0 : ¬ nm.toList = K0 := q_n hk (by decide)
  have g1 : ¬ nm.toList = K1 := q_n hk (by decide)
  have g2 : ¬ nm.toList = K2 := q_n hk (by decide)
  have g3 : ¬ nm.toList = K3 := q_n hk (by decide)
  have g5 : ¬ nm.toList = K5 := q_n hk (by decide)
  have hs : setCode f (fl nm r) = (textCode (fl nm r).val, if textCode (fl nm r).val = 0 then { f with dlx := r.t, hdlx := true } else f) := set_code4 g0 g1 g2 g3 hk
  have hc : setCode f (fl nm r) = (0, { f with dlx := r.t, hdlx := true }) := by
    have e := text_ok (v := (fl nm r).val) hb hl
    rw [hs, e, if_pos rfl]
  have c1 : (r.k != Int.ofNat 83) = false := by simpa using hb
  have c2 : decide ((r.t.size : Int) > Int.ofNat 255) = false := decide_eq_false (by simp only [Int.ofNat_eq_natCast]; omega)
  refine cast (congrArg (VAll _) (oT4o_eq W a n c j nm r f F).symm) ⟨⟨?_, rnd_yes hc rfl rfl rfl⟩⟩
  simp only [Cnd.holds, e1, h1, a0, aA, a1, a2, a3, a4, a5, Option.getD_some, Option.isSome_some, Nat.blt_eq, true_and, and_true]
  and_intros
  all_goals first
    | (with_reducible exact wk_int hw)
    | exact wk_litE e1
    | exact agg_wk rfl rfl rfl rfl rfl
    | exact wk_litE rfl
    | exact q_f g0
    | exact q_f g1
    | exact q_f g2
    | exact q_f g3
    | exact q_t hk
    | exact q_f g5
    | exact wk_litE c1
    | exact wk_litE c2 | (with_reducible first | exact trivial | exact rfl | exact Wk.refl _ | exact VW.refl _ | exact OW.refl _ | exact wk_lit _ | assumption) | exact rfl | exact Wk.refl _ | exact VW.refl _ | exact OW.refl _ | ((repeat (first | exact VW.nil | refine VW.cons (Wk.refl _) ?_ | refine VW.cons (Wk.any _) ?_ | refine VW.cons (wk_cap (Nat.le_refl _)) ?_)); done)
theorem rt5b (W : World) (a : Addr) (n c j : Nat) (nm : ByteArray) (r : Rv) (f : Conf) (F : HP) (h1 : j < n) (hn : n ≤ 140737488351232) (q1 : Cells W.cell? (a.add (j * 6)) (.string nm :: r.cells)) (hk : nm.toList = K5) (hb : ¬ r.k = 83) : VAll (Rnd (some a) n c j f (fl nm r)) (wLoop [] (hRt 5 j nm r true false) [] W fRa (loopN fRa 3) (tms 0 146 (aRa (some a) n c j)) (oRa f) kRa iRa F) := by
  obtain ⟨a0, ac⟩ := c6 q1
  have aA := all5 ac
  obtain ⟨a1, a2, a3, a4, a5⟩ := c6b ac
  have hw := wrap_succ j (by omega)
  have e1 : decide (Int.ofNat j < (n : Int)) = true := ltTC h1
  have g0 : ¬ nm.toList = K0 := q_n hk (by decide)
  have g1 : ¬ nm.toList = K1 := q_n hk (by decide)
  have g2 : ¬ nm.toList = K2 := q_n hk (by decide)
  have g3 : ¬ nm.toList = K3 := q_n hk (by decide)
  have g4 : ¬ nm.toList = K4 := q_n hk (by decide)
  have hs : setCode f (fl nm r) = (textCode (fl nm r).val, if textCode (fl nm r).val = 0 then { f with dlk := r.t, hdlk := true } else f) := set_code5 g0 g1 g2 g3 g4 hk
  have hc : (setCode f (fl nm r)).1 = 30 := by rw [hs]; exact text_kind (v := (fl nm r).val) hb
  have c1 : (r.k != Int.ofNat 83) = true := by simpa using hb
  refine cast (congrArg (VAll _) (oT5b_eq W a n c j nm r f F).symm) ⟨⟨?_, rnd_no hc (by decide) rfl⟩⟩
  simp only [Cnd.holds, e1, h1, a0, aA, a1, a2, a3, a4, a5, Option.getD_some, Option.isSome_some, Nat.blt_eq, true_and, and_true]
  and_intros
  all_goals first
    | (with_reducible exact wk_int hw)
    | exact wk_litE e1
    | exact agg_wk rfl rfl rfl rfl rfl
    | exact wk_litE rfl
    | exact q_f g0
    | exact q_f g1
    | exact q_f g2
    | exact q_f g3
    | exact q_f g4
    | exact q_t hk
    | exact wk_litE c1 | (with_reducible first | exact trivial | exact rfl | exact Wk.refl _ | exact VW.refl _ | exact OW.refl _ | exact wk_lit _ | assumption) | exact rfl | exact Wk.refl _ | exact VW.refl _ | exact OW.refl _ | ((repeat (first | exact VW.nil | refine VW.cons (Wk.refl _) ?_ | refine VW.cons (Wk.any _) ?_ | refine VW.cons (wk_cap (Nat.le_refl _)) ?_)); done)
theorem rt5l (W : World) (a : Addr) (n c j : Nat) (nm : ByteArray) (r : Rv) (f : Conf) (F : HP) (h1 : j < n) (hn : n ≤ 140737488351232) (q1 : Cells W.cell? (a.add (j * 6)) (.string nm :: r.cells)) (hk : nm.toList = K5) (hb : r.k = 83) (hl : 255 < r.t.size) : VAll (Rnd (some a) n c j f (fl nm r)) (wLoop [] (hRt 5 j nm r false true) [] W fRa (loopN fRa 3) (tms 0 146 (aRa (some a) n c j)) (oRa f) kRa iRa F) := by
  obtain ⟨a0, ac⟩ := c6 q1
  have aA := all5 ac
  obtain ⟨a1, a2, a3, a4, a5⟩ := c6b ac
  have hw := wrap_succ j (by omega)
  have e1 : decide (Int.ofNat j < (n : Int)) = true := ltTC h1
  have g0 : ¬ nm.toList = K0 := q_n hk (by decide)
  have g1 : ¬ nm.toList = K1 := q_n hk (by decide)
  have g2 : ¬ nm.toList = K2 := q_n hk (by decide)
  have g3 : ¬ nm.toList = K3 := q_n hk (by decide)
  have g4 : ¬ nm.toList = K4 := q_n hk (by decide)
  have hs : setCode f (fl nm r) = (textCode (fl nm r).val, if textCode (fl nm r).val = 0 then { f with dlk := r.t, hdlk := true } else f) := set_code5 g0 g1 g2 g3 g4 hk
  have hc : (setCode f (fl nm r)).1 = 1 := by rw [hs]; exact text_long (v := (fl nm r).val) hb hl
  have c1 : (r.k != Int.ofNat 83) = false := by simpa using hb
  have c2 : decide ((r.t.size : Int) > Int.ofNat 255) = true := decide_eq_true (by simp only [Int.ofNat_eq_natCast]; omega)
  refine cast (congrArg (VAll _) (oT5l_eq W a n c j nm r f F).symm) ⟨⟨?_, rnd_no hc (by decide) rfl⟩⟩
  simp only [Cnd.holds, e1, h1, a0, aA, a1, a2, a3, a4, a5, Option.getD_some, Option.isSome_some, Nat.blt_eq, true_and, and_true]
  and_intros
  all_goals first
    | (with_reducible exact wk_int hw)
    | exact wk_litE e1
    | exact agg_wk rfl rfl rfl rfl rfl
    | exact wk_litE rfl
    | exact q_f g0
    | exact q_f g1
    | exact q_f g2
    | exact q_f g3
    | exact q_f g4
    | exact q_t hk
    | exact wk_litE c1
    | exact wk_litE c2 | (with_reducible first | exact trivial | exact rfl | exact Wk.refl _ | exact VW.refl _ | exact OW.refl _ | exact wk_lit _ | assumption) | exact rfl | exact Wk.refl _ | exact VW.refl _ | exact OW.refl _ | ((repeat (first | exact VW.nil | refine VW.cons (Wk.refl _) ?_ | refine VW.cons (Wk.any _) ?_ | refine VW.cons (wk_cap (Nat.le_refl _)) ?_)); done)
theorem rt5o (W : World) (a : Addr) (n c j : Nat) (nm : ByteArray) (r : Rv) (f : Conf) (F : HP) (h1 : j < n) (hn : n ≤ 140737488351232) (q1 : Cells W.cell? (a.add (j * 6)) (.string nm :: r.cells)) (hk : nm.toList = K5) (hb : r.k = 83) (hl : r.t.size ≤ 255) : VAll (Rnd (some a) n c j f (fl nm r)) (wLoop [] (hRt 5 j nm r false false) [] W fRa (loopN fRa 3) (tms 0 146 (aRa (some a) n c j)) (oRa f) kRa iRa F) := by
  obtain ⟨a0, ac⟩ := c6 q1
  have aA := all5 ac
  obtain ⟨a1, a2, a3, a4, a5⟩ := c6b ac
  have hw := wrap_succ j (by omega)
  have e1 : decide (Int.ofNat j < (n : Int)) = true := ltTC h1
  have g0 : ¬ nm.toList = K0 := q_n hk (by decide)
  have g1 : ¬ nm.toList = K1 := q_n hk (by decide)
  have g2 : ¬ nm.toList = K2 := q_n hk (by decide)
  have g3 : ¬ nm.toList = K3 := q_n hk (by decide)
  have g4 : ¬ nm.toList = K4 := q_n hk (by decide)
  have hs : setCode f (fl nm r) = (textCode (fl nm r).val, if textCode (fl nm r).val = 0 then { f with dlk := r.t, hdlk := true } else f) := set_code5 g0 g1 g2 g3 g4 hk
  have hc : setCode f (fl nm r) = (0, { f with dlk := r.t, hdlk := true }) := by
    have e := text_ok (v := (fl nm r).val) hb hl
    rw [hs, e, if_pos rfl]
  have c1 : (r.k != Int.ofNat 83) = false := by simpa using hb
  have c2 : decide ((r.t.size : Int) > Int.ofNat 255) = false := decide_eq_false (by simp only [Int.ofNat_eq_natCast]; omega)
  refine cast (congrArg (VAll _) (oT5o_eq W a n c j nm r f F).symm) ⟨⟨?_, rnd_yes hc rfl rfl rfl⟩⟩
  simp only [Cnd.holds, e1, h1, a0, aA, a1, a2, a3, a4, a5, Option.getD_some, Option.isSome_some, Nat.blt_eq, true_and, and_true]
  and_intros
  all_goals first
    | (with_reducible exact wk_int hw)
    | exact wk_litE e1
    | exact agg_wk rfl rfl rfl rfl rfl
    | exact wk_litE rfl
    | exact q_f g0
    | exact q_f g1
    | exact q_f g2
    | exact q_f g3
    | exact q_f g4
    | exact q_t hk
    | exact wk_litE c1
    | exact wk_litE c2 | (with_reducible first | exact trivial | exact rfl | exact Wk.refl _ | exact VW.refl _ | exact OW.refl _ | exact wk_lit _ | assumption) | exact rfl | exact Wk.refl _ | exact VW.refl _ | exact OW.refl _ | ((repeat (first | exact VW.nil | refine VW.cons (Wk.refl _) ?_ | refine VW.cons (Wk.any _) ?_ | refine VW.cons (wk_cap (Nat.le_refl _)) ?_)); done)
theorem rx (W : World) (a : Addr) (n c j : Nat) (nm : ByteArray) (r : Rv) (f : Conf) (F : HP) (h1 : j < n) (hn : n ≤ 140737488351232) (q1 : Cells W.cell? (a.add (j * 6)) (.string nm :: r.cells)) (g0 : ¬ nm.toList = K0) (g1 : ¬ nm.toList = K1) (g2 : ¬ nm.toList = K2) (g3 : ¬ nm.toList = K3) (g4 : ¬ nm.toList = K4) (g5 : ¬ nm.toList = K5) : VAll (Rnd (some a) n c j f (fl nm r)) (wLoop [] (hRx j nm r) [] W fRa (loopN fRa 3) (tms 0 146 (aRa (some a) n c j)) (oRa f) kRa iRa F) := by
  obtain ⟨a0, ac⟩ := c6 q1
  have aA := all5 ac
  obtain ⟨a1, a2, a3, a4, a5⟩ := c6b ac
  have hw := wrap_succ j (by omega)
  have e1 : decide (Int.ofNat j < (n : Int)) = true := ltTC h1
  have hc : setCode f (fl nm r) = (0, f) := set_code6 g0 g1 g2 g3 g4 g5
  refine cast (congrArg (VAll _) (oRx_eq W a n c j nm r f F).symm) ⟨⟨?_, rnd_yes hc rfl rfl rfl⟩⟩
  simp only [Cnd.holds, e1, h1, a0, aA, a1, a2, a3, a4, a5, Option.getD_some, Option.isSome_some, Nat.blt_eq, true_and, and_true]
  and_intros
  all_goals first
    | (with_reducible exact wk_int hw)
    | exact wk_litE e1
    | exact agg_wk rfl rfl rfl rfl rfl
    | exact wk_litE rfl
    | exact q_f g0
    | exact q_f g1
    | exact q_f g2
    | exact q_f g3
    | exact q_f g4
    | exact q_f g5 | (with_reducible first | exact trivial | exact rfl | exact Wk.refl _ | exact VW.refl _ | exact OW.refl _ | exact wk_lit _ | assumption) | exact rfl | exact Wk.refl _ | exact VW.refl _ | exact OW.refl _ | ((repeat (first | exact VW.nil | refine VW.cons (Wk.refl _) ?_ | refine VW.cons (Wk.any _) ?_ | refine VW.cons (wk_cap (Nat.le_refl _)) ?_)); done)
end Go.Proofs.Ytfledabgdcnkfaa.Tree

/- The document's Args: what it answers. -/
set_option linter.unusedVariables false
set_option linter.unusedSimpArgs false
set_option maxRecDepth 100000
namespace Go.Proofs.Ytfledabgdcnkfaa.Tree
open Go Go.RowKit Go.Proofs.Ytfledabgdcnkfaa.Eng Go.Proofs.Ytfledabgdcnkfaa.Kit Go.Proofs.Ytfledabgdcnkfaa.Pol
def runAll : List Fld → Conf → Int × Conf
  | [], c => (0, c)
  | f :: l, c => if (setCode c f).1 = 0 then runAll l (setCode c f).2 else ((setCode c f).1, Conf.zero)
theorem all_run : ∀ (l : List Fld) (c : Conf), setAll l c = if (runAll l c).1 = 0 then (if (runAll l c).2.hdlk = true ∧ (runAll l c).2.hdlx = false then (2, Conf.zero) else (0, (runAll l c).2)) else ((runAll l c).1, Conf.zero)
  | [], c => by rw [setAll, runAll]; exact (if_pos rfl).symm
  | f :: l, c => by
    by_cases h : (setCode c f).1 = 0
    · rw [setAll, runAll, if_pos h, if_pos h]
      exact all_run l _
    · rw [setAll, runAll, if_neg h, if_neg h]
      simp only [if_neg h]
def flT (x : ByteArray × Tv) : Fld := ⟨x.1, ⟨x.2.kind, x.2.num, x.2.text, .slice none 0 0, .slice none 0 0⟩⟩
def flds (f : Tf) : List Fld := f.map flT
theorem flds_len (f : Tf) : (flds f).length = f.length := List.length_map _
theorem run_step {f : Tf} {j : Nat} {c : Conf} (hj : j < f.length) : runAll ((flds f).drop j) c = if (setCode c (flT f[j])).1 = 0 then runAll ((flds f).drop (j + 1)) (setCode c (flT f[j])).2 else ((setCode c (flT f[j])).1, Conf.zero) := by
  have hj' : j < (flds f).length := by rw [flds_len]; exact hj
  rw [List.drop_eq_getElem_cons hj']
  have e : (flds f)[j] = flT f[j] := List.getElem_map _
  rw [e, runAll]
theorem rnd (W : World) (d : Nat) (f : Tf) (oa : Option Addr) (cap : Nat) (ha : FAt W.cell? d oa f) (j : Nat) (hj : j < f.length) (g : Conf) :
    ∃ hints, ∀ F, VAll (Rnd oa f.length cap j g (flT f[j])) (wLoop [] hints [] W fRa (loopN fRa 3) (tms 0 146 (aRa oa f.length cap j)) (oRa g) kRa iRa F) := by
  have hb : big = 140737488351232 := rfl
  have hn : f.length ≤ 140737488351232 := by have := ha.1; omega
  obtain ⟨a, r, rfl, q1, q2⟩ := ha.2 j f[j].1 f[j].2 (List.getElem?_eq_getElem hj)
  have hfl : fl f[j].1 r = flT f[j] := by
    cases d with
    | zero => exact q2.elim
    | succ d =>
      obtain ⟨⟨i1, i2, i3, _, _⟩, _⟩ := q2
      simp only [fl, flT, i1, i2, i3]
  rw [← hfl]
  by_cases g0 : f[j].1.toList = K0
  · exact ⟨_, fun F => rn0 W a f.length cap j _ r g F hj hn q1 g0⟩
  by_cases g1 : f[j].1.toList = K1
  · exact ⟨_, fun F => rn1 W a f.length cap j _ r g F hj hn q1 g1⟩
  by_cases g2 : f[j].1.toList = K2
  · exact ⟨_, fun F => rn2 W a f.length cap j _ r g F hj hn q1 g2⟩
  by_cases g3 : f[j].1.toList = K3
  · exact ⟨_, fun F => rn3 W a f.length cap j _ r g F hj hn q1 g3⟩
  by_cases g4 : f[j].1.toList = K4
  · by_cases hk : r.k = 83
    · by_cases hl : 255 < r.t.size
      · exact ⟨_, fun F => rt4l W a f.length cap j _ r g F hj hn q1 g4 hk hl⟩
      · exact ⟨_, fun F => rt4o W a f.length cap j _ r g F hj hn q1 g4 hk (by omega)⟩
    · exact ⟨_, fun F => rt4b W a f.length cap j _ r g F hj hn q1 g4 hk⟩
  by_cases g5 : f[j].1.toList = K5
  · by_cases hk : r.k = 83
    · by_cases hl : 255 < r.t.size
      · exact ⟨_, fun F => rt5l W a f.length cap j _ r g F hj hn q1 g5 hk hl⟩
      · exact ⟨_, fun F => rt5o W a f.length cap j _ r g F hj hn q1 g5 hk (by omega)⟩
    · exact ⟨_, fun F => rt5b W a f.length cap j _ r g F hj hn q1 g5 hk⟩
  exact ⟨_, fun F => rx W a f.length cap j _ r g F hj hn q1 g0 g1 g2 g3 g4 g5⟩
abbrev RaS (f : Tf) := {z : Nat × Conf // z.1 ≤ f.length ∧ runAll ((flds f).drop z.1) z.2 = runAll (flds f) Conf.none}
def raS0 (f : Tf) : RaS f := ⟨(0, Conf.none), Nat.zero_le _, by simp only [List.drop_zero]⟩
theorem ra_loopN (W : World) (d : Nat) (f : Tf) (oa : Option Addr) (cap : Nat) (ha : FAt W.cell? d oa f) (g0 : Conf) (h0 : runAll (flds f) Conf.none = (0, g0)) :
    LTri Try.prog W (loopN fRa 3) (tms 0 146 (aRa oa f.length cap 0)) (oRa Conf.none) (.exit 0) (tms 0 146 zRa) (oRa g0) := by
  refine ltri_run (W := W) (g := fRa) (b := loopN fRa 3) (σ := RaS f) 146 (fun z => aRa oa f.length cap z.1.1) (fun z => oRa z.1.2) (.exit 0) zRa (oRa g0) (fun z => f.length - z.1.1) kRa iRa (by intro h; cases h) (fun _ => rfl) rfl ?_ (raS0 f)
  rintro ⟨⟨j, g⟩, hj, hrun⟩
  simp only at hj hrun ⊢
  by_cases h1 : j < f.length
  · obtain ⟨hints, hh⟩ := rnd W d f oa cap ha j h1 g
    have hs := run_step (c := g) h1
    refine ⟨[], hints, [], fun _ _ => noC, fun _ _ => noL, fun F => (hh F).mono ?_⟩
    rintro r os m ⟨hm, hr⟩
    refine ⟨hm, ?_⟩
    rcases hr with ⟨e, k0, l, ft⟩ | ⟨e, k0, _⟩
    · exact .inl ⟨e, ⟨(j + 1, (setCode g (flT f[j])).2), h1, by rw [if_pos k0] at hs; rw [← hs]; exact hrun⟩, sub_down h1, l, ft⟩
    · exfalso
      rw [if_neg k0] at hs
      rw [← hrun, hs] at h0
      exact k0 (congrArg Prod.fst h0)
  · have hje : j = f.length := by omega
    subst hje
    have hg : runAll (flds f) Conf.none = (0, g) := by rw [← hrun, ← flds_len, List.drop_length]; rfl
    obtain rfl : g = g0 := by rw [hg] at h0; exact congrArg Prod.snd h0
    refine ⟨[], hRaE, [], fun _ _ => noC, fun _ _ => noL, fun F => ?_⟩
    refine cast (congrArg (VAll _) (oRaE_eq W oa f.length cap g F).symm) ⟨⟨?_, rfl, .inr ⟨rfl, [(1000, 1000), (1001, 1001), (1002, 1002)], by kernel_rfl, by kernel_rfl, ⟨Wk.refl _, Wk.refl _, Wk.refl _, Wk.refl _, trivial⟩, ⟨_, rfl, OW.refl _⟩, ⟨_, rfl, OW.refl _⟩, ⟨_, rfl, OW.refl _⟩, trivial⟩⟩⟩
    simp only [Cnd.holds, and_true, true_and]
    exact wk_litE ltFC
theorem ra_loopR (W : World) (d : Nat) (f : Tf) (oa : Option Addr) (cap : Nat) (ha : FAt W.cell? d oa f) (h0 : ¬ (runAll (flds f) Conf.none).1 = 0) :
    LTri Try.prog W (loopN fRa 3) (tms 0 146 (aRa oa f.length cap 0)) (oRa Conf.none) .ret (tms 0 146 (zRe (runAll (flds f) Conf.none).1)) oRe := by
  refine ltri_run (W := W) (g := fRa) (b := loopN fRa 3) (σ := RaS f) 146 (fun z => aRa oa f.length cap z.1.1) (fun z => oRa z.1.2) .ret (zRe (runAll (flds f) Conf.none).1) oRe (fun z => f.length - z.1.1) kRa iRa (by intro h; cases h) (fun _ => rfl) rfl ?_ (raS0 f)
  rintro ⟨⟨j, g⟩, hj, hrun⟩
  simp only at hj hrun ⊢
  by_cases h1 : j < f.length
  · obtain ⟨hints, hh⟩ := rnd W d f oa cap ha j h1 g
    have hs := run_step (c := g) h1
    refine ⟨[], hints, [], fun _ _ => noC, fun _ _ => noL, fun F => (hh F).mono ?_⟩
    rintro r os m ⟨hm, hr⟩
    refine ⟨hm, ?_⟩
    rcases hr with ⟨e, k0, l, ft⟩ | ⟨e, k0, l, ft⟩
    · exact .inl ⟨e, ⟨(j + 1, (setCode g (flT f[j])).2), h1, by rw [if_pos k0] at hs; rw [← hs]; exact hrun⟩, sub_down h1, l, ft⟩
    · rw [if_neg k0] at hs
      have e1 : (runAll (flds f) Conf.none).1 = (setCode g (flT f[j])).1 := by rw [← hrun, hs]
      rw [e1]
      exact .inr ⟨e, l, ft⟩
  · have hje : j = f.length := by omega
    subst hje
    have hg : runAll (flds f) Conf.none = (0, g) := by rw [← hrun, ← flds_len, List.drop_length]; rfl
    rw [hg] at h0
    exact absurd rfl h0
theorem gRa_ro : ∀ args, RO (gRa args) := by
  intro args
  unfold gRa
  repeat' split
  all_goals first | exact RO.ret _ | exact RO.fail _
theorem co_cl (K : Nat → Bool) (c : Conf) : (AO.cells (vmap c.cells) tCf).cl K := ⟨trivial, trivial, trivial, trivial, trivial, trivial, trivial, trivial, trivial, trivial, trivial⟩
theorem oRa_cl (K : Nat → Bool) (c : Conf) : ∀ x ∈ oRa c, x.2.cl K := all_cons (co_cl K _) (all_cons (co_cl K _) (all_cons (co_cl K _) all_nil))
def aggC (c : Conf) : AV := .agg (vmap c.cells)
theorem Ra_tri (W : World) (d : Nat) (f : Tf) (oa : Option Addr) (cap : Nat) (ha : FAt W.cell? d oa f) : Tri Try.prog W fRa [slV oa f.length cap] [] (.tuple [aggC (setAll (flds f) Conf.none).2, iv (setAll (flds f) Conf.none).1]) [] := by
  have hall := all_run (flds f) Conf.none
  by_cases h0 : (runAll (flds f) Conf.none).1 = 0
  · rw [if_pos h0] at hall
    obtain ⟨g, hg⟩ : ∃ g, runAll (flds f) Conf.none = (0, g) := ⟨_, by rw [← h0]⟩
    rw [hg] at hall
    simp only at hall
    have hl : ∀ F, OldOK W F → L1OK Try.prog F (loopN fRa 3) (lRaN oa f.length cap g) := fun F hF =>
      mkL_ok hF gRa_ro (fun _ _ => ra_loopN W d f oa cap ha g hg) fun _ => by
        simp only [RT.pick]
        exact closedT rfl rfl (all_cons trivial (all_cons rfl (all_cons trivial (all_cons rfl (all_cons rfl (all_cons trivial all_nil)))))) (oRa_cl _ _) (all_cons rfl (all_cons trivial (all_cons rfl (all_cons rfl all_nil)))) (oRa_cl _ _)
    refine tri_run (con := []) (hints := noHints) (lc := [(fRa, 3, loopN fRa 3, lRaN oa f.length cap g)]) [] rfl (fun F hF => noC) (fun F hF => one_l (hl F hF)) fun F => ?_
    refine cast (congrArg (VAll _) (oRa_eq W oa f.length cap g F).symm) ?_
    refine VAll.ite (fun e1 => VAll.ite (fun e2 => ⟨⟨?_, ?_⟩⟩) fun e2 => ⟨⟨?_, ?_⟩⟩) fun e1 => ⟨⟨?_, ?_⟩⟩
    · simp only [Cnd.holds, Nat.blt_eq, true_and, and_true]
      and_intros
      all_goals first | (with_reducible first | exact trivial | exact rfl | exact Wk.refl _ | exact VW.refl _ | exact OW.refl _ | exact wk_lit _ | assumption) | exact rfl | exact Wk.refl _ | exact VW.refl _ | exact OW.refl _ | ((repeat (first | exact VW.nil | refine VW.cons (Wk.refl _) ?_ | refine VW.cons (Wk.any _) ?_ | refine VW.cons (wk_cap (Nat.le_refl _)) ?_)); done)
    · have e3 : g.hdlx = false := by simpa using e2
      rw [hall, if_pos ⟨e1, e3⟩]
      exact (fit_mk (vs' := [.tuple [aggC Conf.zero, iv 2]]) (H' := []) [] rfl rfl (VW.refl _) trivial).fits rfl
    · simp only [Cnd.holds, Nat.blt_eq, true_and, and_true]
      and_intros
      all_goals first | (with_reducible first | exact trivial | exact rfl | exact Wk.refl _ | exact VW.refl _ | exact OW.refl _ | exact wk_lit _ | assumption) | exact rfl | exact Wk.refl _ | exact VW.refl _ | exact OW.refl _ | ((repeat (first | exact VW.nil | refine VW.cons (Wk.refl _) ?_ | refine VW.cons (Wk.any _) ?_ | refine VW.cons (wk_cap (Nat.le_refl _)) ?_)); done)
    · have e3 : g.hdlx = true := by simpa using e2
      rw [hall, if_neg (fun hh => by rw [e3] at hh; cases hh.2)]
      exact (fit_mk (vs' := [.tuple [aggC g, iv 0]]) (H' := []) [] rfl rfl (VW.refl _) trivial).fits rfl
    · simp only [Cnd.holds, Nat.blt_eq, true_and, and_true]
      and_intros
      all_goals first | (with_reducible first | exact trivial | exact rfl | exact Wk.refl _ | exact VW.refl _ | exact OW.refl _ | exact wk_lit _ | assumption) | exact rfl | exact Wk.refl _ | exact VW.refl _ | exact OW.refl _ | ((repeat (first | exact VW.nil | refine VW.cons (Wk.refl _) ?_ | refine VW.cons (Wk.any _) ?_ | refine VW.cons (wk_cap (Nat.le_refl _)) ?_)); done)
    · rw [hall, if_neg (fun hh => by rw [e1] at hh; cases hh.1)]
      exact (fit_mk (vs' := [.tuple [aggC g, iv 0]]) (H' := []) [] rfl rfl (VW.refl _) trivial).fits rfl
  · rw [if_neg h0] at hall
    have hl : ∀ F, OldOK W F → L1OK Try.prog F (loopN fRa 3) (lRaR oa f.length cap (runAll (flds f) Conf.none).1) := fun F hF =>
      mkL_ok hF gRa_ro (fun _ _ => ra_loopR W d f oa cap ha h0) fun _ => by
        simp only [RT.pick]
        exact closedT rfl rfl (all_cons trivial (all_cons rfl (all_cons trivial (all_cons rfl (all_cons rfl (all_cons trivial all_nil)))))) (oRa_cl _ _) (all_cons rfl (all_cons trivial all_nil)) (all_cons (co_cl _ _) all_nil)
    rw [hall]
    refine tri_run (con := []) (hints := noHints) (lc := [(fRa, 3, loopN fRa 3, lRaR oa f.length cap (runAll (flds f) Conf.none).1)]) [] rfl (fun F hF => noC) (fun F hF => one_l (hl F hF)) fun F => ?_
    refine cast (congrArg (VAll _) (oRaR_eq W oa f.length cap (runAll (flds f) Conf.none).1 F).symm) ⟨⟨?_, (fit_mk (vs' := [.tuple [aggC Conf.zero, iv (runAll (flds f) Conf.none).1]]) (H' := []) [] rfl rfl (VW.refl _) trivial).fits rfl⟩⟩
    simp only [Cnd.holds, Nat.blt_eq, true_and, and_true]
    and_intros
    all_goals first | (with_reducible first | exact trivial | exact rfl | exact Wk.refl _ | exact VW.refl _ | exact OW.refl _ | exact wk_lit _ | assumption) | exact rfl | exact Wk.refl _ | exact VW.refl _ | exact OW.refl _ | ((repeat (first | exact VW.nil | refine VW.cons (Wk.refl _) ?_ | refine VW.cons (Wk.any _) ?_ | refine VW.cons (wk_cap (Nat.le_refl _)) ?_)); done)
end Go.Proofs.Ytfledabgdcnkfaa.Tree

/- PolicyArgs: the law's run. -/
set_option linter.unusedVariables false
set_option linter.unusedSimpArgs false
set_option maxRecDepth 100000
namespace Go.Proofs.Ytfledabgdcnkfaa.Tree
open Go Go.RowKit Go.Proofs.Ytfledabgdcnkfaa.Eng Go.Proofs.Ytfledabgdcnkfaa.Kit
noncomputable section
abbrev fPA : Nat := 15
abbrev fLA : Nat := 4
abbrev fSpk : Nat := 9
def gOwn : List AV → AP Nat := fun args => match getL args 0 with
  | .slice i _ _ _ _ => .ret i
  | _ => .fail "own"
def vC (g : Pol.Conf) (code : Int) : AV := .tuple [.agg (vmap g.cells), iv code]
def cSpk : List AV → Option (AP AV) := mkC (fun _ => .ret ()) (fun _ => True) (fun _ k => k) (fun _ => []) (fun _ => []) (fun _ => .leaf .ret [bv true] [])
def cPA (n d : Nat) (f : Tf) (g : Pol.Conf) (code : Int) : List AV → Option (AP AV) := mkC gOwn (fun _ => True) (fun i _ => i) (fun _ => [sF 0 n]) (fun _ => [(0, ownF md d f)]) (fun _ => .leaf .ret [vC g code] [(0, ownF md d f)])
def cRa (oa : Option Addr) (n c : Nat) (g : Pol.Conf) (code : Int) : List AV → Option (AP AV) := mkC (fun _ => .ret ()) (fun _ => True) (fun _ k => k) (fun _ => [slV oa n c]) (fun _ => []) (fun _ => .leaf .ret [vC g code] [])
def cSo (oa : Option Addr) (n c d : Nat) (f : Tf) : List AV → Option (AP AV) := mkC gOwn (fun _ => True) (fun i _ => i) (fun _ => [sF 0 n, slV oa n c]) (fun _ => [(0, ownF md d f)]) (fun _ => .leaf .ret [bv true] [(0, ownF md d f)])
def conLA (oa : Option Addr) (n c d : Nat) (f : Tf) (g : Pol.Conf) (code : Int) : ConsL := [(fSpk, cSpk), (fCp, cCp oa n c d f), (fPA, cPA n d f g code), (fRa, cRa oa n c g code), (fSm, cSo oa n c d f)]
def hLA : ClaimT := hintL [(fLA, 1, 1, hv (.lit false)), (fLA, 6, 2, hv (.lit true)), (fLA, 6, 6, hv (.lit true))]
theorem oLA_eq (W : World) (oa : Option Addr) (n c d : Nat) (f : Tf) (g : Pol.Conf) (code : Int) (F : HP) : wRun (conLA oa n c d f g code) hLA [] W fLA [slV oa n c] [] [] F = VT.leaf (b' true) [] 1103 (((Cnd.p True).a ((p' (VW [] [])).a t')).a (((p' (Wk (b' false) (AV.lit false))).a t').a (((Cnd.p True).a ((p' (VW [AV.v (Value.slice oa n c)] [AV.v (Value.slice oa n c)])).a t')).a (((Cnd.p True).a ((p' (VW [AV.slice 1100 0 n 6 (Cp.lo n)] [AV.slice 1100 0 n 6 (Cp.lo n)])).a ((p' (OW (AO.own md fun b x => frz fun C => FAt C d (some (Addr.mk b 0 none)) f) (AO.own md fun b x => frz fun C => FAt C d (some (Addr.mk b 0 none)) f))).a t'))).a (((p' (true = true)).a t').a (((Cnd.p True).a ((p' (VW [AV.v (Value.slice oa n c)] [AV.v (Value.slice oa n c)])).a t')).a (((p' (true = true)).a t').a (((p' (Wk (b' (code == code)) (AV.lit true))).a t').a (((p' (true = true)).a ((p' ([z' g.ttl,z' g.exp,z' g.mlen,z' g.mprio,s' g.dlx,s' g.dlk,s' g.alt,b' g.hdlx,b' g.hdlk,b' g.halt] = [z' g.ttl,z' g.exp,z' g.mlen,z' g.mprio,s' g.dlx,s' g.dlk,s' g.alt,b' g.hdlx,b' g.hdlk,b' g.halt])).a t')).a (((p' (true = true)).a ((p' ([z' g.ttl,z' g.exp,z' g.mlen,z' g.mprio,s' g.dlx,s' g.dlk,s' g.alt,b' g.hdlx,b' g.hdlk,b' g.halt] = [z' g.ttl,z' g.exp,z' g.mlen,z' g.mprio,s' g.dlx,s' g.dlk,s' g.alt,b' g.hdlx,b' g.hdlk,b' g.halt])).a t')).a (((p' (EqSem Try.prog 25 (Array.mk [Value.int IntKind.i64 g.ttl,Value.int IntKind.i64 g.exp,Value.int IntKind.i64 g.mlen,Value.int IntKind.i64 g.mprio,Value.string g.dlx,Value.string g.dlk,Value.string g.alt,Value.bool g.hdlx,Value.bool g.hdlk,Value.bool g.halt]) (Array.mk [Value.int IntKind.i64 g.ttl,Value.int IntKind.i64 g.exp,Value.int IntKind.i64 g.mlen,Value.int IntKind.i64 g.mprio,Value.string g.dlx,Value.string g.dlk,Value.string g.alt,Value.bool g.hdlx,Value.bool g.hdlk,Value.bool g.halt]) (valsQ [Value.int IntKind.i64 g.ttl,Value.int IntKind.i64 g.exp,Value.int IntKind.i64 g.mlen,Value.int IntKind.i64 g.mprio,Value.string g.dlx,Value.string g.dlk,Value.string g.alt,Value.bool g.hdlx,Value.bool g.hdlk,Value.bool g.halt] [Value.int IntKind.i64 g.ttl,Value.int IntKind.i64 g.exp,Value.int IntKind.i64 g.mlen,Value.int IntKind.i64 g.mprio,Value.string g.dlx,Value.string g.dlk,Value.string g.alt,Value.bool g.hdlx,Value.bool g.hdlk,Value.bool g.halt]))).a ((p' (Wk (b' (valsQ [Value.int IntKind.i64 g.ttl,Value.int IntKind.i64 g.exp,Value.int IntKind.i64 g.mlen,Value.int IntKind.i64 g.mprio,Value.string g.dlx,Value.string g.dlk,Value.string g.alt,Value.bool g.hdlx,Value.bool g.hdlk,Value.bool g.halt] [Value.int IntKind.i64 g.ttl,Value.int IntKind.i64 g.exp,Value.int IntKind.i64 g.mlen,Value.int IntKind.i64 g.mprio,Value.string g.dlx,Value.string g.dlk,Value.string g.alt,Value.bool g.hdlx,Value.bool g.hdlk,Value.bool g.halt])) (AV.lit true))).a t')).a (((Cnd.p True).a ((p' (VW [AV.slice 1100 0 n 6 (Cp.lo n),AV.v (Value.slice oa n c)] [AV.slice 1100 0 n 6 (Cp.lo n),AV.v (Value.slice oa n c)])).a ((p' (OW (AO.own md fun b x => frz fun C => FAt C d (some (Addr.mk b 0 none)) f) (AO.own md fun b x => frz fun C => FAt C d (some (Addr.mk b 0 none)) f))).a t'))).a t')))))))))))) := by kernel_rfl
end
end Go.Proofs.Ytfledabgdcnkfaa.Tree

/- PolicyArgs: every call answers true. -/
set_option linter.unusedVariables false
set_option linter.unusedSimpArgs false
set_option maxRecDepth 100000
namespace Go.Proofs.Ytfledabgdcnkfaa.Tree
open Go Go.RowKit Go.Proofs.Ytfledabgdcnkfaa.Eng Go.Proofs.Ytfledabgdcnkfaa.Kit Go.Proofs.Ytfledabgdcnkfaa.Pol
/-! policy.Args over a table as it lies. -/
def strip (g : Fld) : Fld := ⟨g.name, ⟨g.val.kind, g.val.num, g.val.text, .slice none 0 0, .slice none 0 0⟩⟩
theorem set_strip (c : Conf) (g : Fld) : setCode c (strip g) = setCode c g := rfl
theorem all_strip : ∀ (l : List Fld) (c : Conf), setAll (l.map strip) c = setAll l c
  | [], c => rfl
  | g :: l, c => by
    rw [List.map_cons, setAll, setAll, set_strip, all_strip l]
theorem fld_one {C : Mem} {d : Nat} {f : Tf} {A : Option Addr} (h : FAt C d A f) (i : Nat) (hi : i < f.length) : ∃ g : Fld, strip g = flT f[i] ∧ g.ok ∧ ∃ a, A = some a ∧ Cells C (a.add (i * 6)) g.cells := by
  obtain ⟨a, r, h1, q1, q2⟩ := h.2 i f[i].1 f[i].2 (List.getElem?_eq_getElem hi)
  cases d with
  | zero => exact q2.elim
  | succ d =>
    obtain ⟨⟨i1, i2, i3, _, _⟩, _⟩ := q2
    refine ⟨⟨f[i].1, ⟨r.k, r.n, r.t, .slice r.la r.ll r.lc, .slice r.ta r.tl r.tc⟩⟩, ?_, ⟨rfl, rfl⟩, a, h1, q1⟩
    simp only [strip, flT, i1, i2, i3]
theorem fld_list {C : Mem} {d : Nat} {f : Tf} {A : Option Addr} (h : FAt C d A f) : ∃ l : List Fld, l.length = f.length ∧ l.map strip = flds f ∧ (∀ g ∈ l, g.ok) ∧ ∀ i (hi : i < l.length), ∃ a, A = some a ∧ Cells C (a.add (i * 6)) l[i].cells := by
  have hh := fun i : Fin f.length => fld_one h i.1 i.2
  refine ⟨List.ofFn fun i : Fin f.length => (hh i).choose, List.length_ofFn, ?_, ?_, ?_⟩
  · apply List.ext_getElem
    · simp [flds]
    · intro i h1 h2
      simp only [List.getElem_map, List.getElem_ofFn, flds]
      exact (hh ⟨i, by simpa using h1⟩).choose_spec.1
  · intro g hg
    obtain ⟨i, rfl⟩ := List.mem_ofFn.1 hg
    exact (hh i).choose_spec.2.1
  · intro i hi
    simp only [List.getElem_ofFn]
    exact (hh ⟨i, by simpa using hi⟩).choose_spec.2.2
theorem args_at (w : World) (d : Nat) (f : Tf) (A : Option Addr) (cap : Nat) (h : FAt w.cell? d A f) : Calls Try.prog 15 #[.slice A f.length cap] w (ArgsPost w (setAll (flds f) Conf.none)) := by
  obtain ⟨l, h1, h2, h3, h4⟩ := fld_list h
  have hb : big = 140737488351232 := rfl
  have hrd : Rd w A l.length 6 (fldCells l) := by
    refine ⟨pieces_length fld_length l, fun hp => ?_, fun ad he j u hu => ?_⟩
    · obtain ⟨a, e, _⟩ := h4 0 hp
      exact ⟨a, e⟩
    · have hj : j < l.length * 6 := by
        have := (List.getElem?_eq_some_iff.1 hu).1
        rwa [fldCells, pieces_length fld_length] at this
      have hk : j / 6 < l.length := by omega
      obtain ⟨a, e, hc⟩ := h4 (j / 6) hk
      rw [he] at e
      cases e
      have e1 : j = j / 6 * 6 + j % 6 := by omega
      have e2 : (ad.add (j / 6 * 6)).add (j % 6) = ad.add j := by rw [add_add', ← e1]
      have hu' : (l[j / 6].cells)[j % 6]? = some u := by
        rw [← pieces_get fld_length l (j / 6) (j % 6) hk (by omega), ← e1]
        exact hu
      have := hc _ _ hu'
      rwa [e2] at this
  rw [← h2, all_strip, ← h1]
  exact args_calls A cap l w (by have := h.1; omega) hrd h3
theorem wk_conf (g : Conf) (code : Int) : Wk (.v (.tuple #[.agg g.cells.toArray, .int .i64 code])) (vC g code) := by
  intro N y hy
  rw [VR_v] at hy
  subst hy
  simp only [VR, VRs, vC, iv]
  refine ⟨[.agg g.cells.toArray, .int .i64 code], ⟨_, _, ⟨g.cells, VRs.vmap _, by simp⟩, ⟨_, _, rfl, rfl, rfl⟩, rfl⟩, rfl⟩
theorem vrs1 {N : Names} {x1 : AV} {vargs : Array Value} (h : VRs N [x1] vargs.toList) : ∃ y1, VR N x1 y1 ∧ vargs = #[y1] := by
  simp only [VRs] at h
  obtain ⟨y1, r1, h1, rfl, hl⟩ := h
  exact ⟨y1, h1, by cases vargs; simp_all⟩
theorem vrs2 {N : Names} {x1 x2 : AV} {vargs : Array Value} (h : VRs N [x1, x2] vargs.toList) : ∃ y1 y2, VR N x1 y1 ∧ VR N x2 y2 ∧ vargs = #[y1, y2] := by
  simp only [VRs] at h
  obtain ⟨y1, r1, h1, ⟨y2, r2, h2, rfl, rfl⟩, hl⟩ := h
  exact ⟨y1, y2, h1, h2, by cases vargs; simp_all⟩
theorem memOn_le {D : Nat → Prop} {w : World} : ∀ a v, memOn D w a = some v → w.cell? a = some v := fun a v h => (memOn_some h).2
theorem PA_tri (W : World) (d : Nat) (f : Tf) : Tri Try.prog W fPA [sF 0 f.length] [(0, ownF md d f)] (vC (setAll (flds f) Conf.none).2 (setAll (flds f) Conf.none).1) [(0, ownF md d f)] := by
  refine Kit.Tri.wk (tri_below (x := .tuple #[.agg (setAll (flds f) Conf.none).2.cells.toArray, .int .i64 (setAll (flds f) Conf.none).1]) fun W0 F N w vargs hF hNB r ha => ?_) (wk_conf _ _)
  obtain ⟨y1, h1, rfl⟩ := vrs1 ha
  have hfo : (heapOf [(0, ownF md d f)]).find 0 = some (ownF md d f) := by rw [find_heapOf (by kernel_rfl), getO, if_pos rfl]
  obtain ⟨D, hO⟩ := r.obj hfo
  obtain ⟨la, lc, rfl, hA⟩ := ownF_raw hO h1
  exact args_at w d f la lc (FOf.mono (fun x r hx => VAt.mono memOn_le hx) memOn_le hA)
theorem So_tri (W : World) (d : Nat) (f : Tf) (oa : Option Addr) (c : Nat) (ha : FAt W.cell? d oa f) : Tri Try.prog W fSm [sF 0 f.length, slV oa f.length c] [(0, ownF md d f)] (bv true) [(0, ownF md d f)] := by
  refine tri_below (x := .bool true) fun W0 F N w vargs hF hNB r ha' => ?_
  obtain ⟨y1, y2, h1, h2, rfl⟩ := vrs2 ha'
  have hfo : (heapOf [(0, ownF md d f)]).find 0 = some (ownF md d f) := by rw [find_heapOf (by kernel_rfl), getO, if_pos rfl]
  obtain ⟨D, hO⟩ := r.obj hfo
  obtain ⟨la, lc, rfl, hA⟩ := ownF_raw hO h1
  obtain rfl : y2 = .slice oa f.length c := VR_v.1 h2
  have r0 := r
  obtain ⟨_, _, _, D0, _, hD0, _, _⟩ := r0
  have hold : ∀ a v, W.cell? a = some v → w.cell? a = some v := hF D0 w hD0
  have hS := Same_tri w d f la oa lc c (FOf.mono (fun x r hx => VAt.mono memOn_le hx) memOn_le hA) (FOf.mono (fun x r hx => VAt.mono hold hx) hold ha)
  refine (hS w (HP.old w) (fun _ => none) w #[.slice la f.length lc, .slice oa f.length c] (old_here w) (fun _ _ _ => rfl) (rep_nil w) (VRs.vmap [.slice la f.length lc, .slice oa f.length c])).mono ?_
  rintro e w' ⟨y, rfl, N', _, _, r', hv⟩
  have hy : y = .bool true := VR_v.1 (VRs_cons.1 hv).1
  subst hy
  exact ⟨rfl, r'.old_below⟩
end Go.Proofs.Ytfledabgdcnkfaa.Tree

/- PolicyArgs: the law in the engine's words. -/
set_option linter.unusedVariables false
set_option linter.unusedSimpArgs false
set_option maxRecDepth 100000
namespace Go.Proofs.Ytfledabgdcnkfaa.Tree
open Go Go.RowKit Go.Proofs.Ytfledabgdcnkfaa.Eng Go.Proofs.Ytfledabgdcnkfaa.Kit Go.Proofs.Ytfledabgdcnkfaa.Pol
theorem confLit (g : Conf) : g.cells.toArray = #[.int .i64 g.ttl, .int .i64 g.exp, .int .i64 g.mlen, .int .i64 g.mprio, .string g.dlx, .string g.dlk, .string g.alt, .bool g.hdlx, .bool g.hdlk, .bool g.halt] := rfl
theorem conf_equal (g : Conf) (w : World) : (Op.equalIn 10000 25 (.agg g.cells.toArray) (.agg g.cells.toArray)).run Try.prog w = .ok true w := by
  have u3 := Try.underlying3
  have a3 := Try.isAgg3
  have z3 := Try.sizeOf3
  have u9 := Try.underlying9
  have a9 := Try.isAgg9
  have z9 := Try.sizeOf9
  have u4 := Try.underlying4
  have a4 := Try.isAgg4
  have z4 := Try.sizeOf4
  have hS : Try.prog.underlying 25 = some (.struct (Try.prog.fieldsOf 25)) := by kernel_rfl
  rw [show (10000 : Nat) = 9999 + 1 from rfl, run_equalIn_agg w 9999 _ _ _ hS (by kernel_rfl), confLit]
  simp only [Program.fieldsOf, Try.underlying25]
  go_simp
  try simp
theorem confQ_self (g : Conf) : valsQ g.cells g.cells = true := by simp [valsQ, valQ, Conf.cells]
theorem conf_sem (g : Conf) : EqSem Try.prog 25 (Array.mk g.cells) (Array.mk g.cells) (valsQ g.cells g.cells) := by
  intro w
  rw [confQ_self]
  exact conf_equal g w
theorem gOwn_ro : ∀ args, RO (gOwn args) := by
  intro args
  unfold gOwn
  split
  · exact RO.ret _
  · exact RO.fail _
theorem vC_cl (K : Nat → Bool) (g : Conf) (code : Int) : AV.cl K (vC g code) := ⟨⟨trivial, trivial, trivial, trivial, trivial, trivial, trivial, trivial, trivial, trivial, trivial⟩, trivial, trivial⟩
section
variable {W : World} {oa : Option Addr} {c d : Nat} {f : Tf} {g : Conf} {code : Int}
theorem cSpk_ok {F : HP} (hF : OldOK W F) : C1OK Try.prog F fSpk cSpk :=
  mkC_ok hF (fun _ => bv true) (fun _ => RO.ret _) (fun _ => rfl) (fun _ _ => tri_closed (args := []) speaks_calls) fun _ => ⟨rfl, rfl, trivial, all_nil, ⟨trivial, trivial⟩, all_nil⟩
theorem cPA_ok {F : HP} (hF : OldOK W F) (h : Tri Try.prog W fPA [sF 0 f.length] [(0, ownF md d f)] (vC g code) [(0, ownF md d f)]) : C1OK Try.prog F fPA (cPA f.length d f g code) :=
  mkC_ok hF (fun _ => vC g code) gOwn_ro (fun _ => rfl) (fun _ _ => h) fun _ => ⟨rfl, rfl, ⟨rfl, trivial⟩, all_cons trivial all_nil, ⟨vC_cl _ _ _, trivial⟩, all_cons trivial all_nil⟩
theorem cRa_ok {F : HP} (hF : OldOK W F) (h : Tri Try.prog W fRa [slV oa f.length c] [] (vC g code) []) : C1OK Try.prog F fRa (cRa oa f.length c g code) :=
  mkC_ok hF (fun _ => vC g code) (fun _ => RO.ret _) (fun _ => rfl) (fun _ _ => h) fun _ => ⟨rfl, rfl, ⟨trivial, trivial⟩, all_nil, ⟨vC_cl _ _ _, trivial⟩, all_nil⟩
theorem cSo_ok {F : HP} (hF : OldOK W F) (h : Tri Try.prog W fSm [sF 0 f.length, slV oa f.length c] [(0, ownF md d f)] (bv true) [(0, ownF md d f)]) : C1OK Try.prog F fSm (cSo oa f.length c d f) :=
  mkC_ok hF (fun _ => bv true) gOwn_ro (fun _ => rfl) (fun _ _ => h) fun _ => ⟨rfl, rfl, ⟨rfl, trivial, trivial⟩, all_cons trivial all_nil, ⟨trivial, trivial⟩, all_cons trivial all_nil⟩
end
theorem law_tri (W : World) (d : Nat) (f : Tf) (oa : Option Addr) (c : Nat) (ha : FAt W.cell? d oa f) : Tri Try.prog W fLA [slV oa f.length c] [] (bv true) [] := by
  have hp := PA_tri W d f
  have hr := Ra_tri W d f oa c ha
  generalize setAll (flds f) Conf.none = rr at hp hr
  obtain ⟨code, g⟩ := rr
  refine tri_run (con := conLA oa f.length c d f g code) (hints := hLA) (lc := []) [] rfl (fun F hF => con_cons (cSpk_ok hF) (con_cons (cCp_ok (Copy_tri W d f oa c ha) F hF) (con_cons (cPA_ok hF hp) (con_cons (cRa_ok hF hr) (one_c (cSo_ok hF (So_tri W d f oa c ha))))))) (fun F hF => noL) fun F => ?_
  refine cast (congrArg (VAll _) (oLA_eq W oa f.length c d f g code F).symm) ⟨⟨?_, fits_true⟩⟩
  simp only [Cnd.holds, and_true, Nat.blt_eq, true_and, and_true]
  and_intros
  all_goals first
    | exact wk_litE (beq_self_eq_true code)
    | exact conf_sem g
    | exact wk_litE (confQ_self g) | (with_reducible first | exact trivial | exact rfl | exact Wk.refl _ | exact VW.refl _ | exact OW.refl _ | exact wk_lit _ | assumption) | exact rfl | exact Wk.refl _ | exact VW.refl _ | exact OW.refl _ | ((repeat (first | exact VW.nil | refine VW.cons (Wk.refl _) ?_ | refine VW.cons (Wk.any _) ?_ | refine VW.cons (wk_cap (Nat.le_refl _)) ?_)); done)
theorem args_law (W : World) (d : Nat) (f : Tf) (oa : Option Addr) (c : Nat) (ha : FAt W.cell? d oa f) : Calls Try.prog fLA #[.slice oa f.length c] W fun e w' => e = .returned (.bool true) ∧ Below W.heap.size W w' :=
  law_calls (args := [.slice oa f.length c]) (law_tri W d f oa c ha)
end Go.Proofs.Ytfledabgdcnkfaa.Tree

