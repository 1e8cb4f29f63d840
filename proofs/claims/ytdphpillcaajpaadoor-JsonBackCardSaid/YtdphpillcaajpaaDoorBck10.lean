/- Parts of the proof, merged. -/
import Derived.Test.YtdphpillcaajpaaDoorBck7
import Derived.Test.YtdphpillcaajpaaDoorBck9
import Derived.Test.YtdphpillcaajpaaDoorBck8
import Derived.KernelRfl
noncomputable section
set_option linter.unusedVariables false
set_option linter.unusedSimpArgs false
set_option maxRecDepth 100000
set_option linter.unusedSectionVars false
namespace Go.Proofs.YtdphpillcaajpaaDoor.Js
open Go Eng Kit
theorem HK' {l A B : Γ} {i : Nat} (h : l.drop i = A ++ B) {j : Nat} (hj : j < A.length) : l[i + j]? = A[j]? := by
 rw [<- List.getElem?_drop, h, List.getElem?_append_left hj]
theorem BQ' {l A B : Γ} {i : Nat} (h : l.drop i = A ++ B) : l.drop (i + A.length) = B := by
 rw [<- List.drop_drop, h, List.drop_left]
theorem ZK' {l A B : Γ} {i : Nat} (h : l.drop i = A ++ B) (hA : A ≠ []) : i + A.length + B.length = l.length := by
 have h1 := congrArg List.length h; rw [List.length_drop, List.length_append] at h1; have h2 : 0 < A.length := List.length_pos_iff.2 hA; omega
theorem RG' (v m n : Nat) : finP v m n = 0 \/ finP v m n = n := by
 unfold finP
 repeat' split
 all_goals simp
theorem ZT' {n n' b0 b1 b2 b3 c0 c1 c2 c3 k : Nat} (h : chP n b0 b1 b2 b3 = k) (hk : k ≠ 0) (hn : k <= n') (h0 : c0 = b0) (h1 : 1 < k -> c1 = b1) (h2 : 2 < k -> c2 = b2) (h3 : 3 < k -> c3 = b3) : chP n' c0 c1 c2 c3 = k := by
 unfold chP at h ⊢; subst h0
 by_cases g1 : c0 < 128
 ·rw [if_pos g1] at h ⊢; exact h
 rw [if_neg g1] at h ⊢
 by_cases g2 : c0 < 192
 ·rw [if_pos g2] at h; omega
 rw [if_neg g2] at h ⊢
 by_cases g3 : c0 < 224
 ·rw [if_pos g3] at h ⊢
  by_cases e1 : n < 2
  ·rw [if_pos e1] at h; omega
  rw [if_neg e1] at h
  by_cases e2 : b1 < 128
  ·rw [if_pos e2] at h; omega
  rw [if_neg e2] at h
  by_cases e3 : 191 < b1
  ·rw [if_pos e3] at h; omega
  rw [if_neg e3] at h; have q := RG' ((c0 - 192) * 64 + b1 - 128) 128 2
  have hk2 : k = 2 := ω
  subst hk2; rw [h1 ω, if_neg ω, if_neg e2, if_neg e3]; exact h
 rw [if_neg g3] at h ⊢
 by_cases g4 : c0 < 240
 ·rw [if_pos g4] at h ⊢
  by_cases e1 : n < 3
  ·rw [if_pos e1] at h; omega
  rw [if_neg e1] at h
  by_cases e2 : b1 < 128
  ·rw [if_pos e2] at h; omega
  rw [if_neg e2] at h
  by_cases e3 : 191 < b1
  ·rw [if_pos e3] at h; omega
  rw [if_neg e3] at h
  by_cases e4 : b2 < 128
  ·rw [if_pos e4] at h; omega
  rw [if_neg e4] at h
  by_cases e5 : 191 < b2
  ·rw [if_pos e5] at h; omega
  rw [if_neg e5] at h; have q := RG' (((c0 - 224) * 64 + b1 - 128) * 64 + b2 - 128) 2048 3
  have hk2 : k = 3 := ω
  subst hk2; rw [h1 ω, h2 ω, if_neg ω, if_neg e2, if_neg e3, if_neg e4, if_neg e5]; exact h
 rw [if_neg g4] at h ⊢
 by_cases g5 : c0 < 248
 ·rw [if_pos g5] at h ⊢
  by_cases e1 : n < 4
  ·rw [if_pos e1] at h; omega
  rw [if_neg e1] at h
  by_cases e2 : b1 < 128
  ·rw [if_pos e2] at h; omega
  rw [if_neg e2] at h
  by_cases e3 : 191 < b1
  ·rw [if_pos e3] at h; omega
  rw [if_neg e3] at h
  by_cases e4 : b2 < 128
  ·rw [if_pos e4] at h; omega
  rw [if_neg e4] at h
  by_cases e5 : 191 < b2
  ·rw [if_pos e5] at h; omega
  rw [if_neg e5] at h
  by_cases e6 : b3 < 128
  ·rw [if_pos e6] at h; omega
  rw [if_neg e6] at h
  by_cases e7 : 191 < b3
  ·rw [if_pos e7] at h; omega
  rw [if_neg e7] at h; have q := RG' ((((c0 - 240) * 64 + b1 - 128) * 64 + b2 - 128) * 64 + b3 - 128) 65536 4
  have hk2 : k = 4 := ω
  subst hk2; rw [h1 ω, h2 ω, h3 ω, if_neg ω, if_neg e2, if_neg e3, if_neg e4, if_neg e5, if_neg e6, if_neg e7]; exact h
 ·rw [if_neg g5] at h; omega
theorem RP' (T : Γ) : EX' T 0 = if errQ T = true then 0 else dN T := by
 have := GX' T 0; rw [List.drop_zero] at this; exact this
theorem Q4' {c : UInt8} {T : Γ} (h : c.toNat < 128) : EX' (c :: T) 0 = 1 := by
 unfold EX'; rw [List.getD_cons_zero, if_pos h]
theorem UY' {l T R : Γ} {i : Nat} (hT : T ≠ []) (he : errQ T = false) (h : l.drop i = T.take (dN T) ++ R) : EX' l i = dN T := by
 have hp := IO' T; have hle := Q0' T (List.length_pos_iff.2 hT); have h0 := RP' T; rw [he, if_neg δ, RO'] at h0
 have hA : (T.take (dN T)).length = dN T := by rw [List.length_take]; omega
 have hg : ∀ j, j < dN T -> l.getD (i + j) 0 = T.getD j 0 := fun j hj => by
  rw [List.getD_eq_getElem?_getD, List.getD_eq_getElem?_getD, HK' h ω, List.getElem?_take_of_lt hj]
 have hl := ZK' h (by intro e; rw [e] at hA; simp only [List.length_nil] at hA; omega); rw [RO']
 refine ZT' h0 ω ω ?_ (fun hk => ?_) (fun hk => ?_) fun hk => ?_
 ·have := hg 0 ω; rw [Nat.add_zero] at this; rw [this]
 ·rw [hg 1 hk]
 ·rw [hg 2 hk]
 ·rw [hg 3 hk]
theorem Z8' {c : UInt8} {T : Γ} (h : errQ (c :: T) = true) : 128 <= c.toNat /\ dN (c :: T) = 1 := by
 constructor
 ·by_cases hc : c.toNat < 128
  ·have h1 := RP' (c :: T); rw [Q4' hc, if_pos h] at h1; cases h1
  ·omega
 ·unfold errQ at h; rw [Bool.and_eq_true, beq_iff_eq, beq_iff_eq] at h; exact Int.ofNat.inj h.2
theorem TO' {c : UInt8} {T : Γ} (h : c.toNat < 128) : dN (c :: T) = 1 /\ errQ (c :: T) = false := by
 have h1 := RP' (c :: T); rw [Q4' h] at h1
 cases he : errQ (c :: T) with
 | true => rw [he, if_pos rfl] at h1; cases h1
 | false => rw [he, if_neg δ] at h1; exact ⟨h1.symm, rfl⟩
theorem YS' (a : Nat) (h : a < 16) : hexV (hd a) = some a := by
 have key : ∀ c : Fin 16, hexV (hd c.1) = some c.1 := by decide +kernel
 exact key ⟨a, h⟩
theorem PN' {x y : UInt8} {p q : Nat} (c : UInt8) (hx' : hexV x = some p) (hy : hexV y = some q) : CG' ([x, y] ++ hx c) 0 = some ((p * 16 + q) * 256 + c.toNat) := by
 have hc := c.toNat_lt; show CG' [x, y, hd (c.toNat / 16), hd (c.toNat % 16)] 0 = _; simp only [CG', hx', hy, YS' _ (show c.toNat / 16 < 16 by omega), YS' _ (show c.toNat % 16 < 16 by omega)]
 congr 1
 omega
theorem YT' {l A B : Γ} {i : Nat} (h : l.drop i = A ++ B) (hA : A.length = 4) : hexA l i = CG' A 0 := by
 have h1 := ZK' h (by intro e; rw [e] at hA; cases hA); unfold hexA; rw [if_pos ω, h, List.take_append_of_le_length ω, List.take_of_length_le ω]
theorem toU8c (c : UInt8) (n : Nat) (h : n % 256 = c.toNat) : n.toUInt8 = c := by
 apply UInt8.toNat_inj.1; rw [show n.toUInt8.toNat = n % 256 from rfl, h]
theorem esc_ud {l B : Γ} {i : Nat} {c : UInt8} (hc : 128 <= c.toNat) (h : l.drop i = [117, 100, 99] ++ hx c ++ B) : escP l i = .ok [c] (i + 5) := by
 have hlt := c.toNat_lt
 have h0 : l[i]? = some 117 := by
  have := HK' (A := [117]) (B := [100, 99] ++ hx c ++ B) (i := i) (l := l) h (j := 0) δ; exact this
 have h1 : l.drop (i + 1) = ([100, 99] ++ hx c) ++ B := BQ' (A := [117]) h
 have hh : hexA l (i + 1) = some (56320 + c.toNat) := by
  rw [YT' h1 rfl, PN' c (p := 13) (q := 12) (by decide +kernel) (by decide +kernel)]
 have hw : whr escF 117 = none := by decide +kernel
 unfold escP; simp only [h0, hw, hh, if_true]; unfold escU
 have hl : GT' l (56320 + c.toNat) (i + 5) = none := by
  unfold GT'; rw [if_neg ω]
 rw [if_neg ω, hl]; simp only; rw [if_neg ω, toU8c c _ ω]
theorem esc_u0 {l B : Γ} {i : Nat} {c : UInt8} (hc : c.toNat < 128) (h : l.drop i = [117, 48, 48] ++ hx c ++ B) : escP l i = .ok [c] (i + 5) := by
 have h0 : l[i]? = some 117 := by
  have := HK' (A := [117]) (B := [48, 48] ++ hx c ++ B) (i := i) (l := l) h (j := 0) δ; exact this
 have h1 : l.drop (i + 1) = ([48, 48] ++ hx c) ++ B := BQ' (A := [117]) h
 have hh : hexA l (i + 1) = some c.toNat := by
  rw [YT' h1 rfl, PN' c (p := 0) (q := 0) (by decide +kernel) (by decide +kernel)]
  congr 1
  omega
 have hw : whr escF 117 = none := by decide +kernel
 unfold escP; simp only [h0, hw, hh, if_true]; unfold escU; rw [if_pos ω]; unfold utf; rw [if_pos hc, toU8c c _ ω]
theorem esc_q {l B : Γ} {i : Nat} {c : UInt8} (hc : c = 34 \/ c = 92) (h : l.drop i = [c] ++ B) : escP l i = .ok [c] (i + 1) := by
 have h0 : l[i]? = some c := by
  have := HK' h (j := 0) (by simp); exact this
 unfold escP
 rcases hc with rfl | rfl
 ·have hw : whr escF 34 = some 0 := by decide +kernel
  simp only [h0, hw]; rfl
 ·have hw : whr escF 92 = some 1 := by decide +kernel
  simp only [h0, hw]; rfl
theorem qL_ge : ∀ (n : Nat) (T : Γ), T.length <= n -> T.length <= (qL T).length
 | _, [], _ => Nat.zero_le _
 | 0, c :: T, h => by simp at h
 | n + 1, c :: T, h => by
  have h1 := IO' (c :: T); have h2 := Q0' (c :: T) (by simp)
  have h3 : dN (c :: T) <= (D5' c (c :: T)).length := by
   unfold D5'; split
   ·rename_i he; rw [(Z8' he).2, List.length_append, LC']; simp only [List.length_cons, List.length_nil]; omega
   ·split
    ·rename_i hc; rw [(TO' (by rcases hc with rfl | rfl <;> decide)).1]; simp only [List.length_cons, List.length_nil]; omega
    ·split
     ·rename_i hc; rw [(TO' ω).1, List.length_append, LC']; simp only [List.length_cons, List.length_nil]; omega
     ·rw [List.length_take]; omega
  have ih := qL_ge n ((c :: T).drop (dN (c :: T))) (by rw [List.length_drop]; simp only [List.length_cons] at h ⊢; omega); rw [List.length_drop] at ih; rw [J5', List.length_append]; omega
theorem OI' : ∀ (n : Nat) (T : Γ), T.length <= n -> ∀ (f : Nat) (l : Γ) (i : Nat) (acc R : Γ), T.length < f -> l.drop i = qL T ++ 34 :: R -> txtP l f i acc = .ok (acc ++ T) (i + (qL T).length + 1)
 | n, [], hn, f, l, i, acc, R, hf, h => by
  obtain ⟨f, rfl⟩ : ∃ g, f = g + 1 := ⟨f - 1, by simp only [List.length_nil] at hf; omega⟩
  rw [qL] at h ⊢; have h0 : l[i]? = some 34 := HK' (A := [34]) (B := R) h (j := 0) δ; rw [C5' l f i acc h0, if_pos rfl, List.append_nil]; rfl
 | 0, c :: T, hn, f, l, i, acc, R, hf, h => by simp at hn
 | n + 1, c :: T, hn, f, l, i, acc, R, hf, h => by
  obtain ⟨f, rfl⟩ : ∃ g, f = g + 1 := ⟨f - 1, by omega⟩
  have hT1 : T.length <= n := by simp only [List.length_cons] at hn; omega
  have hTf : T.length < f := by simp only [List.length_cons] at hf; omega
  rw [J5', List.append_assoc] at h; rw [J5']
  cases he : errQ (c :: T) with
  | true =>
   obtain ⟨h1, h2⟩ := Z8' he
   have hch : D5' c (c :: T) = [92, 117, 100, 99] ++ hx c := by unfold D5'; rw [if_pos he]
   rw [hch, h2] at h ⊢; have h0 : l[i]? = some 92 := HK' (A := [92]) (B := [117, 100, 99] ++ hx c ++ (qL T ++ 34 :: R)) h (j := 0) δ; have h3 := esc_ud h1 (BQ' (A := [92]) (B := [117, 100, 99] ++ hx c ++ (qL T ++ 34 :: R)) h); have h4 := BQ' (A := [92, 117, 100, 99] ++ hx c) h; rw [C5' l f i acc h0, if_neg δ, if_neg δ, if_pos rfl, show i + 1 = i + [(92 : UInt8)].length from rfl, h3]; simp only; have ih := OI' n T hT1 f l (i + ([92, 117, 100, 99] ++ hx c).length) (acc ++ [c]) R hTf h4; rw [show i + [(92 : UInt8)].length + 5 = i + ([92, 117, 100, 99] ++ hx c).length from rfl, ih, List.append_assoc, List.length_append]; refine congrArg (Rd.ok (acc ++ c :: T)) ?_; rw [show (c :: T).drop 1 = T from rfl]; simp only [List.length_append, List.length_cons, List.length_nil, LC']; omega
  | false =>
   by_cases hq : c = 34 \/ c = 92
   ·have hch : D5' c (c :: T) = [92, c] := by unfold D5'; rw [if_neg (by rw [he]; decide), if_pos hq]
    have h2 := (TO' (T := T) (show c.toNat < 128 by rcases hq with rfl | rfl <;> decide)).1; rw [hch, h2] at h ⊢; have h0 : l[i]? = some 92 := HK' (A := [92]) (B := [c] ++ (qL T ++ 34 :: R)) h (j := 0) δ; have h3 := esc_q hq (BQ' (A := [92]) (B := [c] ++ (qL T ++ 34 :: R)) h); have h4 := BQ' (A := [92, c]) h; rw [C5' l f i acc h0, if_neg δ, if_neg δ, if_pos rfl, show i + 1 = i + [(92 : UInt8)].length from rfl, h3]; simp only; have ih := OI' n T hT1 f l (i + [92, c].length) (acc ++ [c]) R hTf h4; rw [show i + [(92 : UInt8)].length + 1 = i + [92, c].length from rfl, ih, List.append_assoc, List.length_append]; refine congrArg (Rd.ok (acc ++ c :: T)) ?_; rw [show (c :: T).drop 1 = T from rfl]; simp only [List.length_append, List.length_cons, List.length_nil, LC']; omega
   ·by_cases hl : c.toNat < 32
    ·have hch : D5' c (c :: T) = [92, 117, 48, 48] ++ hx c := by unfold D5'; rw [if_neg (by rw [he]; decide), if_neg hq, if_pos hl]
     have h2 := (TO' (T := T) (show c.toNat < 128 by omega)).1; rw [hch, h2] at h ⊢; have h0 : l[i]? = some 92 := HK' (A := [92]) (B := [117, 48, 48] ++ hx c ++ (qL T ++ 34 :: R)) h (j := 0) δ; have h3 := esc_u0 (show c.toNat < 128 by omega) (BQ' (A := [92]) (B := [117, 48, 48] ++ hx c ++ (qL T ++ 34 :: R)) h); have h4 := BQ' (A := [92, 117, 48, 48] ++ hx c) h; rw [C5' l f i acc h0, if_neg δ, if_neg δ, if_pos rfl, show i + 1 = i + [(92 : UInt8)].length from rfl, h3]; simp only; have ih := OI' n T hT1 f l (i + ([92, 117, 48, 48] ++ hx c).length) (acc ++ [c]) R hTf h4; rw [show i + [(92 : UInt8)].length + 5 = i + ([92, 117, 48, 48] ++ hx c).length from rfl, ih, List.append_assoc, List.length_append]; refine congrArg (Rd.ok (acc ++ c :: T)) ?_; rw [show (c :: T).drop 1 = T from rfl]; simp only [List.length_append, List.length_cons, List.length_nil, LC']; omega
    ·have hch : D5' c (c :: T) = (c :: T).take (dN (c :: T)) := by unfold D5'; rw [if_neg (by rw [he]; decide), if_neg hq, if_neg hl]
     have hp := IO' (c :: T); have hle := Q0' (c :: T) (by simp)
     have hA : ((c :: T).take (dN (c :: T))).length = dN (c :: T) := by rw [List.length_take]; omega
     rw [hch] at h ⊢; have hcn := UY' (by simp) he h
     have h0 : l[i]? = some c := by
      have := HK' h (j := 0) ω; rw [Nat.add_zero, List.getElem?_take_of_lt ω] at this; exact this
     have h4 := BQ' h; rw [hA] at h4
     have hd1 : (c :: T).drop (dN (c :: T)) = T.drop (dN (c :: T) - 1) := by
      obtain ⟨m, hm⟩ : ∃ m, dN (c :: T) = m + 1 := ⟨dN (c :: T) - 1, by omega⟩
      rw [hm]; rfl
     rw [C5' l f i acc h0, if_neg (fun e => hq (.inl e)), if_neg hl, if_neg (fun e => hq (.inr e)), hcn, if_neg ω]
     have ht : (l.drop i).take (dN (c :: T)) = (c :: T).take (dN (c :: T)) := by
      rw [h, List.take_append_of_le_length ω, List.take_of_length_le ω]
     have hlen : ((c :: T).drop (dN (c :: T))).length <= T.length := by rw [hd1, List.length_drop]; omega
     have ih := OI' n ((c :: T).drop (dN (c :: T))) ω f l (i + dN (c :: T)) (acc ++ (c :: T).take (dN (c :: T))) R ω h4; rw [ht, ih, List.append_assoc, List.take_append_drop, List.length_append, hA]
     congr 1
     omega
theorem W6' (t : Δ) : tB (bts t) = t := GY' (E6' _)
theorem fT' {l R : Γ} {i : Nat} {T : Δ} (h : l.drop i = AZ' (bts T) ++ R) : txtA l (i + 1) = .ok T (i + (AZ' (bts T)).length) := by
 have h' : l.drop i = [34] ++ (qL (bts T) ++ 34 :: R) := by rw [h]; unfold AZ'; simp [List.append_assoc]
 have h1 := BQ' h'; have hg := qL_ge (bts T).length (bts T) (Yd); have hl := ZK' h' (by simp); simp only [List.length_append, List.length_cons, List.length_nil] at hl; have key := OI' (bts T).length (bts T) (Yd) (l.length + 1) l (i + 1) [] R ω h1; unfold txtA; rw [key]; simp only [List.nil_append]; unfold AZ'; rw [W6']; refine congrArg (Rd.ok T) ?_; simp only [List.length_append, List.length_cons, List.length_nil]; omega
def UB' (c : UInt8) : Bool := [44, 93, 125, 32, 9, 10, 13].contains c
def Stop (R : Γ) : Prop := ∀ c, R.head? = some c -> UB' c = true
theorem KI' {ks t R : Γ} (hR : Stop R) (hk : ks.all (fun c => !UB' c) = true) {n : Nat} (hn : n <= t.length) : sgn ks (t ++ R) n = sgn ks t n := by
 unfold sgn
 by_cases h : n < t.length
 ·rw [List.getElem?_append_left h]
 ·have hn : n = t.length := ω
  subst hn; rw [List.getElem?_append_right (Yd), Nat.sub_self, List.getElem?_eq_none (Yd)]
  cases R with
  | nil => rfl
  | cons c R =>
   have hc := hR c rfl; show ks.contains c = false
   cases hh : ks.contains c with
   | false => rfl
   | true =>
    rw [List.contains_iff_mem] at hh; have := List.all_eq_true.1 hk c hh; rw [hc] at this; cases this
theorem SN' {ks t R : Γ} (hR : Stop R) (hk : ks.all (fun c => !UB' c) = true) {n : Nat} (hn : n <= t.length) : sgE ks (t ++ R) n = sgE ks t n := by
 unfold sgE; rw [KI' hR hk hn]
theorem eA' {c : UInt8} (h : UB' c = true) : isD c = false := by
 have key : ∀ c : Fin 256, UB' (UInt8.ofNat c.1) = true -> isD (UInt8.ofNat c.1) = false := by decide +kernel
 have := key ⟨c.toNat, c.toNat_lt⟩; simp only [UInt8.ofNat_toNat] at this; exact this h
theorem W1' {p : UInt8 -> Bool} {R : Γ} (hR : ∀ c, R.head? = some c -> p c = false) : ∀ A : Γ, (A ++ R).takeWhile p = A.takeWhile p
 | [] => by
  cases R with
  | nil => rfl
  | cons c R => rw [List.nil_append, List.takeWhile_cons, hR c rfl]; rfl
 | a :: A => by
  rw [List.cons_append, List.takeWhile_cons, List.takeWhile_cons, W1' hR A]
theorem JI' {t R : Γ} (hR : Stop R) {n : Nat} (hn : n <= t.length) : digE (t ++ R) n = digE t n := by
 unfold digE; rw [List.drop_append_of_le_length hn, W1' (fun c hc => eA' (hR c hc))]
theorem OP' {ks l : Γ} {n : Nat} (h : sgn ks l n = true) : n < l.length := by
 unfold sgn at h
 cases hx : l[n]? with
 | none => rw [hx] at h; cases h
 | some c => exact (List.getElem?_eq_some_iff.1 hx).1
theorem P7' {t R : Γ} (hR : Stop R) {n : Nat} (hn : n <= t.length) : num3 (t ++ R) n = num3 t n := by
 unfold num3; rw [KI' hR δ hn]
 cases h : sgn [101, 69] t n with
 | false => rfl
 | true =>
  have hl := OP' h; rw [SN' hR δ ω, JI' hR (J3' ω)]
theorem PA' {t R : Γ} (hR : Stop R) {n : Nat} (hn : n <= t.length) : num2 (t ++ R) n = num2 t n := by
 unfold num2; rw [KI' hR δ hn, P7' hR hn]
 cases h : sgn [46] t n with
 | false => rfl
 | true =>
  have hl := OP' h; rw [JI' hR ω, P7' hR (GW' ω)]
theorem dY' {t R : Γ} (hR : Stop R) : num (t ++ R) = num t := by
 have h0 := J3' (ks := [45]) (Nat.zero_le t.length); unfold num; rw [SN' hR δ (Nat.zero_le _), KI' hR δ h0, JI' hR h0, PA' hR (GW' h0)]
 cases h : sgn [48] t (sgE [45] t 0) with
 | false => rfl
 | true =>
  have hl := OP' h; rw [PA' hR ω]
theorem T1' {t : Γ} (h : (num t).2 = true) : ∃ c r, t = c :: r /\ (c = 45 \/ isD c = true) := by
 cases t with
 | nil =>
  have : (num []).2 = false := δ
  rw [this] at h; cases h
 | cons c r =>
  refine ⟨c, r, rfl, ?_⟩
  by_cases h45 : c = 45
  ·exact .inl h45
  refine .inr ?_
  cases hd : isD c with
  | true => rfl
  | false =>
   exfalso
   have h1 : sgn [45] (c :: r) 0 = false := by
    show ([45] : Γ).contains c = false
    cases hh : ([45] : Γ).contains c with
    | false => rfl
    | true => rw [List.contains_iff_mem, List.mem_singleton] at hh; exact absurd hh h45
   have h2 : sgE [45] (c :: r) 0 = 0 := b8' h1
   have h3 : sgn [48] (c :: r) 0 = false := by
    show ([48] : Γ).contains c = false
    cases hh : ([48] : Γ).contains c with
    | false => rfl
    | true =>
     rw [List.contains_iff_mem, List.mem_singleton] at hh; rw [hh] at hd; exact absurd hd δ
   have h4 : digE (c :: r) 0 = 0 := PZ' (c := c) rfl hd; unfold num at h; rw [h2, h3, h4, if_neg δ, if_neg δ] at h; cases h
theorem EC' {l : Γ} {i : Nat} {c : UInt8} (h : l[i]? = some c) (hb : isBl c = false) : skB l i = i := by
 unfold skB; have hl := (List.getElem?_eq_some_iff.1 h).1; rw [List.drop_eq_getElem_cons hl, (List.getElem?_eq_some_iff.1 h).2, List.takeWhile_cons, hb]; rfl
theorem G5' {l : Γ} {i : Nat} {c : UInt8} (h : l[i]? = some c) (hb : isBl c = false) : sgA l i = some c := by
 unfold sgA; rw [EC' h hb, h]
def grO (l : Γ) : Nat -> Option (Bool -> Nat -> Rd Jv)
 | 0 => none
 | k + 1 => some (grP (valP l k) l)
theorem hZ' {l : Γ} {i k : Nat} {c : UInt8} (h : l[i]? = some c) (hb : isBl c = false) : valP l k i = atP (grO l k) l c i := by
 cases k with
 | zero => rw [valP, G5' h hb, EC' h hb]; rfl
 | succ k => rw [valP, G5' h hb, EC' h hb]; rfl
def Dp : Nat -> Jv -> Prop
 | 0, _ => False
 | d + 1, v => ∀ x ∈ v.list, Dp d x
theorem JAt.dp {C : Mem} : ∀ {d : Nat} {v : Jv} {r : Rj}, JAt C d v r -> Dp d v
 | 0, _, _, h => h.elim
 | d + 1, v, r, h => fun x hx => by
  obtain ⟨i, hi⟩ := List.getElem?_of_mem hx; obtain ⟨a, r', _, _, hj⟩ := h.2.1.2 i x hi; exact JAt.dp hj
theorem gS' {L : Nat} {v : Jv} {dep : Nat} (h : errJ (L + 1) v dep = 0) : errT v dep = 0 /\ errL (fun x => errJ L x (dep + 1)) (v.kind == 6) v.names 0 v.list = 0 := by
 rw [errJ] at h
 by_cases he : errT v dep = 0
 ·rw [if_neg (by rw [he]; decide)] at h; exact ⟨he, h⟩
 ·rw [if_pos he] at h; exact absurd h he
theorem ZA' {f : Jv -> Int} {obj : Bool} {names : List Δ} {j : Nat} {x : Jv} {xs : List Jv} (h : errL f obj names j (x :: xs) = 0) : (obj && hasN (names.take j) (names.getD j nil0)) = false /\ f x = 0 /\ errL f obj names (j + 1) xs = 0 := by
 rw [errL] at h; split at h
 ·cases h
 ·rename_i h1; split at h
  ·rename_i h2; exact absurd h h2
  ·rename_i h2
   refine ⟨by simpa using h1, by simpa using h2, h⟩
theorem NR' {f : Jv -> Int} {obj : Bool} {names : List Δ} : ∀ {xs : List Jv} {j : Nat}, errL f obj names j xs = 0 -> ∀ x ∈ xs, f x = 0
 | [], _, _, x, hx => by cases hx
 | y :: ys, j, h, x, hx => by
  obtain ⟨_, h2, h3⟩ := ZA' h
  rcases List.mem_cons.1 hx with rfl | hx
  ·exact h2
  ·exact NR' h3 x hx
inductive Right (dep : Nat) : Jv -> Prop where
 | nul : Right dep (.mk 1 0 nil0 [] [])
 | no : Right dep (.mk 2 0 nil0 [] [])
 | yes : Right dep (.mk 2 1 nil0 [] [])
 | num (t : Δ) (h : num (bts t) = (t.size, true)) : Right dep (.mk 3 0 t [] [])
 | text (t : Δ) : Right dep (.mk 4 0 t [] [])
 | list (l : List Jv) (h : dep <= 16) : Right dep (.mk 5 0 nil0 l [])
 | obj (l : List Jv) (ns : List Δ) (h : dep <= 16) (hl : ns.length = l.length) : Right dep (.mk 6 0 nil0 l ns)
theorem SE' {t : Δ} (h : txtN t = false) : t = nil0 := by
 unfold txtN at h; rw [Bool.not_eq_false'] at h
 have h1 : t.toList = [] := by simpa using h
 have h2 : t.data.toList = [] := by rw [<- Lib.toList_data]; exact h1
 exact GY' h2
theorem IE' {n : Nat} (h : posQ n = false) : n = 0 := by
 unfold posQ at h; have := of_decide_eq_false h; simp only [Z0] at this; omega
theorem Y7' {n : Int} (h : nzQ n = false) : n = 0 := by
 unfold nzQ at h; simpa using h
theorem ZO' {n : Nat} (h : LM' n = false) : n <= 16 := by
 unfold LM' at h; have := of_decide_eq_false h; simp only [Z0] at this; omega
theorem SU' {v : Jv} {dep : Nat} (h : errT v dep = 0) : Right dep v := by
 obtain ⟨kd, n, t, l, ns⟩ := v; have h : (if kd < 1 then (30 : Int) else if 6 < kd then 30 else errK kd.toNat n t l.length ns.length dep) = 0 := h
 by_cases h1 : kd < 1
 ·rw [if_pos h1] at h; cases h
 rw [if_neg h1] at h
 by_cases h2 : 6 < kd
 ·rw [if_pos h2] at h; cases h
 rw [if_neg h2] at h
 have h3 : kd = 1 \/ kd = 2 \/ kd = 3 \/ kd = 4 \/ kd = 5 \/ kd = 6 := ω
 have e32 : (32 : Int) ≠ 0 := δ
 have e8 : (8 : Int) ≠ 0 := δ
 rcases h3 with rfl | rfl | rfl | rfl | rfl | rfl
 ·have h : tt (nzQ n) 32 (tt (txtN t) 32 (tt (posQ l.length) 32 (tt (posQ ns.length) 32 0))) = 0 := h; obtain ⟨q1, h⟩ := tt_0 e32 h; obtain ⟨q2, h⟩ := tt_0 e32 h; obtain ⟨q3, h⟩ := tt_0 e32 h; obtain ⟨q4, _⟩ := tt_0 e32 h; obtain rfl := Y7' q1; obtain rfl := SE' q2; obtain rfl := List.eq_nil_of_length_eq_zero (IE' q3); obtain rfl := List.eq_nil_of_length_eq_zero (IE' q4); exact .nul
 ·have h : tt (decide (n < Int.ofNat 0)) 32 (tt (decide (n > Int.ofNat 1)) 32 (tt (txtN t) 32 (tt (posQ l.length) 32 (tt (posQ ns.length) 32 0)))) = 0 := h; obtain ⟨q0, h⟩ := tt_0 e32 h; obtain ⟨q1, h⟩ := tt_0 e32 h; obtain ⟨q2, h⟩ := tt_0 e32 h; obtain ⟨q3, h⟩ := tt_0 e32 h; obtain ⟨q4, _⟩ := tt_0 e32 h; have q0 := of_decide_eq_false q0; have q1 := of_decide_eq_false q1; simp only [Z0] at q0 q1; obtain rfl := SE' q2; obtain rfl := List.eq_nil_of_length_eq_zero (IE' q3); obtain rfl := List.eq_nil_of_length_eq_zero (IE' q4)
  have hn : n = 0 \/ n = 1 := ω
  rcases hn with rfl | rfl
  ·exact .no
  ·exact .yes
 ·have h : tt (nzQ n) 32 (tt (!(Js.num (bts t)).2) 32 (tt (Int.ofNat (Js.num (bts t)).1 != (t.size : Int)) 32 (tt (posQ l.length) 32 (tt (posQ ns.length) 32 0)))) = 0 := h; obtain ⟨q1, h⟩ := tt_0 e32 h; obtain ⟨q2, h⟩ := tt_0 e32 h; obtain ⟨q5, h⟩ := tt_0 e32 h; obtain ⟨q3, h⟩ := tt_0 e32 h; obtain ⟨q4, _⟩ := tt_0 e32 h; obtain rfl := Y7' q1; obtain rfl := List.eq_nil_of_length_eq_zero (IE' q3); obtain rfl := List.eq_nil_of_length_eq_zero (IE' q4); refine .num t (Prod.ext ?_ ?_)
  ·have : Int.ofNat (Js.num (bts t)).1 = (t.size : Int) := by simpa using q5
   simp only [Z0] at this; omega
  ·simpa using q2
 ·have h : tt (nzQ n) 32 (tt (posQ l.length) 32 (tt (posQ ns.length) 32 0)) = 0 := h; obtain ⟨q1, h⟩ := tt_0 e32 h; obtain ⟨q3, h⟩ := tt_0 e32 h; obtain ⟨q4, _⟩ := tt_0 e32 h; obtain rfl := Y7' q1; obtain rfl := List.eq_nil_of_length_eq_zero (IE' q3); obtain rfl := List.eq_nil_of_length_eq_zero (IE' q4); exact .text t
 ·have h : tt (LM' dep) 8 (tt (nzQ n) 32 (tt (txtN t) 32 (tt (posQ ns.length) 32 0))) = 0 := h; obtain ⟨q0, h⟩ := tt_0 e8 h; obtain ⟨q1, h⟩ := tt_0 e32 h; obtain ⟨q2, h⟩ := tt_0 e32 h; obtain ⟨q4, _⟩ := tt_0 e32 h; obtain rfl := Y7' q1; obtain rfl := SE' q2; obtain rfl := List.eq_nil_of_length_eq_zero (IE' q4); exact .list l (ZO' q0)
 ·have h : tt (LM' dep) 8 (tt (nzQ n) 32 (tt (txtN t) 32 (tt ((ns.length : Int) != (l.length : Int)) 32 0))) = 0 := h; obtain ⟨q0, h⟩ := tt_0 e8 h; obtain ⟨q1, h⟩ := tt_0 e32 h; obtain ⟨q2, h⟩ := tt_0 e32 h; obtain ⟨q4, _⟩ := tt_0 e32 h; obtain rfl := Y7' q1; obtain rfl := SE' q2; refine .obj l ns (ZO' q0) ?_
  have : (ns.length : Int) = (l.length : Int) := by simpa using q4
  omega
theorem OK' {L : Nat} {v : Jv} {dep : Nat} (h : Right dep v) : ∃ c r, B1' (L + 1) v = c :: r /\ isBl c = false /\ c ≠ 93 /\ c ≠ 125 := by
 cases h with
 | nul => exact ⟨110, _, rfl, by decide, by decide, by decide⟩
 | no => exact ⟨102, [97, 108, 115, 101], by kernel_rfl, by decide, by decide, by decide⟩
 | yes => exact ⟨116, [114, 117, 101], by kernel_rfl, by decide, by decide, by decide⟩
 | num t h =>
  obtain ⟨c, r, h1, h2⟩ := T1' (t := bts t) (by rw [h]); refine ⟨c, r, h1, ?_⟩
  rcases h2 with rfl | h2
  ·exact ⟨δ, by decide, by decide⟩
  ·rcases KL' h2 with rfl | rfl | rfl | rfl | rfl | rfl | rfl | rfl | rfl | rfl <;> exact ⟨δ, by decide, by decide⟩
 | text t => exact ⟨34, _, rfl, by decide, by decide, by decide⟩
 | list l h => exact ⟨91, _, rfl, by decide, by decide, by decide⟩
 | obj l ns h hl => exact ⟨123, _, rfl, by decide, by decide, by decide⟩
theorem QR' {l A R : Γ} {i : Nat} (h : l.drop i = A ++ R) : GB' l i A = true := by
 unfold GB'; rw [h, List.take_append_of_le_length (Yd), List.take_length]; exact beq_self_eq_true _
theorem gU' (f : Jv -> Γ) (names : List Δ) (j : Nat) (y : Jv) (ys : List Jv) : B3' f false names (j + 1) (y :: ys) = 44 :: (f y ++ B3' f false names (j + 1 + 1) ys) := by
 rw [B3', if_pos ω]; simp
theorem ZJ' (f : Jv -> Γ) (names : List Δ) (y : Jv) (ys : List Jv) : B3' f false names 0 (y :: ys) = f y ++ B3' f false names (0 + 1) ys := by
 rw [B3', if_neg ω]; simp
theorem gT' (f : Jv -> Γ) (names : List Δ) (j : Nat) (y : Jv) (ys : List Jv) : B3' f true names (j + 1) (y :: ys) = 44 :: (AZ' (bts (names.getD (j + 1) nil0)) ++ 58 :: (f y ++ B3' f true names (j + 1 + 1) ys)) := by
 rw [B3', if_pos ω]; simp
theorem ZI' (f : Jv -> Γ) (names : List Δ) (y : Jv) (ys : List Jv) : B3' f true names 0 (y :: ys) = AZ' (bts (names.getD 0 nil0)) ++ 58 :: (f y ++ B3' f true names (0 + 1) ys) := by
 rw [B3', if_neg ω]; simp
def nP' (V : Nat -> Rd Jv) (l : Γ) (f : Jv -> Γ) (xs : List Jv) : Prop := ∀ y ∈ xs, ∀ i R', l.drop i = f y ++ R' -> Stop R' -> V i = .ok y (i + (f y).length)
theorem NB' {c : UInt8} (h : UB' c = true) (R : Γ) : Stop (c :: R) := fun d hd => by cases hd; exact h
theorem DS' {l R : Γ} {i : Nat} {c : UInt8} (h : l.drop i = c :: R) : l[i]? = some c /\ l.drop (i + 1) = R /\ i < l.length := by
 have h1 : l[i]? = some c := by
  have := HK' (A := [c]) (B := R) h (j := 0) (by simp); exact this
 exact ⟨h1, BQ' (A := [c]) h, (List.getElem?_eq_some_iff.1 h1).1⟩
theorem lsP_w {V : Nat -> Rd Jv} {f : Jv -> Γ} {l R : Γ} {names : List Δ} : ∀ (xs : List Jv) (x : Jv) (j i fuel : Nat) (vs : List Jv), nP' V l f (x :: xs) -> l.length < fuel + i ->
  l.drop i = f x ++ (B3' f false names (j + 1) xs ++ 93 :: R) -> lsP V l fuel i vs = .ok (.mk 5 0 nil0 (vs ++ x :: xs) []) (i + (f x).length + (B3' f false names (j + 1) xs).length + 1)
 | xs, x, j, i, 0, vs, hV, hf, h => by
  have h1 := congrArg List.length h; simp only [List.length_drop, List.length_append, List.length_cons] at h1; omega
 | [], x, j, i, fuel + 1, vs, hV, hf, h => by
  rw [B3'] at h ⊢; have hv := hV x List.mem_cons_self i _ h (NB' δ _); obtain ⟨h1, h2, h3⟩ := DS' (BQ' h); rw [lsP, hv]; simp only [G5' h1 δ, EC' h1 δ]; rw [if_neg δ, if_pos trivial]; rfl
 | y :: ys, x, j, i, fuel + 1, vs, hV, hf, h => by
  rw [gU', List.cons_append] at h; rw [gU']; have hv := hV x List.mem_cons_self i _ h (NB' δ _); obtain ⟨h1, h2, h3⟩ := DS' (BQ' h); rw [lsP, hv]; simp only [G5' h1 δ, EC' h1 δ]; rw [if_pos trivial, List.append_assoc] at *; rw [lsP_w ys y (j + 1) (i + (f x).length + 1) fuel (vs ++ [x]) (fun z hz => hV z (List.mem_cons_of_mem _ hz)) ω h2, List.append_assoc]
  congr 1
  simp only [List.length_cons, List.length_append]; omega
theorem gN' (ns : List Δ) (t : Δ) : hasM ns t = hasN ns t := by
 unfold hasM hasN
 induction ns with
 | nil => rfl
 | cons a ns ih =>
  rw [List.map_cons, List.contains_cons, List.any_cons, ih]
  congr 1
  by_cases h : t = a
  ·rw [h, decide_eq_true rfl]; exact beq_self_eq_true _
  ·rw [decide_eq_false h]
   exact beq_eq_false_iff_ne.2 fun e => h (GY' e)
theorem MI' (T : Γ) : AZ' T = 34 :: (qL T ++ [34]) := rfl
theorem gC' {l R : Γ} {i : Nat} {ns : List Δ} {T : Δ} (hn : hasN ns T = false) (h : l.drop i = AZ' (bts T) ++ 58 :: R) : memP l i ns = .ok T (i + (AZ' (bts T)).length + 1) := by
 have h0 : l[i]? = some 34 := by
  rw [MI', List.cons_append] at h; exact (DS' h).1
 have ht := fT' h; obtain ⟨h1, h2, h3⟩ := DS' (BQ' h); unfold memP; simp only [G5' h0 δ, EC' h0 δ]; rw [if_pos trivial, ht]; simp only [gN', hn, G5' h1 δ, EC' h1 δ]; rfl
theorem W5' {names : List Δ} {j : Nat} (h : j < names.length) : names.take j ++ [names.getD j nil0] = names.take (j + 1) := by
 rw [List.take_add_one, List.getD_eq_getElem?_getD, List.getElem?_eq_getElem h]; rfl
theorem obP_w {V : Nat -> Rd Jv} {f : Jv -> Γ} {g : Jv -> Int} {l R : Γ} {names : List Δ} : ∀ (xs : List Jv) (x : Jv) (j i fuel : Nat) (vs : List Jv), nP' V l f (x :: xs) -> l.length < fuel + i -> j + (x :: xs).length = names.length -> errL g true names j (x :: xs) = 0 ->
  l.drop i = AZ' (bts (names.getD j nil0)) ++ 58 :: (f x ++ (B3' f true names (j + 1) xs ++ 125 :: R)) -> obP V l fuel i vs (names.take j) = .ok (.mk 6 0 nil0 (vs ++ x :: xs) names) (i + (AZ' (bts (names.getD j nil0))).length + 1 + (f x).length + (B3' f true names (j + 1) xs).length + 1)
 | xs, x, j, i, 0, vs, hV, hf, hl, hE, h => by
  have h1 := congrArg List.length h; simp only [List.length_drop, List.length_append, List.length_cons] at h1; omega
 | [], x, j, i, fuel + 1, vs, hV, hf, hl, hE, h => by
  rw [B3'] at h ⊢; obtain ⟨e1, e2, e3⟩ := ZA' hE; rw [Bool.true_and] at e1; simp only [List.length_cons, List.length_nil] at hl; have hm := gC' e1 h; obtain ⟨g1, g2, g3⟩ := DS' (BQ' h); have hv := hV x List.mem_cons_self _ _ g2 (NB' δ _); obtain ⟨h1, h2, h3⟩ := DS' (BQ' g2); rw [obP, hm]; simp only [hv, G5' h1 δ, EC' h1 δ]; rw [if_neg δ, if_pos trivial, W5' ω, List.take_of_length_le ω]; rfl
 | y :: ys, x, j, i, fuel + 1, vs, hV, hf, hl, hE, h => by
  rw [gT', List.cons_append] at h; rw [gT']; obtain ⟨e1, e2, e3⟩ := ZA' hE; rw [Bool.true_and] at e1; simp only [List.length_cons] at hl; have hm := gC' e1 h; obtain ⟨g1, g2, g3⟩ := DS' (BQ' h); have hv := hV x List.mem_cons_self _ _ g2 (NB' δ _); obtain ⟨h1, h2, h3⟩ := DS' (BQ' g2); rw [obP, hm]; simp only [hv, G5' h1 δ, EC' h1 δ]; rw [if_pos trivial, W5' ω]; rw [List.append_assoc, List.cons_append, List.append_assoc] at h2; rw [obP_w ys y (j + 1) _ fuel (vs ++ [x]) (fun z hz => hV z (List.mem_cons_of_mem _ hz)) ω (by simp only [List.length_cons]; omega) e3 h2, List.append_assoc]
  congr 1
  simp only [List.length_cons, List.length_append]; omega
theorem fP' : ∀ (L : Nat) (v : Jv) (k dep i : Nat) (l R : Γ), Dp L v -> errJ L v dep = 0 -> dep + k = 17 -> l.drop i = B1' L v ++ R -> Stop R -> valP l k i = .ok v (i + (B1' L v).length)
 | 0, v, k, dep, i, l, R, hD, hE, hk, h, hR => hD.elim
 | L + 1, v, k, dep, i, l, R, hD, hE, hk, h, hR => by
  obtain ⟨e1, e2⟩ := gS' hE; have hr := SU' e1; obtain ⟨c, r, ht, hb, _, _⟩ := OK' (L := L) hr
  have h0 : l[i]? = some c := by rw [ht, List.cons_append] at h; exact (DS' h).1
  rw [hZ' h0 hb]; clear hb
  have ih : ∀ k', dep + 1 + k' = 17 -> ∀ xs : List Jv, (∀ x ∈ xs, Dp L x) -> (∀ x ∈ xs, errJ L x (dep + 1) = 0) -> nP' (valP l k') l (B1' L) xs := fun k' hk' xs h1 h2 x hx i' R' hd hs => fP' L x k' (dep + 1) i' l R' (h1 x hx) (h2 x hx) hk' hd hs
  cases hr with
  | nul =>
   have ht' : B1' (L + 1) (.mk 1 0 nil0 [] []) = [110, 117, 108, 108] := rfl; rw [ht'] at ht h ⊢; obtain rfl := (List.cons.inj ht).1; unfold atP; rw [if_neg δ, if_neg δ, if_neg δ, if_neg δ, if_pos rfl, QR' h, if_pos rfl]; rfl
  | no =>
   have ht' : B1' (L + 1) (.mk 2 0 nil0 [] []) = [102, 97, 108, 115, 101] := χ
   rw [ht'] at ht h ⊢; obtain rfl := (List.cons.inj ht).1; unfold atP; rw [if_neg δ, if_neg δ, if_neg δ, if_pos rfl, QR' h, if_pos rfl]; rfl
  | yes =>
   have ht' : B1' (L + 1) (.mk 2 1 nil0 [] []) = [116, 114, 117, 101] := χ
   rw [ht'] at ht h ⊢; obtain rfl := (List.cons.inj ht).1; unfold atP; rw [if_neg δ, if_neg δ, if_pos rfl, QR' h, if_pos rfl]; rfl
  | num t hn =>
   have ht' : B1' (L + 1) (.mk 3 0 t [] []) = bts t := rfl; rw [ht'] at ht h ⊢; obtain ⟨c', r', q1, q2⟩ := T1' (t := bts t) (by rw [hn]); rw [ht] at q1; obtain rfl := (List.cons.inj q1).1
   have hne : ¬ (c = 123 \/ c = 91) /\ c ≠ 34 /\ c ≠ 116 /\ c ≠ 102 /\ c ≠ 110 := by
    rcases q2 with rfl | q2
    ·decide
    ·rcases KL' q2 with rfl | rfl | rfl | rfl | rfl | rfl | rfl | rfl | rfl | rfl <;> decide
   unfold atP; rw [if_neg hne.1, if_neg hne.2.1, if_neg hne.2.2.1, if_neg hne.2.2.2.1, if_neg hne.2.2.2.2, if_pos q2, NK', h, dY' hR, hn]; simp only [if_true]
   congr 1
   rw [Nat.add_sub_cancel_left, show t.size = (bts t).length from rfl, List.take_append_of_le_length (Yd), List.take_of_length_le (Yd), W6']; rfl
  | text t =>
   have ht' : B1' (L + 1) (.mk 4 0 t [] []) = AZ' (bts t) := rfl; rw [ht'] at ht h ⊢; obtain rfl := (List.cons.inj ht).1; unfold atP; rw [if_neg δ, if_pos rfl, fT' h]; rfl
  | list xs hd =>
   have ht' : B1' (L + 1) (.mk 5 0 nil0 xs []) = 91 :: (B3' (B1' L) false [] 0 xs ++ [93]) := rfl; rw [ht'] at ht h ⊢; obtain rfl := (List.cons.inj ht).1
   obtain ⟨k, rfl⟩ : ∃ m, k = m + 1 := ⟨k - 1, by omega⟩
   obtain ⟨_, h1, _⟩ := DS' h; have h1 : l.drop (i + 1) = (B3' (B1' L) false [] 0 xs ++ [93]) ++ R := h1; unfold atP; rw [if_pos δ]; show grP (valP l k) l ((91 : UInt8) == 123) (i + 1) = _; unfold grP
   cases xs with
   | nil =>
    rw [B3', List.nil_append] at h1 ⊢; obtain ⟨g1, _, _⟩ := DS' h1; simp only [G5' g1 δ, EC' g1 δ]; rfl
   | cons x xs =>
    have e3 := NR' e2
    have hx := OK' (L := L - 1) (SU' (v := x) (dep := dep + 1) (by
     have := e3 x List.mem_cons_self
     cases L with
     | zero => exact (hD x List.mem_cons_self).elim
     | succ L => exact (gS' this).1))
    obtain ⟨c, r, hc, hcb, hc1, hc2⟩ := hx
    have hL : L - 1 + 1 = L := by
     cases L with
     | zero => exact (hD x List.mem_cons_self).elim
     | succ L => rfl
    rw [hL] at hc; rw [ZJ', List.append_assoc] at h1; have hlen := ZJ' (B1' L) [] x xs
    have g1 : l[i + 1]? = some c := by
     have h1' := h1; rw [hc, List.append_assoc, List.cons_append] at h1'; exact (DS' h1').1
    have h1 : l.drop (i + 1) = B1' L x ++ (B3' (B1' L) false [] (0 + 1) xs ++ 93 :: R) := by
     rw [h1]; simp [List.append_assoc]
    have key := lsP_w (V := valP l k) xs x 0 (i + 1) (l.length + 1) [] (ih k ω _ hD e3) ω h1; simp only [G5' g1 hcb, EC' g1 hcb]; show (if c = 93 then _ else _) = _; rw [if_neg hc1, key, hlen]
    congr 1
    simp only [List.length_cons, List.length_append, List.length_nil]; omega
  | obj xs ns hd hl =>
   have ht' : B1' (L + 1) (.mk 6 0 nil0 xs ns) = 123 :: (B3' (B1' L) true ns 0 xs ++ [125]) := rfl; rw [ht'] at ht h ⊢; obtain rfl := (List.cons.inj ht).1
   obtain ⟨k, rfl⟩ : ∃ m, k = m + 1 := ⟨k - 1, by omega⟩
   obtain ⟨_, h1, _⟩ := DS' h; have h1 : l.drop (i + 1) = (B3' (B1' L) true ns 0 xs ++ [125]) ++ R := h1; unfold atP; rw [if_pos δ]; show grP (valP l k) l ((123 : UInt8) == 123) (i + 1) = _; unfold grP
   cases xs with
   | nil =>
    rw [B3', List.nil_append] at h1 ⊢; obtain ⟨g1, _, _⟩ := DS' h1; simp only [G5' g1 δ, EC' g1 δ]; obtain rfl := List.eq_nil_of_length_eq_zero hl; rfl
   | cons x xs =>
    have e3 := NR' e2
    have h1 : l.drop (i + 1) = AZ' (bts (ns.getD 0 nil0)) ++ 58 :: (B1' L x ++ (B3' (B1' L) true ns (0 + 1) xs ++ 125 :: R)) := by
     rw [h1, ZI']; simp [List.append_assoc]
    have g1 : l[i + 1]? = some 34 := by
     have h1' := h1; rw [MI', List.cons_append] at h1'; exact (DS' h1').1
    have key := obP_w (V := valP l k) (g := fun x => errJ L x (dep + 1)) (names := ns) xs x 0 (i + 1) (l.length + 1) [] (ih k ω _ hD e3) ω (by rw [hl, Nat.zero_add]) (show errL (fun x => errJ L x (dep + 1)) true ns 0 (x :: xs) = 0 from e2) h1; simp only [G5' g1 δ, EC' g1 δ]; show (if (34 : UInt8) = 125 then _ else _) = _; have hlen := ZI' (B1' L) ns x xs; rw [if_neg δ, show ([] : List Δ) = ns.take 0 from rfl, key, hlen]
    congr 1
    simp only [List.length_cons, List.length_append, List.length_nil]; omega
open Go.RowKit
noncomputable section
abbrev fLb : Nat := 5
abbrev fSpk : Nat := 7
def cSpk : List AV -> Option (AP AV) := mkC (fun _ => .ret ()) (fun _ => True) (fun _ k => k) (fun _ => []) (fun _ => []) (fun _ => .leaf .ret [bv true] [])
def vErr (e : Int) : AV := .tuple [aV 0 0 nil0 nilS nilS, iv e]
def vWrt (s : Δ) : AV := .tuple [sv s, iv 0]
def cPe (P : Δ -> Prop) (e : Int) : List AV -> Option (AP AV) := mkC gS1 P (fun _ k => k) (fun q => [sv q]) (fun _ => []) (fun _ => .leaf .ret [vErr e] [])
def cPa (P : Δ -> Prop) (k n : Int) (t : Δ) (LV NV : AV) (OL ON : AO) : List AV -> Option (AP AV) :=
 mkC gS1 P (fun _ k => k) (fun q => [sv q]) (fun _ => []) (fun _ => .leaf .ret [.tuple [aV k n t LV NV, iv 0]] [(1006, OL), (1007, ON)])
def cPb (P : Δ -> Prop) (b : Δ -> Bool) (k n : Int) (t : Δ) (LV NV : AV) (OL ON : AO) : List AV -> Option (AP AV) :=
 mkC gS1 P (fun _ k => k) (fun q => [sv q]) (fun _ => []) (fun q => .ite (b q) (.leaf .ret [vErr 1] []) (.leaf .ret [.tuple [aV k n t LV NV, iv 0]] [(1006, OL), (1007, ON)]))
def gW1 : List AV -> AP Nat := fun args => match args with
 | [.agg [_, _, _, .slice a _ _ _ _, _]] => .ret a
 | _ => .fail "a value"
def gW2 : List AV -> AP (Nat × Nat) := fun args => match args with
 | [.agg [_, _, _, .slice a _ _ _ _, .slice b _ _ _ _]] => .ret (a, b)
 | _ => .fail "a value"
def nmW2 (q : Nat × Nat) : Nat -> Nat := fun k => match Nat.beq k 0 with
 | true => q.1
 | false => q.2
def oO2 (d : Nat) (l : List Jv) (ns : List Δ) : LH := [(0, ownJ d l), (1, rS ns)]
def cWp (k n : Int) (t t' : Δ) : List AV -> Option (AP AV) := mkC (fun _ => .ret ()) (fun _ => True) (fun _ k => k) (fun _ => [aV k n t nilS nilS]) (fun _ => []) (fun _ => .leaf .ret [vWrt t'] [])
def cWl (k n : Int) (t t' : Δ) (m d : Nat) (l : List Jv) : List AV -> Option (AP AV) := mkC gW1 (fun _ => True) (fun a _ => a) (fun _ => [aV k n t (sL5 0 m) nilS]) (fun _ => [(0, ownJ d l)]) (fun _ => .leaf .ret [vWrt t'] [(0, ownJ d l)])
def cWo (k n : Int) (t t' : Δ) (m m2 d : Nat) (l : List Jv) (ns : List Δ) : List AV -> Option (AP AV) := mkC gW2 (fun _ => True) nmW2 (fun _ => [aV k n t (sL5 0 m) (sS1 1 m2)]) (fun _ => oO2 d l ns) (fun _ => .leaf .ret [vWrt t'] (oO2 d l ns))
def gS2 : List AV -> AP (Nat × Nat) := fun args => match args with
 | [.agg [_, _, _, .slice a _ _ _ _, _], .agg [_, _, _, .slice b _ _ _ _, _]] => .ret (a, b)
 | _ => .fail "two values"
def gS4 : List AV -> AP (Nat × Nat × Nat × Nat) := fun args => match args with
 | [.agg [_, _, _, .slice a _ _ _ _, .slice b _ _ _ _], .agg [_, _, _, .slice c _ _ _ _, .slice d _ _ _ _]] => .ret (a, b, c, d)
 | _ => .fail "two values"
def nmS4 (q : Nat × Nat × Nat × Nat) : Nat -> Nat := fun k => match k with
 | 0 => q.1
 | 1 => q.2.1
 | 2 => q.2.2.1
 | _ => q.2.2.2
def oS2 (d : Nat) (l : List Jv) : LH := [(0, ownJ d l), (1, ownJ d l)]
def oS4 (d : Nat) (l : List Jv) (ns : List Δ) : LH := [(0, ownJ d l), (1, rS ns), (2, ownJ d l), (3, rS ns)]
def cSp (k n : Int) (t : Δ) : List AV -> Option (AP AV) := mkC (fun _ => .ret ()) (fun _ => True) (fun _ k => k) (fun _ => [aV k n t nilS nilS, aV k n t nilS nilS]) (fun _ => []) (fun _ => .leaf .ret [bv true] [])
def cSl (k n : Int) (t : Δ) (m d : Nat) (l : List Jv) : List AV -> Option (AP AV) := mkC gS2 (fun _ => True) nmW2 (fun _ => [aV k n t (sL5 0 m) nilS, aV k n t (sL5 1 m) nilS]) (fun _ => oS2 d l) (fun _ => .leaf .ret [bv true] (oS2 d l))
def cSo (k n : Int) (t : Δ) (m m2 d : Nat) (l : List Jv) (ns : List Δ) : List AV -> Option (AP AV) := mkC gS4 (fun _ => True) nmS4 (fun _ => [aV k n t (sL5 0 m) (sS1 1 m2), aV k n t (sL5 2 m) (sS1 3 m2)]) (fun _ => oS4 d l ns) (fun _ => .leaf .ret [bv true] (oS4 d l ns))
def hLb (b : Bool) : AX' := AD' [hf' fLb 1 1, (fLb, 4, 1, hv (.lit b)), hf' fLb 7 1, hf' fLb 10 2, ht' fLb 10 5]
def hLg : AX' := AD' [hf' fLb 1 1, hf' fLb 4 1, hf' fLb 7 1, ht' fLb 10 2]
abbrev k244' : Cnd := (ee' [i' 0,i' 0,s' nil0,e',e'])
abbrev mH' (q0 : Δ -> Prop) (q1 : Δ) (z : Cnd) : Cnd := (((p' True).a (f' (VW [] []))).a ((f' (Wk (b' false) g')).a (((p' (q0 q1)).a (f' (VW [s' q1] [s' q1]))).a ((fe' true).a z))))
theorem lA' (W : World) (P : Δ -> Prop) (s : Δ) (e : Int) (F : HP) : wRun [(fSpk, cSpk), (fPar, cPe P e), (fSa, cSp 0 0 nil0)] (hLb true) [] W fLb [sv s] [] [] F = VT.leaf (b' true) [] 1101 (mH' P s ((wb' (e != Int.ofNat 0) j').a (k244'.a (((Cnd.p True).a (f' (VW [AV.agg [i' 0,i' 0,s' nil0,e',e'],AV.agg [i' 0,i' 0,s' y9',e',e']] [AV.agg [i' 0,i' 0,s' nil0,e',e'],AV.agg [i' 0,i' 0,s' nil0,e',e']]))).a k1')))) := χ
abbrev mG' (q0 : Δ -> Prop) (q1 : Δ) (z : Cnd) : Cnd := ((f' (Wk (b' false) g')).a (((p' (q0 q1)).a (f' (VW [s' q1] [s' q1]))).a ((fe' true).a z)))
abbrev mF' (q0 : Δ -> Prop) (q1 : Δ) (q2 q3 : Int) (q4 : Δ) (z : Cnd) : Cnd := (((p' True).a (f' (VW [] []))).a ((f' (Wk (b' false) g')).a (((p' (q0 q1)).a (f' (VW [s' q1] [s' q1]))).a ((fe' true).a ((f' (Wk (b' false) g')).a ((ee' [z' q2,z' q3,s' q4,e',e']).a (((p' True).a (f' (VW [AV.agg [z' q2,z' q3,s' q4,e',e']] [AV.agg [z' q2,z' q3,s' q4,e',e']]))).a z)))))))
theorem l7' (W : World) (P : Δ -> Prop) (s t' : Δ) (k n : Int) (t : Δ) (F : HP) : wRun [(fSpk, cSpk), (fPar, cPa P k n t nilS nilS dum dum), (fWr, cWp k n t t'), (fSa, cSp k n t)] (hLb false) [] W fLb [sv s] [] [] F = VT.leaf (b' true) [] 1106 (mF' P s k n t (mG' P t' ((k217' t').a (k86'.a ((k211' k n t).a ((k211' k n t).a (((Cnd.p True).a (f' (VW [AV.agg [z' k,z' n,s' t,e',e'],AV.agg [z' k,z' n,s' t,e',e']] [AV.agg [z' k,z' n,s' t,e',e'],AV.agg [z' k,z' n,s' t,e',e']]))).a k1'))))))) := χ
abbrev PO' (q0 : Δ -> Prop) (q1 : Δ) (z : Cnd) : Cnd := ((f' (Wk (b' false) g')).a (((p' (q0 q1)).a (f' (VW [s' q1] [s' q1]))).a ((fe' true).a ((wb' (decide (↑q1.size > Int.ofNat 65536)) j').a z))))
abbrev k249' (q0 q1 : Int) (q2 : Δ) : Cnd := ((p' True).a (f' (VW [AV.agg [i' 0,i' 0,s' nil0,e',e']] [AV.agg [z' q0,z' q1,s' q2,e',e']])))
abbrev k250' : Cnd := (f' (Wk (b' true) g'))
theorem l4' (W : World) (P : Δ -> Prop) (b : Δ -> Bool) (s t' : Δ) (k n : Int) (t : Δ) (F : HP) : wRun [(fSpk, cSpk), (fPar, cPb P b k n t nilS nilS dum dum), (fWr, cWp k n t t')] hLg [] W fLb [sv s] [] [] F = VT.ite (b s) (VT.ite (b t') (VT.leaf (b' true) [] 1102 (mH' P s (k250'.a (k244'.a ((k249' k n t).a (PO' P t' k1')))))) (VT.leaf (b' true) [] 1104 (mH' P s (k250'.a (k244'.a ((k249' k n t).a (PO' P t' k1'))))))) (VT.ite (b t') (VT.leaf (b' true) [] 1104 (mF' P s k n t (PO' P t' k1'))) (VT.leaf (b' true) [] 1106 (mF' P s k n t (PO' P t' k1')))) := χ
abbrev mE' (q0 : Δ -> Prop) (q1 : Δ) (q2 q3 : Int) (q4 : Δ) (q5 q6 : Nat) (z : Cnd) : Cnd := (((p' True).a (f' (VW [] []))).a ((f' (Wk (b' false) g')).a (((p' (q0 q1)).a (f' (VW [s' q1] [s' q1]))).a ((fe' true).a ((f' (Wk (b' false) g')).a ((ee' [z' q2,z' q3,s' q4,AV.slice q5 0 q6 5 (Cp.lo q6),e']).a z))))))
theorem l9' (W : World) (P : Δ -> Prop) (s t' : Δ) (k n : Int) (t : Δ) (m d : Nat) (l : List Jv) (F : HP) : wRun [(fSpk, cSpk), (fPar, cPa P k n t (sL5 1006 m) nilS (ownJ d l) dum), (fWr, cWl k n t t' m d l), (fSa, cSl k n t m d l)] (hLb false) [] W fLb [sv s] [] [] F = VT.leaf (b' true) [] 1106 (mE' P s k n t 1100 m (((Cnd.p True).a ((vw' [AV.agg [z' k,z' n,s' t,AV.slice 1100 0 m 5 (Cp.lo m),e']]).a (f' (OW (AO.own mdJ fun b x => Tree.frz fun C => LOf (JAt C d) C (some (Addr.mk b 0 none)) l) (AO.own mdJ fun b x => Tree.frz fun C => LOf (JAt C d) C (some (Addr.mk b 0 none)) l))))).a (mG' P t' ((k217' t').a (k86'.a ((k215' k n t 1100 m).a ((k215' k n t 1103 m).a (((Cnd.p True).a ((vw' [AV.agg [z' k,z' n,s' t,AV.slice 1100 0 m 5 (Cp.lo m),e'],AV.agg [z' k,z' n,s' t,AV.slice 1103 0 m 5 (Cp.lo m),e']]).a ((ow' (AO.own mdJ fun b x => Tree.frz fun C => LOf (JAt C d) C (some (Addr.mk b 0 none)) l)).a (f' (OW (AO.own mdJ fun b x => Tree.frz fun C => LOf (JAt C d) C (some (Addr.mk b 0 none)) l) (AO.own mdJ fun b x => Tree.frz fun C => LOf (JAt C d) C (some (Addr.mk b 0 none)) l)))))).a k1')))))))) := χ
abbrev k252' (q0 q1 : Int) (q2 : Δ) (q3 q4 : Nat) (q5 : Δ -> Bool) (q6 : Nat) (q7 : List Jv) : Cnd := ((p' True).a ((vw' [AV.agg [z' q0,z' q1,s' q2,AV.slice q3 0 q4 5 (Cp.lo q4),e']]).a (f' (OW (AO.own mdJ fun q5 x => Tree.frz fun C => LOf (JAt C q6) C (some (Addr.mk q5 0 none)) q7) (AO.own mdJ fun q5 x => Tree.frz fun C => LOf (JAt C q6) C (some (Addr.mk q5 0 none)) q7)))))
theorem l6' (W : World) (P : Δ -> Prop) (b : Δ -> Bool) (s t' : Δ) (k n : Int) (t : Δ) (m d : Nat) (l : List Jv) (F : HP) : wRun [(fSpk, cSpk), (fPar, cPb P b k n t (sL5 1006 m) nilS (ownJ d l) dum), (fWr, cWl k n t t' m d l)] hLg [] W fLb [sv s] [] [] F = VT.ite (b s) (VT.bad "a value") (VT.ite (b t') (VT.leaf (b' true) [] 1104 (mE' P s k n t 1100 m ((k252' k n t 1100 m b d l).a (PO' P t' k1')))) (VT.leaf (b' true) [] 1106 (mE' P s k n t 1100 m ((k252' k n t 1100 m b d l).a (PO' P t' k1'))))) := χ
abbrev mD' (q0 : Δ -> Prop) (q1 : Δ) (q2 q3 : Int) (q4 : Δ) (q5 q6 q7 q8 : Nat) (z : Cnd) : Cnd := (((p' True).a (f' (VW [] []))).a ((f' (Wk (b' false) g')).a (((p' (q0 q1)).a (f' (VW [s' q1] [s' q1]))).a ((fe' true).a ((f' (Wk (b' false) g')).a ((ee' [z' q2,z' q3,s' q4,AV.slice q5 0 q6 5 (Cp.lo q6),AV.slice q7 0 q8 1 (Cp.lo q8)]).a z))))))
theorem l8' (W : World) (P : Δ -> Prop) (s t' : Δ) (k n : Int) (t : Δ) (m m2 d : Nat) (l : List Jv) (ns : List Δ) (F : HP) : wRun [(fSpk, cSpk), (fPar, cPa P k n t (sL5 1006 m) (sS1 1007 m2) (ownJ d l) (rS ns)), (fWr, cWo k n t t' m m2 d l ns), (fSa, cSo k n t m m2 d l ns)] (hLb false) [] W fLb [sv s] [] [] F = VT.leaf (b' true) [] 1106 (mD' P s k n t 1100 m 1101 m2 (((Cnd.p True).a ((vw' [AV.agg [z' k,z' n,s' t,AV.slice 1100 0 m 5 (Cp.lo m),AV.slice 1101 0 m2 1 (Cp.lo m2)]]).a ((ow' (AO.own mdJ fun b x => Tree.frz fun C => LOf (JAt C d) C (some (Addr.mk b 0 none)) l)).a (f' (OW (AO.cells (AV.rens (sgN (fun k => k) [1006,1007] 1100) (rowV encS ns)) 18) (AO.cells (AV.rens (nmW2 (1100,1101)) (rowV encS ns)) 18)))))).a (mG' P t' ((k217' t').a (k86'.a ((k216' k n t 1100 m 1101 m2).a ((k216' k n t 1103 m 1104 m2).a (((Cnd.p True).a ((vw' [AV.agg [z' k,z' n,s' t,AV.slice 1100 0 m 5 (Cp.lo m),AV.slice 1101 0 m2 1 (Cp.lo m2)],AV.agg [z' k,z' n,s' t,AV.slice 1103 0 m 5 (Cp.lo m),AV.slice 1104 0 m2 1 (Cp.lo m2)]]).a ((ow' (AO.own mdJ fun b x => Tree.frz fun C => LOf (JAt C d) C (some (Addr.mk b 0 none)) l)).a ((p' (OW (AO.cells (AV.rens (sgN (nmW2 (1100,1101)) [] 0) (rowV encS ns)) 18) (AO.cells (AV.rens (nmS4 (1100,1101,1103,1104)) (rowV encS ns)) 18))).a ((ow' (AO.own mdJ fun b x => Tree.frz fun C => LOf (JAt C d) C (some (Addr.mk b 0 none)) l)).a (f' (OW (AO.cells (AV.rens (sgN (fun k => k) [1006,1007] 1103) (rowV encS ns)) 18) (AO.cells (AV.rens (nmS4 (1100,1101,1103,1104)) (rowV encS ns)) 18)))))))).a k1')))))))) := χ
abbrev k254' (q0 q1 : Int) (q2 : Δ) (q3 q4 q5 q6 : Nat) (q7 : Δ -> Bool) (q8 : Nat) (q9 : List Jv) (q10 q11 : Nat) (q12 : List Δ) : Cnd := ((p' True).a ((vw' [AV.agg [z' q0,z' q1,s' q2,AV.slice q3 0 q4 5 (Cp.lo q4),AV.slice q5 0 q6 1 (Cp.lo q6)]]).a ((ow' (AO.own mdJ fun q7 x => Tree.frz fun C => LOf (JAt C q8) C (some (Addr.mk q7 0 none)) q9)).a (f' (OW (AO.cells (AV.rens (sgN (fun q0 => q0) [q10,q11] q3) (rowV encS q12)) 18) (AO.cells (AV.rens (nmW2 (q3,q5)) (rowV encS q12)) 18))))))
theorem l5' (W : World) (P : Δ -> Prop) (b : Δ -> Bool) (s t' : Δ) (k n : Int) (t : Δ) (m m2 d : Nat) (l : List Jv) (ns : List Δ) (F : HP) : wRun [(fSpk, cSpk), (fPar, cPb P b k n t (sL5 1006 m) (sS1 1007 m2) (ownJ d l) (rS ns)), (fWr, cWo k n t t' m m2 d l ns)] hLg [] W fLb [sv s] [] [] F = VT.ite (b s) (VT.bad "a value") (VT.ite (b t') (VT.leaf (b' true) [] 1104 (mD' P s k n t 1100 m 1101 m2 ((k254' k n t 1100 m 1101 m2 b d l 1006 1007 ns).a (PO' P t' k1')))) (VT.leaf (b' true) [] 1106 (mD' P s k n t 1100 m 1101 m2 ((k254' k n t 1100 m 1101 m2 b d l 1006 1007 ns).a (PO' P t' k1'))))) := χ
end
theorem W0' {p : UInt8 -> Bool} : ∀ (L : Γ) (q : Nat), (L.takeWhile p).length <= q -> (L.take q).takeWhile p = L.takeWhile p
 | [], q, h => by simp
 | a :: L, 0, h => by
  rw [List.takeWhile_cons] at h ⊢; split at h
  ·simp at h
  ·rename_i hp; rw [if_neg hp]; rfl
 | a :: L, q + 1, h => by
  rw [List.take_succ_cons, List.takeWhile_cons, List.takeWhile_cons]; rw [List.takeWhile_cons] at h; split
  ·rename_i hp; rw [if_pos hp, List.length_cons] at h; rw [W0' L q ω]
  ·rfl
theorem LK' {l : Γ} {m n : Nat} (hm : m <= n) (h : digE l m <= n) : digE (l.take n) m = digE l m := by
 unfold digE at h ⊢; rw [List.drop_take, W0' _ _ ω]
theorem H5' {ks l : Γ} {m n : Nat} (h : m < n) : sgn ks (l.take n) m = sgn ks l m := by
 unfold sgn; rw [List.getElem?_take_of_lt h]
theorem SL' {ks l : Γ} {m n : Nat} (h : n <= m) : sgn ks (l.take n) m = false := by
 unfold sgn; rw [List.getElem?_eq_none (by rw [List.length_take]; omega)]
theorem SM' {ks l : Γ} {m n : Nat} (h : m < n) : sgE ks (l.take n) m = sgE ks l m := by
 unfold sgE; rw [H5' h]
theorem P6' {l : Γ} {m n : Nat} (hm : m <= n) (h : num3 l m = (n, true)) : num3 (l.take n) m = (n, true) := by
 unfold num3 at h ⊢
 cases hs : sgn [101, 69] l m with
 | false =>
  rw [hs, if_neg δ] at h; have hmn : m = n := congrArg Prod.fst h; rw [SL' ω, if_neg δ, hmn]
 | true =>
  rw [hs, if_pos rfl] at h; have h1 := congrArg Prod.fst h; have h2 := of_decide_eq_true (congrArg Prod.snd h); simp only at h1 h2; have h3 := WE' [43, 45] l (m + 1); rw [h1] at h2; rw [H5' ω, hs, if_pos rfl, SM' ω, LK' ω ω, h1, decide_eq_true h2]
theorem P9' {l : Γ} {m n : Nat} (hm : m <= n) (hn : n <= l.length) (h : num2 l m = (n, true)) : num2 (l.take n) m = (n, true) := by
 unfold num2 at h ⊢
 cases hs : sgn [46] l m with
 | false =>
  rw [hs, if_neg δ] at h
  have h0 : sgn [46] (l.take n) m = false := by
   by_cases hmn : m < n
   ·rw [H5' hmn, hs]
   ·exact SL' ω
  rw [h0, if_neg δ]; exact P6' hm h
 | true =>
  rw [hs, if_pos rfl] at h; have hl := OP' hs
  by_cases hd : m + 1 < digE l (m + 1)
  ·rw [if_pos hd] at h; have hb := Y9' (GW' (n := m + 1) (l := l) ω); rw [h] at hb; simp only at hb; rw [H5' ω, hs, if_pos rfl, LK' ω ω, if_pos hd]; exact P6' ω h
  ·rw [if_neg hd] at h; cases congrArg Prod.snd h
theorem dX' {l : Γ} {n : Nat} (h : num l = (n, true)) : num (l.take n) = (n, true) := by
 have hb := m0' (l := l); rw [h] at hb; simp only at hb; have hn0 := hb.2 trivial; have h0 := J3' (ks := [45]) (Nat.zero_le l.length); have hs0 : sgE [45] (l.take n) 0 = sgE [45] l 0 := SM' hn0; unfold num at h ⊢; rw [hs0]
 cases hs : sgn [48] l (sgE [45] l 0) with
 | true =>
  rw [hs, if_pos rfl] at h; have hl := OP' hs; have hb := T4' (l := l) (n := sgE [45] l 0 + 1) ω; rw [h] at hb; simp only at hb; rw [H5' ω, hs, if_pos rfl]; exact P9' ω ω h
 | false =>
  rw [hs, if_neg δ] at h
  by_cases hd : sgE [45] l 0 < digE l (sgE [45] l 0)
  ·rw [if_pos hd] at h; have hdl := GW' h0; have hb := T4' (l := l) (n := digE l (sgE [45] l 0)) hdl; rw [h] at hb; simp only at hb
   have h1 : sgn [48] (l.take n) (sgE [45] l 0) = false := by rw [H5' ω, hs]
   rw [h1, if_neg δ, LK' ω ω, if_pos hd]; exact P9' ω ω h
  ·rw [if_neg hd] at h; cases congrArg Prod.snd h
theorem N8' (l : Γ) : ∀ (f i : Nat) (acc t : Γ) (j : Nat), txtP l f i acc = .ok t j -> t.length + i < acc.length + j
 | 0, i, acc, t, j, h => by cases h
 | f + 1, i, acc, t, j, h => by
  cases hx : l[i]? with
  | none => rw [txtP, hx] at h; cases h
  | some x =>
   rw [C5' l f i acc hx] at h; split at h
   ·injection h with h1 h2; subst h1 h2; omega
   ·split at h
    ·cases h
    ·split at h
     ·cases he : escP l (i + 1) with
      | err e => rw [he] at h; cases h
      | ok b m =>
       rw [he] at h; obtain ⟨_, h1, h2, h3⟩ := LI' he; have := N8' l f _ _ t j h; rw [List.length_append] at this; omega
     ·split at h
      ·cases h
      ·have := N8' l f _ _ t j h; rw [List.length_append, List.length_take] at this; omega
theorem SF' {l : Γ} {i j : Nat} {t : Δ} (h : txtA l i = .ok t j) : t.size + i < j := by
 unfold txtA at h
 cases hp : txtP l (l.length + 1) i [] with
 | err e => rw [hp] at h; cases h
 | ok a m =>
  rw [hp] at h
  injection h with h1 h2
  subst h1 h2; have := N8' l _ _ _ _ _ hp; rw [DJ']; simpa using this
theorem T8' {l : Γ} {i j : Nat} {ns : List Δ} {t : Δ} (h : memP l i ns = .ok t j) : t.size + i + 2 < j /\ hasN ns t = false := by
 unfold memP at h
 cases hg : sgA l i with
 | none => rw [hg] at h; cases h
 | some c =>
  rw [hg] at h; simp only at h; have h0 := C2' l i; split at h
  ·cases ht : txtA l (skB l i + 1) with
   | err e => rw [ht] at h; cases h
   | ok u m =>
    rw [ht] at h; simp only at h; have h1 := SF' ht
    cases hh : hasM ns u with
    | true => rw [hh, if_pos rfl] at h; cases h
    | false =>
     rw [hh, if_neg δ] at h
     cases hg2 : sgA l m with
     | none => rw [hg2] at h; cases h
     | some d =>
      rw [hg2] at h; simp only at h; have h2 := C2' l m; split at h
      ·injection h with h3 h4
       subst h3 h4; rw [gN'] at hh; exact ⟨ω, hh⟩
      ·cases h
  ·cases h
theorem ZN' {n : Nat} (h : n <= 16) : LM' n = false := decide_eq_false (by simp only [Z0]; omega)
theorem I5' : txtN nil0 = false := by unfold txtN; rw [Lib.toList_data]; rfl
theorem J4' {v : Jv} {dep : Nat} (h : Right dep v) : errT v dep = 0 := by
 cases h with
 | nul =>
  show tt (nzQ 0) 32 (tt (txtN nil0) 32 (tt (posQ 0) 32 (tt (posQ 0) 32 0))) = 0; rw [I5']; rfl
 | no =>
  show tt (decide ((0 : Int) < Int.ofNat 0)) 32 (tt (decide ((0 : Int) > Int.ofNat 1)) 32 (tt (txtN nil0) 32 (tt (posQ 0) 32 (tt (posQ 0) 32 0)))) = 0; rw [I5']; rfl
 | yes =>
  show tt (decide ((1 : Int) < Int.ofNat 0)) 32 (tt (decide ((1 : Int) > Int.ofNat 1)) 32 (tt (txtN nil0) 32 (tt (posQ 0) 32 (tt (posQ 0) 32 0)))) = 0; rw [I5']; rfl
 | num t h =>
  show tt (nzQ 0) 32 (tt (!(Js.num (bts t)).2) 32 (tt (Int.ofNat (Js.num (bts t)).1 != (t.size : Int)) 32 (tt (posQ 0) 32 (tt (posQ 0) 32 0)))) = 0; rw [h]; simp [tt, nzQ, posQ]
 | text t => rfl
 | list l h =>
  show tt (LM' dep) 8 (tt (nzQ 0) 32 (tt (txtN nil0) 32 (tt (posQ 0) 32 0))) = 0; rw [ZN' h, I5']; rfl
 | obj l ns h hl =>
  show tt (LM' dep) 8 (tt (nzQ 0) 32 (tt (txtN nil0) 32 (tt ((ns.length : Int) != (l.length : Int)) 32 0))) = 0
  rw [ZN' h, hl, show ((l.length : Int) != (l.length : Int)) = false from by simp, I5']
  rfl
def NoD (ns : List Δ) : Prop := ∀ j, j < ns.length -> hasN (ns.take j) (ns.getD j nil0) = false
theorem NoD.snoc {ns : List Δ} {n : Δ} (h : NoD ns) (hn : hasN ns n = false) : NoD (ns ++ [n]) := fun j hj => by
 rw [List.length_append] at hj; simp only [List.length_cons, List.length_nil] at hj
 by_cases hl : j < ns.length
 ·rw [List.take_append_of_le_length ω, List.getD_eq_getElem?_getD, List.getElem?_append_left hl, <- List.getD_eq_getElem?_getD]; exact h j hl
 ·have : j = ns.length := ω
  subst this; rw [List.take_left, List.getD_eq_getElem?_getD, List.getElem?_append_right (Yd), Nat.sub_self]; exact hn
theorem RI' {f : Jv -> Int} {obj : Bool} {names : List Δ} : ∀ (xs : List Jv) (j : Nat), (∀ x ∈ xs, f x = 0) -> (obj = true -> ∀ i, i < xs.length -> hasN (names.take (j + i)) (names.getD (j + i) nil0) = false) -> errL f obj names j xs = 0
 | [], j, _, _ => rfl
 | x :: xs, j, h1, h2 => by
  rw [errL]
  have hc : (obj && hasN (names.take j) (names.getD j nil0)) = false := by
   cases obj with
   | false => rfl
   | true => have := h2 rfl 0 (by simp); rw [Nat.add_zero] at this; rw [this]; rfl
  rw [hc, if_neg δ, if_neg (by rw [h1 x List.mem_cons_self]; simp)]
  exact RI' xs (j + 1) (fun y hy => h1 y (List.mem_cons_of_mem _ hy)) fun ho i hi => by
   have := h2 ho (i + 1) (by simp only [List.length_cons]; omega)
   rwa [show j + 1 + i = j + (i + 1) by omega]
structure RdOK (n : Nat) (L dep i j : Nat) (v : Jv) : Prop where
 err : errJ L v dep = 0
 dp : Dp L v
 wt : wJ L v + 2 * i <= 2 * j
 lt : i < j
 le : j <= n
theorem EP' {l : Γ} {L dep i j : Nat} {k n : Int} {t : Δ} (hr : Right dep (plJ k n t)) (hw : 1 + t.size + 2 * i <= 2 * j) (hl : i < j) (hle : j <= l.length) : RdOK l.length (L + 1) dep i j (plJ k n t) where
 err := by rw [errJ, if_neg (by rw [J4' hr]; simp)]; rfl
 dp := fun x hx => by cases hx
 wt := by
  show 1 + t.size + (([] : List Δ).map fun n => n.size + 1).sum + (([] : List Jv).map (wJ L)).sum + 2 * i <= 2 * j; simp only [List.map_nil, List.sum_nil]; omega
 lt := hl
 le := hle
theorem PE' {V : Nat -> Rd Jv} {l : Γ} {w : Jv -> Nat} {Q : Jv -> Prop} (hV : ∀ i v j, V i = .ok v j -> Q v /\ w v + 2 * i <= 2 * j /\ i < j) : ∀ (f i : Nat) (vs : List Jv) (v : Jv) (j : Nat), lsP V l f i vs = .ok v j -> (∀ x ∈ vs, Q x) ->
  ∃ ws, v = .mk 5 0 nil0 ws [] /\ (∀ x ∈ ws, Q x) /\ (ws.map w).sum + 2 * i + 1 <= (vs.map w).sum + 2 * j /\ i < j /\ j <= l.length
 | 0, _, _, _, _, h, _ => by cases h
 | f + 1, i, vs, v, j, h, hq => by
  rw [lsP] at h
  cases hv : V i with
  | err e => rw [hv] at h; cases h
  | ok x m =>
   rw [hv] at h; simp only at h; obtain ⟨h1, h2, h3⟩ := hV i x m hv
   have hq' : ∀ y ∈ vs ++ [x], Q y := fun y hy => by
    rcases List.mem_append.1 hy with hy | hy
    ·exact hq y hy
    ·rw [List.mem_singleton.1 hy]; exact h1
   have hsum : ((vs ++ [x]).map w).sum = (vs.map w).sum + w x := by simp
   cases hg : sgA l m with
   | none => rw [hg] at h; cases h
   | some c =>
    rw [hg] at h; simp only at h; have hge := C2' l m; have hsk : skB l m < l.length := (List.getElem?_eq_some_iff.1 hg).1; split at h
    ·obtain ⟨ws, q1, q2, q3, q4, q5⟩ := PE' hV f _ _ v j h hq'; rw [hsum] at q3
     exact ⟨ws, q1, q2, by omega, by omega, q5⟩
    ·split at h
     ·injection h with h4 h5
      subst h5
      exact ⟨vs ++ [x], h4.symm, hq', by rw [hsum]; omega, by omega, by omega⟩
     ·cases h
theorem P4' {V : Nat -> Rd Jv} {l : Γ} {w : Jv -> Nat} {Q : Jv -> Prop} (hV : ∀ i v j, V i = .ok v j -> Q v /\ w v + 2 * i <= 2 * j /\ i < j) : ∀ (f i : Nat) (vs : List Jv) (ns : List Δ) (v : Jv) (j : Nat), obP V l f i vs ns = .ok v j -> (∀ x ∈ vs, Q x) -> NoD ns -> ns.length = vs.length ->
  ∃ ws ms, v = .mk 6 0 nil0 ws ms /\ (∀ x ∈ ws, Q x) /\ NoD ms /\ ms.length = ws.length /\ (ms.map fun n => n.size + 1).sum + (ws.map w).sum + 2 * i + 1 <= (ns.map fun n => n.size + 1).sum + (vs.map w).sum + 2 * j /\ i < j /\ j <= l.length
 | 0, _, _, _, _, _, h, _, _, _ => by cases h
 | f + 1, i, vs, ns, v, j, h, hq, hn, hl => by
  rw [obP] at h
  cases hm : memP l i ns with
  | err e => rw [hm] at h; cases h
  | ok n m0 =>
   rw [hm] at h; simp only at h; obtain ⟨g1, g2⟩ := T8' hm
   cases hv : V m0 with
   | err e => rw [hv] at h; cases h
   | ok x m =>
    rw [hv] at h; simp only at h; obtain ⟨h1, h2, h3⟩ := hV m0 x m hv
    have hq' : ∀ y ∈ vs ++ [x], Q y := fun y hy => by
     rcases List.mem_append.1 hy with hy | hy
     ·exact hq y hy
     ·rw [List.mem_singleton.1 hy]; exact h1
    have hsum : ((vs ++ [x]).map w).sum = (vs.map w).sum + w x := by simp
    have hsum2 : ((ns ++ [n]).map fun n => n.size + 1).sum = (ns.map fun n => n.size + 1).sum + (n.size + 1) := by simp
    have hl' : (ns ++ [n]).length = (vs ++ [x]).length := by simp [hl]
    cases hg : sgA l m with
    | none => rw [hg] at h; cases h
    | some c =>
     rw [hg] at h; simp only at h; have hge := C2' l m; have hsk : skB l m < l.length := (List.getElem?_eq_some_iff.1 hg).1; split at h
     ·obtain ⟨ws, ms, q1, q2, q3, q4, q5, q6, q7⟩ := P4' hV f _ _ _ v j h hq' (hn.snoc g2) hl'; rw [hsum, hsum2] at q5
      exact ⟨ws, ms, q1, q2, q3, q4, by omega, by omega, q7⟩
     ·split at h
      ·injection h with h4 h5
       subst h5
       exact ⟨vs ++ [x], ns ++ [n], h4.symm, hq', hn.snoc g2, hl', by rw [hsum, hsum2]; omega, by omega, by omega⟩
      ·cases h
theorem Z0' {V : Nat -> Rd Jv} {l : Γ} {L dep i j : Nat} {ob : Bool} {v : Jv} (hd : dep <= 16) (hV : ∀ i v j, V i = .ok v j -> RdOK l.length L (dep + 1) i j v) (h : grP V l ob i = .ok v j) : RdOK l.length (L + 1) dep i j v := by
 have hV' : ∀ i v j, V i = .ok v j -> (errJ L v (dep + 1) = 0 /\ Dp L v) /\ wJ L v + 2 * i <= 2 * j /\ i < j := fun i v j h => ⟨⟨(hV i v j h).err, (hV i v j h).dp⟩, (hV i v j h).wt, (hV i v j h).lt⟩
 unfold grP at h
 cases hg : sgA l i with
 | none => rw [hg] at h; cases h
 | some c =>
  rw [hg] at h; simp only at h; have hge := C2' l i; have hsk : skB l i < l.length := (List.getElem?_eq_some_iff.1 hg).1
  cases ob with
  | false =>
   simp only at h; split at h
   ·injection h with h1 h2
    subst h1 h2; exact EP' (.list [] hd) (by show 1 + 0 + _ <= _; omega) ω ω
   ·obtain ⟨ws, rfl, q2, q3, q4, q5⟩ := PE' (w := wJ L) (Q := fun x => errJ L x (dep + 1) = 0 /\ Dp L x) hV' _ _ _ _ _ h (fun x hx => by cases hx)
    refine ⟨?_, fun x hx => (q2 x hx).2, ?_, q4, q5⟩
    ·rw [errJ, if_neg (by rw [J4' (.list ws hd)]; simp)]
     exact RI' ws 0 (fun x hx => (q2 x hx).1) fun ho => by cases ho
    ·show 1 + 0 + (([] : List Δ).map fun n => n.size + 1).sum + (ws.map (wJ L)).sum + 2 * i <= 2 * j; simp only [List.map_nil, List.sum_nil] at q3 ⊢; omega
  | true =>
   simp only at h; split at h
   ·injection h with h1 h2
    subst h1 h2; exact EP' (.obj [] [] hd rfl) (by show 1 + 0 + _ <= _; omega) ω ω
   ·obtain ⟨ws, ms, rfl, q2, q3, q4, q5, q6, q7⟩ := P4' (w := wJ L) (Q := fun x => errJ L x (dep + 1) = 0 /\ Dp L x) hV' _ _ _ _ _ _ h (fun x hx => by cases hx) (fun j hj => by simp at hj) rfl
    refine ⟨?_, fun x hx => (q2 x hx).2, ?_, q6, q7⟩
    ·rw [errJ, if_neg (by rw [J4' (.obj ws ms hd q4)]; simp)]
     exact RI' ws 0 (fun x hx => (q2 x hx).1) fun _ i hi => by
      rw [Nat.zero_add]; exact q3 i (by rw [q4]; exact hi)
    ·show 1 + 0 + (ms.map fun n => n.size + 1).sum + (ws.map (wJ L)).sum + 2 * i <= 2 * j; simp only [List.map_nil, List.sum_nil] at q5; omega
theorem Q9' {G : Option (Bool -> Nat -> Rd Jv)} {l : Γ} {c : UInt8} {L dep i j : Nat} {v : Jv} (hG : ∀ g, G = some g -> ∀ ob i v j, g ob i = .ok v j -> RdOK l.length (L + 1) dep i j v) (hi : i < l.length) (h : atP G l c i = .ok v j) : RdOK l.length (L + 1) dep i j v := by
 unfold atP at h; split at h
 ·cases G with
  | none => cases h
  | some g =>
   have := hG g rfl _ _ _ _ h
   exact ⟨this.err, this.dp, by have := this.wt; omega, by have := this.lt; omega, this.le⟩
 split at h
 ·cases ht : txtA l (i + 1) with
  | err e => rw [ht] at h; cases h
  | ok t m =>
   rw [ht] at h
   injection h with h1 h2
   subst h1 h2; have := SF' ht; exact EP' (.text t) ω ω (N9' ht).2
 split at h
 ·split at h
  ·injection h with h1 h2
   subst h1 h2; exact EP' .yes (by show 1 + 0 + _ <= _; omega) ω (by rename_i hw; have := H2' (by simp) hw; simpa using this)
  ·cases h
 split at h
 ·split at h
  ·injection h with h1 h2
   subst h1 h2; exact EP' .no (by show 1 + 0 + _ <= _; omega) ω (by rename_i hw; have := H2' (by simp) hw; simpa using this)
  ·cases h
 split at h
 ·split at h
  ·injection h with h1 h2
   subst h1 h2; exact EP' .nul (by show 1 + 0 + _ <= _; omega) ω (by rename_i hw; have := H2' (by simp) hw; simpa using this)
  ·cases h
 split at h
 ·rw [NK'] at h; simp only at h
  cases hr : num (l.drop i) with
  | mk n b =>
   rw [hr] at h; simp only at h
   cases b with
   | false => cases h
   | true =>
    have hb := m0' (l := l.drop i); rw [hr] at hb; have h0 := hb.2 rfl; have h1 := hb.1; simp only [if_true] at h h0 h1
    injection h with h3 h4
    subst h3 h4; rw [Nat.add_sub_cancel_left]
    have hs : (tB ((l.drop i).take n)).size = n := by rw [DJ', List.length_take]; omega
    exact EP' (.num _ (by rw [GD', hs]; exact dX' hr)) (by rw [hs]; omega) ω (by rw [List.length_drop] at h1; omega)
 ·cases h
theorem H3' {l : Γ} : ∀ (k dep i : Nat) (v : Jv) (j : Nat), dep + k = 17 -> valP l k i = .ok v j -> RdOK l.length (k + 1) dep i j v
 | 0, dep, i, v, j, hd, h => by
  rw [valP] at h
  cases hg : sgA l i with
  | none => rw [hg] at h; cases h
  | some c =>
   rw [hg] at h; have hge := C2' l i; have := Q9' (L := 0) (dep := dep) (fun g hg => by cases hg) (List.getElem?_eq_some_iff.1 hg).1 h
   exact ⟨this.err, this.dp, by have := this.wt; omega, by have := this.lt; omega, this.le⟩
 | k + 1, dep, i, v, j, hd, h => by
  rw [valP] at h
  cases hg : sgA l i with
  | none => rw [hg] at h; cases h
  | some c =>
   rw [hg] at h; have hge := C2' l i
   have := Q9' (L := k + 1) (dep := dep) (fun g hg ob i v j hh => by
    injection hg with hg
    subst hg
    exact Z0' ω (fun i v j hv => H3' k (dep + 1) i v j ω hv) hh) (List.getElem?_eq_some_iff.1 hg).1 h
   exact ⟨this.err, this.dp, by have := this.wt; omega, by have := this.lt; omega, this.le⟩
theorem UD' {l : Γ} {v : Jv} (h : parP l = .inl v) : errJ 17 v 1 = 0 /\ Dp 17 v /\ wJ 17 v <= 131072 := by
 unfold parP at h; split at h
 ·cases h
 ·split at h
  ·cases h
  ·rename_i hv; split at h
   ·cases h
   ·injection h with h
    subst h; have hr := H3' 16 1 0 _ _ rfl hv; refine ⟨hr.err, hr.dp, ?_⟩; have h1 := hr.wt; have h2 := hr.le; show wJ (16 + 1) _ <= _; omega
theorem parP_w {v : Jv} {L : Nat} (hD : Dp L v) (hE : errJ L v 1 = 0) (hl : (B1' L v).length <= 65536) : parP (B1' L v) = .inl v := by
 have hv := fP' L v 16 1 0 (B1' L v) [] hD hE rfl (by rw [List.drop_zero, List.append_nil]) (fun c h => by cases h); unfold parP; rw [if_neg ω, hv]; simp only; have := C2' (B1' L v) (0 + (B1' L v).length); rw [if_neg ω]
theorem WV' {l : Γ} (h : 65536 < l.length) : parP l = .inr 1 := by unfold parP; rw [if_pos h]
theorem mY' {l : Γ} {i e : Nat} (h : escP l i = .err e) : e ≠ 0 := by
 unfold escP at h; split at h
 ·injection h with h; omega
 ·split at h
  ·cases h
  ·split at h
   ·injection h with h; omega
   ·split at h
    ·unfold escU at h; split at h
     ·cases h
     ·split at h
      ·cases h
      ·split at h
       ·injection h with h; omega
       ·cases h
    ·injection h with h; omega
theorem QV' (l : Γ) : ∀ (f i : Nat) (acc : Γ) (e : Nat), i <= l.length -> l.length < f + i -> txtP l f i acc = .err e -> e ≠ 0
 | 0, i, acc, e, hi, hf, h => ω
 | f + 1, i, acc, e, hi, hf, h => by
  cases hx : l[i]? with
  | none => rw [txtP, hx] at h; injection h with h; omega
  | some x =>
   rw [C5' l f i acc hx] at h; have hl := (List.getElem?_eq_some_iff.1 hx).1; split at h
   ·cases h
   ·split at h
    ·injection h with h; omega
    ·split at h
     ·cases he : escP l (i + 1) with
      | err e' => rw [he] at h; injection h with h; rw [<- h]; exact mY' he
      | ok b m =>
       rw [he] at h; obtain ⟨_, h1, h2, h3⟩ := LI' he; exact QV' l f m _ e h2 ω h
     ·split at h
      ·injection h with h; omega
      ·rename_i h0; have hd := GX' l i
       have hne : 0 < (l.drop i).length := by rw [List.length_drop]; omega
       have hle := Q0' (l.drop i) hne; rw [List.length_drop] at hle
       have : EX' l i <= l.length - i := by rw [hd]; split <;> omega
       exact QV' l f _ _ e ω ω h
theorem VY' {l : Γ} {i e : Nat} (hi : i <= l.length) (h : txtA l i = .err e) : e ≠ 0 := by
 unfold txtA at h
 cases hp : txtP l (l.length + 1) i [] with
 | ok a m => rw [hp] at h; cases h
 | err e' =>
  rw [hp] at h
  injection h with h
  rw [<- h]; exact QV' l _ _ _ _ hi ω hp
theorem m6' {l : Γ} {i e : Nat} {ns : List Δ} (h : memP l i ns = .err e) : e ≠ 0 := by
 unfold memP at h
 cases hg : sgA l i with
 | none => rw [hg] at h; injection h with h; omega
 | some c =>
  rw [hg] at h; simp only at h; have hsk : skB l i < l.length := (List.getElem?_eq_some_iff.1 hg).1; split at h
  ·cases ht : txtA l (skB l i + 1) with
   | err e' => rw [ht] at h; injection h with h; rw [<- h]; exact VY' ω ht
   | ok u m =>
    rw [ht] at h; simp only at h; split at h
    ·injection h with h; omega
    ·split at h
     ·injection h with h; omega
     ·split at h
      ·cases h
      ·injection h with h; omega
  ·injection h with h; omega
theorem gF' {V : Nat -> Rd Jv} {l : Γ} (hV : ∀ i e, V i = .err e -> e ≠ 0) (hO : ∀ i v j, V i = .ok v j -> i < j /\ j <= l.length) : ∀ (f i : Nat) (vs : List Jv) (e : Nat), i <= l.length -> l.length < f + i -> lsP V l f i vs = .err e -> e ≠ 0
 | 0, _, _, _, hi, hf, h => ω
 | f + 1, i, vs, e, hi, hf, h => by
  rw [lsP] at h
  cases hv : V i with
  | err e' => rw [hv] at h; injection h with h; rw [<- h]; exact hV i e' hv
  | ok x m =>
   rw [hv] at h; simp only at h; obtain ⟨h1, h2⟩ := hO i x m hv
   cases hg : sgA l m with
   | none => rw [hg] at h; injection h with h; omega
   | some c =>
    rw [hg] at h; simp only at h; have hge := C2' l m; have hsk : skB l m < l.length := (List.getElem?_eq_some_iff.1 hg).1; split at h
    ·exact gF' hV hO f _ _ e ω ω h
    ·split at h
     ·cases h
     ·injection h with h; omega
theorem g8' {V : Nat -> Rd Jv} {l : Γ} (hV : ∀ i e, V i = .err e -> e ≠ 0) (hO : ∀ i v j, V i = .ok v j -> i < j /\ j <= l.length) : ∀ (f i : Nat) (vs : List Jv) (ns : List Δ) (e : Nat), i <= l.length -> l.length < f + i -> obP V l f i vs ns = .err e -> e ≠ 0
 | 0, _, _, _, _, hi, hf, h => ω
 | f + 1, i, vs, ns, e, hi, hf, h => by
  rw [obP] at h
  cases hm : memP l i ns with
  | err e' => rw [hm] at h; injection h with h; rw [<- h]; exact m6' hm
  | ok n m0 =>
   rw [hm] at h; simp only at h; have h0 := T8' hm
   cases hv : V m0 with
   | err e' => rw [hv] at h; injection h with h; rw [<- h]; exact hV m0 e' hv
   | ok x m =>
    rw [hv] at h; simp only at h; obtain ⟨h1, h2⟩ := hO m0 x m hv
    cases hg : sgA l m with
    | none => rw [hg] at h; injection h with h; omega
    | some c =>
     rw [hg] at h; simp only at h; have hge := C2' l m; have hsk : skB l m < l.length := (List.getElem?_eq_some_iff.1 hg).1; split at h
     ·exact g8' hV hO f _ _ _ e ω ω h
     ·split at h
      ·cases h
      ·injection h with h; omega
theorem hG' {G : Option (Bool -> Nat -> Rd Jv)} {l : Γ} {c : UInt8} {i e : Nat} (hi : i < l.length) (hG : ∀ g, G = some g -> ∀ ob i e, i <= l.length -> g ob i = .err e -> e ≠ 0) (h : atP G l c i = .err e) : e ≠ 0 := by
 unfold atP at h; split at h
 ·cases G with
  | none => injection h with h; omega
  | some g => exact hG g rfl _ _ _ ω h
 split at h
 ·cases ht : txtA l (i + 1) with
  | ok t m => rw [ht] at h; cases h
  | err e' => rw [ht] at h; injection h with h; rw [<- h]; exact VY' ω ht
 split at h
 ·split at h
  ·cases h
  ·injection h with h; omega
 split at h
 ·split at h
  ·cases h
  ·injection h with h; omega
 split at h
 ·split at h
  ·cases h
  ·injection h with h; omega
 split at h
 ·split at h
  ·cases h
  ·injection h with h; omega
 ·injection h with h; omega
theorem VR' {l : Γ} : ∀ (k dep i e : Nat), dep + k = 17 -> valP l k i = .err e -> e ≠ 0
 | 0, dep, i, e, hd, h => by
  rw [valP] at h
  cases hg : sgA l i with
  | none => rw [hg] at h; injection h with h; omega
  | some c =>
   rw [hg] at h; exact hG' (List.getElem?_eq_some_iff.1 hg).1 (fun g hg => by cases hg) h
 | k + 1, dep, i, e, hd, h => by
  rw [valP] at h
  cases hg : sgA l i with
  | none => rw [hg] at h; injection h with h; omega
  | some c =>
   rw [hg] at h; refine hG' (List.getElem?_eq_some_iff.1 hg).1 (fun g hg ob i e hi hh => ?_) h
   injection hg with hg
   subst hg
   have hV : ∀ i e, valP l k i = .err e -> e ≠ 0 := fun i e hv => VR' k (dep + 1) i e ω hv
   have hO : ∀ i v j, valP l k i = .ok v j -> i < j /\ j <= l.length := fun i v j hv => ⟨(H3' k (dep + 1) i v j ω hv).lt, (H3' k (dep + 1) i v j ω hv).le⟩
   unfold grP at hh
   cases hg2 : sgA l i with
   | none => rw [hg2] at hh; injection hh with hh; omega
   | some d =>
    rw [hg2] at hh; simp only at hh
    cases ob with
    | false =>
     simp only at hh; split at hh
     ·cases hh
     ·exact gF' hV hO _ _ _ _ hi ω hh
    | true =>
     simp only at hh; split at hh
     ·cases hh
     ·exact g8' hV hO _ _ _ _ _ hi ω hh
theorem iU' {l : Γ} {e : Nat} (h : parP l = .inr e) : e ≠ 0 := by
 unfold parP at h; split at h
 ·injection h with h; omega
 ·split at h
  ·rename_i hv
   injection h with h
   rw [<- h]; exact VR' 16 1 0 _ rfl hv
  ·split at h
   ·injection h with h; omega
   ·cases h
theorem OW' (s : Δ) : (AZ' (bts s)).length <= 6 * s.size + 2 := by
 have := g3' s.size (bts s) (Yd); rw [B2'] at this; unfold AZ'; simp only [List.length_append, List.length_cons, List.length_nil]; omega
theorem nameW (names : List Δ) : ∀ j, (((names.drop j).map fun n => n.size + 1).sum = (match names[j]? with | some n => n.size + 1 | none => 0) + ((names.drop (j + 1)).map fun n => n.size + 1).sum) := fun j => by
 cases h : names[j]? with
 | none =>
  have hl : names.length <= j := List.getElem?_eq_none_iff.1 h; rw [List.drop_eq_nil_of_le hl, List.drop_eq_nil_of_le ω]; rfl
 | some n =>
  rw [RL' h, List.map_cons, List.sum_cons]
theorem PX' (f : Jv -> Γ) (w : Jv -> Nat) (obj : Bool) (names : List Δ) : ∀ (l : List Jv) (j : Nat), (∀ x ∈ l, (f x).length + 4 <= 16 * w x) -> (B3' f obj names j l).length <= 16 * (l.map w).sum + 16 * ((names.drop j).map fun n => n.size + 1).sum
 | [], j, _ => Nat.zero_le _
 | x :: l, j, h => by
  have ih := PX' f w obj names l (j + 1) fun y hy => h y (List.mem_cons_of_mem _ hy)
  have hx := h x List.mem_cons_self; have hn := nameW names j; rw [B3', List.length_append, List.map_cons, List.sum_cons, hn]
  have h1 : ((if 0 < j then [44] else []) : Γ).length <= 1 := by split <;> simp
  have h2 : ((if obj then AZ' (bts (names.getD j nil0)) ++ [58] else []) : Γ).length <= 3 + 16 * (match names[j]? with | some n => n.size + 1 | none => 0) := by
   split
   ·rw [List.length_append]; have := OW' (names.getD j nil0); rw [List.getD_eq_getElem?_getD] at this ⊢
    cases hq : names[j]? with
    | none =>
     rw [hq] at this; simp only [Option.getD_none, List.length_cons, List.length_nil] at *; have hz : nil0.size = 0 := rfl; omega
    | some n =>
     rw [hq] at this; simp only [Option.getD_some, List.length_cons, List.length_nil] at *; omega
   ·exact Nat.zero_le _
  rw [List.length_append, List.length_append]; omega
theorem OM' {C : Mem} : ∀ (d : Nat) (v : Jv) (r : Rj), JAt C d v r -> (B1' d v).length + 4 <= 16 * wJ d v
 | 0, v, _, h => h.elim
 | d + 1, v, r, h => by
  have hw : wJ (d + 1) v = 1 + v.text.size + (v.names.map fun n => n.size + 1).sum + (v.list.map (wJ d)).sum := rfl
  have he : ∀ obj, (B3' (B1' d) obj v.names 0 v.list).length <= 16 * (v.list.map (wJ d)).sum + 16 * (v.names.map fun n => n.size + 1).sum := fun obj => by
   have := PX' (B1' d) (wJ d) obj v.names v.list 0 fun x hx => by
    obtain ⟨i, hi⟩ := List.getElem?_of_mem hx; obtain ⟨a, r', _, _, hj⟩ := h.2.1.2 i x hi; exact OM' d x r' hj
   rw [List.drop_zero] at this; exact this
  rw [B1', hw]; split
  ·simp only [List.length_cons, List.length_nil]; omega
  split
  ·rw [B2']; have := (NQ' (v.num == Int.ofNat 1)).1; omega
  split
  ·rw [B2']; omega
  split
  ·have := OW' v.text; omega
  split
  ·have := he false; simp only [List.length_append, List.length_cons, List.length_nil]; omega
  ·have := he true; simp only [List.length_append, List.length_cons, List.length_nil]; omega
open Tree (CD' NL' J9' C0' five)
open List renaming mem_cons_self -> ms'
variable {LV NV : AV} {H Hs : LH} {N : A5'} {OL ON : AO} {w : World} {vargs : Array Value} {a b : Nat} {s : Δ}
variable {W : World}
theorem LWQ.stays {W : World} (h : LWQ W) (hs : OF' W w) : LWQ w := ⟨⟨fun c hc => hs.cell (h.tabs.1 c hc), fun i hi => ⟨hs.cell (h.tabs.2 i hi).1, hs.cell (h.tabs.2 i hi).2⟩⟩⟩
theorem nN' (hL : H1' Sp.cfg W) : Tri Θ W fSpk [] [] (bv true) [] := W2' fun W0 F N w vargs hF hNB r ha => by
 have hva : vargs = #[] := by
  apply Array.ext'; simpa only [VRs] using ha
 subst hva; obtain ⟨D0, D, h1, h2, h3⟩ := r.sat; have hs : OF' W w := hF D0 w h1
 exact Sp.speaks_closed fun x hx j v hv => hs.cell (hL x hx j v hv)
theorem HU' (hL : H1' Sp.cfg W) (F : HP) (hF : AH' W F) : C1OK Θ F fSpk cSpk :=
 BF' hF (fun _ => bv true) (fun _ => RO.ret _) (fun _ => rfl) (fun _ _ => nN' hL) fun _ => ⟨rfl, rfl, Ye, A4', ⟨Ye, Ye⟩, A4'⟩
theorem calls_at {f : FuncId} {A : List AV} {v : AV} {x : Value} (h : Tri Θ w f A [] v []) (hA : VRs (fun _ => none) A vargs.toList) (hx : ∀ N y, VR N v y -> y = x) : Calls Θ f vargs w fun e w' => e = .returned x /\ Below w.heap.size w w' := by
 refine (h w (HP.old w) (fun _ => none) w _ (bI' w) (fun _ _ _ => rfl) (WM' w) hA).mono ?_; rintro e w' ⟨y, rfl, N', _, _, r', hv⟩; have hy : y = x := hx _ _ (AC'.1 hv).1; subst hy; exact ⟨rfl, r'.old_below⟩
theorem ME' {f : FuncId} {A : List AV} {x : Value} {v : AV} (hv : ∀ N, VR N v x) (h : ∀ (W0 : World) (F : HP) (N : A5') (w : World) (vargs : Array Value), AH' W F -> NB N H -> Rep W0 N F (AL' H) w -> VRs N A vargs.toList -> Calls Θ f vargs w fun e w' => e = .returned x /\ Below w.heap.size w w') : Tri Θ W f A H v H := by
 intro W0 F N w vargs hF hNB r ha; refine (h W0 F N w vargs hF hNB r ha).mono ?_; rintro e w' ⟨rfl, hb⟩
 exact ⟨x, rfl, N, fun _ _ => rfl, hNB, r.below hb, AC'.2 ⟨hv _, AU'⟩⟩
theorem vrs1J {x1 : AV} (h : VRs N [x1] vargs.toList) : ∃ y1, VR N x1 y1 /\ vargs = #[y1] := by
 simp only [VRs] at h; obtain ⟨y1, r1, h1, rfl, hl⟩ := h
 exact ⟨y1, h1, by cases vargs; simp_all⟩
theorem vrs2J {x1 x2 : AV} (h : VRs N [x1, x2] vargs.toList) : ∃ y1 y2, VR N x1 y1 /\ VR N x2 y2 /\ vargs = #[y1, y2] := by
 simp only [VRs] at h; obtain ⟨y1, r1, h1, ⟨y2, r2, h2, rfl, rfl⟩, hl⟩ := h
 exact ⟨y1, y2, h1, h2, by cases vargs; simp_all⟩
theorem RZ' (N : A5') (r : Rj) : VR N (aggJ r) (.agg r.cells.toArray) := by
 show VR N (.agg (vmap r.cells)) _; simp only [VR]; exact ⟨r.cells, VRs.vmap r.cells, rfl⟩
inductive VS (d : Nat) (v : Jv) (a b : Nat) : AV -> AV -> LH -> Prop where
 | P (h1 : v.list = []) (h2 : v.names = []) : VS d v a b nilS nilS []
 | L (h2 : v.names = []) : VS d v a b (sL5 a v.list.length) nilS [(a, ownJ d v.list)]
 | O : VS d v a b (sL5 a v.list.length) (sS1 b v.names.length) [(a, ownJ d v.list), (b, rS v.names)]
theorem VO' {W0 : World} {F : HP} {d : Nat} {v : Jv} (hl : AE' 1100 H = true) (rep : Rep W0 N F (AL' H) w) (hb : v.names.length * 16 <= big) (hv : VS d v a b LV NV Hs) (hH : ∀ x ∈ Hs, getO H x.1 = some x.2) {y : Value} (hy : VR N (aV v.kind v.num v.text LV NV) y) : ∃ r, y = .agg r.cells.toArray /\ JAt w.cell? (d + 1) v r := by
 obtain ⟨D0, D, h1, h2, h3⟩ := rep.sat
 have hD : ∀ n o, getO H n = some o -> OR N n o (D n) w := fun n o hn => (h2 n o (by rw [AI' (CF' hl)]; exact hn)).1
 unfold aV at hy; simp only [VR] at hy; obtain ⟨cs, hcs, rfl⟩ := hy; obtain ⟨yl, yt, a1, a2, rfl⟩ := five hcs
 have hL : ∃ la lc, yl = .slice la v.list.length lc /\ LOf (JAt (CD' (fun _ => True) w) d) (CD' (fun _ => True) w) la v.list := by
  cases hv with
  | P k1 k2 => exact T5' k1 _ a1
  | L k2 => exact IH' hD (hH _ ms') (fun _ _ => trivial) _ a1
  | O => exact IH' hD (hH _ ms') (fun _ _ => trivial) _ a1
 have hN : ∃ ta tc, yt = .slice ta v.names.length tc /\ NOf (CD' (fun _ => True) w) ta v.names := by
  cases hv with
  | P k1 k2 => exact KK' k2 _ a2
  | L k2 => exact KK' k2 _ a2
  | O =>
   obtain ⟨ta, tc, q1, q2⟩ := PC' hb (hD b _ (hH _ (List.mem_cons_of_mem _ ms'))) a2; exact ⟨ta, tc, q1, q2.mono (C0' fun _ _ => trivial)⟩
 obtain ⟨la, lc, rfl, b1⟩ := hL; obtain ⟨ta, tc, rfl, b2⟩ := hN; have hj : JAt (CD' (fun _ => True) w) (d + 1) v ⟨v.kind, v.num, v.text, la, v.list.length, lc, ta, v.names.length, tc⟩ := ⟨⟨rfl, rfl, rfl, rfl, rfl⟩, b1, b2⟩
 exact ⟨_, rfl, hj.mono fun a u ha => (J9' ha).2⟩
theorem vW_vr (N : A5') (s : Δ) : VR N (vWrt s) (.tuple #[.string s, .int .i64 0]) := vr_t2 N _ _
theorem vW_raw {e : Int} {y : Value} (h : VR N (.tuple [sv s, iv e]) y) : y = .tuple #[.string s, .int .i64 e] := by
 simp only [VR, VRs] at h; obtain ⟨cs, ⟨a, r1, rfl, ⟨b, r2, rfl, rfl, rfl⟩, rfl⟩, rfl⟩ := h; rfl
theorem OD' (hW : LWQ W) (hl : AE' 1100 H = true) {d : Nat} {v : Jv} (hb : v.names.length * 16 <= big) (hv : VS d v a b LV NV Hs) (hH : ∀ x ∈ Hs, getO H x.1 = some x.2) (hw : wJ (d + 1) v <= 4000000) (he : errJ (d + 1) v 1 = 0) :
  Tri Θ W fWr [aV v.kind v.num v.text LV NV] H (vWrt (tB (B1' (d + 1) v))) H :=
 ME' (fun N => vW_vr N _) fun W0 F N w vargs hF hNB r ha => by
  obtain ⟨y, hy, rfl⟩ := vrs1J ha; obtain ⟨r', rfl, hj⟩ := VO' hl r hb hv hH hy; obtain ⟨D0, D, h1, h2, h3⟩ := r.sat; have hs : OF' W w := hF D0 w h1; have hlen := OM' (d + 1) v r' hj
  exact calls_at (nT' (hW.stays hs) hj hw he ω) (AC'.2 ⟨RZ' _ _, AU'⟩) fun N y h => vW_raw h
theorem SA' {Hs' : LH} (hl : AE' 1100 H = true) {d a' b' : Nat} {v : Jv} {LV' NV' : AV} (hb : v.names.length * 16 <= big) (hv : VS d v a b LV NV Hs) (hH : ∀ x ∈ Hs, getO H x.1 = some x.2) (hv' : VS d v a' b' LV' NV' Hs') (hH' : ∀ x ∈ Hs', getO H x.1 = some x.2) :
  Tri Θ W fSa [aV v.kind v.num v.text LV NV, aV v.kind v.num v.text LV' NV'] H (bv true) H :=
 ME' (fun N => VR_v.2 rfl) fun W0 F N w vargs hF hNB r ha => by
  obtain ⟨y, y2, hy, hy2, rfl⟩ := vrs2J ha; obtain ⟨r1, rfl, hj1⟩ := VO' hl r hb hv hH hy; obtain ⟨r2, rfl, hj2⟩ := VO' hl r hb hv' hH' hy2
  exact calls_at (U1' w (d + 1) v r1 r2 hj1 hj2) (AC'.2 ⟨RZ' _ _, AC'.2 ⟨RZ' _ _, AU'⟩⟩) fun N y h => VR_v.1 h
theorem Z2' (args : List AV) : RO (gS1 args) := by
 unfold gS1
 repeat' split
 all_goals exact Kb21'
theorem gW1_ro (args : List AV) : RO (gW1 args) := by
 unfold gW1
 repeat' split
 all_goals exact Kb21'
theorem gW2_ro (args : List AV) : RO (gW2 args) := by
 unfold gW2
 repeat' split
 all_goals exact Kb21'
theorem gS2_ro (args : List AV) : RO (gS2 args) := by
 unfold gS2
 repeat' split
 all_goals exact Kb21'
theorem gS4_ro (args : List AV) : RO (gS4 args) := by
 unfold gS4
 repeat' split
 all_goals exact Kb21'
theorem aH' (K : Nat -> Bool) (k n : Int) (t : Δ) : AV.cl K (aV k n t nilS nilS) := ⟨Ye, Ye, Ye, Ye, Ye, Ye⟩
theorem cPe_ok {F : HP} (hF : AH' W F) {P : Δ -> Prop} {e : Int} (h : ∀ q, P q -> Tri Θ W fPar [sv q] [] (vErr e) []) : C1OK Θ F fPar (cPe P e) :=
 BF' hF (fun _ => vErr e) Z2' (fun _ => rfl) (fun q hq => h q hq) fun _ => ⟨rfl, rfl, ⟨Ye, Ye⟩, A4', ⟨⟨aH' _ _ _ _, Ye, Ye⟩, Ye⟩, A4'⟩
theorem VM' {d : Nat} {v : Jv} (hv : VSh d v LV NV OL ON) (k n e : Int) (t : Δ) : AV.cls (Eng.kR [] [(1006, OL), (1007, ON)]) [.tuple [aV k n t LV NV, iv e]] := by
 cases hv with
 | P => exact ⟨⟨⟨Ye, Ye, Ye, Ye, Ye, Ye⟩, Ye, Ye⟩, Ye⟩
 | L => exact ⟨⟨⟨Ye, Ye, Ye, rfl, Ye, Ye⟩, Ye, Ye⟩, Ye⟩
 | O => exact ⟨⟨⟨Ye, Ye, Ye, rfl, rfl, Ye⟩, Ye, Ye⟩, Ye⟩
theorem VN' {d : Nat} {v : Jv} (hv : VSh d v LV NV OL ON) (K : Nat -> Bool) : ∀ x ∈ [(1006, OL), (1007, ON)], x.2.cl K := by
 cases hv with
 | P => exact A2' Ye (A2' Ye A4')
 | L => exact A2' Ye (A2' Ye A4')
 | O => exact A2' Ye (A2' (G9' _ _) A4')
theorem ZX' {F : HP} (hF : AH' W F) {P : Δ -> Prop} {v : Jv} (hv : VSh 16 v LV NV OL ON) (h : ∀ q, P q -> Tri Θ W fPar [sv q] [] (tJ v LV NV 0) [(1006, OL), (1007, ON)]) : C1OK Θ F fPar (cPa P v.kind v.num v.text LV NV OL ON) :=
 BF' hF (fun _ => tJ v LV NV 0) Z2' (fun _ => rfl) (fun q hq => h q hq) fun _ => ⟨rfl, rfl, ⟨Ye, Ye⟩, A4', VM' hv _ _ _ _, VN' hv _⟩
theorem ZW' {F : HP} (hF : AH' W F) {P : Δ -> Prop} {b : Δ -> Bool} {v : Jv} (hv : VSh 16 v LV NV OL ON) (h : ∀ q, P q -> b q = false -> Tri Θ W fPar [sv q] [] (tJ v LV NV 0) [(1006, OL), (1007, ON)]) (h' : ∀ q, P q -> b q = true -> Tri Θ W fPar [sv q] [] (vErr 1) []) : C1OK Θ F fPar (cPb P b v.kind v.num v.text LV NV OL ON) :=
 BF' hF (fun q => match b q with | true => vErr 1 | false => tJ v LV NV 0) Z2' (fun q => by show (RT.pick (.ite (b q) _ _)).2.1 = _; cases b q <;> rfl) (fun q hq => by
  show Tri _ _ _ _ _ _ (RT.pick (.ite (b q) _ _)).2.2
  cases hb : b q with
  | true => exact h' q hq hb
  | false => exact h q hq hb) fun q => by
  show ClosedC _ _ _ (RT.pick (.ite (b q) _ _)).2.2
  cases b q with
  | true => exact ⟨rfl, rfl, ⟨Ye, Ye⟩, A4', ⟨⟨aH' _ _ _ _, Ye, Ye⟩, Ye⟩, A4'⟩
  | false => exact ⟨rfl, rfl, ⟨Ye, Ye⟩, A4', VM' hv _ _ _ _, VN' hv _⟩
theorem QT' (K : Nat -> Bool) (s : Δ) : AV.cls K [vWrt s] := ⟨⟨Ye, Ye, Ye⟩, Ye⟩
section
variable {F : HP} {d : Nat} {v : Jv}
theorem gZ' (hF : AH' W F) (hW : LWQ W) (hb : v.names.length * 16 <= big) (h1 : v.list = []) (h2 : v.names = []) (hw : wJ (d + 1) v <= 4000000) (he : errJ (d + 1) v 1 = 0) : C1OK Θ F fWr (cWp v.kind v.num v.text (tB (B1' (d + 1) v))) :=
 BF' hF (fun _ => vWrt (tB (B1' (d + 1) v))) (fun _ => RO.ret _) (fun _ => rfl) (fun _ _ => OD' (a := 0) (b := 1) hW rfl hb (.P h1 h2) (fun x hx => by cases hx) hw he) fun _ => ⟨rfl, rfl, ⟨aH' _ _ _ _, Ye⟩, A4', QT' _ _, A4'⟩
theorem h6' (hF : AH' W F) (hW : LWQ W) (hb : v.names.length * 16 <= big) (h2 : v.names = []) (hw : wJ (d + 1) v <= 4000000) (he : errJ (d + 1) v 1 = 0) : C1OK Θ F fWr (cWl v.kind v.num v.text (tB (B1' (d + 1) v)) v.list.length d v.list) :=
 BF' hF (fun _ => vWrt (tB (B1' (d + 1) v))) gW1_ro (fun _ => rfl) (fun _ _ => OD' (a := 0) (b := 1) hW rfl hb (.L h2) (A2' rfl A4') hw he) fun _ => ⟨rfl, rfl, ⟨⟨Ye, Ye, Ye, rfl, Ye, Ye⟩, Ye⟩, A2' Ye A4', QT' _ _, A2' Ye A4'⟩
theorem h0' (hF : AH' W F) (hW : LWQ W) (hb : v.names.length * 16 <= big) (hw : wJ (d + 1) v <= 4000000) (he : errJ (d + 1) v 1 = 0) : C1OK Θ F fWr (cWo v.kind v.num v.text (tB (B1' (d + 1) v)) v.list.length v.names.length d v.list v.names) :=
 BF' hF (fun _ => vWrt (tB (B1' (d + 1) v))) gW2_ro (fun _ => rfl) (fun _ _ => OD' (a := 0) (b := 1) hW rfl hb .O (A2' rfl (A2' rfl A4')) hw he) fun _ => ⟨rfl, rfl, ⟨⟨Ye, Ye, Ye, rfl, rfl, Ye⟩, Ye⟩, A2' Ye (A2' (G9' _ _) A4'), QT' _ _, A2' Ye (A2' (G9' _ _) A4')⟩
theorem h8' (hF : AH' W F) (h1 : v.list = []) (h2 : v.names = []) : C1OK Θ F fSa (cSp v.kind v.num v.text) :=
 BF' hF (fun _ => bv true) (fun _ => RO.ret _) (fun _ => rfl) (fun _ _ => SA' (d := 0) (a := 0) (b := 1) (a' := 2) (b' := 3) rfl (by rw [h2]; exact Nat.zero_le _) (.P h1 h2) (fun x hx => by cases hx) (.P h1 h2) (fun x hx => by cases hx)) fun _ => ⟨rfl, rfl, ⟨aH' _ _ _ _, aH' _ _ _ _, Ye⟩, A4', ⟨Ye, Ye⟩, A4'⟩
theorem cSl_ok (hF : AH' W F) (h2 : v.names = []) : C1OK Θ F fSa (cSl v.kind v.num v.text v.list.length d v.list) :=
 BF' hF (fun _ => bv true) gS2_ro (fun _ => rfl) (fun _ _ => SA' (d := d) (a := 0) (b := 9) (a' := 1) (b' := 9) rfl (by rw [h2]; exact Nat.zero_le _) (.L h2) (A2' rfl A4') (.L h2) (A2' rfl A4')) fun _ => ⟨rfl, rfl, ⟨⟨Ye, Ye, Ye, rfl, Ye, Ye⟩, ⟨Ye, Ye, Ye, rfl, Ye, Ye⟩, Ye⟩, A2' Ye (A2' Ye A4'), ⟨Ye, Ye⟩, A2' Ye (A2' Ye A4')⟩
theorem cSo_ok (hF : AH' W F) (hb : v.names.length * 16 <= big) : C1OK Θ F fSa (cSo v.kind v.num v.text v.list.length v.names.length d v.list v.names) :=
 BF' hF (fun _ => bv true) gS4_ro (fun _ => rfl) (fun _ _ => SA' (d := d) (a := 0) (b := 1) (a' := 2) (b' := 3) rfl hb .O (A2' rfl (A2' rfl A4')) .O (A2' rfl (A2' rfl A4'))) fun _ => ⟨rfl, rfl, ⟨⟨Ye, Ye, Ye, rfl, rfl, Ye⟩, ⟨Ye, Ye, Ye, rfl, rfl, Ye⟩, Ye⟩, A2' Ye (A2' (G9' _ _) (A2' Ye (A2' (G9' _ _) A4'))), ⟨Ye, Ye⟩, A2' Ye (A2' (G9' _ _) (A2' Ye (A2' (G9' _ _) A4')))⟩
end
theorem VSh.one {d : Nat} {v : Jv} {L N L' N' : AV} {O P O' P' : AO} (h : VSh d v L N O P) (h' : VSh d v L' N' O' P') : L = L' /\ N = N' /\ O = O' /\ P = P' := by
 cases h with
 | P h1 h2 => cases h' with
  | P => exact ⟨rfl, rfl, rfl, rfl⟩
  | L k => exact absurd h1 k.2
  | O k => exact absurd h2 k
 | L h => cases h' with
  | P h1 => exact absurd h1 h.2
  | L => exact ⟨rfl, rfl, rfl, rfl⟩
  | O k => exact absurd h.1 k
 | O h => cases h' with
  | P h1 h2 => exact absurd h2 h
  | L k => exact absurd k.1 h
  | O => exact ⟨rfl, rfl, rfl, rfl⟩
variable {W : World}
def lgB (q : Δ) : Bool := decide (65536 < q.size)
theorem fK' (hW : LWT W) (hL : H1' Sp.cfg W) {e : Nat} (hp : parP (bts s) = .inr e) : Tri Θ W fLb [sv s] [] (bv true) [] := by
 have hne := iU' hp
 refine AN' (con := [(fSpk, cSpk), (fPar, cPe (fun q => q = s) (Int.ofNat e)), (fSa, cSp 0 0 nil0)]) (hints := hLb true) (lc := []) [] rfl (fun F hF => AP' (HU' hL F hF) (AP' (cPe_ok hF fun q hq => by rw [hq]; exact nQ' hW hp) (BT' (h8' (v := plJ 0 0 nil0) hF rfl rfl)))) (fun F _ => noL) fun F => ?_
 refine Yj (lA' W (fun q => q = s) s (Int.ofNat e) F) ⟨⟨?_, (AJ' (vs' := [bv true]) (H' := []) [] rfl rfl (Yb) trivial).fits rfl⟩⟩
 simp only [Cnd.holds, Nat.blt_eq, true_and, and_true]; and_intros; all_goals first | exact A0' (bne_iff_ne.2 (by simp only [Z0]; omega)) | exact A0' rfl | exact Kb0'
theorem fJ' (hW : LWT W) (hL : H1' Sp.cfg W) {v : Jv} (hp : parP (bts s) = .inl v) : Tri Θ W fLb [sv s] [] (bv true) [] := by
 obtain ⟨he, hd, hw⟩ := UD' hp; obtain ⟨LV, NV, OL, ON, hv, hn, hs⟩ := aN' hW hp
 have hb : v.names.length * 16 <= big := by have : big = 140737488351232 := rfl; omega
 have hw' : wJ (16 + 1) v <= 4000000 := by have : wJ 17 v <= 131072 := hw; show wJ 17 v <= _; omega
 obtain ⟨t', ht⟩ : ∃ t', tB (B1' (16 + 1) v) = t' := ⟨_, rfl⟩
 have htb : bts t' = B1' 17 v := by rw [<- ht]; exact GD' _
 by_cases hlong : 65536 < t'.size
 ·have hl65 : ¬ 65536 < s.size := fun h => by rw [WV' (show 65536 < (bts s).length from h)] at hp; cases hp
  have hbs : lgB s = false := decide_eq_false hl65; have hbt : lgB t' = true := decide_eq_true hlong
  have hA : ∀ q, (q = s \/ q = t') -> lgB q = false -> Tri Θ W fPar [sv q] [] (tJ v LV NV 0) [(1006, OL), (1007, ON)] := fun q hq hb => by
   rcases hq with rfl | rfl
   ·exact hs
   ·rw [hbt] at hb; cases hb
  have hB : ∀ q, (q = s \/ q = t') -> lgB q = true -> Tri Θ W fPar [sv q] [] (vErr 1) [] := fun q _ hq => U2' (of_decide_eq_true hq)
  have hsz : decide ((t'.size : Int) > Int.ofNat 65536) = true := decide_eq_true (by simp only [Z0]; omega)
  cases hv with
  | P h1 h2 =>
   refine AN' (con := [(fSpk, cSpk), (fPar, cPb (fun q => q = s \/ q = t') lgB v.kind v.num v.text nilS nilS dum dum), (fWr, cWp v.kind v.num v.text t')]) (hints := hLg) (lc := []) [] rfl (fun F hF => AP' (HU' hL F hF) (AP' (ZW' hF (.P h1 h2) hA hB) (BT' (ht ▸ gZ' hF hW.q hb h1 h2 hw' he)))) (fun F _ => noL) fun F => ?_
   refine Yj (l4' W (fun q => q = s \/ q = t') lgB s t' v.kind v.num v.text F) (VAll.ite (fun hb => Bool.noConfusion (hbs.symm.trans hb)) fun _ => VAll.ite (fun _ => ⟨⟨?_, (AJ' (vs' := [bv true]) (H' := []) [] rfl rfl (Yb) trivial).fits rfl⟩⟩) fun hb => Bool.noConfusion (hbt.symm.trans hb))
   exact Cb33'
  | L h2 =>
   refine AN' (con := [(fSpk, cSpk), (fPar, cPb (fun q => q = s \/ q = t') lgB v.kind v.num v.text (sL5 1006 v.list.length) nilS (ownJ 16 v.list) dum), (fWr, cWl v.kind v.num v.text t' v.list.length 16 v.list)]) (hints := hLg) (lc := []) [] rfl (fun F hF => AP' (HU' hL F hF) (AP' (ZW' hF (.L h2) hA hB) (BT' (ht ▸ h6' hF hW.q hb h2.1 hw' he)))) (fun F _ => noL) fun F => ?_
   refine Yj (l6' W (fun q => q = s \/ q = t') lgB s t' v.kind v.num v.text v.list.length 16 v.list F) (VAll.ite (fun hb => Bool.noConfusion (hbs.symm.trans hb)) fun _ => VAll.ite (fun _ => ⟨⟨?_, (AJ' (vs' := [bv true]) (H' := []) [] rfl rfl (Yb) trivial).fits rfl⟩⟩) fun hb => Bool.noConfusion (hbt.symm.trans hb))
   exact Cb33'
  | O h3 =>
   refine AN' (con := [(fSpk, cSpk), (fPar, cPb (fun q => q = s \/ q = t') lgB v.kind v.num v.text (sL5 1006 v.list.length) (sS1 1007 v.names.length) (ownJ 16 v.list) (rS v.names)), (fWr, cWo v.kind v.num v.text t' v.list.length v.names.length 16 v.list v.names)]) (hints := hLg) (lc := []) [] rfl (fun F hF => AP' (HU' hL F hF) (AP' (ZW' hF (.O h3) hA hB) (BT' (ht ▸ h0' hF hW.q hb hw' he)))) (fun F _ => noL) fun F => ?_
   refine Yj (l5' W (fun q => q = s \/ q = t') lgB s t' v.kind v.num v.text v.list.length v.names.length 16 v.list v.names F) (VAll.ite (fun hb => Bool.noConfusion (hbs.symm.trans hb)) fun _ => VAll.ite (fun _ => ⟨⟨?_, (AJ' (vs' := [bv true]) (H' := []) [] rfl rfl (Yb) trivial).fits rfl⟩⟩) fun hb => Bool.noConfusion (hbt.symm.trans hb))
   try simp only [AO']
   exact Cb34'
 ·have ht2 : parP (bts t') = .inl v := by rw [htb]; exact parP_w hd he (by rw [<- htb]; show t'.size <= _; omega)
  obtain ⟨LV', NV', OL', ON', hv', _, hs'⟩ := aN' hW ht2; obtain ⟨rfl, rfl, rfl, rfl⟩ := hv.one hv'
  have hP : ∀ q, (q = s \/ q = t') -> Tri Θ W fPar [sv q] [] (tJ v LV NV 0) [(1006, OL), (1007, ON)] := fun q hq => by
   rcases hq with rfl | rfl
   ·exact hs
   ·exact hs'
  have hsz : decide ((t'.size : Int) > Int.ofNat 65536) = false := decide_eq_false (by simp only [Z0]; omega)
  cases hv with
  | P h1 h2 =>
   refine AN' (con := [(fSpk, cSpk), (fPar, cPa (fun q => q = s \/ q = t') v.kind v.num v.text nilS nilS dum dum), (fWr, cWp v.kind v.num v.text t'), (fSa, cSp v.kind v.num v.text)]) (hints := hLb false) (lc := []) [] rfl (fun F hF => AP' (HU' hL F hF) (AP' (ZX' hF (.P h1 h2) hP) (AP' (ht ▸ gZ' hF hW.q hb h1 h2 hw' he) (BT' (h8' hF h1 h2))))) (fun F _ => noL) fun F => ?_
   refine Yj (l7' W (fun q => q = s \/ q = t') s t' v.kind v.num v.text F) ⟨⟨?_, (AJ' (vs' := [bv true]) (H' := []) [] rfl rfl (Yb) trivial).fits rfl⟩⟩; exact Cb33'
  | L h2 =>
   refine AN' (con := [(fSpk, cSpk), (fPar, cPa (fun q => q = s \/ q = t') v.kind v.num v.text (sL5 1006 v.list.length) nilS (ownJ 16 v.list) dum), (fWr, cWl v.kind v.num v.text t' v.list.length 16 v.list), (fSa, cSl v.kind v.num v.text v.list.length 16 v.list)]) (hints := hLb false) (lc := []) [] rfl (fun F hF => AP' (HU' hL F hF) (AP' (ZX' hF (.L h2) hP) (AP' (ht ▸ h6' hF hW.q hb h2.1 hw' he) (BT' (cSl_ok hF h2.1))))) (fun F _ => noL) fun F => ?_
   refine Yj (l9' W (fun q => q = s \/ q = t') s t' v.kind v.num v.text v.list.length 16 v.list F) ⟨⟨?_, (AJ' (vs' := [bv true]) (H' := []) [] rfl rfl (Yb) trivial).fits rfl⟩⟩; exact Cb33'
  | O h3 =>
   refine AN' (con := [(fSpk, cSpk), (fPar, cPa (fun q => q = s \/ q = t') v.kind v.num v.text (sL5 1006 v.list.length) (sS1 1007 v.names.length) (ownJ 16 v.list) (rS v.names)), (fWr, cWo v.kind v.num v.text t' v.list.length v.names.length 16 v.list v.names), (fSa, cSo v.kind v.num v.text v.list.length v.names.length 16 v.list v.names)]) (hints := hLb false) (lc := []) [] rfl (fun F hF => AP' (HU' hL F hF) (AP' (ZX' hF (.O h3) hP) (AP' (ht ▸ h0' hF hW.q hb hw' he) (BT' (cSo_ok hF hb))))) (fun F _ => noL) fun F => ?_
   refine Yj (l8' W (fun q => q = s \/ q = t') s t' v.kind v.num v.text v.list.length v.names.length 16 v.list v.names F) ⟨⟨?_, (AJ' (vs' := [bv true]) (H' := []) [] rfl rfl (Yb) trivial).fits rfl⟩⟩
   try simp only [AO']
   exact Cb34'
theorem Back_tri (hW : LWT W) (hL : H1' Sp.cfg W) (s : Δ) : Tri Θ W fLb [sv s] [] (bv true) [] := by
 cases hp : parP (bts s) with
 | inl v => exact fJ' hW hL hp
 | inr e => exact fK' hW hL hp
end Go.Proofs.YtdphpillcaajpaaDoor.Js
