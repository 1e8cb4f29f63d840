/- Parts of the proof, merged. -/
import Derived.Test.YtpijbbobejeemaaGreatDoorPrs5
import Derived.Test.YtpijbbobejeemaaGreatDoorPrs4
import Derived.ProofKit
set_option linter.unusedVariables false
set_option linter.unusedSimpArgs false
set_option maxRecDepth 100000
set_option linter.unusedSectionVars false
namespace Go.Proofs.YtpijbbobejeemaaGreatDoor.Htp
open Go Go.RowKit Eng Kit Tree
noncomputable section
def cNxN (w : List UInt8) (s : Nat) : List AV → Option (AP AV) := mkC gP1 (fun _ => True) nm0 (fun _ => [.ptr 0 0]) (fun _ => [(0, parO w)]) (fun _ => .leaf .ret [.tuple [rqV nil0 nil0 nilP nilB, bv false, iv (Int.ofNat s)]] [(0, parO w)])
def cNxY (w w' : List UInt8) (m t : ByteArray) (L : Hds) (B : List UInt8) : List AV → Option (AP AV) := mkC gP1 (fun _ => True) nm0 (fun _ => [.ptr 0 0]) (fun _ => [(0, parO w)]) (fun _ => .leaf .ret [.tuple [rqV m t (sP 1000 L.length) (sB 1001 B.length), bv true, iv (Int.ofNat 0)]] [(0, parO w'), (1000, rP L), (1001, rB B)])
def cNxZ (w w' : List UInt8) (m t : ByteArray) (B : List UInt8) : List AV → Option (AP AV) := mkC gP1 (fun _ => True) nm0 (fun _ => [.ptr 0 0]) (fun _ => [(0, parO w)]) (fun _ => .leaf .ret [.tuple [rqV m t nilP (sB 1001 B.length), bv true, iv (Int.ofNat 0)]] [(0, parO w'), (1001, rB B)])
def nmOu (p : Nat × Nat) : Nat → Nat := fun k => match Nat.beq k 0 with
 | true => p.1
 | false => match Nat.beq k 1001 with
  | true => p.2
  | false => k
end
theorem BX' (w : List UInt8) (K : Nat → Bool) : (parO w).cl K := trivial
section
variable {W : World} {F : HP} (hW : LW W) (hF : AE' W F)
include hW hF
theorem hX' {w : List UInt8} (hl : w.length ≤ 4000000) {s : Nat} (h : DJ' hdB w = .no s) : C1OK Tryz.prog F AK' (cNxN w s) :=
 BK' hF (fun _ => noV s) OU' (fun _ => rfl) (fun _ _ => iB' hW hl h) fun _ => ⟨rfl, rfl, ⟨rfl, t0⟩, A0' (BX' _ _) A3', US' _ _, A0' (BX' _ _) A3'⟩
theorem hV' {w : List UInt8} (hl : w.length ≤ 4000000) {m t : ByteArray} {L : Hds} {B : List UInt8} {k : Nat} (h : DJ' hdB w = .yes (m, t, L) B k) (hne : L ≠ []) : C1OK Tryz.prog F AK' (cNxY w (w.drop k) m t L B) :=
 BK' hF (fun _ => .tuple [rqV m t (sP 1000 L.length) (sB 1001 B.length), bv true, iv (Int.ofNat 0)]) OU' (fun _ => rfl) (fun _ _ => by
  have := SS' hW hl h
  cases L with
  | nil => exact absurd rfl hne
  | cons x r => exact this) fun _ => ⟨rfl, rfl, ⟨rfl, t0⟩, A0' (BX' _ _) A3', ⟨⟨⟨t0, t0, rfl, rfl, t0⟩, t0, t0, t0⟩, t0⟩, A0' (BX' _ _) (A0' (BN' _ _) (A0' (CE' _ _) A3'))⟩
theorem hU' {w : List UInt8} (hl : w.length ≤ 4000000) {m t : ByteArray} {B : List UInt8} {k : Nat} (h : DJ' hdB w = .yes (m, t, []) B k) : C1OK Tryz.prog F AK' (cNxZ w (w.drop k) m t B) :=
 BK' hF (fun _ => .tuple [rqV m t nilP (sB 1001 B.length), bv true, iv (Int.ofNat 0)]) OU' (fun _ => rfl) (fun _ _ => SS' hW hl h) fun _ => ⟨rfl, rfl, ⟨rfl, t0⟩, A0' (BX' _ _) A3', ⟨⟨⟨t0, t0, t0, rfl, t0⟩, t0, t0, t0⟩, t0⟩, A0' (BX' _ _) (A0' (CE' _ _) A3')⟩
end
section
variable {W : World} (hW : LW W) (b c : Value) (i e : Nat) {M' : List Rqm} {s' : Nat} {w' : List UInt8} (hM : M'.length ≤ 4000000)
include hW hM
structure InS where
 R : List Rqr
 M : List Rqm
 w : List UInt8
end
def BArg (W : World) (b : Value) (bs : List UInt8) : Prop := (∃ bc, b = .slice none 0 bc ∧ bs = []) ∨ ∃ ba bc, b = .slice (some ba) bs.length bc ∧ bs.length ≤ bc ∧ ∀ (j : Nat) x, bs[j]? = some x → W.cell? (ba.add j) = some (.int .u8 x.toNat)
def CArg (W : World) (c : Value) (zs : List Int) : Prop := (∃ cc, c = .slice none 0 cc ∧ zs = []) ∨ ∃ ca cc, c = .slice (some ca) zs.length cc ∧ ∀ (j : Nat) z, zs[j]? = some z → W.cell? (ca.add j) = some (.int .i64 z)
theorem bZ' {W : World} {y : Addr} {x : List UInt8} (h : ∀ (j : Nat) v, x[j]? = some v → W.cell? (y.add j) = some (.int .u8 v.toNat)) : vmap (BG' W y x.length) = rowV encB x := by
 rw [B1']
 congr 1
 refine List.ext_getElem (by simp [BG']) fun j h1 h2 => ?_
 simp only [BG', List.getElem_map, List.getElem_range]
 have hj : j < x.length := by simpa using h2
 rw [h j x[j] (List.getElem?_eq_getElem hj)]
 rfl
theorem d0' {W : World} {y : Addr} {x : List UInt8} (h : ∀ (j : Nat) v, x[j]? = some v → W.cell? (y.add j) = some (.int .u8 v.toNat)) : ((List.range x.length).all fun j => (W.cell? (y.add j)).isSome) = true := by
 rw [List.all_eq_true]
 intro j hj
 have hj : j < x.length := List.mem_range.1 hj
 rw [h j x[j] (List.getElem?_eq_getElem hj)]
 rfl
section
variable {W : World} (hW : LW W) {b c : Value} {bs : List UInt8} {zs : List Int} (hB : BArg W b bs) (hC : CArg W c zs) (hbl : bs.length ≤ 1048576) (hcl : zs.length ≤ 1048576)
include hW hB hC hbl hcl
end
structure OuS where
 i : Nat
 a : Nat
 s : Nat
 M : List Rqm
 w : List UInt8
section
variable {W : World} (hW : LW W) {b c : Value} {bs : List UInt8} {zs : List Int} (hB : BArg W b bs) (hC : CArg W c zs) (hbl : bs.length ≤ 1048576) (hcl : zs.length ≤ 1048576)
include hW hB hC hbl hcl
end
noncomputable section
abbrev fSm : Nat := 13
def rqC (m t : ByteArray) (h b : Value) : AO := .cells [sv m, sv t, .v h, .v b] tRqs
def rqA (m t : ByteArray) (h b : Value) : AV := .v (.agg #[.string m, .string t, h, b])
def hSm (bt : ByteArray) : List (Nat × Nat × Nat × Hint) := [(fSm, 1, 4, hv (.lit false)), (fSm, 1, 10, hv (.lit false)), (fSm, 1, 15, ht bt), (fSm, 1, 18, ht bt), (fSm, 1, 19, hv (.lit false)), (fSm, 1, 28, hv (.lit false))]
def aSm (i : Nat) : List (Nat × AV) := [(2, .ptr 0 0), (3, .ptr 1 0), (5, iv (Int.ofNat i))]
def oSm (m t : ByteArray) (h1 b1 h2 b2 : Value) : LH := [(0, rqC m t h1 b1), (1, rqC m t h2 b2)]
def iSm : List Nat := [2, 3, 4, 5]
noncomputable section
abbrev k99' (q0 q1 : Nat) : Cnd := (f' (Wk (b' (decide (Int.ofNat q0 < ↑q1))) j'))
abbrev k100' (q0 : World) (q1 : Addr) (q2 : Nat) (q3 q4 : ByteArray) : Cnd := ((p' (([0,1].all fun j => (q0.cell? ((q1.add (q2 * 2)).add j)).isSome) = true)).a ((p' ([AV.v ((q0.cell? ((q1.add (q2 * 2)).add 0)).getD (Value.tuple (Array.mk []))),AV.v ((q0.cell? (Addr.mk (q1.add (q2 * 2)).block ((q1.add (q2 * 2)).off + 1) none)).getD (Value.tuple (Array.mk [])))] = [AV.v (Value.string (AV.v ((q0.cell? ((q1.add (q2 * 2)).add 0)).getD (Value.tuple (Array.mk [])))).strOf),AV.v (Value.string (AV.v ((q0.cell? (Addr.mk (q1.add (q2 * 2)).block ((q1.add (q2 * 2)).off + 1) none)).getD (Value.tuple (Array.mk [])))).strOf)])).a (f' (Wk (AV.agg [AV.v (Value.string (AV.v ((q0.cell? ((q1.add (q2 * 2)).add 0)).getD (Value.tuple (Array.mk [])))).strOf),AV.v (Value.string (AV.v ((q0.cell? (Addr.mk (q1.add (q2 * 2)).block ((q1.add (q2 * 2)).off + 1) none)).getD (Value.tuple (Array.mk [])))).strOf)]) (AV.agg [s' q3,s' q4])))))
end
theorem d3' (W : World) (m t k v : ByteArray) (a1 a2 : Addr) (b1 b2 : Value) (n c1 c2 i : Nat) (F : HP) : AV' [] (AB' [(fSm, 4, 4, hv (.lit true)), (fSm, 6, 4, hv (.agg [sv k, sv v])), (fSm, 6, 9, hv (.agg [sv k, sv v])), (fSm, 6, 10, hv (.lit false)), (fSm, 5, 1, hv (iv (Int.ofNat (i + 1))))]) [] W fSm (A4' fSm 4) (tms 0 54 (aSm i)) (oSm m t (.slice (some a1) n c1) b1 (.slice (some a2) n c2) b2) [0, 1] iSm F = VT.leaf (AX.normal,[AV.ptr 0 0,AV.ptr 1 0,a',i' (i + 1)],54) [some (AO.cells [s' m,s' t,AV.v (Value.slice (some a1) n c1),AV.v b1] 64),some (AO.cells [s' m,s' t,AV.v (Value.slice (some a2) n c2),AV.v b2] 64)] 1100 (k12'.a ((k99' i n).a (k12'.a ((k2' i n).a ((k100' W a1 i k v).a (k12'.a ((k2' i n).a ((k100' W a2 i k v).a (((p' (aG' Tryz.prog 39 (Array.mk [Value.string k,Value.string v]) (Array.mk [Value.string k,Value.string v]) (I4' [Value.string k,Value.string v] [Value.string k,Value.string v]))).a (f' (Wk (AV.v (Value.bool !I4' [Value.string k,Value.string v] [Value.string k,Value.string v])) g'))).a ((k6' i).a t')))))))))) := by kernel_rfl
noncomputable section
abbrev k101' (q0 : Nat) : Cnd := (f' (Wk (b' (decide (Int.ofNat q0 < ↑q0))) g'))
end
theorem d6' (W : World) (m t : ByteArray) (a1 a2 : Addr) (b1 b2 : Value) (n c1 c2 : Nat) (F : HP) : AV' [] (AB' [(fSm, 4, 4, hv (.lit false))]) [] W fSm (A4' fSm 4) (tms 0 54 (aSm n)) (oSm m t (.slice (some a1) n c1) b1 (.slice (some a2) n c2) b2) [0, 1] iSm F = VT.leaf (AX.exit 0,[AV.ptr 0 0,AV.ptr 1 0,a',i' n],54) [some (AO.cells [s' m,s' t,AV.v (Value.slice (some a1) n c1),AV.v b1] 64),some (AO.cells [s' m,s' t,AV.v (Value.slice (some a2) n c2),AV.v b2] 64)] 1100 (k12'.a ((k101' n).a t')) := by kernel_rfl
def gSm : List AV → AP (Nat × Nat) := fun tmps => match getL tmps 2, getL tmps 3 with
 | .ptr a _, .ptr b _ => .ret (a, b)
 | _, _ => .fail "same"
def nmSm (p : Nat × Nat) : Nat → Nat := fun k => match Nat.beq k 0 with
 | true => p.1
 | false => match Nat.beq k 1 with
  | true => p.2
  | false => k
def lSm (m t : ByteArray) (h1 b1 h2 b2 : Value) : List AV → AP (AX × List AV) := mkL gSm (fun _ => True) nmSm (fun _ => tms 0 54 (aSm 0)) (fun _ => oSm m t h1 b1 h2 b2) (fun _ => .leaf (.exit 0) (tms 0 54 []) [])
noncomputable section
abbrev k102' (q0 : ByteArray) : Cnd := (f' (Wk (AV.v (Value.bool !q0.toList == q0.toList)) g'))
abbrev k103' (q0 q1 : ByteArray) (q2 : Addr) (q3 q4 : Nat) (q5 : Addr) (q6 q7 : Nat) : Cnd := (p' (OW (AO.cells [s' q0,s' q1,AV.v (Value.slice (some q2) q3 q4),AV.v (Value.slice (some q5) q6 q7)] 64) (AO.cells [s' q0,s' q1,AV.v (Value.slice (some q2) q3 q4),AV.v (Value.slice (some q5) q6 q7)] 64)))
end
theorem d5' (W : World) (m t bt : ByteArray) (a1 a2 b1 b2 : Addr) (n c1 c2 k d1 d2 : Nat) (F : HP) : wRun [] (AB' (hSm bt)) [(fSm, 4, A4' fSm 4, lSm m t (.slice (some a1) n c1) (.slice (some b1) k d1) (.slice (some a2) n c2) (.slice (some b2) k d2))] W fSm [rqA m t (.slice (some a1) n c1) (.slice (some b1) k d1), rqA m t (.slice (some a2) n c2) (.slice (some b2) k d2)] [] [] F = VT.leaf (b' true) [] 1102 ((k13' m).a ((k13' m).a ((k102' m).a ((k13' t).a ((k13' t).a ((k102' t).a (k12'.a ((f' (bt.size = k ∧ ∀ (j : Nat),j < bt.size → (envW [] (AB' (hSm bt)) [(fSm,4,A4' fSm 4,lSm m t (Value.slice (some a1) n c1) (Value.slice (some b1) k d1) (Value.slice (some a2) n c2) (Value.slice (some b2) k d2))] W F).W.cell? (b1.add j) = some (Value.int IntKind.u8 ↑(bt.data.toList.getD j 0).toNat))).a (k12'.a ((f' (bt.size = k ∧ ∀ (j : Nat),j < bt.size → (envW [] (AB' (hSm bt)) [(fSm,4,A4' fSm 4,lSm m t (Value.slice (some a1) n c1) (Value.slice (some b1) k d1) (Value.slice (some a2) n c2) (Value.slice (some b2) k d2))] W F).W.cell? (b2.add j) = some (Value.int IntKind.u8 ↑(bt.data.toList.getD j 0).toNat))).a ((k102' bt).a (k12'.a (k12'.a ((f' (Wk (b' ((↑n : Int) != ↑n)) g')).a ((p' ((fSm,4,A4' fSm 4,lSm m t (Value.slice (some a1) n c1) (Value.slice (some b1) k d1) (Value.slice (some a2) n c2) (Value.slice (some b2) k d2)).snd.snd.fst = (fSm,4,A4' fSm 4,lSm m t (Value.slice (some a1) n c1) (Value.slice (some b1) k d1) (Value.slice (some a2) n c2) (Value.slice (some b2) k d2)).snd.snd.fst)).a (k15'.a ((p' (VW [AV.v (Value.agg (Array.mk [Value.string m,Value.string t,Value.slice (some a1) n c1,Value.slice (some b1) k d1])),AV.v (Value.agg (Array.mk [Value.string m,Value.string t,Value.slice (some a2) n c2,Value.slice (some b2) k d2])),AV.ptr 1100 0,AV.ptr 1101 0,b' false,i' 0,AV.ptr 1100 0,s' m,AV.ptr 1101 0,s' m,g',g',AV.ptr 1100 1,s' t,AV.ptr 1101 1,s' t,g',g',g',AV.ptr 1100 3,AV.v (Value.slice (some b1) k d1),s' bt,AV.ptr 1101 3,AV.v (Value.slice (some b2) k d2),s' bt,g',g',g',AV.ptr 1100 2,AV.v (Value.slice (some a1) n c1),z' ↑n,AV.ptr 1101 2,AV.v (Value.slice (some a2) n c2),z' ↑n,g',g',u',u',u',u',u',u',u',u',u',u',u',u',u',u',u',u',u',u'] (a'::a'::AV.ptr 1100 0::AV.ptr 1101 0::a'::i' 0::ra16 (ra16 (ra16 ([])))))).a ((k103' m t a1 n c1 b1 k d1).a ((k103' m t a2 n c2 b2 k d2).a t'))))))))))))))))))) := by kernel_rfl
noncomputable section
abbrev k104' (q0 : ByteArray) (q1 : Nat) (q2 : World) (q3 : HP) (q4 : Addr) : Cnd := (f' (q0.size = q1 ∧ ∀ (j : Nat),j < q0.size → (envW [] (AB' (hSm q0 ++ [(fSm,4,4,hv g')])) [] q2 q3).W.cell? (q4.add j) = some (Value.int IntKind.u8 ↑(q0.data.toList.getD j 0).toNat)))
end
theorem d2' (W : World) (m t bt : ByteArray) (b1 b2 : Addr) (k d1 d2 : Nat) (F : HP) : wRun [] (AB' (hSm bt ++ [(fSm, 4, 4, hv (.lit false))])) [] W fSm [rqA m t (.slice none 0 0) (.slice (some b1) k d1), rqA m t (.slice none 0 0) (.slice (some b2) k d2)] [] [] F = VT.leaf (b' true) [] 1102 ((k13' m).a ((k13' m).a ((k102' m).a ((k13' t).a ((k13' t).a ((k102' t).a (k12'.a ((k104' bt k W F b1).a (k12'.a ((k104' bt k W F b2).a ((k102' bt).a (k12'.a (k12'.a (k18'.a (k12'.a (k18'.a t')))))))))))))))) := by kernel_rfl
end
theorem T2' (a b : ByteArray) (w : World) : (Op.equalIn 10000 39 (.agg (Array.mk [.string a, .string b])) (.agg (Array.mk [.string a, .string b]))).run Tryz.prog w = .ok true w := by
 have u9 := Tryz.underlying9
 have a9 := Tryz.isAgg9
 have z9 := Tryz.sizeOf9
 have hS : Tryz.prog.underlying 39 = some (.struct (Tryz.prog.fieldsOf 39)) := by kernel_rfl
 rw [show (10000 : Nat) = 9999 + 1 from rfl, run_equalIn_agg w 9999 _ _ _ hS (by kernel_rfl)]
 simp only [Program.fieldsOf, Tryz.underlying39]
 go_simp
 try simp
theorem M2' (a b : ByteArray) : I4' [Value.string a, Value.string b] [Value.string a, Value.string b] = true := by simp [I4', valQ]
theorem XL' (a b : ByteArray) : aG' Tryz.prog 39 (Array.mk [.string a, .string b]) (Array.mk [.string a, .string b]) (I4' [Value.string a, Value.string b] [Value.string a, Value.string b]) := by
 intro w
 rw [M2']
 exact T2' a b w
theorem MW' (s : ByteArray) : (!s.toList == s.toList) = false := by rw [beq_self_eq_true]; rfl
theorem DR' (n : Nat) : ((n : Int) != (n : Int)) = false := by simp
theorem QQ' (B : List UInt8) : (tB B).size = B.length := rfl
theorem NC' {W : World} {a : Addr} {B : List UInt8} (h : BAt W.cell? a B) : ∀ (j : Nat), j < (tB B).size → W.cell? (a.add j) = some (Value.int IntKind.u8 ↑((tB B).data.toList.getD j 0).toNat) := fun j hj => by
 rw [BL']
 have hj : j < B.length := hj
 have := h j B[j] (List.getElem?_eq_getElem hj)
 rw [this]
 simp [List.getD_eq_getElem?_getD, List.getElem?_eq_getElem hj]
theorem bF' {W : World} {m t : ByteArray} {L : Hds} (hL : L.length ≤ 4000000) {a1 a2 : Addr} {c1 c2 : Nat} {b1 b2 : Value} (h1 : HAt W.cell? (some a1) L) (h2 : HAt W.cell? (some a2) L) :
  LTri Tryz.prog W (A4' fSm 4) (tms 0 54 (aSm 0)) (oSm m t (.slice (some a1) L.length c1) b1 (.slice (some a2) L.length c2) b2) (.exit 0) (tms 0 54 []) [] := by
 refine AS' (W := W) (g := fSm) (b := A4' fSm 4) (σ := {i : Nat // i ≤ L.length}) 54 (fun i => aSm i.1) (fun _ => oSm m t (.slice (some a1) L.length c1) b1 (.slice (some a2) L.length c2) b2) (.exit 0) [] [] (fun i => L.length - i.1) [0, 1] iSm (by intro h; cases h) (fun _ => rfl) rfl ?_ ⟨0, Nat.zero_le _⟩
 rintro ⟨i, hi⟩
 simp only
 by_cases hl : i < L.length
 ·have hw := AO' i (by omega)
  have e1 := ltTN hl
  have g3 : i.blt L.length = true := by rw [Nat.blt_eq]; exact hl
  obtain ⟨x1, q1, k1⟩ := h1 i L[i] (List.getElem?_eq_getElem hl)
  obtain ⟨x2, q2, k2⟩ := h2 i L[i] (List.getElem?_eq_getElem hl)
  obtain rfl := Option.some.inj q1
  obtain rfl := Option.some.inj q2
  generalize L[i] = p at *
  obtain ⟨k, v⟩ := p
  have y0 : W.cell? ((a1.add (i * 2)).add 0) = some (.string k) := k1 0 _ rfl
  have y1 : W.cell? ((a1.add (i * 2)).add 1) = some (.string v) := k1 1 _ rfl
  have y1' : W.cell? (Addr.mk (a1.add (i * 2)).block ((a1.add (i * 2)).off + 1) none) = some (.string v) := y1
  have z0 : W.cell? ((a2.add (i * 2)).add 0) = some (.string k) := k2 0 _ rfl
  have z1 : W.cell? ((a2.add (i * 2)).add 1) = some (.string v) := k2 1 _ rfl
  have z1' : W.cell? (Addr.mk (a2.add (i * 2)).block ((a2.add (i * 2)).off + 1) none) = some (.string v) := z1
  have ya : ([0, 1].all fun j => (W.cell? ((a1.add (i * 2)).add j)).isSome) = true := by simp only [List.all_cons, List.all_nil, y0, y1, Option.isSome_some, Bool.and_true]
  have za : ([0, 1].all fun j => (W.cell? ((a2.add (i * 2)).add j)).isSome) = true := by simp only [List.all_cons, List.all_nil, z0, z1, Option.isSome_some, Bool.and_true]
  have hq : (!I4' [Value.string k, Value.string v] [Value.string k, Value.string v]) = false := by rw [M2']; rfl
  refine ⟨[], AB' [(fSm, 4, 4, hv (.lit true)), (fSm, 6, 4, hv (.agg [sv k, sv v])), (fSm, 6, 9, hv (.agg [sv k, sv v])), (fSm, 6, 10, hv (.lit false)), (fSm, 5, 1, hv (iv (Int.ofNat (i + 1))))], [], fun _ _ => noC, fun _ _ => noL, fun F => ?_⟩
  refine cv (d3' W m t k v a1 a2 b1 b2 L.length c1 c2 i F) ⟨⟨?_, rfl, .inl ⟨rfl, ⟨i + 1, hl⟩, AR' hl, [], rfl, rfl, ⟨w0, w0, w0, t0⟩, ⟨_, rfl, o0⟩, ⟨_, rfl, o0⟩, t0⟩⟩⟩
  simp only [Cnd.holds, g3, ya, za, y0, y1', z0, z1', Option.getD_some, AV.strOf, Nat.blt_eq, true_and, and_true]
  and_intros
  all_goals first
   | (with_reducible exact AG' hw)
   | exact A1' e1
   | exact A1' hq
   | exact XL' k v | (with_reducible first | exact t0 | exact r0 | exact A6' _ | assumption) | exact r0 | ((repeat (first | exact VW.nil | refine c1 ?_ | refine c2 ?_ | refine c3 ?_)); done)
 ·have hie : i = L.length := by omega
  subst hie
  refine ⟨[], AB' [(fSm, 4, 4, hv (.lit false))], [], fun _ _ => noC, fun _ _ => noL, fun F => ?_⟩
  refine cv (d6' W m t a1 a2 b1 b2 L.length c1 c2 F) ⟨⟨?_, rfl, .inr ⟨rfl, [], rfl, rfl, t0, t0⟩⟩⟩
  simp only [Cnd.holds, A2', Nat.blt_eq, true_and, and_true]
  and_intros
  all_goals first
   | exact A1' (ltFN (n0)) | (with_reducible first | exact t0 | exact r0 | exact A6' _ | assumption) | exact r0 | ((repeat (first | exact VW.nil | refine c1 ?_ | refine c2 ?_ | refine c3 ?_)); done)
theorem gSm_ro : ∀ args, RO (gSm args) := by
 intro args
 unfold gSm
 split
 ·exact RO.ret _
 ·exact RO.fail _
theorem SQ' {W : World} {x : Rqm} {r1 r2 : Rqr} (h1 : QAt W.cell? x r1) (h2 : QAt W.cell? x r2) (hL : x.1.2.2.length ≤ 4000000) : Tri Tryz.prog W fSm [.v (.agg (encQ r1).toArray), .v (.agg (encQ r2).toArray)] [] (bv true) [] := by
 obtain ⟨⟨m, t, L⟩, B⟩ := x
 obtain ⟨m1, t1, ha1, hn1, hc1, ba1, bn1, bc1⟩ := r1
 obtain ⟨m2, t2, ha2, hn2, hc2, ba2, bn2, bc2⟩ := r2
 obtain ⟨d1, d2, d3, d4, p1, p2, p3⟩ := h1
 obtain ⟨e1, e2, e3, e4, q1, q2, q3⟩ := h2
 simp only at d1 d2 d3 d4 e1 e2 e3 e4 p1 p2 p3 q1 q2 q3 hL
 subst d1 d2 d3 d4 e1 e2 e3 e4
 have y1 := NC' p2
 have y2 := NC' q2
 cases L with
 | nil =>
  obtain ⟨rfl, rfl⟩ := p3.1 rfl
  obtain ⟨rfl, rfl⟩ := q3.1 rfl
  refine AA' (con := []) (hints := AB' (hSm (tB B) ++ [(fSm, 4, 4, hv (.lit false))])) (lc := []) [] rfl (fun F _ => noC) (fun F _ => noL) fun F => ?_
  refine cv (d2' W m2 t2 (tB B) ba1 ba2 B.length bc1 bc2 F) ⟨⟨?_, (AF' (vs' := [bv true]) (H' := []) [] rfl rfl (v0) trivial).fits rfl⟩⟩
  simp only [Cnd.holds, A2', Nat.blt_eq, true_and, and_true]
  and_intros
  all_goals first
   | exact A1' (MW' _)
   | exact y1
   | exact y2
   | exact QQ' _ | (with_reducible first | exact t0 | exact r0 | exact A6' _ | assumption) | exact r0 | ((repeat (first | exact VW.nil | refine c1 ?_ | refine c2 ?_ | refine c3 ?_)); done)
 | cons p r =>
  obtain ⟨a1, rfl⟩ := p3.2 (by intro e; cases e)
  obtain ⟨a2, rfl⟩ := q3.2 (by intro e; cases e)
  generalize p :: r = L at *
  refine AA' (con := []) (hints := AB' (hSm (tB B))) (lc := [(fSm, 4, A4' fSm 4, lSm m2 t2 (.slice (some a1) L.length hc1) (.slice (some ba1) B.length bc1) (.slice (some a2) L.length hc2) (.slice (some ba2) B.length bc2))]) [] rfl (fun F _ => noC) (fun F hF => BE' (AW' hF gSm_ro (fun _ _ => by
   simp only [RT.pick]
   exact bF' hL p1 q1) fun _ => by
   simp only [RT.pick]
   exact AQ' rfl rfl (A0' rfl (A0' rfl (A0' t0 A3'))) (A0' ⟨t0, t0, t0, t0, t0⟩ (A0' ⟨t0, t0, t0, t0, t0⟩ A3')) A3' A3')) fun F => ?_
  refine cv (d5' W m2 t2 (tB B) a1 a2 ba1 ba2 L.length hc1 hc2 B.length bc1 bc2 F) ⟨⟨?_, (AF' (vs' := [bv true]) (H' := []) [] rfl rfl (v0) trivial).fits rfl⟩⟩
  simp only [Cnd.holds, A2', Nat.blt_eq, true_and, and_true]
  and_intros
  all_goals first
   | exact A1' (MW' _)
   | exact A1' (DR' _)
   | exact y1
   | exact y2
   | exact QQ' _ | (with_reducible first | exact t0 | exact r0 | exact A6' _ | assumption) | exact r0 | ((repeat (first | exact VW.nil | refine c1 ?_ | refine c2 ?_ | refine c3 ?_)); done)
noncomputable section
end
theorem YX' {w : List UInt8} {m t : ByteArray} {L : Hds} {B : List UInt8} {k : Nat} (h : DJ' hdB w = .yes (m, t, L) B k) : L.length ≤ 4000000 := by
 unfold DJ' at h
 cases hn : hdN w with
 | none =>
  rw [hn] at h
  simp only at h
  split at h <;> cases h
 | some n =>
  obtain ⟨n2, nw⟩ := GR' hn
  rw [hn] at h
  simp only at h
  split at h
  ·cases h
  ·rename_i h8
   obtain ⟨l0, ls, hM⟩ := G2' (w.take n)
   have hh : hdB (w.take n) = hdL (l0 :: ls) := by unfold hdB; rw [hM]
   have hln : ls.length ≤ 8192 := by
    have h1 := CQ' (sufB (tB (w.take n)) crB2) crB (by decide)
    have e : splB (sufB (tB (w.take n)) crB2) crB = l0 :: ls := hM
    have h2 := CA' (tB (w.take n)) crB2
    rw [BC', List.length_take] at h2
    rw [e, List.length_cons] at h1
    omega
   rw [hh] at h
   unfold hdL at h
   simp only at h
   cases hline : lnB l0 with
   | none => rw [hline] at h; cases h
   | some p =>
    obtain ⟨m', t'⟩ := p
    rw [hline] at h
    simp only at h
    cases hd : C7' [] ls with
    | none => rw [hd] at h; cases h
    | some L' =>
     rw [hd] at h
     simp only at h
     cases hL : lenB L' with
     | none => rw [hL] at h; cases h
     | some sz =>
      rw [hL] at h
      simp only at h
      by_cases hb : 65536 < sz
      ·rw [if_pos hb] at h; cases h
      ·rw [if_neg hb] at h
       simp only at h
       split at h
       ·cases h
       ·cases h
        have := BI' hd
        rw [List.length_nil] at this
        omega
section
variable {W : World} (hW : LW W) {b c : Value} {bs : List UInt8} {zs : List Int} (hB : BArg W b bs) (hC : CArg W c zs) (hbl : bs.length ≤ 1048576) (hcl : zs.length ≤ 1048576)
include hW hB hC hbl hcl
end
noncomputable section
abbrev fAt : Nat := 62
abbrev fRHd : Nat := 32
abbrev fRLs : Nat := 33
abbrev fRCt : Nat := 63
abbrev fFnd : Nat := 36
def sO (i off n : Nat) : AV := .slice i off n 1 (.lo n)
def hAt0 (d e : Nat) (b : Bool) (x : ByteArray) (r : Bool) : B4' := AB' [(fAt, 1, 3, hv (iv (Int.ofNat d))), (fAt, 1, 6, hv (.lit b)), (fAt, 3, 5, hv (iv (Int.ofNat e))), (fAt, 3, 7, ht x), (fAt, 3, 9, hv (bv r))]
noncomputable section
abbrev k105' (q0 q1 q2 : Nat) : Cnd := (f' (Wk (z' (IntKind.i64.wrap (↑q0 - Int.ofNat q1))) (i' q2)))
abbrev k106' (q0 : Nat) (q1 : ByteArray) : Cnd := (f' (Wk (b' (decide (Int.ofNat q0 < ↑q1.size))) j'))
end
theorem gI' (P : List UInt8) (s : ByteArray) (off n i d : Nat) (F : HP) : wRun [] (hAt0 d 0 true s false) [] default fAt [sO 0 off n, iv (Int.ofNat i), sv s] [(0, rB1 P)] [0] F = VT.leaf (b' false) [some (AO.cells (rowV encB P) 11)] 1100 ((k105' n i d).a ((k106' d s).a t')) := by kernel_rfl
noncomputable section
abbrev k107' (q0 : Nat) (q1 : ByteArray) : Cnd := (f' (Wk (b' (decide (Int.ofNat q0 < ↑q1.size))) g'))
end
theorem gJ' (P : List UInt8) (s x : ByteArray) (off n i d e : Nat) (r : Bool) (F : HP) : wRun [] (hAt0 d e false x r) [] default fAt [sO 0 off n, iv (Int.ofNat i), sv s] [(0, rB1 P)] [0] F = VT.leaf (b' r) [some (AO.cells (rowV encB P) 11)] 1100 ((k105' n i d).a ((k107' d s).a ((f' (Wk (z' (IntKind.i64.wrap (Int.ofNat i + ↑s.size))) (i' e))).a (((p' (i.ble e = true)).a ((p' (e.ble n = true)).a (f' (n.ble n = true)))).a ((f' (off + i * 1 + (e - i) ≤ (rowV encB P).length ∧ List.take (e - i) (List.drop (off + i * 1) (rowV encB P)) = vmap (List.map (fun b => Value.int IntKind.u8 ↑b.toNat) x.data.toList))).a ((f' (Wk (b' (x.toList == s.toList)) (b' r))).a t')))))) := by kernel_rfl
def gRow : List AV → AP Nat := fun args => match args with
 | .slice a _ _ _ _ :: _ => .ret a
 | _ => .fail "row"
def cAt (P : List UInt8) (off n i : Nat) (s : ByteArray) (b : Bool) : List AV → Option (AP AV) := mkC gRow (fun _ => True) nm0 (fun _ => [sO 0 off n, iv (Int.ofNat i), sv s]) (fun _ => [(0, rB1 P)]) (fun _ => .leaf .ret [bv b] [(0, rB1 P)])
def crB' : ByteArray := ByteArray.mk (Array.mk [13, 10])
def QL' : ByteArray := ByteArray.mk (Array.mk [13, 10, 13, 10])
def aRh (off n i : Nat) : List (Nat × AV) := [(0, sO 0 off n), (3, iv (Int.ofNat i))]
def hRh (i : Nat) (b : Bool) : B4' := AB' [(fRHd, 4, 3, hv (.lit true)), (fRHd, 6, 2, hv (.lit b)), (fRHd, 7, 1, hv (iv (Int.ofNat (i + 4)))), (fRHd, 5, 1, hv (iv (Int.ofNat (i + 1))))]
theorem UF' (P : List UInt8) (off n i : Nat) (F : HP) : AV' [(fAt, cAt P off n i QL' false)] (hRh i false) [] default fRHd (A4' fRHd 4) (tms 0 17 (aRh off n i)) [(0, rB1 P)] [0] [0, 2, 3] F = VT.leaf (AX.normal,[AV.slice 0 off n 1 (Cp.lo n),a',i' (i + 1)],17) [some (AO.cells (AV.rens (sgN (nm0 0) [] 0) (rowV encB P)) 11)] 1100 ((k99' i n).a (((Cnd.p True).a ((p' (VW [AV.slice 0 off n 1 (Cp.lo n),i' i,s' y8'] [AV.slice 0 off n 1 (Cp.lo n),i' i,s' QL'])).a ((p' (OW (AO.cells (rowV encB P) 11) (AO.cells (AV.rens (nm0 0) (rowV encB P)) 11))).a (f' (Wk (b' false) g'))))).a ((k6' i).a t'))) := by kernel_rfl
theorem dG' (P : List UInt8) (off n i : Nat) (F : HP) : AV' [(fAt, cAt P off n i QL' true)] (hRh i true) [] default fRHd (A4' fRHd 4) (tms 0 17 (aRh off n i)) [(0, rB1 P)] [0] [0, 2, 3] F = VT.leaf (AX.ret,[AV.slice 0 off n 1 (Cp.lo n),i' (i + 4),i' i],17) [some (AO.cells (AV.rens (sgN (nm0 0) [] 0) (rowV encB P)) 11)] 1100 ((k99' i n).a (((Cnd.p True).a ((p' (VW [AV.slice 0 off n 1 (Cp.lo n),i' i,s' y8'] [AV.slice 0 off n 1 (Cp.lo n),i' i,s' QL'])).a ((p' (OW (AO.cells (rowV encB P) 11) (AO.cells (AV.rens (nm0 0) (rowV encB P)) 11))).a (f' (Wk (b' true) j'))))).a ((f' (Wk (z' (IntKind.i64.wrap (Int.ofNat i + Int.ofNat 4))) (i' (i + 4)))).a t'))) := by kernel_rfl
theorem dH' (P : List UInt8) (off n : Nat) (F : HP) : AV' [] (AB' [(fRHd, 4, 3, hv (.lit false))]) [] default fRHd (A4' fRHd 4) (tms 0 17 (aRh off n n)) [(0, rB1 P)] [0] [0, 2, 3] F = VT.leaf (AX.exit 0,[AV.slice 0 off n 1 (Cp.lo n),a',i' n],17) [some (AO.cells (rowV encB P) 11)] 1100 ((k101' n).a t') := by kernel_rfl
def gRh : List AV → AP Nat := fun tmps => match getL tmps 0 with
 | .slice a _ _ _ _ => .ret a
 | _ => .fail "row"
def lRh (P : List UInt8) (off n : Nat) : List AV → AP (AX × List AV) := mkL gRh (fun _ => True) nm0 (fun _ => tms 0 17 (aRh off n 0)) (fun _ => [(0, rB1 P)]) (fun _ => .leaf (.exit 0) (tms 0 17 []) [(0, rB1 P)])
def lRhx (P : List UInt8) (off n k : Nat) : List AV → AP (AX × List AV) := mkL gRh (fun _ => True) nm0 (fun _ => tms 0 17 (aRh off n 0)) (fun _ => [(0, rB1 P)]) (fun _ => .leaf .ret (tms 0 17 [(2, iv (Int.ofNat (k + 4)))]) [(0, rB1 P)])
theorem dF' (P : List UInt8) (off n : Nat) (F : HP) : wRun [(fAt, cAt P off n 0 crB' true)] (AB' [(fRHd, 1, 1, hv (.lit true))]) [] default fRHd [sO 0 off n] [(0, rB1 P)] [0] F = VT.leaf (i' 2) [some (AO.cells (AV.rens (sgN (nm0 0) [] 0) (rowV encB P)) 11)] 1100 (((Cnd.p True).a ((p' (VW [AV.slice 0 off n 1 (Cp.lo n),i' 0,s' y9'] [AV.slice 0 off n 1 (Cp.lo n),i' 0,s' crB'])).a ((p' (OW (AO.cells (rowV encB P) 11) (AO.cells (AV.rens (nm0 0) (rowV encB P)) 11))).a (f' (Wk (b' true) j'))))).a t') := by kernel_rfl
noncomputable section
abbrev k108' (q0 q1 : Nat) (q2 : List UInt8) : Cnd := ((p' True).a ((p' (VW [AV.slice 0 q0 q1 1 (Cp.lo q1),i' 0,s' y9'] [AV.slice 0 q0 q1 1 (Cp.lo q1),i' 0,s' crB'])).a ((p' (OW (AO.cells (rowV encB q2) 11) (AO.cells (AV.rens (nm0 0) (rowV encB q2)) 11))).a (f' (Wk (b' false) g')))))
abbrev k109' (q0 q1 : Nat) : Cnd := (p' (VW (AV.slice 0 q0 q1 1 (Cp.lo q1)::u'::i' 0::i' 0::AV.slice 0 q0 q1 1 (Cp.lo q1)::g'::ru8 (u'::u'::u'::[])) (AV.slice 0 q0 q1 1 (Cp.lo q1)::a'::a'::i' 0::ra8 (ra4 (a'::[])))))
abbrev k110' (q0 : List UInt8) : Cnd := (p' (OW (AO.cells (AV.rens (sgN (nm0 0) [] 0) (rowV encB q0)) 11) (AO.cells (AV.rens (nm0 0) (rowV encB q0)) 11)))
end
theorem dD' (P : List UInt8) (off n : Nat) (F : HP) : wRun [(fAt, cAt P off n 0 crB' false)] (AB' [(fRHd, 1, 1, hv (.lit false))]) [(fRHd, 4, A4' fRHd 4, lRh P off n)] default fRHd [sO 0 off n] [(0, rB1 P)] [0] F = VT.leaf (i' 0) [some (AO.cells (AV.rens (sgN (nm0 0) [] 0) (rowV encB P)) 11)] 1100 ((k108' off n P).a ((p' ((fRHd,4,A4' fRHd 4,lRh P off n).snd.snd.fst = (fRHd,4,A4' fRHd 4,lRh P off n).snd.snd.fst)).a (k15'.a ((k109' off n).a ((k110' P).a t'))))) := by kernel_rfl
theorem dE' (P : List UInt8) (off n k : Nat) (F : HP) : wRun [(fAt, cAt P off n 0 crB' false)] (AB' [(fRHd, 1, 1, hv (.lit false))]) [(fRHd, 4, A4' fRHd 4, lRhx P off n k)] default fRHd [sO 0 off n] [(0, rB1 P)] [0] F = VT.leaf (i' (k + 4)) [some (AO.cells (AV.rens (sgN (nm0 0) [] 0) (rowV encB P)) 11)] 1100 ((k108' off n P).a ((p' ((fRHd,4,A4' fRHd 4,lRhx P off n k).snd.snd.fst = (fRHd,4,A4' fRHd 4,lRhx P off n k).snd.snd.fst)).a (k15'.a ((k109' off n).a ((k110' P).a t'))))) := by kernel_rfl
def aLi (off n no f i : Nat) : List (Nat × AV) := [(0, sO 0 off n), (3, sB 1000 no), (4, iv (Int.ofNat f)), (5, iv (Int.ofNat i))]
def kLi : List Nat := [0, 1000, 1100, 1101, 1102]
def iLi : List Nat := [0, 3, 4, 5]
def hLi (i : Nat) (b : Bool) (x : ByteArray) : B4' := AB' [(fRLs, 4, 3, hv (.lit true)), (fRLs, 6, 2, hv (.lit b)), (fRLs, 7, 5, ht x), (fRLs, 8, 1, hv (iv (Int.ofNat (i + 2)))), (fRLs, 5, 1, hv (iv (Int.ofNat (i + 1))))]
theorem eJ' (P : List UInt8) (O : List ByteArray) (off n no f i : Nat) (F : HP) : AV' [(fAt, cAt P off n i crB' false)] (hLi i false nil0) [] default fRLs (A4' fRLs 4) (tms 0 31 (aLi off n no f i)) [(0, rB1 P), (1000, rS O)] kLi iLi F = VT.leaf (AX.normal,[AV.slice 0 off n 1 (Cp.lo n),AV.slice 1000 0 no 1 (Cp.lo no),i' f,i' (i + 1)],31) [some (AO.cells (AV.rens (sgN (nm0 0) [] 0) (rowV encB P)) 11),some (AO.cells (rowV encS O) 18),none,none,none] 1100 ((k99' i n).a (((Cnd.p True).a ((p' (VW [AV.slice 0 off n 1 (Cp.lo n),i' i,s' y9'] [AV.slice 0 off n 1 (Cp.lo n),i' i,s' crB'])).a ((p' (OW (AO.cells (rowV encB P) 11) (AO.cells (AV.rens (nm0 0) (rowV encB P)) 11))).a (f' (Wk (b' false) g'))))).a ((k6' i).a t'))) := by kernel_rfl
noncomputable section
abbrev k111' (q0 : Nat) (q1 : List ByteArray) : Cnd := ((p' (true = true)).a ((p' (true = true)).a ((p' (true = true)).a ((p' (true = true)).a ((p' ((0 + q0 * 1).ble (rowV encS q1).length = true)).a ((p' (((q0 + 1) * 16).ble 140737488355328 = true)).a ((p' ((q0 + 1).ble 9223372036854775807 = true)).a (f' ((List.take (q0 * 1) (List.drop 0 (rowV encS q1))).length.beq (q0 * 1) = true)))))))))
end
theorem eI' (P : List UInt8) (O : List ByteArray) (x : ByteArray) (off n no f i : Nat) (F : HP) : AV' [(fAt, cAt P off n i crB' true)] (hLi i true x) [] default fRLs (A4' fRLs 4) (tms 0 31 (aLi off n no f i)) [(0, rB1 P), (1000, rS O)] kLi iLi F = VT.leaf (AX.normal,[AV.slice 0 off n 1 (Cp.lo n),AV.slice 1101 0 (no + 1) 1 (Cp.lo (no + 1)),i' (i + 2),i' (i + 1)],31) [some (AO.cells (AV.rens (sgN (nm0 0) [] 0) (rowV encB P)) 11),none,some (AO.cells [s' x] 18),some (AO.cells (List.take (no * 1) (List.drop 0 (rowV encS O)) ++ [s' x]) 18),none] 1102 ((k99' i n).a (((Cnd.p True).a ((p' (VW [AV.slice 0 off n 1 (Cp.lo n),i' i,s' y9'] [AV.slice 0 off n 1 (Cp.lo n),i' i,s' crB'])).a ((p' (OW (AO.cells (rowV encB P) 11) (AO.cells (AV.rens (nm0 0) (rowV encB P)) 11))).a (f' (Wk (b' true) j'))))).a (((p' (f.ble i = true)).a ((p' (i.ble n = true)).a (f' (n.ble n = true)))).a ((f' (off + f * 1 + (i - f) ≤ (AV.rens (sgN (nm0 0) [] 0) (rowV encB P)).length ∧ List.take (i - f) (List.drop (off + f * 1) (AV.rens (sgN (nm0 0) [] 0) (rowV encB P))) = vmap (List.map (fun b => Value.int IntKind.u8 ↑b.toNat) x.data.toList))).a ((k111' no O).a ((f' (Wk (z' (IntKind.i64.wrap (Int.ofNat i + Int.ofNat 2))) (i' (i + 2)))).a ((k6' i).a t'))))))) := by kernel_rfl
theorem eK' (P : List UInt8) (O : List ByteArray) (off n no f : Nat) (F : HP) : AV' [] (AB' [(fRLs, 4, 3, hv (.lit false))]) [] default fRLs (A4' fRLs 4) (tms 0 31 (aLi off n no f n)) [(0, rB1 P), (1000, rS O)] kLi iLi F = VT.leaf (AX.exit 0,[AV.slice 0 off n 1 (Cp.lo n),AV.slice 1000 0 no 1 (Cp.lo no),i' f,i' n],31) [some (AO.cells (rowV encB P) 11),some (AO.cells (rowV encS O) 18),none,none,none] 1100 ((k101' n).a t') := by kernel_rfl
def gLi : List AV → AP (Nat × Nat) := fun tmps => match getL tmps 0, getL tmps 3 with
 | .slice a _ _ _ _, .slice b _ _ _ _ => .ret (a, b)
 | _, _ => .fail "lines"
def lLi (P : List UInt8) (O : List ByteArray) (off n no : Nat) : List AV → AP (AX × List AV) := mkL gLi (fun _ => True) nm0k (fun _ => tms 0 31 (aLi off n 0 0 0)) (fun _ => [(0, rB1 P), (1000, rS [])]) (fun _ => .leaf (.exit 0) (tms 0 31 [(3, sB 1000 no)]) [(0, rB1 P), (1000, rS O)])
noncomputable section
abbrev k112' : Cnd := (p' (OW (AO.cells (rep [s' y0'] 0) 18) (AO.cells [] 18)))
end
theorem oLi_eq (P : List UInt8) (O : List ByteArray) (off n no : Nat) (F : HP) : wRun [] (AB' [(fRLs, 9, 3, hv (iv (Int.ofNat no)))]) [(fRLs, 4, A4' fRLs 4, lLi P O off n (no + 1))] default fRLs [sO 0 off n] [(0, rB1 P)] [0, 1100, 1101] F = VT.leaf (AV.slice 1101 0 no 1 (Cp.lo (no + 1 - 0))) [some (AO.cells (AV.rens (sgN (nm0k (0,1100)) [1000] 1101) (rowV encB P)) 11),none,some (AO.cells (AV.rens (sgN (nm0k (0,1100)) [1000] 1101) (rowV encS O)) 18)] 1102 ((p' ((fRLs,4,A4' fRLs 4,lLi P O off n (no + 1)).snd.snd.fst = (fRLs,4,A4' fRLs 4,lLi P O off n (no + 1)).snd.snd.fst)).a (k15'.a ((p' (VW (AV.slice 0 off n 1 (Cp.lo n)::u'::e'::AV.slice 1100 0 0 1 (Cp.ex 0)::i' 0::i' 0::AV.slice 1100 0 0 1 (Cp.ex 0)::ru16 (ru8 ([]))) (AV.slice 0 off n 1 (Cp.lo n)::a'::a'::AV.slice 1100 0 0 1 (Cp.lo 0)::i' 0::i' 0::ra16 (ra8 (a'::[]))))).a ((p' (OW (AO.cells (rowV encB P) 11) (AO.cells (AV.rens (nm0k (0,1100)) (rowV encB P)) 11))).a (k112'.a ((f' (Wk (z' (IntKind.i64.wrap (↑(no + 1) - Int.ofNat 1))) (i' no))).a (((p' (true = true)).a ((p' (no.ble (no + 1) = true)).a (f' ((no + 1).ble (no + 1) = true)))).a t'))))))) := by kernel_rfl
def aCu (s : ByteArray) (c : UInt8) (no f i : Nat) : List (Nat × AV) := [(0, sv s), (1, byv c), (5, sB 1000 no), (6, iv (Int.ofNat f)), (7, iv (Int.ofNat i))]
def kCu : List Nat := [1000, 1100, 1101, 1102]
def iCu : List Nat := [0, 1, 5, 6, 7]
def hCu (i : Nat) (e : Bool) (x : UInt8) (b r : Bool) (y : ByteArray) : B4' := AB' [(fRCt, 4, 3, hv (.lit true)), (fRCt, 6, 3, hv (.lit e)), (fRCt, 6, 7, h0v (byv x)), (fRCt, 6, 9, hv (.lit b)), (fRCt, 6, 10, hv (.lit r)), (fRCt, 7, 4, h0v (sv y)), (fRCt, 8, 1, hv (iv (Int.ofNat (i + 1)))), (fRCt, 5, 1, hv (iv (Int.ofNat (i + 1))))]
noncomputable section
abbrev k113' (q0 : Nat) (q1 : ByteArray) : Cnd := (f' (Wk (b' (decide (Int.ofNat q0 ≤ ↑q1.size))) j'))
abbrev k114' (q0 : Nat) (q1 : ByteArray) : Cnd := (f' (Wk (b' (Int.ofNat q0 == ↑q1.size)) g'))
abbrev k115' (q0 : Nat) (q1 : ByteArray) (q2 : UInt8) : Cnd := ((p' (q0 < q1.size)).a (f' (Wk (AV.v (Value.int IntKind.u8 ↑(q1.data.toList.getD q0 0).toNat)) (AV.v (Value.int IntKind.u8 ↑q2.toNat)))))
end
theorem gE' (s : ByteArray) (c x : UInt8) (O : List ByteArray) (no f i : Nat) (F : HP) : AV' [] (hCu i false x false false nil0) [] default fRCt (A4' fRCt 4) (tms 0 36 (aCu s c no f i)) [(1000, rS O)] kCu iCu F = VT.leaf (AX.normal,[s' s,AV.v (Value.int IntKind.u8 ↑c.toNat),AV.slice 1000 0 no 1 (Cp.lo no),i' f,i' (i + 1)],36) [some (AO.cells (rowV encS O) 18),none,none,none] 1100 ((k113' i s).a ((k114' i s).a ((k115' i s x).a ((f' (Wk (b' ((↑x.toNat : Int) == ↑c.toNat)) g')).a (k34'.a ((k6' i).a t')))))) := by kernel_rfl
noncomputable section
abbrev k116' (q0 q1 : Nat) (q2 q3 : ByteArray) : Cnd := ((p' (q0 ≤ q1)).a ((p' (q1 ≤ q2.size)).a (f' (Wk (s' (q2.extract q0 q1)) (s' q3)))))
end
theorem gC' (s y : ByteArray) (c x : UInt8) (O : List ByteArray) (no f i : Nat) (F : HP) : AV' [] (hCu i false x true true y) [] default fRCt (A4' fRCt 4) (tms 0 36 (aCu s c no f i)) [(1000, rS O)] kCu iCu F = VT.leaf (AX.normal,[s' s,AV.v (Value.int IntKind.u8 ↑c.toNat),AV.slice 1101 0 (no + 1) 1 (Cp.lo (no + 1)),i' (i + 1),i' (i + 1)],36) [none,some (AO.cells [s' y] 18),some (AO.cells (List.take (no * 1) (List.drop 0 (rowV encS O)) ++ [s' y]) 18),none] 1102 ((k113' i s).a ((k114' i s).a ((k115' i s x).a ((f' (Wk (b' ((↑x.toNat : Int) == ↑c.toNat)) j')).a (k20'.a ((k116' f i s y).a ((k111' no O).a ((k6' i).a ((k6' i).a t'))))))))) := by kernel_rfl
theorem gF' (s y : ByteArray) (c : UInt8) (O : List ByteArray) (no f i : Nat) (F : HP) : AV' [] (hCu i true 0 false true y) [] default fRCt (A4' fRCt 4) (tms 0 36 (aCu s c no f i)) [(1000, rS O)] kCu iCu F = VT.leaf (AX.normal,[s' s,AV.v (Value.int IntKind.u8 ↑c.toNat),AV.slice 1101 0 (no + 1) 1 (Cp.lo (no + 1)),i' (i + 1),i' (i + 1)],36) [none,some (AO.cells [s' y] 18),some (AO.cells (List.take (no * 1) (List.drop 0 (rowV encS O)) ++ [s' y]) 18),none] 1102 ((k113' i s).a ((f' (Wk (b' (Int.ofNat i == ↑s.size)) j')).a (k20'.a ((k116' f i s y).a ((k111' no O).a ((k6' i).a ((k6' i).a t'))))))) := by kernel_rfl
theorem gD' (s : ByteArray) (c : UInt8) (O : List ByteArray) (no f i : Nat) (F : HP) : AV' [] (AB' [(fRCt, 4, 3, hv (.lit false))]) [] default fRCt (A4' fRCt 4) (tms 0 36 (aCu s c no f i)) [(1000, rS O)] kCu iCu F = VT.leaf (AX.exit 0,[s' s,AV.v (Value.int IntKind.u8 ↑c.toNat),AV.slice 1000 0 no 1 (Cp.lo no),i' f,i' i],36) [some (AO.cells (rowV encS O) 18),none,none,none] 1100 ((f' (Wk (b' (decide (Int.ofNat i ≤ ↑s.size))) g')).a t') := by kernel_rfl
def gCu : List AV → AP Nat := fun tmps => match getL tmps 5 with
 | .slice b _ _ _ _ => .ret b
 | _ => .fail "cut"
def lCu (s : ByteArray) (c : UInt8) (O : List ByteArray) (no : Nat) : List AV → AP (AX × List AV) := mkL gCu (fun _ => True) nmEn (fun _ => tms 0 36 (aCu s c 0 0 0)) (fun _ => [(1000, rS [])]) (fun _ => .leaf (.exit 0) (tms 0 36 [(5, sB 1000 no)]) [(1000, rS O)])
theorem oCu_eq (s : ByteArray) (c : UInt8) (O : List ByteArray) (no : Nat) (F : HP) : wRun [] BS' [(fRCt, 4, A4' fRCt 4, lCu s c O no)] default fRCt [sv s, byv c] [] [1100, 1101] F = VT.leaf (AV.slice 1101 0 no 1 (Cp.lo no)) [none,some (AO.cells (AV.rens (sgN (nmEn 1100) [1000] 1101) (rowV encS O)) 18)] 1102 ((p' ((fRCt,4,A4' fRCt 4,lCu s c O no).snd.snd.fst = (fRCt,4,A4' fRCt 4,lCu s c O no).snd.snd.fst)).a (k15'.a ((p' (VW (s' s::AV.v (Value.int IntKind.u8 ↑c.toNat)::u'::u'::e'::AV.slice 1100 0 0 1 (Cp.ex 0)::i' 0::i' 0::AV.slice 1100 0 0 1 (Cp.ex 0)::ru16 (ru8 (u'::u'::u'::[]))) (s' s::AV.v (Value.int IntKind.u8 ↑c.toNat)::a'::a'::a'::AV.slice 1100 0 0 1 (Cp.lo 0)::i' 0::i' 0::ra16 (ra8 (ra4 ([])))))).a (k112'.a t')))) := by kernel_rfl
def aFn (name : ByteArray) (n i : Nat) : List (Nat × AV) := [(0, sP 0 n), (1, sv name), (5, iv (Int.ofNat i))]
def hFn (i : Nat) (k : ByteArray) (b : Bool) : B4' := AB' [(fFnd, 2, 3, hv (.lit true)), (fFnd, 4, 4, hv (sv k)), (fFnd, 4, 6, hv (.lit b)), (fFnd, 3, 1, hv (iv (Int.ofNat (i + 1))))]
noncomputable section
abbrev k117' (q0 : Nat) (q1 : Hds) (q2 : ByteArray) : Cnd := ((p' ((0 + q0 * 2 + 0).blt (rowV encP q1).length = true)).a ((p' ((rowV encP q1).getD (0 + q0 * 2 + 0) (u') = AV.v (Value.string ((rowV encP q1).getD (0 + q0 * 2 + 0) (u')).strOf))).a (f' (Wk (AV.v (Value.string ((rowV encP q1).getD (0 + q0 * 2 + 0) (u')).strOf)) (s' q2)))))
end
theorem UP' (L : Hds) (name k : ByteArray) (n i : Nat) (F : HP) : AV' [] (hFn i k false) [] default fFnd (A4' fFnd 2) (tms 0 20 (aFn name n i)) [(0, rP L)] [0] [0, 1, 4, 5] F = VT.leaf (AX.normal,[AV.slice 0 0 n 2 (Cp.lo n),s' name,a',i' (i + 1)],20) [some (AO.cells (rowV encP L) 78)] 1100 ((k99' i n).a ((k2' i n).a ((k117' i L k).a ((f' (Wk (b' (k.toList == name.toList)) g')).a ((k6' i).a t'))))) := by kernel_rfl
theorem fF' (L : Hds) (name k : ByteArray) (n i : Nat) (F : HP) : AV' [] (hFn i k true) [] default fFnd (A4' fFnd 2) (tms 0 20 (aFn name n i)) [(0, rP L)] [0] [0, 1, 4, 5] F = VT.leaf (AX.ret,[AV.slice 0 0 n 2 (Cp.lo n),s' name,i' i,i' i],20) [some (AO.cells (rowV encP L) 78)] 1100 ((k99' i n).a ((k2' i n).a ((k117' i L k).a ((f' (Wk (b' (k.toList == name.toList)) j')).a t')))) := by kernel_rfl
theorem fG' (L : Hds) (name : ByteArray) (n : Nat) (F : HP) : AV' [] (AB' [(fFnd, 2, 3, hv (.lit false))]) [] default fFnd (A4' fFnd 2) (tms 0 20 (aFn name n n)) [(0, rP L)] [0] [0, 1, 4, 5] F = VT.leaf (AX.exit 0,[AV.slice 0 0 n 2 (Cp.lo n),s' name,a',i' n],20) [some (AO.cells (rowV encP L) 78)] 1100 ((k101' n).a t') := by kernel_rfl
def lFn (L : Hds) (name : ByteArray) : List AV → AP (AX × List AV) := mkL gRh (fun _ => True) nm0 (fun _ => tms 0 20 (aFn name L.length 0)) (fun _ => [(0, rP L)]) (fun _ => .leaf (.exit 0) (tms 0 20 []) [(0, rP L)])
def lFnx (L : Hds) (name : ByteArray) (k : Nat) : List AV → AP (AX × List AV) := mkL gRh (fun _ => True) nm0 (fun _ => tms 0 20 (aFn name L.length 0)) (fun _ => [(0, rP L)]) (fun _ => .leaf .ret (tms 0 20 [(4, iv (Int.ofNat k))]) [(0, rP L)])
noncomputable section
abbrev k118' (q0 : Hds) (q1 : ByteArray) : Cnd := (p' (VW (AV.slice 0 0 (List.length q0) 2 (Cp.lo (List.length q0))::s' q1::u'::u'::i' 0::i' 0::ru8 (ru4 (u'::u'::[]))) (AV.slice 0 0 (List.length q0) 2 (Cp.lo (List.length q0))::s' q1::a'::a'::a'::i' 0::ra8 (ra4 (a'::a'::[])))))
abbrev k119' (q0 : Hds) : Cnd := (p' (OW (AO.cells (rowV encP q0) 78) (AO.cells (AV.rens (nm0 0) (rowV encP q0)) 78)))
end
theorem oFn_eq (L : Hds) (name : ByteArray) (n : Nat) (F : HP) : wRun [] BS' [(fFnd, 2, A4' fFnd 2, lFn L name)] default fFnd [sP 0 L.length, sv name] [(0, rP L)] [0] F = VT.leaf (z' (Int.negSucc 0)) [some (AO.cells (AV.rens (sgN (nm0 0) [] 0) (rowV encP L)) 78)] 1100 ((p' ((fFnd,2,A4' fFnd 2,lFn L name).snd.snd.fst = (fFnd,2,A4' fFnd 2,lFn L name).snd.snd.fst)).a (k15'.a ((k118' L name).a ((k119' L).a t')))) := by kernel_rfl
theorem fE' (L : Hds) (name : ByteArray) (k : Nat) (F : HP) : wRun [] BS' [(fFnd, 2, A4' fFnd 2, lFnx L name k)] default fFnd [sP 0 L.length, sv name] [(0, rP L)] [0] F = VT.leaf (i' k) [some (AO.cells (AV.rens (sgN (nm0 0) [] 0) (rowV encP L)) 78)] 1100 ((p' ((fFnd,2,A4' fFnd 2,lFnx L name k).snd.snd.fst = (fFnd,2,A4' fFnd 2,lFnx L name k).snd.snd.fst)).a (k15'.a ((k118' L name).a ((k119' L).a t')))) := by kernel_rfl
theorem fH' (name : ByteArray) (F : HP) : wRun [] (AB' [(fFnd, 2, 3, hv (.lit false))]) [] default fFnd [nilP, sv name] [] [] F = VT.leaf (z' (Int.negSucc 0)) [] 1100 (k18'.a t') := by kernel_rfl
end
def spl2 (acc : List UInt8) : List UInt8 → List (List UInt8)
 | [] => [acc]
 | c :: r => if crlf.isPrefixOf (c :: r) = true then acc :: spl2 [] (r.drop 1) else spl2 (acc ++ [c]) r
 termination_by l => l.length
 decreasing_by all_goals simp_wf; try omega
def lnsA (acc : List UInt8) : List UInt8 → List (List UInt8)
 | [] => []
 | c :: r => if crlf.isPrefixOf (c :: r) = true then acc :: lnsA [] (r.drop 1) else lnsA (acc ++ [c]) r
 termination_by l => l.length
 decreasing_by all_goals simp_wf; try omega
def lnsR (b : List UInt8) : Nat → Nat → Nat → List (List UInt8)
 | 0, f, i => []
 | k + 1, f, i => if crlf.isPrefixOf (b.drop i) = true then (b.drop f).take (i - f) :: lnsR b k (i + 2) (i + 1) else lnsR b k f (i + 1)
theorem G5' {l : List UInt8} (h : crlf.isPrefixOf l = true) : ∃ r, l = 13 :: 10 :: r := by
 obtain ⟨r, hr⟩ := List.isPrefixOf_iff_prefix.1 h
 exact ⟨r, hr.symm⟩
theorem N9' (r : List UInt8) : crlf.isPrefixOf (13 :: 10 :: r) = true := List.isPrefixOf_iff_prefix.2 ⟨r, rfl⟩
theorem VU' {c : UInt8} {r : List UInt8} (h : c ≠ 13) : ¬ crlf.isPrefixOf (c :: r) = true := fun e => by
 obtain ⟨r', hr⟩ := G5' e
 exact h (List.cons.inj hr).1
theorem UZ' (b : List UInt8) : ∀ (k f i : Nat), k + i = b.length → f ≤ i → lnsR b k f i = lnsA ((b.drop f).take (i - f)) (b.drop i) ∧ (∀ k', k = k' + 1 → crlf.isPrefixOf (b.drop i) = true → True)
 | 0, f, i, hk, hf => by
  have : b.drop i = [] := List.drop_eq_nil_of_le (by omega)
  rw [this]
  exact ⟨by rw [lnsR, lnsA], fun _ _ _ => trivial⟩
 | k + 1, f, i, hk, hf => by
  refine ⟨?_, fun _ _ _ => trivial⟩
  have hi : i < b.length := by omega
  rw [lnsR]
  cases hd : b.drop i with
  | nil => have := congrArg List.length hd; rw [List.length_drop] at this; simp at this; omega
  | cons c r =>
   have hr : b.drop (i + 1) = r := by rw [← List.drop_drop, hd]; rfl
   rw [lnsA]
   split
   ·rename_i hp
    obtain ⟨r', e⟩ := G5' hp
    obtain ⟨rfl, rfl⟩ := List.cons.inj e
    have hk1 : ∃ k', k = k' + 1 := by
     have := congrArg List.length hd
     rw [List.length_drop] at this
     simp only [List.length_cons] at this
     exact ⟨k - 1, by omega⟩
    obtain ⟨k', rfl⟩ := hk1
    rw [lnsR, hr, if_neg (VU' (by decide)), (UZ' b k' (i + 2) (i + 1 + 1) (by omega) (n0)).1]
    have h2 : b.drop (i + 2) = r' := by rw [show i + 2 = (i + 1) + 1 from rfl, ← List.drop_drop, hr]; rfl
    rw [show i + 1 + 1 = i + 2 from rfl, h2, Nat.sub_self, List.take_zero]
    rfl
   ·rw [(UZ' b k f (i + 1) (by omega) (by omega)).1, hr]
    congr 1
    rw [show i + 1 - f = (i - f) + 1 by omega, List.take_add_one]
    congr 1
    rw [List.getElem?_drop, show f + (i - f) = i by omega]
    have : b[i]? = some c := by
     have := congrArg (fun l => l[0]?) hd
     simpa using this
    rw [this]; rfl
theorem E0' (b : List UInt8) : lnsR b b.length 0 0 = lnsA [] b := by
 have := (UZ' b b.length 0 0 (by omega) (n0)).1
 rw [this, List.drop_zero, Nat.sub_self, List.take_zero]
theorem SD' {c : UInt8} {r : List UInt8} (h : ¬ crlf.isPrefixOf (c :: r) = true) : ¬ crlf.isPrefixOf (c :: (r ++ crlf)) = true := fun e => by
 obtain ⟨r', hr⟩ := G5' e
 obtain ⟨rfl, e2⟩ := List.cons.inj hr
 cases r with
 | nil => cases e2
 | cons d r2 =>
  obtain ⟨rfl, _⟩ := List.cons.inj e2
  exact h (N9' r2)
theorem MZ' : ∀ (n : Nat) (T acc : List UInt8), T.length ≤ n → lnsA acc (T ++ crlf) = spl2 acc T
 | n, [], acc, _ => by
  rw [List.nil_append, spl2]
  show lnsA acc (13 :: [10]) = _
  rw [lnsA, if_pos (N9' []), List.drop_succ_cons, List.drop_zero, lnsA]
 | 0, c :: r, acc, h => by simp at h
 | n + 1, c :: r, acc, h => by
  rw [List.cons_append, lnsA, spl2]
  by_cases hp : crlf.isPrefixOf (c :: r) = true
  ·have hp2 : crlf.isPrefixOf (c :: (r ++ crlf)) = true := MS' crlf hp
   obtain ⟨r', e⟩ := G5' hp
   obtain ⟨rfl, rfl⟩ := List.cons.inj e
   rw [if_pos hp, if_pos hp2]
   congr 1
   show lnsA [] (r' ++ crlf) = spl2 [] r'
   exact MZ' n r' [] (by simp only [List.length_cons] at h; omega)
  ·rw [if_neg hp, if_neg (SD' hp)]
   exact MZ' n r _ (by simp only [List.length_cons] at h; omega)
theorem MI' : ∀ (n : Nat) (T acc : List UInt8), T.length ≤ n → spl2 acc (T ++ crlf) = spl2 acc T ++ [[]]
 | n, [], acc, _ => by
  rw [List.nil_append, spl2]
  show spl2 acc (13 :: [10]) = _
  rw [spl2, if_pos (N9' []), List.drop_succ_cons, List.drop_zero, spl2]
  rfl
 | 0, c :: r, acc, h => by simp at h
 | n + 1, c :: r, acc, h => by
  rw [List.cons_append, spl2, spl2]
  by_cases hp : crlf.isPrefixOf (c :: r) = true
  ·have hp2 : crlf.isPrefixOf (c :: (r ++ crlf)) = true := MS' crlf hp
   obtain ⟨r', e⟩ := G5' hp
   obtain ⟨rfl, rfl⟩ := List.cons.inj e
   rw [if_pos hp, if_pos hp2, List.cons_append]
   congr 1
   show spl2 [] (r' ++ crlf) = spl2 [] r' ++ [[]]
   exact MI' n r' [] (by simp only [List.length_cons] at h; omega)
  ·rw [if_neg hp, if_neg (SD' hp)]
   exact MI' n r _ (by simp only [List.length_cons] at h; omega)
theorem K9' : ∀ (l acc : List UInt8), Lib.index l crlf = -1 → spl2 acc l = [acc ++ l]
 | [], acc, _ => by rw [spl2, List.append_nil]
 | c :: r, acc, h => by
  rw [Lib.index] at h
  split at h
  ·cases h
  ·rename_i hp
   rw [spl2, if_neg hp]
   split at h
   ·rename_i hm
    rw [K9' r _ (beq_iff_eq.1 hm), List.append_assoc]
    rfl
   ·have := Lib.index_ge r crlf
    rename_i hm
    have hne : Lib.index r crlf ≠ -1 := fun e => hm (beq_iff_eq.2 e)
    omega
theorem RH' : ∀ (l acc : List UInt8) (i : Nat), Lib.index l crlf = (i : Int) → spl2 acc l = (acc ++ l.take i) :: spl2 [] (l.drop (i + 2))
 | [], acc, i, h => by
  rw [Lib.index] at h
  have h : (-1 : Int) = i := h
  omega
 | c :: r, acc, i, h => by
  rw [Lib.index] at h
  split at h
  ·rename_i hp
   have hi : i = 0 := by omega
   subst hi
   rw [spl2, if_pos hp, List.take_zero, List.append_nil]
   rfl
  ·rename_i hp
   rw [spl2, if_neg hp]
   split at h
   ·omega
   ·have hg := Lib.index_ge r crlf
    rename_i hm
    have hne : Lib.index r crlf ≠ -1 := fun e => hm (beq_iff_eq.2 e)
    obtain ⟨j, hj⟩ : ∃ j : Nat, Lib.index r crlf = (j : Int) := ⟨(Lib.index r crlf).toNat, by omega⟩
    have hij : i = j + 1 := by omega
    subst hij
    rw [RH' r _ j hj, List.take_succ_cons, List.append_assoc]
    rfl
theorem PZ' : ∀ (m : Nat) (s : ByteArray), s.size ≤ m → (Lib.splitB crB 0 (Lib.countB s crB) s).map (·.data.toList) = spl2 [] s.data.toList := by
 have h1 : crB.size = 2 := rfl
 intro m
 induction m with
 | zero =>
  intro s hs
  rcases Lib.indexB_cases s crB with hi | ⟨i, hi, hle⟩
  ·rw [Lib.splitB_miss _ _ _ _ hi, K9' _ _ hi]; rfl
  ·rw [h1] at hle; omega
 | succ m ih =>
  intro s hs
  rcases Lib.indexB_cases s crB with hi | ⟨i, hi, hle⟩
  ·rw [Lib.splitB_miss _ _ _ _ hi, K9' _ _ hi]; rfl
  ·rw [h1] at hle
   have hc := Lib.countB_hit s crB i (by decide) hi
   rw [h1] at hc
   have hrest : (s.extract (i + 2) s.size).data.toList = s.data.toList.drop (i + 2) := by
    rw [ER' _ _ _ (n0)]
    exact List.take_of_length_le (by rw [List.length_drop, J5']; omega)
   rw [hc, Nat.add_comm 1, Lib.splitB_hit _ _ _ _ _ hi, h1, List.map_cons, ih _ (by rw [← J5', hrest, List.length_drop, J5']; omega), hrest, RH' _ _ i hi]
   congr 1
   rw [Nat.add_zero, ER' _ _ _ (by omega), List.nil_append]
   simp
theorem U0' (l : List UInt8) : splB (tB l) crB = (spl2 [] l).map tB := by
 have h := PZ' (tB l).size (tB l) (n0)
 rw [BL'] at h
 unfold splB
 rw [← h, List.map_map]
 have : (tB ∘ fun b : ByteArray => b.data.toList) = id := funext fun b => HT' b
 rw [this, List.map_id]
theorem VH' {w : List UInt8} {k : Nat} (h : f4 w = some k) : w.take (k + 4) = w.take k ++ EI' := by
 induction w generalizing k with
 | nil => cases h
 | cons c r ih =>
  unfold f4 at h
  split at h
  ·rename_i hp
   cases h
   obtain ⟨r', hr⟩ := List.isPrefixOf_iff_prefix.1 hp
   rw [← hr]
   rfl
  ·cases hf : f4 r with
   | none => rw [hf] at h; cases h
   | some k' =>
    rw [hf] at h
    have h : k' + 1 = k := Option.some.inj h
    subst h
    rw [show k' + 1 + 4 = (k' + 4) + 1 by omega, List.take_succ_cons, List.take_succ_cons, ih hf]
    rfl
theorem KO' {w : List UInt8} {n : Nat} (h : hdN w = some n) : (n = 2 ∧ lnsA [] (w.take n) = [[]] ∧ GO' (w.take n) = [nil0, nil0]) ∨ (4 ≤ n ∧ ∃ S : List (List UInt8), lnsA [] (w.take n) = S ++ [[]] ∧ GO' (w.take n) = S.map tB) := by
 unfold hdN at h
 split at h
 ·rename_i hp
  cases h
  obtain ⟨r, rfl⟩ := G5' hp
  refine .inl ⟨rfl, ?_, ?_⟩
  ·show lnsA [] (13 :: [10]) = _
   rw [lnsA, if_pos (N9' []), List.drop_succ_cons, List.drop_zero, lnsA]
  ·show GO' [13, 10] = _
   kernel_rfl
 ·cases hf : f4 w with
  | none => rw [hf] at h; cases h
  | some k =>
   rw [hf] at h
   have h : k + 4 = n := Option.some.inj h
   subst h
   refine .inr ⟨by omega, spl2 [] (w.take k), ?_, ?_⟩
   ·rw [VH' hf, show EI' = crlf ++ crlf from rfl, ← List.append_assoc, MZ' _ _ _ (n0), MI' _ _ _ (n0)]
   ·unfold GO'
    have hs : sufB (tB (w.take (k + 4))) crB2 = tB (w.take k) := by
     unfold sufB Lib.trimSuffix
     rw [BL', VH' hf]
     have hsuf : Lib.hasSuffix (w.take k ++ EI') crB2.data.toList = true := by
      unfold Lib.hasSuffix
      exact List.isSuffixOf_iff_suffix.2 ⟨_, rfl⟩
     rw [if_pos hsuf, List.length_append, show crB2.data.toList.length = 4 from rfl, show EI'.length = 4 from rfl, Nat.add_sub_cancel, List.take_left]
    rw [hs, U0']
theorem GT' : ∀ args, RO (gRow args) := by
 intro args
 unfold gRow
 split
 ·exact RO.ret _
 ·exact RO.fail _
theorem S5' : ∀ args, RO (gRh args) := by
 intro args
 unfold gRh
 split
 ·exact RO.ret _
 ·exact RO.fail _
theorem gLi_ro : ∀ args, RO (gLi args) := by
 intro args
 unfold gLi
 split
 ·exact RO.ret _
 ·exact RO.fail _
theorem gCu_ro : ∀ args, RO (gCu args) := by
 intro args
 unfold gCu
 split
 ·exact RO.ret _
 ·exact RO.fail _
def atW (w : List UInt8) (i : Nat) (s : List UInt8) : Bool := s.isPrefixOf (w.drop i)
theorem XJ' {s l : List UInt8} (h : s.length ≤ l.length) : s.isPrefixOf l = decide (l.take s.length = s) := by
 rw [Bool.eq_iff_iff, List.isPrefixOf_iff_prefix, decide_eq_true_eq]
 refine ⟨fun ⟨r, hr⟩ => by rw [← hr, List.take_left], fun e => ⟨l.drop s.length, ?_⟩⟩
 conv => lhs; rw [← e]
 rw [e]
 have := List.take_append_drop s.length l
 rw [e] at this
 exact this
theorem XK' {s l : List UInt8} (h : l.length < s.length) : s.isPrefixOf l = false := by
 cases hp : s.isPrefixOf l with
 | false => rfl
 | true => have := (List.isPrefixOf_iff_prefix.1 hp).length_le; omega
theorem aM' {P w : List UInt8} {off a b : Nat} (hw : (P.drop off).take w.length = w) (hab : a + b ≤ w.length) : List.take b (List.drop (off + a) (rowV encB P)) = rowV encB ((w.drop a).take b) := by
 rw [C0', BZ']
 congr 1
 conv => rhs; rw [← hw]
 rw [List.drop_take, List.take_take, List.drop_drop, Nat.min_eq_left (by omega)]
theorem L6' (l : List UInt8) : rowV encB l = vmap (List.map (fun b => Value.int IntKind.u8 ↑b.toNat) (tB l).data.toList) := by rw [BL', B1']
theorem At_tri {P w : List UInt8} {off : Nat} (hw : (P.drop off).take w.length = w) (hoff : off + w.length ≤ P.length) (hl : w.length ≤ 4000000) (i : Nat) (hi : i ≤ w.length) (s : ByteArray) (hs : s.size ≤ 100) :
  Tri Tryz.prog default fAt [sO 0 off w.length, iv (Int.ofNat i), sv s] [(0, rB1 P)] (bv (atW w i s.data.toList)) [(0, rB1 P)] := by
 have hsl : s.data.toList.length = s.size := rfl
 have hwd := CP' hi (by omega)
 by_cases hsh : w.length - i < s.size
 ·have ha : atW w i s.data.toList = false := XK' (by rw [List.length_drop, hsl]; exact hsh)
  rw [ha]
  refine AA' (con := []) (hints := hAt0 (w.length - i) 0 true s false) (lc := []) [0] rfl (fun F hF => noC) (fun F hF => noL) fun F => ?_
  refine cv (gI' P s off w.length i (w.length - i) F) ⟨⟨?_, (AF' (vs' := [bv false]) (H' := [(0, rB1 P)]) [] rfl rfl (v0) ⟨⟨_, rfl, AJ' rfl rfl⟩, t0⟩).fits rfl⟩⟩
  simp only [Cnd.holds, A2', Nat.blt_eq, true_and, and_true]
  and_intros
  all_goals first
   | exact AG' hwd
   | exact A1' (decide_eq_true (by simp only [Z0, Z1]; omega)) | (with_reducible first | exact t0 | exact r0 | exact A6' _ | assumption) | exact r0 | ((repeat (first | exact VW.nil | refine c1 ?_ | refine c2 ?_ | refine c3 ?_)); done)
 ·have hwa := DL' (a := i) (b := s.size) (by omega)
  have hr1 : off + i + (i + s.size - i) ≤ (rowV encB P).length := by rw [BR']; omega
  have eZ : i + s.size - i = s.size := by omega
  have hr3 : off + i + s.size ≤ (rowV encB P).length := by rw [BR']; omega
  have hr2 : List.take s.size (List.drop (off + i) (rowV encB P)) = vmap (List.map (fun b => Value.int IntKind.u8 ↑b.toNat) (tB ((w.drop i).take s.size)).data.toList) := by
   rw [aM' hw (by omega), L6']
  have e1 : i.ble (i + s.size) = true := by rw [Nat.ble_eq]; omega
  have e2 : (i + s.size).ble w.length = true := by rw [Nat.ble_eq]; omega
  have e3 : w.length.ble w.length = true := by rw [Nat.ble_eq]; exact n0
  have ha : ((tB ((w.drop i).take s.size)).toList == s.toList) = atW w i s.data.toList := by
   rw [LJ']
   unfold atW
   rw [XJ' (by rw [List.length_drop, hsl]; omega), hsl]
   congr 1
   refine propext ⟨fun e => ?_, fun e => ?_⟩
   ·have := congrArg (fun x : ByteArray => x.data.toList) e
    rw [BL'] at this
    exact this
   ·rw [e]; exact HT' s
  refine AA' (con := []) (hints := hAt0 (w.length - i) (i + s.size) false (tB ((w.drop i).take s.size)) (atW w i s.data.toList)) (lc := []) [0] rfl (fun F hF => noC) (fun F hF => noL) fun F => ?_
  refine cv (gJ' P s (tB ((w.drop i).take s.size)) off w.length i (w.length - i) (i + s.size) (atW w i s.data.toList) F) ⟨⟨?_, (AF' (vs' := [bv (atW w i s.data.toList)]) (H' := [(0, rB1 P)]) [] rfl rfl (v0) ⟨⟨_, rfl, AJ' rfl rfl⟩, t0⟩).fits rfl⟩⟩
  simp only [Cnd.holds, A2', Nat.mul_one, eZ, e1, e2, e3, Nat.blt_eq, true_and, and_true]
  and_intros
  all_goals first
   | exact AG' hwd
   | exact AG' hwa
   | exact hr1
   | exact hr2
   | exact hr3
   | exact A1' (decide_eq_false (by simp only [Z0, Z1]; omega))
   | (rw [ha]; exact w0) | (with_reducible first | exact t0 | exact r0 | exact A6' _ | assumption) | exact r0 | ((repeat (first | exact VW.nil | refine c1 ?_ | refine c2 ?_ | refine c3 ?_)); done)
theorem JM' (F : HP) {P w : List UInt8} {off : Nat} (hw : (P.drop off).take w.length = w) (hoff : off + w.length ≤ P.length) (hl : w.length ≤ 4000000) {i : Nat} (hi : i ≤ w.length) {s : ByteArray} (hs : s.size ≤ 100) {b : Bool} (hb : atW w i s.data.toList = b) : C1OK Tryz.prog F fAt (cAt P off w.length i s b) :=
 BK' (AE'.nothing F) (fun _ => bv b) GT' (fun _ => rfl) (fun _ _ => by rw [← hb]; exact At_tri hw hoff hl i hi s hs) fun _ => ⟨rfl, rfl, ⟨rfl, t0, t0, t0⟩, A0' (AM' _ _) A3', ⟨t0, t0⟩, A0' (AM' _ _) A3'⟩
theorem VI' {w : List UInt8} : ∀ {i k : Nat}, f4 (w.drop i) = some k → i ≤ w.length → (∀ j, j < k → atW w (i + j) EI' = false) ∧ atW w (i + k) EI' = true
 | i, k, h, hi => by
  cases hd : w.drop i with
  | nil => rw [hd] at h; cases h
  | cons c r =>
   have hr : w.drop (i + 1) = r := by rw [← List.drop_drop, hd]; rfl
   have hlt : i < w.length := by
    have := congrArg List.length hd
    rw [List.length_drop] at this
    simp only [List.length_cons] at this
    omega
   rw [hd, f4] at h
   split at h
   ·rename_i hp
    cases h
    refine ⟨fun j hj => absurd hj (Nat.not_lt_zero _), ?_⟩
    unfold atW
    rw [Nat.add_zero, hd]
    exact hp
   ·rename_i hp
    cases hf : f4 r with
    | none => rw [hf] at h; cases h
    | some k' =>
     rw [hf] at h
     have h : k' + 1 = k := Option.some.inj h
     subst h
     rw [← hr] at hf
     have hlen : w.length - (i + 1) < w.length - i := by omega
     obtain ⟨q1, q2⟩ := VI' hf hlt
     refine ⟨fun j hj => ?_, by rw [show i + (k' + 1) = i + 1 + k' by omega]; exact q2⟩
     cases j with
     | zero =>
      unfold atW
      rw [Nat.add_zero, hd]
      exact eq_false_of_ne_true hp
     | succ j =>
      rw [show i + (j + 1) = i + 1 + j by omega]
      exact q1 j (by omega)
 termination_by i => w.length - i
theorem SA' {w : List UInt8} : ∀ {i : Nat}, f4 (w.drop i) = none → i ≤ w.length → ∀ j, i ≤ j → j < w.length → atW w j EI' = false
 | i, h, hi, j, hij, hj => by
  cases hd : w.drop i with
  | nil =>
   have := congrArg List.length hd
   rw [List.length_drop] at this
   simp only [List.length_nil] at this
   omega
  | cons c r =>
   have hr : w.drop (i + 1) = r := by rw [← List.drop_drop, hd]; rfl
   rw [hd, f4] at h
   split at h
   ·cases h
   ·rename_i hp
    by_cases e : j = i
    ·subst e
     unfold atW
     rw [hd]
     exact eq_false_of_ne_true hp
    ·have hf : f4 (w.drop (i + 1)) = none := by
      rw [hr]
      cases hf : f4 r with
      | none => rfl
      | some k => rw [hf] at h; cases h
     have hlen : w.length - (i + 1) < w.length - i := by omega
     exact SA' hf (by omega) j (by omega) hj
 termination_by i => w.length - i
def CZ' (w : List UInt8) : Nat := match hdN w with
 | some n => n
 | none => 0
section
variable {P w : List UInt8} {off : Nat} (hw : (P.drop off).take w.length = w) (hoff : off + w.length ≤ P.length) (hl : w.length ≤ 4000000)
include hw hoff hl
theorem bQ' (h : ∀ j, j < w.length → atW w j EI' = false) : LTri Tryz.prog default (A4' fRHd 4) (tms 0 17 (aRh off w.length 0)) [(0, rB1 P)] (.exit 0) (tms 0 17 []) [(0, rB1 P)] := by
 refine AS' (W := default) (g := fRHd) (b := A4' fRHd 4) (σ := {i : Nat // i ≤ w.length}) 17 (fun i => aRh off w.length i.1) (fun _ => [(0, rB1 P)]) (.exit 0) [] [(0, rB1 P)] (fun i => w.length - i.1) [0] [0, 2, 3] (by intro h; cases h) (fun _ => rfl) rfl ?_ ⟨0, Nat.zero_le _⟩
 rintro ⟨i, hi⟩
 simp only
 by_cases hlt : i < w.length
 ·have hwi := AO' i (by omega)
  have e1 := ltTN hlt
  refine ⟨[(fAt, cAt P off w.length i QL' false)], hRh i false, [], fun F hF => AP' (JM' F hw hoff hl hi (by decide) (h i hlt)), fun _ _ => noL, fun F => ?_⟩
  refine cv (UF' P off w.length i F) ⟨⟨?_, rfl, .inl ⟨rfl, ⟨i + 1, hlt⟩, AR' hlt, [], rfl, rfl, ⟨w0, w0, t0⟩, ⟨_, rfl, AJ' (by simp only [A2']) rfl⟩, t0⟩⟩⟩
  simp only [Cnd.holds, A2', Nat.blt_eq, true_and, and_true]
  and_intros
  all_goals first
   | exact AG' hwi
   | exact A1' e1
   | (rw [A2']; exact o0) | (with_reducible first | exact t0 | exact r0 | exact A6' _ | assumption) | exact r0 | ((repeat (first | exact VW.nil | refine c1 ?_ | refine c2 ?_ | refine c3 ?_)); done)
 ·have hie : i = w.length := by omega
  subst hie
  refine ⟨[], AB' [(fRHd, 4, 3, hv (.lit false))], [], fun _ _ => noC, fun _ _ => noL, fun F => ?_⟩
  refine cv (dH' P off w.length F) ⟨⟨?_, rfl, .inr ⟨rfl, [], rfl, rfl, t0, ⟨_, rfl, AJ' rfl rfl⟩, t0⟩⟩⟩
  simp only [Cnd.holds, A2', Nat.blt_eq, true_and, and_true]
  and_intros
  all_goals first
   | exact A1' (ltFN (n0)) | (with_reducible first | exact t0 | exact r0 | exact A6' _ | assumption) | exact r0 | ((repeat (first | exact VW.nil | refine c1 ?_ | refine c2 ?_ | refine c3 ?_)); done)
theorem XF' {k : Nat} (hk : k < w.length) (h : ∀ j, j < k → atW w j EI' = false) (h2 : atW w k EI' = true) : LTri Tryz.prog default (A4' fRHd 4) (tms 0 17 (aRh off w.length 0)) [(0, rB1 P)] .ret (tms 0 17 [(2, iv (Int.ofNat (k + 4)))]) [(0, rB1 P)] := by
 refine AS' (W := default) (g := fRHd) (b := A4' fRHd 4) (σ := {i : Nat // i ≤ k}) 17 (fun i => aRh off w.length i.1) (fun _ => [(0, rB1 P)]) .ret [(2, iv (Int.ofNat (k + 4)))] [(0, rB1 P)] (fun i => k - i.1) [0] [0, 2, 3] (by intro h; cases h) (fun _ => rfl) rfl ?_ ⟨0, Nat.zero_le _⟩
 rintro ⟨i, hi⟩
 simp only
 have hlt : i < w.length := by omega
 have hwi := AO' i (by omega)
 have e1 := ltTN hlt
 by_cases hik : i < k
 ·refine ⟨[(fAt, cAt P off w.length i QL' false)], hRh i false, [], fun F hF => AP' (JM' F hw hoff hl (by omega) (by decide) (h i hik)), fun _ _ => noL, fun F => ?_⟩
  refine cv (UF' P off w.length i F) ⟨⟨?_, rfl, .inl ⟨rfl, ⟨i + 1, hik⟩, AR' hik, [], rfl, rfl, ⟨w0, w0, t0⟩, ⟨_, rfl, AJ' (by simp only [A2']) rfl⟩, t0⟩⟩⟩
  simp only [Cnd.holds, A2', Nat.blt_eq, true_and, and_true]
  and_intros
  all_goals first
   | exact AG' hwi
   | exact A1' e1
   | (rw [A2']; exact o0) | (with_reducible first | exact t0 | exact r0 | exact A6' _ | assumption) | exact r0 | ((repeat (first | exact VW.nil | refine c1 ?_ | refine c2 ?_ | refine c3 ?_)); done)
 ·have hie : i = k := by omega
  subst hie
  have hw4 := DL' (a := i) (b := 4) (by omega)
  refine ⟨[(fAt, cAt P off w.length i QL' true)], hRh i true, [], fun F hF => AP' (JM' F hw hoff hl (by omega) (by decide) h2), fun _ _ => noL, fun F => ?_⟩
  refine cv (dG' P off w.length i F) ⟨⟨?_, rfl, .inr ⟨rfl, [], rfl, rfl, ⟨w0, t0⟩, ⟨_, rfl, AJ' (by simp only [A2']) rfl⟩, t0⟩⟩⟩
  simp only [Cnd.holds, A2', Nat.blt_eq, true_and, and_true]
  and_intros
  all_goals first
   | exact AG' hwi
   | exact AG' hw4
   | exact A1' e1
   | (rw [A2']; exact o0) | (with_reducible first | exact t0 | exact r0 | exact A6' _ | assumption) | exact r0 | ((repeat (first | exact VW.nil | refine c1 ?_ | refine c2 ?_ | refine c3 ?_)); done)
theorem WR' : Tri Tryz.prog default fRHd [sO 0 off w.length] [(0, rB1 P)] (iv (Int.ofNat (CZ' w))) [(0, rB1 P)] := by
 cases hp : crlf.isPrefixOf w with
 | true =>
  have hr : CZ' w = 2 := by unfold CZ' hdN; rw [hp, if_pos rfl]
  have ha : atW w 0 crB'.data.toList = true := by unfold atW; rw [List.drop_zero]; exact hp
  rw [hr]
  refine AA' (con := [(fAt, cAt P off w.length 0 crB' true)]) (hints := AB' [(fRHd, 1, 1, hv (.lit true))]) (lc := []) [0] rfl (fun F hF => AP' (JM' F hw hoff hl (Nat.zero_le _) (by decide) ha)) (fun F hF => noL) fun F => ?_
  refine cv (dF' P off w.length F) ⟨⟨?_, (AF' (vs' := [iv (Int.ofNat 2)]) (H' := [(0, rB1 P)]) [] rfl rfl (v0) ⟨⟨_, rfl, AJ' (by simp only [A2']) rfl⟩, t0⟩).fits rfl⟩⟩
  simp only [Cnd.holds, A2', Nat.blt_eq, true_and, and_true]
  and_intros
  all_goals first
   | (rw [A2']; exact o0) | (with_reducible first | exact t0 | exact r0 | exact A6' _ | assumption) | exact r0 | ((repeat (first | exact VW.nil | refine c1 ?_ | refine c2 ?_ | refine c3 ?_)); done)
 | false =>
  have ha : atW w 0 crB'.data.toList = false := by unfold atW; rw [List.drop_zero]; exact hp
  cases hf : f4 w with
  | none =>
   have hr : CZ' w = 0 := by unfold CZ' hdN; rw [hp, hf]; rfl
   rw [hr]
   have hn : ∀ j, j < w.length → atW w j EI' = false := fun j hj => SA' (w := w) (i := 0) (by rw [List.drop_zero]; exact hf) (Nat.zero_le _) j (Nat.zero_le _) hj
   refine AA' (con := [(fAt, cAt P off w.length 0 crB' false)]) (hints := AB' [(fRHd, 1, 1, hv (.lit false))]) (lc := [(fRHd, 4, A4' fRHd 4, lRh P off w.length)]) [0] rfl (fun F hF => AP' (JM' F hw hoff hl (Nat.zero_le _) (by decide) ha)) (fun F hF => BE' (AW' (AE'.nothing F) S5' (fun _ _ => by
    simp only [RT.pick]
    exact bQ' hw hoff hl hn) fun _ => by
    simp only [RT.pick]
    exact AQ' rfl rfl (A0' rfl (A0' t0 A3')) (A0' (AM' _ _) A3') A3' (A0' (AM' _ _) A3'))) fun F => ?_
   refine cv (dD' P off w.length F) ⟨⟨?_, (AF' (vs' := [iv (Int.ofNat 0)]) (H' := [(0, rB1 P)]) [] rfl rfl (v0) ⟨⟨_, rfl, AJ' (by simp only [A2']) rfl⟩, t0⟩).fits rfl⟩⟩
   simp only [Cnd.holds, A2', Nat.blt_eq, true_and, and_true]
   and_intros
   all_goals first
    | (rw [A2']; exact o0) | (with_reducible first | exact t0 | exact r0 | exact A6' _ | assumption) | exact r0 | ((repeat (first | exact VW.nil | refine c1 ?_ | refine c2 ?_ | refine c3 ?_)); done)
  | some k =>
   have hr : CZ' w = k + 4 := by unfold CZ' hdN; rw [hp, hf]; rfl
   rw [hr]
   have hk := SB' w k hf
   obtain ⟨q1, q2⟩ := VI' (w := w) (i := 0) (by rw [List.drop_zero]; exact hf) (Nat.zero_le _)
   simp only [Nat.zero_add] at q1 q2
   refine AA' (con := [(fAt, cAt P off w.length 0 crB' false)]) (hints := AB' [(fRHd, 1, 1, hv (.lit false))]) (lc := [(fRHd, 4, A4' fRHd 4, lRhx P off w.length k)]) [0] rfl (fun F hF => AP' (JM' F hw hoff hl (Nat.zero_le _) (by decide) ha)) (fun F hF => BE' (AW' (AE'.nothing F) S5' (fun _ _ => by
    simp only [RT.pick]
    exact XF' hw hoff hl (by omega) q1 q2) fun _ => by
    simp only [RT.pick]
    exact AQ' rfl rfl (A0' rfl (A0' t0 A3')) (A0' (AM' _ _) A3') (A0' t0 A3') (A0' (AM' _ _) A3'))) fun F => ?_
   refine cv (dE' P off w.length k F) ⟨⟨?_, (AF' (vs' := [iv (Int.ofNat (k + 4))]) (H' := [(0, rB1 P)]) [] rfl rfl (v0) ⟨⟨_, rfl, AJ' (by simp only [A2']) rfl⟩, t0⟩).fits rfl⟩⟩
   simp only [Cnd.holds, A2', Nat.blt_eq, true_and, and_true]
   and_intros
   all_goals first
    | (rw [A2']; exact o0) | (with_reducible first | exact t0 | exact r0 | exact A6' _ | assumption) | exact r0 | ((repeat (first | exact VW.nil | refine c1 ?_ | refine c2 ?_ | refine c3 ?_)); done)
end
structure LiS where
 O : List ByteArray
 f : Nat
 i : Nat
section
variable {P w : List UInt8} {off : Nat} (hw : (P.drop off).take w.length = w) (hoff : off + w.length ≤ P.length) (hl : w.length ≤ 4000000)
include hw hoff hl
theorem gN' {R : List ByteArray} (hR : (lnsR w w.length 0 0).map tB = R) : LTri Tryz.prog default (A4' fRLs 4) (tms 0 31 (aLi off w.length 0 0 0)) [(0, rB1 P), (1000, rS [])] (.exit 0) (tms 0 31 [(3, sB 1000 R.length)]) [(0, rB1 P), (1000, rS R)] := by
 refine AS' (W := default) (g := fRLs) (b := A4' fRLs 4) (σ := {q : LiS // q.i ≤ w.length ∧ q.f ≤ w.length ∧ q.f ≤ q.i + 1 ∧ (q.f = q.i + 1 → crlf.isPrefixOf (w.drop q.i) = false) ∧ q.O.length ≤ q.i ∧ q.O ++ (lnsR w (w.length - q.i) q.f q.i).map tB = R}) 31 (fun q => aLi off w.length q.1.O.length q.1.f q.1.i) (fun q => [(0, rB1 P), (1000, rS q.1.O)]) (.exit 0) [(3, sB 1000 R.length)] [(0, rB1 P), (1000, rS R)] (fun q => w.length - q.1.i) kLi iLi (by intro h; cases h) (fun _ => rfl) rfl ?_ ⟨⟨[], 0, 0⟩, Nat.zero_le _, Nat.zero_le _, Nat.zero_le _, (fun h => by cases h), Nat.zero_le _, hR⟩
 rintro ⟨⟨O, f, i⟩, h1, h2, h3, h4, h5, h6⟩
 simp only at h1 h2 h3 h4 h5 h6
 simp only
 by_cases hlt : i < w.length
 ·have hwi := AO' i (by omega)
  have e1 := ltTN hlt
  have hfu : w.length - i = (w.length - (i + 1)) + 1 := by omega
  rw [hfu, lnsR] at h6
  cases ha : crlf.isPrefixOf (w.drop i) with
  | false =>
   rw [ha, if_neg (by decide)] at h6
   refine ⟨[(fAt, cAt P off w.length i crB' false)], hLi i false nil0, [], fun F hF => AP' (JM' F hw hoff hl h1 (by decide) ha), fun _ _ => noL, fun F => ?_⟩
   refine cv (eJ' P O off w.length O.length f i F) ⟨⟨?_, rfl, .inl ⟨rfl, ⟨⟨O, f, i + 1⟩, hlt, h2, by simp only; omega, fun h => by simp only at h; omega, by simp only; omega, h6⟩, AR' hlt, [(1000, 1000)], by kernel_rfl, by kernel_rfl, ⟨w0, w0, w0, w0, t0⟩, ⟨_, rfl, AJ' (by simp only [A2']) rfl⟩, ⟨_, rfl, IY' rfl rfl⟩, t0⟩⟩⟩
   simp only [Cnd.holds, A2', Nat.blt_eq, true_and, and_true]
   and_intros
   all_goals first
    | exact AG' hwi
    | exact A1' e1
    | (rw [A2']; exact o0) | (with_reducible first | exact t0 | exact r0 | exact A6' _ | assumption) | exact r0 | ((repeat (first | exact VW.nil | refine c1 ?_ | refine c2 ?_ | refine c3 ?_)); done)
  | true =>
   rw [ha, if_pos rfl] at h6
   obtain ⟨r', hr'⟩ := G5' ha
   have hi2 : i + 2 ≤ w.length := by
    have := congrArg List.length hr'
    rw [List.length_drop] at this
    simp only [List.length_cons] at this
    omega
   have hfi : f ≤ i := by
    rcases Nat.lt_or_ge i f with hlt2 | hge
    ·have := h4 (by omega)
     rw [ha] at this
     cases this
    ·exact hge
   have hn2 : crlf.isPrefixOf (w.drop (i + 1)) = false := by
    rw [← List.drop_drop, hr']
    exact eq_false_of_ne_true (VU' (by decide))
   have hw2 := DL' (a := i) (b := 2) (by omega)
   have k1 := aN' (p := O.length) (P := O) rfl
   have k2 := U6' (p := O.length) (P := O) rfl
   have b1 : ((O.length + 1) * 16).ble 140737488355328 = true := C6' (by omega)
   have b2 : (O.length + 1).ble 9223372036854775807 = true := C6' (by omega)
   simp only [Nat.mul_one] at k1 k2
   have e2 : f.ble i = true := by rw [Nat.ble_eq]; exact hfi
   have e3 : i.ble w.length = true := by rw [Nat.ble_eq]; exact h1
   have e4 : w.length.ble w.length = true := by rw [Nat.ble_eq]; exact n0
   have hr1 : off + f + (i - f) ≤ (rowV encB P).length := by rw [BR']; omega
   have hr2 : List.take (i - f) (List.drop (off + f) (rowV encB P)) = vmap (List.map (fun b => Value.int IntKind.u8 ↑b.toNat) (tB ((w.drop f).take (i - f))).data.toList) := by
    rw [aM' hw (by omega), L6']
   have a1 : List.take (O.length * 1) (List.drop 0 (rowV encS O)) ++ [AV.v (Value.string (tB ((w.drop f).take (i - f))))] = rowV encS (O ++ [tB ((w.drop f).take (i - f))]) := U7' rfl [tB ((w.drop f).take (i - f))]
   refine ⟨[(fAt, cAt P off w.length i crB' true)], hLi i true (tB ((w.drop f).take (i - f))), [], fun F hF => AP' (JM' F hw hoff hl h1 (by decide) ha), fun _ _ => noL, fun F => ?_⟩
   have hlen : (O ++ [tB ((w.drop f).take (i - f))]).length = O.length + 1 := by simp
   have hA : aLi off w.length (O ++ [tB ((w.drop f).take (i - f))]).length (i + 2) (i + 1) = aLi off w.length (O.length + 1) (i + 2) (i + 1) := by rw [hlen]
   refine cv (eI' P O (tB ((w.drop f).take (i - f))) off w.length O.length f i F) ⟨⟨?_, rfl, .inl ⟨rfl, ⟨⟨O ++ [tB ((w.drop f).take (i - f))], i + 2, i + 1⟩, hlt, hi2, by simp only; omega, fun _ => hn2, by simp only [hlen]; omega, ?_⟩, AR' hlt, [(1000, 1101)], ?_⟩⟩⟩
   ·simp only [Cnd.holds, A2', Nat.mul_one, e2, e3, e4, k1, k2, b1, b2, Nat.blt_eq, true_and, and_true]
    and_intros
    all_goals first
     | exact AG' hwi
     | exact AG' hw2
     | exact A1' e1
     | exact hr1
     | exact hr2
     | (rw [A2']; exact o0) | (with_reducible first | exact t0 | exact r0 | exact A6' _ | assumption) | exact r0 | ((repeat (first | exact VW.nil | refine c1 ?_ | refine c2 ?_ | refine c3 ?_)); done)
   ·simp only
    rw [List.append_assoc, ← h6]
    rfl
   ·simp only
    rw [hA]
    exact ⟨by kernel_rfl, by kernel_rfl, ⟨w0, w0, w0, w0, t0⟩, ⟨_, rfl, AJ' (by simp only [A2']) rfl⟩, ⟨_, rfl, IY' a1 rfl⟩, t0⟩
 ·have hie : i = w.length := by omega
  subst hie
  rw [Nat.sub_self, lnsR, List.map_nil, List.append_nil] at h6
  subst h6
  refine ⟨[], AB' [(fRLs, 4, 3, hv (.lit false))], [], fun _ _ => noC, fun _ _ => noL, fun F => ?_⟩
  refine cv (eK' P O off w.length O.length f F) ⟨⟨?_, rfl, .inr ⟨rfl, [(1000, 1000)], by kernel_rfl, by kernel_rfl, ⟨w0, t0⟩, ⟨_, rfl, AJ' rfl rfl⟩, ⟨_, rfl, IY' rfl rfl⟩, t0⟩⟩⟩
  simp only [Cnd.holds, A2', Nat.blt_eq, true_and, and_true]
  and_intros
  all_goals first
   | exact A1' (ltFN (n0)) | (with_reducible first | exact t0 | exact r0 | exact A6' _ | assumption) | exact r0 | ((repeat (first | exact VW.nil | refine c1 ?_ | refine c2 ?_ | refine c3 ?_)); done)
theorem TM' {R : List ByteArray} (hR : (lnsR w w.length 0 0).map tB = R) {n : Nat} (hn : R.length = n + 1) (hb : n ≤ 4000000) : Tri Tryz.prog default fRLs [sO 0 off w.length] [(0, rB1 P)] (sB 1000 n) [(0, rB1 P), (1000, rS R)] := by
 have hws := CP' (a := n + 1) (b := 1) (by omega) (by omega)
 rw [Nat.add_sub_cancel] at hws
 have e1 : n.ble (n + 1) = true := by rw [Nat.ble_eq]; omega
 have e2 : (n + 1).ble (n + 1) = true := by rw [Nat.ble_eq]; omega
 refine AA' (con := []) (hints := AB' [(fRLs, 9, 3, hv (iv (Int.ofNat n)))]) (lc := [(fRLs, 4, A4' fRLs 4, lLi P R off w.length (n + 1))]) [0, 1100, 1101] rfl (fun F _ => noC) (fun F hF => BE' (AW' (AE'.nothing F) gLi_ro (fun _ _ => by
  simp only [RT.pick]
  rw [← hn]
  exact gN' hw hoff hl hR) fun _ => by
  simp only [RT.pick]
  exact AQ' rfl rfl (A0' rfl (A0' rfl (A0' t0 (A0' t0 A3')))) (A0' (AM' _ _) (A0' (DB' _ _) A3')) (A0' rfl A3') (A0' (AM' _ _) (A0' (DB' _ _) A3')))) fun F => ?_
 refine cv (oLi_eq P R off w.length n F) ⟨⟨?_, (AF' (vs' := [sB 1000 n]) (H' := [(0, rB1 P), (1000, rS R)]) [(1000, 1101)] rfl rfl (VW.cons (show Wk (AV.slice 1101 0 n 1 (Cp.lo (n + 1 - 0))) (AV.slice 1101 0 n 1 (Cp.lo n)) from CY' (by show n ≤ n + 1 - 0; omega)) VW.nil) ⟨⟨_, rfl, AJ' (by simp only [A2']) rfl⟩, ⟨_, rfl, IY' (by simp only [A2']) rfl⟩, t0⟩).fits rfl⟩⟩
 simp only [Cnd.holds, A2', e1, e2, Nat.blt_eq, true_and, and_true]
 and_intros
 all_goals first
  | exact AG' hws
  | (rw [A2']; exact o0) | (with_reducible first | exact t0 | exact r0 | exact A6' _ | assumption) | exact r0 | ((repeat (first | exact VW.nil | refine c1 ?_ | refine c2 ?_ | refine c3 ?_)); done)
end
def cutA (x : UInt8) (acc : List UInt8) : List UInt8 → List (List UInt8)
 | [] => [acc]
 | c :: r => if c = x then acc :: cutA x [] r else cutA x (acc ++ [c]) r
theorem VT' (x : UInt8) : ∀ (l acc : List UInt8), ∃ u r, cutL x l = u :: r ∧ cutA x acc l = (acc ++ u) :: r
 | [], acc => ⟨[], [], rfl, by rw [cutA, List.append_nil]⟩
 | c :: l, acc => by
  by_cases h : c = x
  ·subst h
   obtain ⟨u, r, e1, e2⟩ := VT' c l []
   refine ⟨[], cutL c l, SF' c l, ?_⟩
   rw [cutA, if_pos rfl, e2, e1, List.append_nil]
   rfl
  ·obtain ⟨u, r, e1, e2⟩ := L0' h l
   obtain ⟨u', r', e3, e4⟩ := VT' x l (acc ++ [c])
   rw [e1] at e3
   obtain ⟨rfl, rfl⟩ := List.cons.inj e3
   exact ⟨c :: u, r, e2, by rw [cutA, if_neg h, e4, List.append_assoc]; rfl⟩
theorem hC' (x : UInt8) (l : List UInt8) : cutA x [] l = cutL x l := by
 obtain ⟨u, r, e1, e2⟩ := VT' x l []
 rw [e1, e2]; rfl
theorem TU' (s : ByteArray) (a b : Nat) (hb : b ≤ s.size) : s.extract a b = tB ((s.data.toList.drop a).take (b - a)) := by
 have := ER' s a b hb
 rw [← HT' (s.extract a b), this]
theorem hE' (s : ByteArray) (c : UInt8) (hs : s.size ≤ 1000000) {R : List ByteArray} (hR : cutB c s = R) : LTri Tryz.prog default (A4' fRCt 4) (tms 0 36 (aCu s c 0 0 0)) [(1000, rS [])] (.exit 0) (tms 0 36 [(5, sB 1000 R.length)]) [(1000, rS R)] := by
 have hsl : s.data.toList.length = s.size := rfl
 refine AS' (W := default) (g := fRCt) (b := A4' fRCt 4) (σ := {q : LiS // q.i ≤ s.size + 1 ∧ q.f ≤ q.i ∧ q.O.length ≤ q.i ∧ (q.i ≤ s.size → q.O ++ (cutA c ((s.data.toList.drop q.f).take (q.i - q.f)) (s.data.toList.drop q.i)).map tB = R) ∧ (q.i = s.size + 1 → q.O = R)}) 36 (fun q => aCu s c q.1.O.length q.1.f q.1.i) (fun q => [(1000, rS q.1.O)]) (.exit 0) [(5, sB 1000 R.length)] [(1000, rS R)] (fun q => s.size + 1 - q.1.i) kCu iCu (by intro h; cases h) (fun _ => rfl) rfl ?_ ⟨⟨[], 0, 0⟩, Nat.zero_le _, Nat.zero_le _, Nat.zero_le _, fun _ => by
  show [] ++ (cutA c (List.take (0 - 0) (s.data.toList.drop 0)) (s.data.toList.drop 0)).map tB = R
  rw [Nat.sub_self, List.take_zero, List.drop_zero, hC', List.nil_append]; exact hR, fun h => by simp only at h; omega⟩
 rintro ⟨⟨O, f, i⟩, h1, h2, h3, h4, h5⟩
 simp only at h1 h2 h3 h4 h5
 simp only
 by_cases hi : i ≤ s.size
 ·have hwi := AO' i (by omega)
  have h4 := h4 hi
  have k1 := aN' (p := O.length) (P := O) rfl
  have k2 := U6' (p := O.length) (P := O) rfl
  have b1 : ((O.length + 1) * 16).ble 140737488355328 = true := C6' (by omega)
  have b2 : (O.length + 1).ble 9223372036854775807 = true := C6' (by omega)
  have hx : Wk (AV.v (.string (s.extract f i))) (sv (tB ((s.data.toList.drop f).take (i - f)))) := by rw [TU' s f i hi]; exact w0
  have a1 : List.take (O.length * 1) (List.drop 0 (rowV encS O)) ++ [AV.v (Value.string (tB ((s.data.toList.drop f).take (i - f))))] = rowV encS (O ++ [tB ((s.data.toList.drop f).take (i - f))]) := U7' rfl [tB ((s.data.toList.drop f).take (i - f))]
  have hlen : (O ++ [tB ((s.data.toList.drop f).take (i - f))]).length = O.length + 1 := by simp
  have hA : aCu s c (O ++ [tB ((s.data.toList.drop f).take (i - f))]).length (i + 1) (i + 1) = aCu s c (O.length + 1) (i + 1) (i + 1) := by rw [hlen]
  by_cases he : i = s.size
  ·have hd : s.data.toList.drop i = [] := List.drop_eq_nil_of_le (by omega)
   rw [hd, cutA] at h4
   refine ⟨[], hCu i true 0 false true (tB ((s.data.toList.drop f).take (i - f))), [], fun _ _ => noC, fun _ _ => noL, fun F => ?_⟩
   refine cv (gF' s (tB ((s.data.toList.drop f).take (i - f))) c O O.length f i F) ⟨⟨?_, rfl, .inl ⟨rfl, ⟨⟨O ++ [tB ((s.data.toList.drop f).take (i - f))], i + 1, i + 1⟩, by simp only; omega, n0, by simp only [hlen]; omega, fun h => by simp only at h; omega, fun _ => by simp only; rw [← h4]; rfl⟩, by show s.size + 1 - (i + 1) < s.size + 1 - i; omega, [(1000, 1101)], ?_⟩⟩⟩
   ·simp only [Cnd.holds, k1, k2, b1, b2, Nat.blt_eq, true_and, and_true]
    and_intros
    all_goals first
     | exact AG' hwi
     | exact hx
     | exact h2
     | exact hi
     | exact A1' (decide_eq_true (by simp only [Z0]; omega))
     | exact A1' (by rw [he]; simp) | (with_reducible first | exact t0 | exact r0 | exact A6' _ | assumption) | exact r0 | ((repeat (first | exact VW.nil | refine c1 ?_ | refine c2 ?_ | refine c3 ?_)); done)
   ·simp only
    rw [hA]
    exact ⟨by kernel_rfl, by kernel_rfl, ⟨w0, w0, w0, w0, w0, t0⟩, ⟨_, rfl, IY' a1 rfl⟩, t0⟩
  ·have hlt : i < s.data.toList.length := by omega
   have hne : ((Int.ofNat i : Int) == ((s.size : Nat) : Int)) = false := by
    rw [beq_eq_false_iff_ne]; simp only [Z0]; omega
   have hd : s.data.toList.drop i = s.data.toList[i] :: s.data.toList.drop (i + 1) := List.drop_eq_getElem_cons hlt
   have hg : s.data.toList.getD i 0 = s.data.toList[i] := by simp [List.getD_eq_getElem?_getD, List.getElem?_eq_getElem hlt]
   rw [hd, cutA] at h4
   have hby : Wk (AV.v (.int .u8 (s.data.toList.getD i 0).toNat)) (byv s.data.toList[i]) := by rw [hg]; exact w0
   have hsn : (s.data.toList.drop f).take (i + 1 - f) = (s.data.toList.drop f).take (i - f) ++ [s.data.toList[i]] := by
    rw [show i + 1 - f = (i - f) + 1 by omega, List.take_add_one]
    congr 1
    rw [List.getElem?_drop, show f + (i - f) = i by omega, List.getElem?_eq_getElem hlt]
    rfl
   generalize s.data.toList[i] = x at *
   have hlt' : i < s.size := by omega
   by_cases hxc : x = c
   ·rw [if_pos hxc] at h4
    subst hxc
    refine ⟨[], hCu i false x true true (tB ((s.data.toList.drop f).take (i - f))), [], fun _ _ => noC, fun _ _ => noL, fun F => ?_⟩
    refine cv (gC' s (tB ((s.data.toList.drop f).take (i - f))) x x O O.length f i F) ⟨⟨?_, rfl, .inl ⟨rfl, ⟨⟨O ++ [tB ((s.data.toList.drop f).take (i - f))], i + 1, i + 1⟩, by simp only; omega, n0, by simp only [hlen]; omega, fun h => by simp only; rw [Nat.sub_self, List.take_zero, List.append_assoc, ← h4]; rfl, fun h => by simp only at h; omega⟩, by show s.size + 1 - (i + 1) < s.size + 1 - i; omega, [(1000, 1101)], ?_⟩⟩⟩
    ·simp only [Cnd.holds, k1, k2, b1, b2, Nat.blt_eq, true_and, and_true]
     and_intros
     all_goals first
      | exact AG' hwi
      | exact hx
      | exact hby
      | exact h2
      | exact hi
      | exact hlt'
      | exact A1' (decide_eq_true (by simp only [Z0]; omega))
      | exact A1' hne
      | exact A1' (beq_self_eq_true _) | (with_reducible first | exact t0 | exact r0 | exact A6' _ | assumption) | exact r0 | ((repeat (first | exact VW.nil | refine c1 ?_ | refine c2 ?_ | refine c3 ?_)); done)
    ·simp only
     rw [hA]
     exact ⟨by kernel_rfl, by kernel_rfl, ⟨w0, w0, w0, w0, w0, t0⟩, ⟨_, rfl, IY' a1 rfl⟩, t0⟩
   ·rw [if_neg hxc, ← hsn] at h4
    have hxn : (((x.toNat : Nat) : Int) == ((c.toNat : Nat) : Int)) = false := by
     rw [beq_eq_false_iff_ne]
     intro e
     exact hxc (UInt8.toNat_inj.1 (Int.ofNat.inj e))
    refine ⟨[], hCu i false x false false nil0, [], fun _ _ => noC, fun _ _ => noL, fun F => ?_⟩
    refine cv (gE' s c x O O.length f i F) ⟨⟨?_, rfl, .inl ⟨rfl, ⟨⟨O, f, i + 1⟩, by simp only; omega, by simp only; omega, by simp only; omega, fun _ => h4, fun h => by simp only at h; omega⟩, by show s.size + 1 - (i + 1) < s.size + 1 - i; omega, [(1000, 1000)], by kernel_rfl, by kernel_rfl, ⟨w0, w0, w0, w0, w0, t0⟩, ⟨_, rfl, IY' rfl rfl⟩, t0⟩⟩⟩
    simp only [Cnd.holds, A2', Nat.blt_eq, true_and, and_true]
    and_intros
    all_goals first
     | exact AG' hwi
     | exact hby
     | exact hlt'
     | exact hi
     | exact A1' (decide_eq_true (by simp only [Z0]; omega))
     | exact A1' hne
     | exact A1' hxn | (with_reducible first | exact t0 | exact r0 | exact A6' _ | assumption) | exact r0 | ((repeat (first | exact VW.nil | refine c1 ?_ | refine c2 ?_ | refine c3 ?_)); done)
 ·have hie : i = s.size + 1 := by omega
  have h5 := h5 hie
  subst h5
  refine ⟨[], AB' [(fRCt, 4, 3, hv (.lit false))], [], fun _ _ => noC, fun _ _ => noL, fun F => ?_⟩
  refine cv (gD' s c O O.length f i F) ⟨⟨?_, rfl, .inr ⟨rfl, [(1000, 1000)], by kernel_rfl, by kernel_rfl, ⟨w0, t0⟩, ⟨_, rfl, IY' rfl rfl⟩, t0⟩⟩⟩
  simp only [Cnd.holds, A2', Nat.blt_eq, true_and, and_true]
  and_intros
  all_goals first
   | exact A1' (decide_eq_false (by simp only [Z0]; omega)) | (with_reducible first | exact t0 | exact r0 | exact A6' _ | assumption) | exact r0 | ((repeat (first | exact VW.nil | refine c1 ?_ | refine c2 ?_ | refine c3 ?_)); done)
theorem aB' (s : ByteArray) (c : UInt8) (hs : s.size ≤ 1000000) : Tri Tryz.prog default fRCt [sv s, byv c] [] (sB 1000 (cutB c s).length) [(1000, rS (cutB c s))] := by
 refine AA' (con := []) (hints := BS') (lc := [(fRCt, 4, A4' fRCt 4, lCu s c (cutB c s) (cutB c s).length)]) [1100, 1101] rfl (fun F _ => noC) (fun F hF => BE' (AW' (AE'.nothing F) gCu_ro (fun _ _ => by
  simp only [RT.pick]
  exact hE' s c hs rfl) fun _ => by
  simp only [RT.pick]
  exact AQ' rfl rfl (A0' t0 (A0' t0 (A0' rfl (A0' t0 (A0' t0 A3'))))) (A0' (DB' _ _) A3') (A0' rfl A3') (A0' (DB' _ _) A3'))) fun F => ?_
 refine cv (oCu_eq s c (cutB c s) (cutB c s).length F) ⟨⟨?_, (AF' (vs' := [sB 1000 (cutB c s).length]) (H' := [(1000, rS (cutB c s))]) [(1000, 1101)] rfl rfl (v0) ⟨⟨_, rfl, IY' (by simp only [A2']) rfl⟩, t0⟩).fits rfl⟩⟩
 simp only [Cnd.holds, A2', Nat.blt_eq, true_and, and_true]
 and_intros
 all_goals first | (with_reducible first | exact t0 | exact r0 | exact A6' _ | assumption) | exact r0 | ((repeat (first | exact VW.nil | refine c1 ?_ | refine c2 ?_ | refine c3 ?_)); done)
theorem b4' (L : Hds) (i : Nat) (hi : i < L.length) (d : AV) : (rowV encP L).getD (0 + i * 2) d = sv (L.getD i pr0).1 := by
 have := JZ' (k := 2) EF' L pr0 i hi 0 (by decide) (.string (L.getD i pr0).1) rfl d
 simpa [sv] using this
theorem E8' (L : Hds) (name : ByteArray) (hL : L.length ≤ 4000000) (k : Nat) (hk : k < L.length) (h : (L.getD k pr0).1 = name) (hno : ∀ j, j < k → (L.getD j pr0).1 ≠ name) : Tri Tryz.prog default fFnd [sP 0 L.length, sv name] [(0, rP L)] (iv (Int.ofNat k)) [(0, rP L)] := by
 have hlp : LTri Tryz.prog default (A4' fFnd 2) (tms 0 20 (aFn name L.length 0)) [(0, rP L)] .ret (tms 0 20 [(4, iv (Int.ofNat k))]) [(0, rP L)] := by
  refine AS' (W := default) (g := fFnd) (b := A4' fFnd 2) (σ := {i : Nat // i ≤ k}) 20 (fun i => aFn name L.length i.1) (fun _ => [(0, rP L)]) .ret [(4, iv (Int.ofNat k))] [(0, rP L)] (fun i => k - i.1) [0] [0, 1, 4, 5] (by intro h; cases h) (fun _ => rfl) rfl ?_ ⟨0, Nat.zero_le _⟩
  rintro ⟨i, hi⟩
  simp only
  have hlt : i < L.length := by omega
  have hwi := AO' i (by omega)
  have e1 := ltTN hlt
  have g1 := b4' L i hlt
  have g2 : 0 + i * 2 < (rowV encP L).length := by rw [DC']; omega
  have g3 : i.blt L.length = true := by rw [Nat.blt_eq]; exact hlt
  by_cases hik : i < k
  ·have hne := hno i hik
   generalize (L.getD i pr0).1 = key at *
   have hb : (key.toList == name.toList) = false := by rw [LJ']; exact decide_eq_false hne
   refine ⟨[], hFn i key false, [], fun F hF => noC, fun _ _ => noL, fun F => ?_⟩
   refine cv (UP' L name key L.length i F) ⟨⟨?_, rfl, .inl ⟨rfl, ⟨i + 1, hik⟩, AR' hik, [], rfl, rfl, ⟨w0, w0, w0, t0⟩, ⟨_, rfl, BQ' rfl rfl⟩, t0⟩⟩⟩
   simp only [Cnd.holds, Nat.add_zero, g1, g2, g3, sv, AV.strOf, Nat.blt_eq, true_and, and_true]
   and_intros
   all_goals first
    | exact AG' hwi
    | exact A1' e1
    | exact A1' hb | (with_reducible first | exact t0 | exact r0 | exact A6' _ | assumption) | exact r0 | ((repeat (first | exact VW.nil | refine c1 ?_ | refine c2 ?_ | refine c3 ?_)); done)
  ·have hie : i = k := by omega
   subst hie
   rw [h] at g1
   have hb : (name.toList == name.toList) = true := by rw [LJ']; exact decide_eq_true rfl
   refine ⟨[], hFn i name true, [], fun F hF => noC, fun _ _ => noL, fun F => ?_⟩
   refine cv (fF' L name name L.length i F) ⟨⟨?_, rfl, .inr ⟨rfl, [], rfl, rfl, ⟨w0, t0⟩, ⟨_, rfl, BQ' rfl rfl⟩, t0⟩⟩⟩
   simp only [Cnd.holds, Nat.add_zero, g1, g2, g3, sv, AV.strOf, Nat.blt_eq, true_and, and_true]
   and_intros
   all_goals first
    | exact AG' hwi
    | exact A1' e1
    | exact A1' hb | (with_reducible first | exact t0 | exact r0 | exact A6' _ | assumption) | exact r0 | ((repeat (first | exact VW.nil | refine c1 ?_ | refine c2 ?_ | refine c3 ?_)); done)
 refine AA' (con := []) (hints := BS') (lc := [(fFnd, 2, A4' fFnd 2, lFnx L name k)]) [0] rfl (fun F _ => noC) (fun F hF => BE' (AW' (AE'.nothing F) S5' (fun _ _ => by
  simp only [RT.pick]
  exact hlp) fun _ => by
  simp only [RT.pick]
  exact AQ' rfl rfl (A0' rfl (A0' t0 (A0' t0 A3'))) (A0' (BN' _ _) A3') (A0' t0 A3') (A0' (BN' _ _) A3'))) fun F => ?_
 refine cv (fE' L name k F) ⟨⟨?_, (AF' (vs' := [iv (Int.ofNat k)]) (H' := [(0, rP L)]) [] rfl rfl (v0) ⟨⟨_, rfl, BQ' (by simp only [A2']) rfl⟩, t0⟩).fits rfl⟩⟩
 simp only [Cnd.holds, A2', Nat.blt_eq, true_and, and_true]
 and_intros
 all_goals first | (with_reducible first | exact t0 | exact r0 | exact A6' _ | assumption) | exact r0 | ((repeat (first | exact VW.nil | refine c1 ?_ | refine c2 ?_ | refine c3 ?_)); done)
theorem PU' (L : Hds) (name : ByteArray) (hL : L.length ≤ 4000000) (hno : getP L name = none) : Tri Tryz.prog default fFnd [sP 0 L.length, sv name] [(0, rP L)] (iv (-1)) [(0, rP L)] := by
 have hlp : LTri Tryz.prog default (A4' fFnd 2) (tms 0 20 (aFn name L.length 0)) [(0, rP L)] (.exit 0) (tms 0 20 []) [(0, rP L)] := by
  refine AS' (W := default) (g := fFnd) (b := A4' fFnd 2) (σ := {i : Nat // i ≤ L.length}) 20 (fun i => aFn name L.length i.1) (fun _ => [(0, rP L)]) (.exit 0) [] [(0, rP L)] (fun i => L.length - i.1) [0] [0, 1, 4, 5] (by intro h; cases h) (fun _ => rfl) rfl ?_ ⟨0, Nat.zero_le _⟩
  rintro ⟨i, hi⟩
  simp only
  by_cases hlt : i < L.length
  ·have hwi := AO' i (by omega)
   have e1 := ltTN hlt
   have g1 := b4' L i hlt
   have g2 : 0 + i * 2 < (rowV encP L).length := by rw [DC']; omega
   have g3 : i.blt L.length = true := by rw [Nat.blt_eq]; exact hlt
   have hne := KX' hno i hlt
   generalize (L.getD i pr0).1 = key at *
   have hb : (key.toList == name.toList) = false := by rw [LJ']; exact decide_eq_false hne
   refine ⟨[], hFn i key false, [], fun F hF => noC, fun _ _ => noL, fun F => ?_⟩
   refine cv (UP' L name key L.length i F) ⟨⟨?_, rfl, .inl ⟨rfl, ⟨i + 1, hlt⟩, AR' hlt, [], rfl, rfl, ⟨w0, w0, w0, t0⟩, ⟨_, rfl, BQ' rfl rfl⟩, t0⟩⟩⟩
   simp only [Cnd.holds, Nat.add_zero, g1, g2, g3, sv, AV.strOf, Nat.blt_eq, true_and, and_true]
   and_intros
   all_goals first
    | exact AG' hwi
    | exact A1' e1
    | exact A1' hb | (with_reducible first | exact t0 | exact r0 | exact A6' _ | assumption) | exact r0 | ((repeat (first | exact VW.nil | refine c1 ?_ | refine c2 ?_ | refine c3 ?_)); done)
  ·have hie : i = L.length := by omega
   subst hie
   refine ⟨[], AB' [(fFnd, 2, 3, hv (.lit false))], [], fun _ _ => noC, fun _ _ => noL, fun F => ?_⟩
   refine cv (fG' L name L.length F) ⟨⟨?_, rfl, .inr ⟨rfl, [], rfl, rfl, t0, ⟨_, rfl, BQ' rfl rfl⟩, t0⟩⟩⟩
   simp only [Cnd.holds, A2', Nat.blt_eq, true_and, and_true]
   and_intros
   all_goals first
    | exact A1' (ltFN (n0)) | (with_reducible first | exact t0 | exact r0 | exact A6' _ | assumption) | exact r0 | ((repeat (first | exact VW.nil | refine c1 ?_ | refine c2 ?_ | refine c3 ?_)); done)
 refine AA' (con := []) (hints := BS') (lc := [(fFnd, 2, A4' fFnd 2, lFn L name)]) [0] rfl (fun F _ => noC) (fun F hF => BE' (AW' (AE'.nothing F) S5' (fun _ _ => by
  simp only [RT.pick]
  exact hlp) fun _ => by
  simp only [RT.pick]
  exact AQ' rfl rfl (A0' rfl (A0' t0 (A0' t0 A3'))) (A0' (BN' _ _) A3') A3' (A0' (BN' _ _) A3'))) fun F => ?_
 refine cv (oFn_eq L name L.length F) ⟨⟨?_, (AF' (vs' := [iv (-1)]) (H' := [(0, rP L)]) [] rfl rfl (v0) ⟨⟨_, rfl, BQ' (by simp only [A2']) rfl⟩, t0⟩).fits rfl⟩⟩
 simp only [Cnd.holds, A2', Nat.blt_eq, true_and, and_true]
 and_intros
 all_goals first | (with_reducible first | exact t0 | exact r0 | exact A6' _ | assumption) | exact r0 | ((repeat (first | exact VW.nil | refine c1 ?_ | refine c2 ?_ | refine c3 ?_)); done)
theorem WY' (name : ByteArray) : Tri Tryz.prog default fFnd [nilP, sv name] [] (iv (-1)) [] := by
 refine AA' (con := []) (hints := AB' [(fFnd, 2, 3, hv (.lit false))]) (lc := []) [] rfl (fun F _ => noC) (fun F _ => noL) fun F => ?_
 refine cv (fH' name F) ⟨⟨?_, (AF' (vs' := [iv (-1)]) (H' := []) [] rfl rfl (v0) trivial).fits rfl⟩⟩
 simp only [Cnd.holds, A2', Nat.blt_eq, true_and, and_true]
 and_intros
 all_goals first | (with_reducible first | exact t0 | exact r0 | exact A6' _ | assumption) | exact r0 | ((repeat (first | exact VW.nil | refine c1 ?_ | refine c2 ?_ | refine c3 ?_)); done)
end Go.Proofs.YtpijbbobejeemaaGreatDoor.Htp
