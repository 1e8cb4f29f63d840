/- Parts of the proof, merged. -/
import Derived.Test.YtdphpillcaajpaaDoorEngCon
import Derived.Test.YtdphpillcaajpaaDoorEngRow
import Derived.Test.YtdphpillcaajpaaDoorEngXBck
import Derived.Lib.AtoiTie
import Derived.Lib.ItoaLen
import Derived.Lib.AtoiAllCases
import Derived.Test.YtdphpillcaajpaaDoorEngKit
import Derived.Lib.LaidTab
import Derived.Test.YtdphpillcaajpaaDoorShelf
import Derived.Lib.AppendIntMem
import Derived.Lib.SmallJoins
import Derived.Test.YtdphpillcaajpaaDoorBck1
import Derived.Lib.TrimU
import Derived.Lib.IndexBytes
import Derived.Lib.DecodeN
noncomputable section
set_option linter.unusedVariables false
set_option linter.unusedSimpArgs false
set_option maxRecDepth 100000
set_option linter.unusedSectionVars false
namespace Go.Proofs.YtdphpillcaajpaaDoor.Eng
open Go Go.RowKit
section
variable {α : Type} {enc : α -> List Value} {k : Nat}
theorem SS' (hk : ∀ x, (enc x).length = k) (L : List α) (d0 : α) (i : Nat) (hi : i < L.length) (j : Nat) (hj : j < k) (v : Value) (hv : (enc (L.getD i d0))[j]? = some v) (d : AV) : (rowV enc L).getD (0 + i * k + j) d = .v v := by
 have h := WI' hk L d0 i hi
 have h2 : (((rowV enc L).drop (i * k)).take k)[j]? = some (.v v) := by
  rw [h, vmap, List.getElem?_map, hv]; rfl
 rw [List.getElem?_take_of_lt hj, List.getElem?_drop] at h2; rw [Nat.zero_add, List.getD, h2]; rfl
end
end Go.Proofs.YtdphpillcaajpaaDoor.Eng
namespace Go.Proofs.YtdphpillcaajpaaDoor.Kit
open Go Go.RowKit Eng
open Int renaming ofNat -> o'
variable {n p j : Nat} {x : List AV} {e : TypeId} {σ : Nat -> Nat} {P : Γ}
def encS (s : Δ) : List Value := [.string s]
def nil0 : Δ := ByteArray.empty
abbrev tStr : TypeId := 2 * 9
def rS (l : List Δ) : AO := .cells (rowV encS l) tStr
theorem EW' (x : Δ) : (encS x).length = 1 := rfl
theorem rS_len (M : List Δ) : (rowV encS M).length = M.length := by rw [CP' (k := 1) EW', Nat.mul_one]
theorem rS_ren (σ : Nat -> Nat) (L : List Δ) : (rS L).ren σ = rS L := by simp only [rS, AO.ren, AO']
theorem OV' {L : List Δ} (h : x = rowV encS L) (he : e = tStr) : OW (.cells x e) ((rS L).ren σ) := by rw [rS_ren]; subst h he; exact Yc
theorem G9' (K : Nat -> Bool) (L : List Δ) : (rS L).cl K := IQ' _ _
theorem fZ' (M : List Δ) (i : Nat) (hi : i < M.length) (d : AV) : (rowV encS M).getD (0 + i * 1) d = sv (M.getD i nil0) := by
 have := SS' (k := 1) EW' M nil0 i hi 0 δ (.string (M.getD i nil0)) rfl d; simpa [sv] using this
theorem rS_lt (M : List Δ) (i : Nat) (hi : i < M.length) : (0 + i * 1).blt (rowV encS M).length = true := by
 rw [rS_len, Nat.blt_eq]; omega
def byv (b : UInt8) : AV := .v (.int .u8 b.toNat)
def encB (b : UInt8) : List Value := [.int .u8 b.toNat]
abbrev tByt : TypeId := 2 * 5
def rB (l : Γ) : AO := .cells (rowV encB l) tByt
def rB1 (l : Γ) : AO := .cells (rowV encB l) (tByt + 1)
def sB (i n : Nat) : AV := .slice i 0 n 1 (.lo n)
theorem TL' (x : UInt8) : (encB x).length = 1 := rfl
theorem KY' (M : Γ) : (rowV encB M).length = M.length := by rw [CP' (k := 1) TL', Nat.mul_one]
theorem rB_ren (σ : Nat -> Nat) (L : Γ) : (rB L).ren σ = rB L := by simp only [rB, AO.ren, AO']
theorem iO' (σ : Nat -> Nat) (L : Γ) : (rB1 L).ren σ = rB1 L := by simp only [rB1, AO.ren, AO']
theorem QZ' {L : Γ} (h : x = rowV encB L) (he : e = tByt) : OW (.cells x e) ((rB L).ren σ) := by rw [rB_ren]; subst h he; exact Yc
theorem g1' {L : Γ} (h : x = rowV encB L) (he : e = tByt + 1) : OW (.cells x e) ((rB1 L).ren σ) := by rw [iO']; subst h he; exact Yc
theorem WQ' (K : Nat -> Bool) (L : Γ) : (rB L).cl K := IQ' _ _
theorem g2' (K : Nat -> Bool) (L : Γ) : (rB1 L).cl K := IQ' _ _
theorem g0' (M : Γ) (i : Nat) (hi : i < M.length) (d : AV) : (rowV encB M).getD (0 + i * 1) d = byv (M.getD i 0) := by
 have := SS' (k := 1) TL' M 0 i hi 0 δ (.int .u8 (M.getD i 0).toNat) rfl d; simpa [byv] using this
theorem rB_lt (M : Γ) (i : Nat) (hi : i < M.length) : (0 + i * 1).blt (rowV encB M).length = true := by
 rw [KY', Nat.blt_eq]; omega
theorem E1' (l : Γ) : rowV encB l = vmap (l.map fun b => .int .u8 b.toNat) := by
 unfold rowV
 congr 1
 induction l with
 | nil => rfl
 | cons a l ih => rw [List.flatMap_cons, List.map_cons, ih]; rfl
theorem KZ' (h : P.length = p) : (0 + p * 1).ble (rowV encB P).length = true := by rw [KY', Nat.ble_eq]; omega
theorem DK' (h : P.length = p) : (List.take (p * 1) (List.drop 0 (rowV encB P))).length.beq (p * 1) = true := by
 have : (List.take (p * 1) (List.drop 0 (rowV encB P))).length = p * 1 := by rw [List.length_take, List.drop_zero, KY']; omega
 rw [this]; exact Nat.beq_refl _
theorem DL' (h : P.length = p) (l : Γ) : List.take (p * 1) (List.drop 0 (rowV encB P)) ++ rowV encB l = rowV encB (P ++ l) := by
 rw [List.drop_zero, List.take_of_length_le (by rw [KY']; omega), <- HQ']
theorem ltTN (h : j < n) : decide (o' j < o' n) = true := decide_eq_true (by simp only [Z0]; omega)
theorem ltFN (h : n <= j) : decide (o' j < o' n) = false := decide_eq_false (by simp only [Z0]; omega)
theorem ltFC : decide (o' n < (n : Int)) = false := decide_eq_false (by simp only [Z0]; omega)
theorem ltTC (h : j < n) : decide (o' j < (n : Int)) = true := decide_eq_true (by simp only [Z0]; omega)
theorem VAll.ite {α : Type} {Q : α -> List (Option AO) -> Nat -> Prop} {b : Bool} {x y : VT α} (h1 : b = true -> VAll Q x) (h2 : b = false -> VAll Q y) : VAll Q (.ite b x y) := ⟨⟨fun h => (h1 h).out, fun h => (h2 h).out⟩⟩
theorem fL' {b b' : Bool} (h : b = b') : Wk (.v (.bool b)) (.v (.bool b')) := by subst h; exact Ya
theorem IY' {a b : Int} (h : a = b) : Wk (.v (.int .u8 a)) (.v (.int .u8 b)) := by subst h; exact Ya
theorem LP' (s : Δ) : s.toList = s.data.toList := ByteArray.toList_eq s
theorem nH' (s : Δ) : s.data.toList.length = s.size := rfl
end Go.Proofs.YtdphpillcaajpaaDoor.Kit
namespace Go.Proofs.YtdphpillcaajpaaDoor.Js
open Go
def isD (b : UInt8) : Bool := decide (48 <= b.toNat) && decide (b.toNat <= 57)
def digE (l : Γ) (n : Nat) : Nat := n + ((l.drop n).takeWhile isD).length
def sgn (ks l : Γ) (n : Nat) : Bool := match l[n]? with
 | some c => ks.contains c
 | none => false
def sgE (ks l : Γ) (n : Nat) : Nat := if sgn ks l n then n + 1 else n
def num3 (l : Γ) (n : Nat) : Nat × Bool :=
 if sgn [101, 69] l n then (digE l (sgE [43, 45] l (n + 1)), decide (sgE [43, 45] l (n + 1) < digE l (sgE [43, 45] l (n + 1)))) else (n, true)
def num2 (l : Γ) (n : Nat) : Nat × Bool :=
 if sgn [46] l n then (if n + 1 < digE l (n + 1) then num3 l (digE l (n + 1)) else (digE l (n + 1), false)) else num3 l n
def num (l : Γ) : Nat × Bool :=
 if sgn [48] l (sgE [45] l 0) then num2 l (sgE [45] l 0 + 1) else if sgE [45] l 0 < digE l (sgE [45] l 0) then num2 l (digE l (sgE [45] l 0)) else (digE l (sgE [45] l 0), false)
def YA' (l : Γ) (n : Nat) : Nat × Bool :=
 if sgn [101, 69] l n then (if !decide (sgE [43, 45] l (sgE [101, 69] l n) < digE l (sgE [43, 45] l (sgE [101, 69] l n))) then (digE l (sgE [43, 45] l (sgE [101, 69] l n)), false) else (digE l (sgE [43, 45] l (sgE [101, 69] l n)), true)) else (sgE [101, 69] l n, true)
def YB' (l : Γ) (n : Nat) : Nat × Bool :=
 if sgn [46] l n then (if !decide (sgE [46] l n < digE l (sgE [46] l n)) then (digE l (sgE [46] l n), false) else YA' l (digE l (sgE [46] l n))) else YA' l (sgE [46] l n)
def numR (l : Γ) : Nat × Bool :=
 if !sgn [48] l (sgE [45] l 0) then (if !decide (sgE [48] l (sgE [45] l 0) < digE l (sgE [48] l (sgE [45] l 0))) then (digE l (sgE [48] l (sgE [45] l 0)), false) else YB' l (digE l (sgE [48] l (sgE [45] l 0)))) else YB' l (sgE [48] l (sgE [45] l 0))
theorem iL' {ks l : Γ} {n : Nat} (h : sgn ks l n = true) : sgE ks l n = n + 1 := by unfold sgE; rw [if_pos h]
theorem b8' {ks l : Γ} {n : Nat} (h : sgn ks l n = false) : sgE ks l n = n := by unfold sgE; rw [if_neg (by rw [h]; decide)]
theorem T2' (l : Γ) (n : Nat) : YA' l n = num3 l n := by
 unfold YA' num3
 cases h : sgn [101, 69] l n with
 | true =>
  rw [iL' h, if_pos rfl, if_pos rfl]
  by_cases h2 : sgE [43, 45] l (n + 1) < digE l (sgE [43, 45] l (n + 1))
  ·rw [decide_eq_true h2]; rfl
  ·rw [decide_eq_false h2]; rfl
 | false => rw [b8' h, if_neg δ, if_neg δ]
theorem T3' (l : Γ) (n : Nat) : YB' l n = num2 l n := by
 unfold YB' num2
 cases h : sgn [46] l n with
 | true =>
  rw [iL' h, if_pos rfl, if_pos rfl, T2']
  by_cases h2 : n + 1 < digE l (n + 1)
  ·rw [decide_eq_true h2, if_pos h2]; rfl
  ·rw [decide_eq_false h2, if_neg h2]; rfl
 | false => rw [b8' h, if_neg δ, if_neg δ, T2']
theorem lY' (l : Γ) : numR l = num l := by
 unfold numR num; rw [T3', T3']
 cases h : sgn [48] l (sgE [45] l 0) with
 | true => rw [iL' h, if_neg δ, if_pos rfl]
 | false =>
  rw [b8' h, if_pos (show (!false) = true by decide), if_neg (show ¬ (false = true) by decide)]
  by_cases h2 : sgE [45] l 0 < digE l (sgE [45] l 0)
  ·rw [decide_eq_true h2, if_pos h2]; rfl
  ·rw [decide_eq_false h2, if_neg h2]; rfl
theorem ZL' {l : Γ} {n : Nat} {c : UInt8} (hc : l[n]? = some c) (hd : isD c = true) : digE l n = digE l (n + 1) := by
 have hn : n < l.length := (List.getElem?_eq_some_iff.1 hc).1; have hcc : l[n] = c := (List.getElem?_eq_some_iff.1 hc).2; unfold digE; rw [List.drop_eq_getElem_cons hn, hcc, List.takeWhile_cons, if_pos hd, List.length_cons]; omega
theorem PZ' {l : Γ} {n : Nat} {c : UInt8} (hc : l[n]? = some c) (hd : isD c = false) : digE l n = n := by
 have hn : n < l.length := (List.getElem?_eq_some_iff.1 hc).1; have hcc : l[n] = c := (List.getElem?_eq_some_iff.1 hc).2; unfold digE; rw [List.drop_eq_getElem_cons hn, hcc, List.takeWhile_cons, if_neg (by rw [hd]; decide)]; rfl
theorem f1' {l : Γ} {n : Nat} (hn : l.length <= n) : digE l n = n := by
 unfold digE; rw [List.drop_eq_nil_iff.2 hn]; rfl
theorem GW' {l : Γ} {n : Nat} (hn : n <= l.length) : digE l n <= l.length := by
 unfold digE
 have h1 : ((l.drop n).takeWhile isD).length <= (l.drop n).length := by
  have := List.takeWhile_prefix (l := l.drop n) isD; exact this.length_le
 rw [List.length_drop] at h1; omega
theorem ZM' (l : Γ) (n : Nat) : n <= digE l n := Nat.le_add_right _ _
def body (l : Γ) : Γ := l.drop (sgE [45] l 0)
def below (l : Γ) : Bool := sgn [45] l 0
theorem WE' (ks l : Γ) (n : Nat) : n <= sgE ks l n /\ sgE ks l n <= n + 1 /\ (sgE ks l n = n + 1 -> n < l.length) := by
 unfold sgE
 by_cases h : sgn ks l n = true
 ·rw [if_pos h]
  refine ⟨ω, by omega, fun _ => ?_⟩
  unfold sgn at h; split at h
  ·rename_i c hc; exact (List.getElem?_eq_some_iff.1 hc).1
  ·cases h
 ·rw [if_neg h]
  exact ⟨ω, by omega, fun h => ω⟩
theorem J3' {ks l : Γ} {n : Nat} (hn : n <= l.length) : sgE ks l n <= l.length := by
 have := WE' ks l n
 by_cases h : sgE ks l n = n + 1
 ·have := this.2.2 h; omega
 ·omega
open Go.RowKit Eng Kit
open Int renaming ofNat -> o'
variable {a b : Nat}
def chK (l : Γ) (i : Nat) : Nat -> Nat -> Nat -> Option Nat
 | 0, _, c => some c
 | m + 1, k, c => if (l.getD (i + k) 0).toNat < 128 then none else if 191 < (l.getD (i + k) 0).toNat then none else chK l i m (k + 1) (c * 64 + (l.getD (i + k) 0).toNat - 128)
def finN (v m n : Nat) : Nat := if decide (o' v < o' m) = true then 0 else if decide (o' v > o' 1114111) = true then 0 else if decide (o' v >= o' 55296) = true then (if decide (o' v <= o' 57343) = true then 0 else n) else n
def finO (o : Option Nat) (m n : Nat) : Nat := (o.map fun v => finN v m n).getD 0
def chF (l : Γ) (i n m c : Nat) : Nat := if l.length - i < n then 0 else finO (chK l i (n - 1) 1 c) m n
def EX' (l : Γ) (i : Nat) : Nat := if (l.getD i 0).toNat < 128 then 1 else if (l.getD i 0).toNat < 192 then 0 else if (l.getD i 0).toNat < 224 then chF l i 2 128 ((l.getD i 0).toNat - 192) else if (l.getD i 0).toNat < 240 then chF l i 3 2048 ((l.getD i 0).toNat - 224) else if (l.getD i 0).toNat < 248 then chF l i 4 65536 ((l.getD i 0).toNat - 240) else 0
theorem geT (h : b <= a) : decide (o' a >= o' b) = true := decide_eq_true (by simp only [Z0]; omega)
theorem geF (h : a < b) : decide (o' a >= o' b) = false := decide_eq_false (by simp only [Z0]; omega)
theorem ltF (h : b <= a) : decide (o' a < o' b) = false := decide_eq_false (by simp only [Z0]; omega)
def numF (l : Γ) (i : Nat) : Nat × Bool := if sgn [48] l (sgE [45] l i) then num2 l (sgE [45] l i + 1) else if sgE [45] l i < digE l (sgE [45] l i) then num2 l (digE l (sgE [45] l i)) else (digE l (sgE [45] l i), false)
end Go.Proofs.YtdphpillcaajpaaDoor.Js
namespace Go.Proofs.YtdphpillcaajpaaDoor.Kit
open Go Go.RowKit Eng
def OF' (W w : World) : Prop := ∀ (b : Nat) (o : Obj), W.heap[b]? = some o -> w.heap[b]? = some o
theorem OF'.cell {W w : World} (h : OF' W w) {a : Addr} {v : Value} (hv : W.cell? a = some v) : w.cell? a = some v := IR' h a v hv
theorem OF'.tab {W w : World} (h : OF' W w) {P : Program} {n : String} {k : IntKind} {zs : List Int} (ht : Lib.TabIs P W n k zs) : Lib.TabIs P w n k zs := by
 unfold Lib.TabIs World.var? at *
 cases hg : P.globalNamed n with
 | none => rw [hg] at ht; cases ht
 | some g =>
  rw [hg] at ht; simp only [Option.bind_some] at ht ⊢
  cases hb : W.heap[g]? with
  | none => rw [hb] at ht; cases ht
  | some o => rw [hb] at ht; rw [h _ _ hb]; exact ht
def vC {π : Type} (get : List AV -> Option π) (pre : π -> Prop) (val : π -> AV) : List AV -> Option (AP AV) :=
 fun args => match get args with
 | some p => some (.need (pre p) (.ret (val p)))
 | none => some (.fail "arguments")
theorem VU' {W : World} {F : HP} (hF : AH' W F) {f : FuncId} {π : Type} {get : List AV -> Option π} {pre : π -> Prop} {val : π -> AV} (args : π -> List Value) (res : π -> Value)
  (hg : ∀ A p, get A = some p -> A = vmap (args p)) (hv : ∀ p N, VR N (val p) (res p))
  (h : ∀ p, pre p -> ∀ w, OF' W w -> Calls Θ f (args p).toArray w fun e w' => e = .returned (res p) /\ Below w.heap.size w w') : C1OK Θ F f (vC get pre val) := by
 intro st W0 N h0 w A vargs v h' n n' lg lg' c q hp he hc r ha hf; unfold vC at hp; split at hp
 ·rename_i p hg1; cases hp; obtain ⟨c1, e1, rfl⟩ := AK' he; obtain ⟨rfl, rfl, rfl⟩ := AF' e1; obtain ⟨hpre, hc1⟩ := (Cnd.and_iff _ _).1 hc; have hA := hg _ _ hg1; subst hA
  have : vargs = (args p).toArray := by
   have := ha.of_vmap; rw [<- this]
  subst this; obtain ⟨D0, D, h1, h2, h3⟩ := r.sat; refine (h p hpre w (hF D0 w h1)).mono ?_; rintro e w' ⟨rfl, hb⟩
  exact ⟨_, N, rfl, r.below hb, hv p N, fun _ _ => rfl⟩
 ·cases hp; cases he
def g1s : List AV -> Option Δ
 | [.v (.string s)] => some s
 | _ => none
def g2s : List AV -> Option (Δ × Δ)
 | [.v (.string s), .v (.string t)] => some (s, t)
 | _ => none
theorem eO' (A : List AV) (p : Δ) (h : g1s A = some p) : A = vmap [.string p] := by
 unfold g1s at h; split at h
 ·cases h; rfl
 ·cases h
theorem TF' (A : List AV) (p : Δ × Δ) (h : g2s A = some p) : A = vmap [.string p.1, .string p.2] := by
 unfold g2s at h; split at h
 ·cases h; rfl
 ·cases h
theorem vr_v (N : A5') (x : Value) : VR N (.v x) x := VR_v.2 rfl
end Go.Proofs.YtdphpillcaajpaaDoor.Kit
namespace Go.Proofs.YtdphpillcaajpaaDoor.Js
open Go Go.RowKit Eng Kit
open Int renaming ofNat -> o'
open Go.Value renaming int -> vi'
open AO renaming cells -> ce'
open AV renaming v -> v'
open AV renaming ptr -> pt'
open Go.IntKind renaming u8 -> u8'
open Cnd renaming holds -> ch'
open Nat renaming blt_eq -> bl'
open List renaming length_append -> la'
open List renaming length_cons -> lc'
open List renaming length_drop -> ld'
variable {s : Δ} {n : Nat} {l : Γ} {c : UInt8}
noncomputable section
structure LW (W : World) : Prop where
 pows : Lib.TabIs Θ W "internal/strconv.uint64pow10" .u64 Lib.pow10Tab
def tB (l : Γ) : Δ := ⟨l.toArray⟩
theorem E6' (l : Γ) : (tB l).data.toList = l := by simp [tB]
theorem DJ' (l : Γ) : (tB l).size = l.length := by simp [tB, ByteArray.size]
theorem GY' {a b : Δ} (h : a.data.toList = b.data.toList) : a = b := by
 cases a; cases b; congr 1; exact Array.ext' h
theorem b7' (s : Δ) : s.size = s.data.toList.length := rfl
def idxC (s : Δ) (c : Int) : Int := Lib.indexByte s.data.toList c.toNat.toUInt8
abbrev HT' : Nat := 45
abbrev eV' : Nat := 31
variable {W : World} {F : HP}
theorem vr_t2 (N : A5') (a b : Value) : VR N (.tuple [.v a, .v b]) (.tuple #[a, b]) := by
 simp only [VR, VRs]; exact ⟨[a, b], ⟨a, [b], rfl, ⟨b, [], rfl, rfl, rfl⟩, rfl⟩, rfl⟩
def gSC : List AV -> Option (Δ × Int)
 | [.v (.string s), .v (.int .u8 c)] => some (s, c)
 | _ => none
theorem eN' (A : List AV) (p : Δ × Int) (h : gSC A = some p) : A = vmap [.string p.1, .int .u8 p.2] := by
 unfold gSC at h; split at h
 ·cases h; rfl
 ·cases h
def HV' : List AV -> Option (AP AV) := vC gSC (fun _ => True) (fun p => iv (idxC p.1 p.2))
theorem E2' (hF : AH' W F) : C1OK Θ F HT' HV' :=
 VU' hF (fun p => [.string p.1, .int .u8 p.2]) (fun p => .int .i64 (idxC p.1 p.2)) eN' (fun p N => vr_v N _) fun p hp w hw =>
  (Tryd.strings_IndexByte p.1 p.2 w).mono fun e w' ⟨h1, h2⟩ => ⟨h1, by rw [h2]; exact Below.refl _ _⟩
end
abbrev fCC : Nat := 54
abbrev tBld : TypeId := 2 * 49
def gX' (a : Nat) (c0 c1 : AV) (e : TypeId) : AP AV := match c0 with
 | .v (.pointer none) => .write a (.cells [.ptr a 0, c1] e) (.ret (.tuple []))
 | .ptr b ob => match Nat.beq b a with
  | true => match Nat.beq ob 0 with
   | true => .ret (.tuple [])
   | false => .fail "copyCheck"
  | false => .fail "copyCheck"
 | _ => .fail "copyCheck"
def cCC : List AV -> Option (AP AV) := fun args => match args with
 | [.ptr a off] => match Nat.beq off 0 with
  | true => some (.read a fun o => match o with
   | .cells [c0, c1] e => match Nat.beq e tBld with
    | true => gX' a c0 c1 e
    | false => .fail "copyCheck"
   | _ => .fail "copyCheck")
  | false => some (.fail "copyCheck")
 | _ => some (.fail "copyCheck")
theorem TS' {F : HP} : C1OK Θ F fCC cCC := by
 intro st W0 N h w args vargs v h' n n' lg lg' c p hp he hc r ha hf; unfold cCC at hp; split at hp
 ·rename_i a off; split at hp
  ·rename_i hoff; obtain rfl := Nat.eq_of_beq_eq_true hoff; cases hp; obtain ⟨o, ho, e1⟩ := BJ' he; obtain ⟨y, rest, ⟨l, hN, rfl⟩, rfl, hl⟩ := (by simpa only [VRs, VR] using ha : ∃ y r, (∃ l, N a = some l /\ y = .pointer (some ⟨l.blk, l.off + 0, none⟩)) /\ r = [] /\ vargs.toList = y :: r); split at e1
   ·rename_i c0 c1 e; split at e1
    ·rename_i hte; obtain rfl := Nat.eq_of_beq_eq_true hte; obtain ⟨D, hO⟩ := r.obj ho; obtain ⟨l', arr, fz, row, _⟩ := hO.row; obtain rfl : l' = l := Option.some.inj (row.name.symm.trans hN); obtain ⟨hz, hfz⟩ := row.plain rfl; subst hfz
     have hva : vargs = #[.pointer (some ⟨l'.blk, 0, none⟩)] := by
      apply Array.ext'; rw [hl, hz]
     subst hva
     have hsz : 2 <= arr.size := by have := row.fits; have := row.len; simp at this; omega
     have hcell : ∀ j, w.cell? ⟨l'.blk, j, none⟩ = arr[j]? := fun j => by
      have := row.cell j; rw [hz, Nat.zero_add, List.drop_zero, Array.getElem?_toList] at this; exact this
     have hvals := row.vals; rw [hz, List.drop_zero] at hvals; obtain ⟨u0, hu0, hv0⟩ := hvals.get (j := 0) (x := c0) rfl
     have hc0 : arr[0]? = some u0 := by
      rw [List.getElem?_take, if_pos (by simp), Array.getElem?_toList] at hu0; exact hu0
     unfold gX' at e1; split at e1
     ·obtain ⟨o0, ho0, e2⟩ := BB' e1; obtain ⟨rfl, rfl, rfl⟩ := AF' e2; have hu : u0 = .pointer none := VR_v.1 hv0; subst hu; refine (f9' l'.blk w arr.size hsz (by rw [hcell]; exact hc0) (by simp [World.shape?, row.heap]) (by simp [World.frozen?, row.heap])).mono ?_; rintro e w' ⟨rfl, rfl⟩
      refine ⟨_, N, rfl, ?_, by simp only [VR, VRs]; exact ⟨[], rfl, rfl⟩, fun _ _ => rfl⟩
      refine r.turn ho rfl rfl rfl fun D hD => ?_
      obtain ⟨l2, arr2, fz2, row2, hD2⟩ := hD.row; obtain rfl : l2 = l' := Option.some.inj (row2.name.symm.trans hN)
      have hpv : VRs N [pt' a 0] [Value.pointer (some ⟨l2.blk, 0, none⟩)] := AC'.2 ⟨by simp only [VR]; exact ⟨l2, hN, by rw [hz]⟩, AU'⟩
      obtain ⟨arr3, row3, _⟩ := row2.write (k := 0) (r := [pt' a 0]) (by simp) (by have := row2.len; simp at this ⊢; omega) hpv
      have hw : w.setCells l2.blk (l2.off + 0) [Value.pointer (some ⟨l2.blk, 0, none⟩)] = w.setCell ⟨l2.blk, 0, none⟩ (.pointer (some ⟨l2.blk, 0, none⟩)) := by rw [hz]; rfl
      rw [hw] at row3
      exact ⟨fun b hb hd => Below.heap_setCell _ _ _ _ (fun e => hd ((hD2 b).2 e)), _, row3.or, fun b hb => .inl ((hD2 b).2 hb)⟩
     ·rename_i b ob; split at e1
      ·rename_i hba; split at e1
       ·rename_i hob; obtain rfl := Nat.eq_of_beq_eq_true hba; obtain rfl := Nat.eq_of_beq_eq_true hob; obtain ⟨rfl, rfl, rfl⟩ := AF' e1
        have hu : u0 = .pointer (some ⟨l'.blk, 0, none⟩) := by
         obtain ⟨l3, h3, rfl⟩ := (by simpa only [VR] using hv0 : ∃ l, N b = some l /\ u0 = .pointer (some ⟨l.blk, l.off + 0, none⟩)); obtain rfl : l3 = l' := Option.some.inj (h3.symm.trans hN); rw [hz]
        subst hu; refine (n6' l'.blk w (by rw [hcell]; exact hc0)).mono ?_; rintro e w' ⟨rfl, rfl⟩
        exact ⟨_, N, rfl, r, by simp only [VR, VRs]; exact ⟨[], rfl, rfl⟩, fun _ _ => rfl⟩
       ·cases e1
      ·cases e1
     ·cases e1
    ·cases e1
   ·cases e1
  ·cases hp; cases he
 ·cases hp; cases he
abbrev fSt : Nat := 23
def fW' (s : Δ) (c : AV) : AP AV := match c with
 | .slice i off n sz cap => match Nat.beq off 0 with
  | true => .read i fun o => match o with
   | .cells cs e => match Nat.beq e tByt with
    | true => .need ((List.take n cs = txtV s /\ n <= cs.length) /\ n = s.size /\ 0 < n /\ n <= 9223372036854775807) (.kill i (.ret (sv s)))
    | false => .fail "String"
   | _ => .fail "String"
  | false => .fail "String"
 | _ => .fail "String"
def cSt (s : Δ) : List AV -> Option (AP AV) := fun args => match args with
 | [.ptr a off] => match Nat.beq off 0 with
  | true => some (.read a fun o => match o with
   | .cells [c0, c1] e => match Nat.beq e tBld with
    | true => fW' s c1
    | false => .fail "String"
   | _ => .fail "String")
  | false => some (.fail "String")
 | _ => some (.fail "String")
theorem iA' {j : Nat} {x : UInt8} (hx : s.data.toList[j]? = some x) : (txtV s)[j]? = some (.v (.int .u8 x.toNat)) := by
 have : (txtV s) = (s.data.toList.map fun b => v' (.int .u8 b.toNat)) := by
  unfold txtV
  generalize s.data.toList = l
  induction l with
  | nil => rfl
  | cons a l ih => rw [List.map_cons, List.map_cons, <- ih]; rfl
 rw [this, List.getElem?_map, hx]; rfl
theorem cSt_ok {F : HP} (s : Δ) : C1OK Θ F fSt (cSt s) := by
 intro st W0 N h w args vargs v h' n n' lg lg' c p hp he hc r ha hf; unfold cSt at hp; split at hp
 ·rename_i a off; split at hp
  ·rename_i hoff; obtain rfl := Nat.eq_of_beq_eq_true hoff; cases hp; obtain ⟨o, ho, e1⟩ := BJ' he; obtain ⟨y, rest, ⟨l, hN, rfl⟩, rfl, hl⟩ := (by simpa only [VRs, VR] using ha : ∃ y r, (∃ l, N a = some l /\ y = .pointer (some ⟨l.blk, l.off + 0, none⟩)) /\ r = [] /\ vargs.toList = y :: r); split at e1
   ·rename_i c0 c1 e; split at e1
    ·rename_i hte; obtain rfl := Nat.eq_of_beq_eq_true hte; obtain ⟨D, hO⟩ := r.obj ho; obtain ⟨l', arr, fz, row, _⟩ := hO.row; obtain rfl : l' = l := Option.some.inj (row.name.symm.trans hN); obtain ⟨hz, hfz⟩ := row.plain rfl
     have hva : vargs = #[.pointer (some ⟨l'.blk, 0, none⟩)] := by
      apply Array.ext'; rw [hl, hz]
     subst hva
     have hcell : ∀ j, w.cell? ⟨l'.blk, j, none⟩ = arr[j]? := fun j => by
      have := row.cell j; rw [hz, Nat.zero_add, List.drop_zero, Array.getElem?_toList] at this; exact this
     have hvals := row.vals; rw [hz, List.drop_zero] at hvals; obtain ⟨u1, hu1, hv1⟩ := hvals.get (j := 1) (x := c1) rfl
     have hc1 : arr[1]? = some u1 := by
      rw [List.getElem?_take, if_pos (by simp), Array.getElem?_toList] at hu1; exact hu1
     unfold fW' at e1; split at e1
     ·rename_i i off2 m sz cap; split at e1
      ·rename_i hof2; obtain rfl := Nat.eq_of_beq_eq_true hof2; obtain ⟨o2, ho2, e2⟩ := BJ' e1; split at e2
       ·rename_i cs e3; split at e2
        ·rename_i hte2; obtain rfl := Nat.eq_of_beq_eq_true hte2; obtain ⟨k1, e4, rfl⟩ := AK' e2; obtain ⟨⟨⟨ht, hle⟩, hm, hm0, hmx⟩, hk⟩ := (Cnd.and_iff _ _).1 hc; obtain ⟨o3, ho3, e5⟩ := DX' e4; obtain ⟨rfl, rfl, rfl⟩ := AF' e5; obtain ⟨l2, x2, cp, hN2, rfl, hx, hroom, hcap, hlc⟩ := (by simpa only [VR] using hv1 : ∃ l x c, N i = some l /\ u1 = .slice (some ⟨l.blk, x, none⟩) m c /\ (x = l.off + 0 \/ c = 0) /\ 0 + c * sz <= l.room /\ cap.fits c /\ m <= c); obtain ⟨D2, hO2⟩ := r.obj ho2; obtain ⟨l3, arr2, fz2, row2, hD2⟩ := hO2.row; obtain rfl : l3 = l2 := Option.some.inj (row2.name.symm.trans hN2); have hz2 := (row2.plain rfl).1
         have hx0 : x2 = 0 := by rcases hx with h | h <;> omega
         subst hx0; have hv2 := row2.vals; rw [hz2, List.drop_zero] at hv2
         have hall : ∀ j (x : UInt8), s.data.toList[j]? = some x -> arr2[j]? = some (vi' .u8 x.toNat) := fun j x hx => by
          have hj : j < s.data.toList.length := (List.getElem?_eq_some_iff.1 hx).1; have hsz : s.data.toList.length = s.size := rfl
          have h1 : cs[j]? = some (.v (.int .u8 x.toNat)) := by
           have : (List.take m cs)[j]? = some (.v (.int .u8 x.toNat)) := by rw [ht]; exact iA' hx
           rw [List.getElem?_take, if_pos ω] at this; exact this
          obtain ⟨u, hu, hvu⟩ := hv2.get h1; rw [List.getElem?_take, if_pos ω, Array.getElem?_toList] at hu; rw [hu, VR_v.1 hvu]
         have hl0 : s.data.toList ≠ [] := fun e => by have : s.size = 0 := congrArg List.length e; omega
         have hfit := row2.fits; have hlen := row2.len
         have hsh : w.shape? l3.blk = some (5, arr2.size) := by
          have := row2.heap; simp [World.shape?, this]
         subst hm
         refine (b4' l'.blk l3.blk cp arr2.size s.data.toList w hl0 hlc (by show s.size <= _; omega) hmx (by rw [hcell]; exact hc1) hsh (fun j x hx => by
          have := row2.cell j; rw [hz2, Nat.zero_add, List.drop_zero, Array.getElem?_toList] at this; rw [CU', Nat.zero_add, this]
          exact hall j x hx)).mono ?_
         rintro e w' ⟨rfl, rfl⟩
         refine ⟨.string s, N, rfl, ?_, VR_v.2 rfl, fun _ _ => rfl⟩
         obtain ⟨f1, f2, f3, f4⟩ := LG' w.drew ⟨l3.blk, 0, none⟩ s.data.toList.length
         exact r.kill ho2 f1 f2 f3 fun D3 hD3 b hb hd => f4 b (fun e => hd (by
          obtain ⟨l4, arr4, fz4, row4, hD4⟩ := hD3.row; obtain rfl : l4 = l3 := Option.some.inj (row4.name.symm.trans hN2)
          exact (hD4 b).2 e))
        ·cases e2
       ·cases e2
      ·cases e1
     ·cases e1
    ·cases e1
   ·cases e1
  ·cases hp; cases he
 ·cases hp; cases he
inductive Jv where
 | mk (kind num : Int) (text : Δ) (list : List Jv) (names : List Δ)
 deriving Inhabited
def Jv.kind : Jv -> Int
 | .mk k _ _ _ _ => k
def Jv.num : Jv -> Int
 | .mk _ n _ _ _ => n
def Jv.text : Jv -> Δ
 | .mk _ _ t _ _ => t
def Jv.list : Jv -> List Jv
 | .mk _ _ _ l _ => l
def Jv.names : Jv -> List Δ
 | .mk _ _ _ _ f => f
structure Rj where
 k : Int
 n : Int
 t : Δ
 la : Option Addr
 ll : Nat
 lc : Nat
 na : Option Addr
 nl : Nat
 nc : Nat
 deriving Inhabited
def Rj.cells (r : Rj) : List Value := [.int .i64 r.k, .int .i64 r.n, .string r.t, .slice r.la r.ll r.lc, .slice r.na r.nl r.nc]
def aggJ (r : Rj) : AV := .agg [iv r.k, iv r.n, sv r.t, slV r.la r.ll r.lc, slV r.na r.nl r.nc]
abbrev Mem := Addr -> Option Value
def IX' (C : Mem) (a : Addr) (cs : List Value) : Prop := ∀ j u, cs[j]? = some u -> C (a.add j) = some u
def big : Nat := 140737488351232
def LOf (V : Jv -> Rj -> Prop) (C : Mem) (oa : Option Addr) (l : List Jv) : Prop := l.length * 80 <= big /\ ∀ i x, l[i]? = some x -> ∃ a r, oa = some a /\ IX' C (a.add (i * 5)) r.cells /\ V x r
def NOf (C : Mem) (oa : Option Addr) (l : List Δ) : Prop := l.length * 16 <= big /\ ∀ i x, l[i]? = some x -> ∃ a, oa = some a /\ C (a.add i) = some (.string x)
def JAt (C : Mem) : Nat -> Jv -> Rj -> Prop
 | 0 => fun _ _ => False
 | d + 1 => fun v r => (r.k = v.kind /\ r.n = v.num /\ r.t = v.text /\ r.ll = v.list.length /\ r.nl = v.names.length) /\ LOf (JAt C d) C r.la v.list /\ NOf C r.na v.names
theorem IX'.mono {C C' : Mem} (h : ∀ a v, C a = some v -> C' a = some v) {a : Addr} {cs : List Value} (hc : IX' C a cs) : IX' C' a cs := fun j u hu => h _ _ (hc j u hu)
theorem LOf.mono {V V' : Jv -> Rj -> Prop} (hV : ∀ x r, V x r -> V' x r) {C C' : Mem} (h : ∀ a v, C a = some v -> C' a = some v) {oa : Option Addr} {l : List Jv} (hl : LOf V C oa l) : LOf V' C' oa l :=
 ⟨hl.1, fun i x hx => by
  obtain ⟨a, r, h1, h2, h3⟩ := hl.2 i x hx
  exact ⟨a, r, h1, h2.mono h, hV _ _ h3⟩⟩
theorem NOf.mono {C C' : Mem} (h : ∀ a v, C a = some v -> C' a = some v) {oa : Option Addr} {l : List Δ} (hl : NOf C oa l) : NOf C' oa l :=
 ⟨hl.1, fun i x hx => by
  obtain ⟨a, h1, h2⟩ := hl.2 i x hx
  exact ⟨a, h1, h _ _ h2⟩⟩
theorem JAt.mono {C C' : Mem} (h : ∀ a v, C a = some v -> C' a = some v) : ∀ {d : Nat} {v : Jv} {r : Rj}, JAt C d v r -> JAt C' d v r
 | 0, _, _, hv => hv.elim
 | d + 1, v, r, hv => ⟨hv.1, hv.2.1.mono (fun x r hx => JAt.mono h hx) h, hv.2.2.mono h⟩
noncomputable section
abbrev fNum : Nat := 30
abbrev fDig : Nat := 47
abbrev fSgn : Nat := 48
abbrev tIntO : TypeId := 2 * 3
def oN (n : Nat) (s : Δ) : LH := [(0, .cells [iv (o' n)] tIntO), (1, .cells [sv s] tStr)]
def aD (m : Nat) : List (Nat × AV) := [(0, .ptr 0 0), (1, .ptr 1 0), (3, iv (o' m))]
def hDg (x : UInt8) (i : Nat) (b1 b2 b : Bool) : AX' := AD' [ht' fDig 2 3, (fDig, 2, 7, h0v (byv x)), (fDig, 2, 8, hv (.lit b1)), (fDig, 2, 13, h0v (byv x)), (fDig, 2, 14, hv (.lit b2)), (fDig, 2, 15, hv (.lit b)), (fDig, 3, 1, hv (iv (o' (i + 1))))]
abbrev k1' : Cnd := t'
abbrev _root_.Go.Proofs.YtdphpillcaajpaaDoor.h2' (q0 : Nat) (z : Cnd) : Cnd := ((ee' (i' q0)).a ((f' (Wk (z' (IntKind.i64.wrap (o' q0 + o' 1))) (i' (q0 + 1)))).a ((fe' true).a z)))
abbrev k3' : Cnd := (f' (Wk j' j'))
abbrev k4' (q0 : UInt8) : Cnd := (wb' (decide (↑q0.toNat <= o' 57)) j')
abbrev h5' (q0 : Δ) (q1 : Nat) (q2 : UInt8) (z : Cnd) : Cnd := ((ee' (s' q0)).a ((ee' (i' q1)).a (((p' (q1 < q0.size)).a (f' (Wk (v' (vi' u8' ↑(q0.data.toList.getD q1 0).toNat)) (v' (vi' u8' ↑q2.toNat))))).a z)))
abbrev k6' (q0 : UInt8) : Cnd := (wb' (decide (↑q0.toNat >= o' 48)) j')
abbrev h7' (q0 : Nat) (q1 : Δ) (q2 : UInt8) (z : Cnd) : Cnd := ((ee' (i' q0)).a ((ee' (s' q1)).a ((wb' (decide (o' q0 < ↑q1.size)) j').a ((ee' (s' q1)).a ((ee' (i' q0)).a (((p' (q0 < q1.size)).a (f' (Wk (v' (vi' u8' ↑(q1.data.toList.getD q0 0).toNat)) (v' (vi' u8' ↑q2.toNat))))).a z))))))
theorem lO' (s : Δ) (x : UInt8) (m i : Nat) (F : HP) : BU' [] (hDg x i true true true) [] default fDig (AA' fDig 2) (tms 0 26 (aD m)) (oN i s) [0, 1] [0, 1, 3] F = VT.leaf (AX.normal,[pt' 0 0,pt' 1 0,i' m],26) [some (ce' [i' (i + 1)] 6),some (ce' [s' s] 18)] 1100 (h7' i s x ((k6' x).a (h5' s i x ((k4' x).a (k3'.a (h2' i k1')))))) := χ
abbrev k8' : Cnd := (f' (Wk g' g'))
theorem lP' (s : Δ) (x : UInt8) (m i : Nat) (F : HP) : BU' [] (hDg x i false false false) [] default fDig (AA' fDig 2) (tms 0 26 (aD m)) (oN i s) [0, 1] [0, 1, 3] F = VT.leaf (AX.exit 0,[pt' 0 0,pt' 1 0,i' m],26) [some (ce' [i' i] 6),some (ce' [s' s] 18)] 1100 (h7' i s x ((wb' (decide (↑x.toNat >= o' 48)) g').a (k8'.a k1'))) := χ
abbrev k9' (q0 : UInt8) : Cnd := (wb' (decide (↑q0.toNat <= o' 57)) g')
theorem lQ' (s : Δ) (x : UInt8) (m i : Nat) (F : HP) : BU' [] (hDg x i true false false) [] default fDig (AA' fDig 2) (tms 0 26 (aD m)) (oN i s) [0, 1] [0, 1, 3] F = VT.leaf (AX.exit 0,[pt' 0 0,pt' 1 0,i' m],26) [some (ce' [i' i] 6),some (ce' [s' s] 18)] 1100 (h7' i s x ((k6' x).a (h5' s i x ((k9' x).a (k8'.a k1'))))) := χ
abbrev k10' (q0 : Nat) (q1 : Δ) : Cnd := (wb' (decide (o' q0 < ↑q1.size)) g')
abbrev h11' (q0 : Nat) (q1 : Δ) (z : Cnd) : Cnd := ((ee' (i' q0)).a ((ee' (s' q1)).a z))
theorem lR' (s : Δ) (m i : Nat) (F : HP) : BU' [] (AD' [hf' fDig 2 3]) [] default fDig (AA' fDig 2) (tms 0 26 (aD m)) (oN i s) [0, 1] [0, 1, 3] F = VT.leaf (AX.exit 0,[pt' 0 0,pt' 1 0,i' m],26) [some (ce' [i' i] 6),some (ce' [s' s] 18)] 1100 (h11' i s ((k10' i s).a k1')) := χ
def lDg (s : Δ) (m e : Nat) : List AV -> AP (AX × List AV) := mkL (fun _ => .ret ()) (fun _ => True) (fun _ k => k) (fun _ => tms 0 26 (aD m)) (fun _ => oN m s) (fun _ => .leaf (.exit 0) (tms 0 26 (aD m)) (oN e s))
abbrev k12' (q0 : Nat) : Cnd := (ee' (i' q0))
abbrev k13' : Cnd := (p' True)
theorem oDg_eq (s : Δ) (m e : Nat) (b : Bool) (F : HP) : wRun [] (AD' [(fDig, 4, 2, hv (bv b))]) [(fDig, 2, AA' fDig 2, lDg s m e)] default fDig [.ptr 0 0, .ptr 1 0] (oN m s) [0, 1] F = VT.leaf (b' b) [some (ce' [i' e] 6),some (ce' [s' s] 18)] 1100 ((k12' m).a ((p' ((fDig,2,AA' fDig 2,lDg s m e).snd.snd.fst = (fDig,2,AA' fDig 2,lDg s m e).snd.snd.fst)).a (k13'.a ((p' (VW (pt' 0 0::pt' 1 0::b' false::i' m::i' m::ru16 (ru4 (u'::[]))) (pt' 0 0::pt' 1 0::a'::i' m::ra16 (ra4 (a'::a'::[]))))).a ((ow' (ce' [i' m] 6)).a ((ow' (ce' [s' s] 18)).a ((k12' e).a ((wb' (decide (o' e > o' m)) (b' b)).a k1')))))))) := χ
def hSg (x : UInt8) (n : Nat) (b : Bool) : AX' := AD' [ht' fSgn 1 3, (fSgn, 1, 8, h0v (byv x)), (fSgn, 1, 10, hv (.lit b)), (fSgn, 2, 1, hv (iv (o' (n + 1))))]
abbrev h14' (q0 : Nat) (q1 : Δ) (q2 : UInt8) (z : Cnd) : Cnd := ((ee' (i' q0)).a ((ee' (s' q1)).a ((wb' (decide (o' q0 < ↑q1.size)) j').a ((ee' (s' q1)).a ((ee' (i' q0)).a (((p' (q0 < q1.size)).a (f' (Wk (v' (vi' u8' ↑(q1.data.toList.getD q0 0).toNat)) (v' (vi' u8' ↑q2.toNat))))).a (((p' True).a t').a z)))))))
theorem jR' (s k : Δ) (x : UInt8) (n : Nat) (F : HP) : wRun [(HT', HV')] (hSg x n true) [] default fSgn [sv k, .ptr 0 0, .ptr 1 0] (oN n s) [0, 1] F = VT.leaf (b' true) [some (ce' [i' (n + 1)] 6),some (ce' [s' s] 18)] 1100 (h14' n s x ((wb' (decide (idxC k ↑x.toNat >= o' 0)) j').a (h2' n k1'))) := χ
theorem jS' (s k : Δ) (x : UInt8) (n : Nat) (F : HP) : wRun [(HT', HV')] (hSg x n false) [] default fSgn [sv k, .ptr 0 0, .ptr 1 0] (oN n s) [0, 1] F = VT.leaf (b' false) [some (ce' [i' n] 6),some (ce' [s' s] 18)] 1100 (h14' n s x ((wb' (decide (idxC k ↑x.toNat >= o' 0)) g').a k1')) := χ
theorem jT' (s k : Δ) (n : Nat) (F : HP) : wRun [(HT', HV')] (AD' [hf' fSgn 1 3]) [] default fSgn [sv k, .ptr 0 0, .ptr 1 0] (oN n s) [0, 1] F = VT.leaf (b' false) [some (ce' [i' n] 6),some (ce' [s' s] 18)] 1100 (h11' n s ((k10' n s).a k1')) := χ
structure NS where
 a : Nat
 b : Nat
 m : Nat
 s : Δ
 k : Δ
def gNS2 (a b : Nat) (k : Δ) : AP NS := .read a fun o => match o with
 | .cells [.v (.int .i64 z)] _ => match z with
  | .ofNat m => .read b fun o2 => match o2 with
   | .cells [.v (.string s)] _ => .ret ⟨a, b, m, s, k⟩
   | _ => .fail "text"
  | _ => .fail "place"
 | _ => .fail "place"
def gDg : List AV -> AP NS := fun args => match args with
 | [.ptr a _, .ptr b _] => gNS2 a b nil0
 | _ => .fail "digits"
def gSg : List AV -> AP NS := fun args => match args with
 | [.v (.string k), .ptr a _, .ptr b _] => gNS2 a b k
 | _ => .fail "sign"
def nmNS (p : NS) : Nat -> Nat := fun i => match Nat.beq i 0 with
 | true => p.a
 | false => p.b
def Few (n : Nat) : Prop := n <= 4611686018427387904
def bts (s : Δ) : Γ := s.data.toList
def cDg : List AV -> Option (AP AV) := mkC gDg (fun p => p.m <= p.s.size /\ Few p.s.size) nmNS (fun _ => [.ptr 0 0, .ptr 1 0]) (fun p => oN p.m p.s) (fun p => .leaf .ret [bv (decide (p.m < digE (bts p.s) p.m))] (oN (digE (bts p.s) p.m) p.s))
def cSg : List AV -> Option (AP AV) := mkC gSg (fun p => p.m <= p.s.size /\ Few p.s.size) nmNS (fun p => [sv p.k, .ptr 0 0, .ptr 1 0]) (fun p => oN p.m p.s) (fun p => .leaf .ret [bv (sgn (bts p.k) (bts p.s) p.m)] (oN (sgE (bts p.k) (bts p.s) p.m) p.s))
abbrev y0' : Δ := ByteArray.mk (Array.mk [45])
abbrev y1' : Δ := ByteArray.mk (Array.mk [48])
abbrev y2' : Δ := ByteArray.mk (Array.mk [46])
abbrev y3' : Δ := ByteArray.mk (Array.mk [101, 69])
abbrev y4' : Δ := ByteArray.mk (Array.mk [43, 45])
abbrev h15' (z : Cnd) : Cnd := ((fe' true).a (tt'.a z))
abbrev h16' (q0 : Δ) (q1 q2 : Nat) (z : Cnd) : Cnd := (((p' (0 <= q0.size /\ Few q0.size)).a ((vw' [s' y0',pt' q1 0,pt' q2 0]).a ((ow' (ce' [i' 0] 6)).a (f' (OW (ce' [s' q0] 18) (ce' [s' q0] 18)))))).a (((p' (sgE [45] (bts q0) 0 <= q0.size /\ Few q0.size)).a ((vw' [s' y1',pt' q1 0,pt' q2 0]).a ((ow' (ce' [i' (sgE [45] (bts q0) 0)] 6)).a (f' (OW (ce' [s' q0] 18) (ce' [s' q0] 18)))))).a (((p' (sgE [48] (bts q0) (sgE [45] (bts q0) 0) <= q0.size /\ Few q0.size)).a ((vw' [pt' q1 0,pt' q2 0]).a ((ow' (ce' [i' (sgE [48] (bts q0) (sgE [45] (bts q0) 0))] 6)).a (f' (OW (ce' [s' q0] 18) (ce' [s' q0] 18)))))).a (((p' (digE (bts q0) (sgE [48] (bts q0) (sgE [45] (bts q0) 0)) <= q0.size /\ Few q0.size)).a ((vw' [s' y2',pt' q1 0,pt' q2 0]).a ((ow' (ce' [i' (digE (bts q0) (sgE [48] (bts q0) (sgE [45] (bts q0) 0)))] 6)).a (f' (OW (ce' [s' q0] 18) (ce' [s' q0] 18)))))).a (((p' (sgE [46] (bts q0) (digE (bts q0) (sgE [48] (bts q0) (sgE [45] (bts q0) 0))) <= q0.size /\ Few q0.size)).a ((vw' [pt' q1 0,pt' q2 0]).a ((ow' (ce' [i' (sgE [46] (bts q0) (digE (bts q0) (sgE [48] (bts q0) (sgE [45] (bts q0) 0))))] 6)).a (f' (OW (ce' [s' q0] 18) (ce' [s' q0] 18)))))).a z)))))
abbrev k17' (q0 : Δ) : Cnd := (p' (i' (digE (bts q0) (sgE [43,45] (bts q0) (sgE [101,69] (bts q0) (digE (bts q0) (sgE [46] (bts q0) (digE (bts q0) (sgE [48] (bts q0) (sgE [45] (bts q0) 0)))))))) = i' (digE (bts q0) (sgE [43,45] (bts q0) (sgE [101,69] (bts q0) (digE (bts q0) (sgE [46] (bts q0) (digE (bts q0) (sgE [48] (bts q0) (sgE [45] (bts q0) 0))))))))))
abbrev k18' (q0 : Δ) : Cnd := (ee' (i' (digE (bts q0) (sgE [43,45] (bts q0) (sgE [101,69] (bts q0) (digE (bts q0) (sgE [46] (bts q0) (digE (bts q0) (sgE [48] (bts q0) (sgE [45] (bts q0) 0))))))))))
abbrev k19' (q0 : Δ) (q1 q2 : Nat) : Cnd := ((p' (sgE [43,45] (bts q0) (sgE [101,69] (bts q0) (digE (bts q0) (sgE [46] (bts q0) (digE (bts q0) (sgE [48] (bts q0) (sgE [45] (bts q0) 0)))))) <= q0.size /\ Few q0.size)).a ((vw' [pt' q1 0,pt' q2 0]).a ((ow' (ce' [i' (sgE [43,45] (bts q0) (sgE [101,69] (bts q0) (digE (bts q0) (sgE [46] (bts q0) (digE (bts q0) (sgE [48] (bts q0) (sgE [45] (bts q0) 0)))))))] 6)).a (f' (OW (ce' [s' q0] 18) (ce' [s' q0] 18))))))
abbrev k20' (q0 : Δ) (q1 q2 : Nat) : Cnd := ((p' (sgE [101,69] (bts q0) (digE (bts q0) (sgE [46] (bts q0) (digE (bts q0) (sgE [48] (bts q0) (sgE [45] (bts q0) 0))))) <= q0.size /\ Few q0.size)).a ((vw' [s' y4',pt' q1 0,pt' q2 0]).a ((ow' (ce' [i' (sgE [101,69] (bts q0) (digE (bts q0) (sgE [46] (bts q0) (digE (bts q0) (sgE [48] (bts q0) (sgE [45] (bts q0) 0))))))] 6)).a (f' (OW (ce' [s' q0] 18) (ce' [s' q0] 18))))))
abbrev k21' (q0 : Δ) (q1 q2 : Nat) : Cnd := ((p' (digE (bts q0) (sgE [46] (bts q0) (digE (bts q0) (sgE [48] (bts q0) (sgE [45] (bts q0) 0)))) <= q0.size /\ Few q0.size)).a ((vw' [s' y3',pt' q1 0,pt' q2 0]).a ((ow' (ce' [i' (digE (bts q0) (sgE [46] (bts q0) (digE (bts q0) (sgE [48] (bts q0) (sgE [45] (bts q0) 0)))))] 6)).a (f' (OW (ce' [s' q0] 18) (ce' [s' q0] 18))))))
abbrev k22' (q0 : Δ) : Cnd := (p' (i' (digE (bts q0) (sgE [43,45] (bts q0) (sgE [101,69] (bts q0) (sgE [46] (bts q0) (digE (bts q0) (sgE [48] (bts q0) (sgE [45] (bts q0) 0))))))) = i' (digE (bts q0) (sgE [43,45] (bts q0) (sgE [101,69] (bts q0) (sgE [46] (bts q0) (digE (bts q0) (sgE [48] (bts q0) (sgE [45] (bts q0) 0)))))))))
abbrev k23' (q0 : Δ) : Cnd := (ee' (i' (digE (bts q0) (sgE [43,45] (bts q0) (sgE [101,69] (bts q0) (sgE [46] (bts q0) (digE (bts q0) (sgE [48] (bts q0) (sgE [45] (bts q0) 0)))))))))
abbrev k24' (q0 : Δ) (q1 q2 : Nat) : Cnd := ((p' (sgE [43,45] (bts q0) (sgE [101,69] (bts q0) (sgE [46] (bts q0) (digE (bts q0) (sgE [48] (bts q0) (sgE [45] (bts q0) 0))))) <= q0.size /\ Few q0.size)).a ((vw' [pt' q1 0,pt' q2 0]).a ((ow' (ce' [i' (sgE [43,45] (bts q0) (sgE [101,69] (bts q0) (sgE [46] (bts q0) (digE (bts q0) (sgE [48] (bts q0) (sgE [45] (bts q0) 0))))))] 6)).a (f' (OW (ce' [s' q0] 18) (ce' [s' q0] 18))))))
abbrev k25' (q0 : Δ) (q1 q2 : Nat) : Cnd := ((p' (sgE [101,69] (bts q0) (sgE [46] (bts q0) (digE (bts q0) (sgE [48] (bts q0) (sgE [45] (bts q0) 0)))) <= q0.size /\ Few q0.size)).a ((vw' [s' y4',pt' q1 0,pt' q2 0]).a ((ow' (ce' [i' (sgE [101,69] (bts q0) (sgE [46] (bts q0) (digE (bts q0) (sgE [48] (bts q0) (sgE [45] (bts q0) 0)))))] 6)).a (f' (OW (ce' [s' q0] 18) (ce' [s' q0] 18))))))
abbrev k26' (q0 : Δ) (q1 q2 : Nat) : Cnd := ((p' (sgE [46] (bts q0) (digE (bts q0) (sgE [48] (bts q0) (sgE [45] (bts q0) 0))) <= q0.size /\ Few q0.size)).a ((vw' [s' y3',pt' q1 0,pt' q2 0]).a ((ow' (ce' [i' (sgE [46] (bts q0) (digE (bts q0) (sgE [48] (bts q0) (sgE [45] (bts q0) 0))))] 6)).a (f' (OW (ce' [s' q0] 18) (ce' [s' q0] 18))))))
abbrev h27' (q0 : Δ) (q1 q2 : Nat) (z : Cnd) : Cnd := (((p' (0 <= q0.size /\ Few q0.size)).a ((vw' [s' y0',pt' q1 0,pt' q2 0]).a ((ow' (ce' [i' 0] 6)).a (f' (OW (ce' [s' q0] 18) (ce' [s' q0] 18)))))).a (((p' (sgE [45] (bts q0) 0 <= q0.size /\ Few q0.size)).a ((vw' [s' y1',pt' q1 0,pt' q2 0]).a ((ow' (ce' [i' (sgE [45] (bts q0) 0)] 6)).a (f' (OW (ce' [s' q0] 18) (ce' [s' q0] 18)))))).a (((p' (sgE [48] (bts q0) (sgE [45] (bts q0) 0) <= q0.size /\ Few q0.size)).a ((vw' [pt' q1 0,pt' q2 0]).a ((ow' (ce' [i' (sgE [48] (bts q0) (sgE [45] (bts q0) 0))] 6)).a (f' (OW (ce' [s' q0] 18) (ce' [s' q0] 18)))))).a (((p' (digE (bts q0) (sgE [48] (bts q0) (sgE [45] (bts q0) 0)) <= q0.size /\ Few q0.size)).a ((vw' [s' y2',pt' q1 0,pt' q2 0]).a ((ow' (ce' [i' (digE (bts q0) (sgE [48] (bts q0) (sgE [45] (bts q0) 0)))] 6)).a (f' (OW (ce' [s' q0] 18) (ce' [s' q0] 18)))))).a z))))
abbrev h28' (q0 : Δ) (q1 q2 : Nat) (z : Cnd) : Cnd := (((p' (0 <= q0.size /\ Few q0.size)).a ((vw' [s' y0',pt' q1 0,pt' q2 0]).a ((ow' (ce' [i' 0] 6)).a (f' (OW (ce' [s' q0] 18) (ce' [s' q0] 18)))))).a (((p' (sgE [45] (bts q0) 0 <= q0.size /\ Few q0.size)).a ((vw' [s' y1',pt' q1 0,pt' q2 0]).a ((ow' (ce' [i' (sgE [45] (bts q0) 0)] 6)).a (f' (OW (ce' [s' q0] 18) (ce' [s' q0] 18)))))).a (((p' (sgE [48] (bts q0) (sgE [45] (bts q0) 0) <= q0.size /\ Few q0.size)).a ((vw' [s' y2',pt' q1 0,pt' q2 0]).a ((ow' (ce' [i' (sgE [48] (bts q0) (sgE [45] (bts q0) 0))] 6)).a (f' (OW (ce' [s' q0] 18) (ce' [s' q0] 18)))))).a (((p' (sgE [46] (bts q0) (sgE [48] (bts q0) (sgE [45] (bts q0) 0)) <= q0.size /\ Few q0.size)).a ((vw' [pt' q1 0,pt' q2 0]).a ((ow' (ce' [i' (sgE [46] (bts q0) (sgE [48] (bts q0) (sgE [45] (bts q0) 0)))] 6)).a (f' (OW (ce' [s' q0] 18) (ce' [s' q0] 18)))))).a z))))
abbrev k29' (q0 : Δ) : Cnd := (p' (i' (digE (bts q0) (sgE [43,45] (bts q0) (sgE [101,69] (bts q0) (digE (bts q0) (sgE [46] (bts q0) (sgE [48] (bts q0) (sgE [45] (bts q0) 0))))))) = i' (digE (bts q0) (sgE [43,45] (bts q0) (sgE [101,69] (bts q0) (digE (bts q0) (sgE [46] (bts q0) (sgE [48] (bts q0) (sgE [45] (bts q0) 0)))))))))
abbrev k30' (q0 : Δ) : Cnd := (ee' (i' (digE (bts q0) (sgE [43,45] (bts q0) (sgE [101,69] (bts q0) (digE (bts q0) (sgE [46] (bts q0) (sgE [48] (bts q0) (sgE [45] (bts q0) 0)))))))))
abbrev k31' (q0 : Δ) (q1 q2 : Nat) : Cnd := ((p' (sgE [43,45] (bts q0) (sgE [101,69] (bts q0) (digE (bts q0) (sgE [46] (bts q0) (sgE [48] (bts q0) (sgE [45] (bts q0) 0))))) <= q0.size /\ Few q0.size)).a ((vw' [pt' q1 0,pt' q2 0]).a ((ow' (ce' [i' (sgE [43,45] (bts q0) (sgE [101,69] (bts q0) (digE (bts q0) (sgE [46] (bts q0) (sgE [48] (bts q0) (sgE [45] (bts q0) 0))))))] 6)).a (f' (OW (ce' [s' q0] 18) (ce' [s' q0] 18))))))
abbrev k32' (q0 : Δ) (q1 q2 : Nat) : Cnd := ((p' (sgE [101,69] (bts q0) (digE (bts q0) (sgE [46] (bts q0) (sgE [48] (bts q0) (sgE [45] (bts q0) 0)))) <= q0.size /\ Few q0.size)).a ((vw' [s' y4',pt' q1 0,pt' q2 0]).a ((ow' (ce' [i' (sgE [101,69] (bts q0) (digE (bts q0) (sgE [46] (bts q0) (sgE [48] (bts q0) (sgE [45] (bts q0) 0)))))] 6)).a (f' (OW (ce' [s' q0] 18) (ce' [s' q0] 18))))))
abbrev k33' (q0 : Δ) (q1 q2 : Nat) : Cnd := ((p' (digE (bts q0) (sgE [46] (bts q0) (sgE [48] (bts q0) (sgE [45] (bts q0) 0))) <= q0.size /\ Few q0.size)).a ((vw' [s' y3',pt' q1 0,pt' q2 0]).a ((ow' (ce' [i' (digE (bts q0) (sgE [46] (bts q0) (sgE [48] (bts q0) (sgE [45] (bts q0) 0))))] 6)).a (f' (OW (ce' [s' q0] 18) (ce' [s' q0] 18))))))
abbrev k34' (q0 : Δ) : Cnd := (p' (i' (digE (bts q0) (sgE [43,45] (bts q0) (sgE [101,69] (bts q0) (sgE [46] (bts q0) (sgE [48] (bts q0) (sgE [45] (bts q0) 0)))))) = i' (digE (bts q0) (sgE [43,45] (bts q0) (sgE [101,69] (bts q0) (sgE [46] (bts q0) (sgE [48] (bts q0) (sgE [45] (bts q0) 0))))))))
abbrev k35' (q0 : Δ) : Cnd := (ee' (i' (digE (bts q0) (sgE [43,45] (bts q0) (sgE [101,69] (bts q0) (sgE [46] (bts q0) (sgE [48] (bts q0) (sgE [45] (bts q0) 0))))))))
abbrev k36' (q0 : Δ) (q1 q2 : Nat) : Cnd := ((p' (sgE [43,45] (bts q0) (sgE [101,69] (bts q0) (sgE [46] (bts q0) (sgE [48] (bts q0) (sgE [45] (bts q0) 0)))) <= q0.size /\ Few q0.size)).a ((vw' [pt' q1 0,pt' q2 0]).a ((ow' (ce' [i' (sgE [43,45] (bts q0) (sgE [101,69] (bts q0) (sgE [46] (bts q0) (sgE [48] (bts q0) (sgE [45] (bts q0) 0)))))] 6)).a (f' (OW (ce' [s' q0] 18) (ce' [s' q0] 18))))))
abbrev k37' (q0 : Δ) (q1 q2 : Nat) : Cnd := ((p' (sgE [101,69] (bts q0) (sgE [46] (bts q0) (sgE [48] (bts q0) (sgE [45] (bts q0) 0))) <= q0.size /\ Few q0.size)).a ((vw' [s' y4',pt' q1 0,pt' q2 0]).a ((ow' (ce' [i' (sgE [101,69] (bts q0) (sgE [46] (bts q0) (sgE [48] (bts q0) (sgE [45] (bts q0) 0))))] 6)).a (f' (OW (ce' [s' q0] 18) (ce' [s' q0] 18))))))
abbrev k38' (q0 : Δ) (q1 q2 : Nat) : Cnd := ((p' (sgE [46] (bts q0) (sgE [48] (bts q0) (sgE [45] (bts q0) 0)) <= q0.size /\ Few q0.size)).a ((vw' [s' y3',pt' q1 0,pt' q2 0]).a ((ow' (ce' [i' (sgE [46] (bts q0) (sgE [48] (bts q0) (sgE [45] (bts q0) 0)))] 6)).a (f' (OW (ce' [s' q0] 18) (ce' [s' q0] 18))))))
abbrev h39' (q0 : Δ) (q1 q2 : Nat) (z : Cnd) : Cnd := (((p' (0 <= q0.size /\ Few q0.size)).a ((vw' [s' y0',pt' q1 0,pt' q2 0]).a ((ow' (ce' [i' 0] 6)).a (f' (OW (ce' [s' q0] 18) (ce' [s' q0] 18)))))).a (((p' (sgE [45] (bts q0) 0 <= q0.size /\ Few q0.size)).a ((vw' [s' y1',pt' q1 0,pt' q2 0]).a ((ow' (ce' [i' (sgE [45] (bts q0) 0)] 6)).a (f' (OW (ce' [s' q0] 18) (ce' [s' q0] 18)))))).a (((p' (sgE [48] (bts q0) (sgE [45] (bts q0) 0) <= q0.size /\ Few q0.size)).a ((vw' [s' y2',pt' q1 0,pt' q2 0]).a ((ow' (ce' [i' (sgE [48] (bts q0) (sgE [45] (bts q0) 0))] 6)).a (f' (OW (ce' [s' q0] 18) (ce' [s' q0] 18)))))).a z)))
theorem oNm_eq (W : World) (s : Δ) (F : HP) : wRun [(fDig, cDg), (fSgn, cSg)] B4' [] W fNum [sv s] [] [] F = VT.ite (!sgn [48] (bts s) (sgE [45] (bts s) 0)) (VT.ite (!decide (sgE [48] (bts s) (sgE [45] (bts s) 0) < digE (bts s) (sgE [48] (bts s) (sgE [45] (bts s) 0)))) (VT.leaf (AV.tuple [i' (digE (bts s) (sgE [48] (bts s) (sgE [45] (bts s) 0))),b' false]) [] 1102 (((p' (0 <= s.size /\ Few s.size)).a ((vw' [s' y0',pt' 1101 0,pt' 1100 0]).a ((ow' (ce' [i' 0] 6)).a (f' (OW (ce' [s' s] 18) (ce' [s' s] 18)))))).a (((p' (sgE [45] (bts s) 0 <= s.size /\ Few s.size)).a ((vw' [s' y1',pt' 1101 0,pt' 1100 0]).a ((ow' (ce' [i' (sgE [45] (bts s) 0)] 6)).a (f' (OW (ce' [s' s] 18) (ce' [s' s] 18)))))).a (((p' (sgE [48] (bts s) (sgE [45] (bts s) 0) <= s.size /\ Few s.size)).a ((vw' [pt' 1101 0,pt' 1100 0]).a ((ow' (ce' [i' (sgE [48] (bts s) (sgE [45] (bts s) 0))] 6)).a (f' (OW (ce' [s' s] 18) (ce' [s' s] 18)))))).a ((ee' (i' (digE (bts s) (sgE [48] (bts s) (sgE [45] (bts s) 0))))).a (h15' ((p' (i' (digE (bts s) (sgE [48] (bts s) (sgE [45] (bts s) 0))) = i' (digE (bts s) (sgE [48] (bts s) (sgE [45] (bts s) 0))))).a k1'))))))) (VT.ite (sgn [46] (bts s) (digE (bts s) (sgE [48] (bts s) (sgE [45] (bts s) 0)))) (VT.ite (!decide (sgE [46] (bts s) (digE (bts s) (sgE [48] (bts s) (sgE [45] (bts s) 0))) < digE (bts s) (sgE [46] (bts s) (digE (bts s) (sgE [48] (bts s) (sgE [45] (bts s) 0)))))) (VT.leaf (AV.tuple [i' (digE (bts s) (sgE [46] (bts s) (digE (bts s) (sgE [48] (bts s) (sgE [45] (bts s) 0))))),b' false]) [] 1102 (h16' s 1101 1100 ((ee' (i' (digE (bts s) (sgE [46] (bts s) (digE (bts s) (sgE [48] (bts s) (sgE [45] (bts s) 0))))))).a (h15' ((p' (i' (digE (bts s) (sgE [46] (bts s) (digE (bts s) (sgE [48] (bts s) (sgE [45] (bts s) 0))))) = i' (digE (bts s) (sgE [46] (bts s) (digE (bts s) (sgE [48] (bts s) (sgE [45] (bts s) 0))))))).a k1'))))) (VT.ite (sgn [101,69] (bts s) (digE (bts s) (sgE [46] (bts s) (digE (bts s) (sgE [48] (bts s) (sgE [45] (bts s) 0)))))) (VT.ite (!decide (sgE [43,45] (bts s) (sgE [101,69] (bts s) (digE (bts s) (sgE [46] (bts s) (digE (bts s) (sgE [48] (bts s) (sgE [45] (bts s) 0)))))) < digE (bts s) (sgE [43,45] (bts s) (sgE [101,69] (bts s) (digE (bts s) (sgE [46] (bts s) (digE (bts s) (sgE [48] (bts s) (sgE [45] (bts s) 0))))))))) (VT.leaf (AV.tuple [i' (digE (bts s) (sgE [43,45] (bts s) (sgE [101,69] (bts s) (digE (bts s) (sgE [46] (bts s) (digE (bts s) (sgE [48] (bts s) (sgE [45] (bts s) 0)))))))),b' false]) [] 1102 (h16' s 1101 1100 ((k21' s 1101 1100).a ((k20' s 1101 1100).a ((k19' s 1101 1100).a ((k18' s).a (h15' ((k17' s).a k1')))))))) (VT.leaf (AV.tuple [i' (digE (bts s) (sgE [43,45] (bts s) (sgE [101,69] (bts s) (digE (bts s) (sgE [46] (bts s) (digE (bts s) (sgE [48] (bts s) (sgE [45] (bts s) 0)))))))),b' true]) [] 1102 (h16' s 1101 1100 ((k21' s 1101 1100).a ((k20' s 1101 1100).a ((k19' s 1101 1100).a ((k18' s).a (h15' ((k17' s).a k1'))))))))) (VT.leaf (AV.tuple [i' (sgE [101,69] (bts s) (digE (bts s) (sgE [46] (bts s) (digE (bts s) (sgE [48] (bts s) (sgE [45] (bts s) 0)))))),b' true]) [] 1102 (h16' s 1101 1100 ((k21' s 1101 1100).a ((ee' (i' (sgE [101,69] (bts s) (digE (bts s) (sgE [46] (bts s) (digE (bts s) (sgE [48] (bts s) (sgE [45] (bts s) 0)))))))).a (h15' ((p' (i' (sgE [101,69] (bts s) (digE (bts s) (sgE [46] (bts s) (digE (bts s) (sgE [48] (bts s) (sgE [45] (bts s) 0)))))) = i' (sgE [101,69] (bts s) (digE (bts s) (sgE [46] (bts s) (digE (bts s) (sgE [48] (bts s) (sgE [45] (bts s) 0)))))))).a k1')))))))) (VT.ite (sgn [101,69] (bts s) (sgE [46] (bts s) (digE (bts s) (sgE [48] (bts s) (sgE [45] (bts s) 0))))) (VT.ite (!decide (sgE [43,45] (bts s) (sgE [101,69] (bts s) (sgE [46] (bts s) (digE (bts s) (sgE [48] (bts s) (sgE [45] (bts s) 0))))) < digE (bts s) (sgE [43,45] (bts s) (sgE [101,69] (bts s) (sgE [46] (bts s) (digE (bts s) (sgE [48] (bts s) (sgE [45] (bts s) 0)))))))) (VT.leaf (AV.tuple [i' (digE (bts s) (sgE [43,45] (bts s) (sgE [101,69] (bts s) (sgE [46] (bts s) (digE (bts s) (sgE [48] (bts s) (sgE [45] (bts s) 0))))))),b' false]) [] 1102 (h27' s 1101 1100 ((k26' s 1101 1100).a ((k25' s 1101 1100).a ((k24' s 1101 1100).a ((k23' s).a (h15' ((k22' s).a k1')))))))) (VT.leaf (AV.tuple [i' (digE (bts s) (sgE [43,45] (bts s) (sgE [101,69] (bts s) (sgE [46] (bts s) (digE (bts s) (sgE [48] (bts s) (sgE [45] (bts s) 0))))))),b' true]) [] 1102 (h27' s 1101 1100 ((k26' s 1101 1100).a ((k25' s 1101 1100).a ((k24' s 1101 1100).a ((k23' s).a (h15' ((k22' s).a k1'))))))))) (VT.leaf (AV.tuple [i' (sgE [101,69] (bts s) (sgE [46] (bts s) (digE (bts s) (sgE [48] (bts s) (sgE [45] (bts s) 0))))),b' true]) [] 1102 (h27' s 1101 1100 ((k26' s 1101 1100).a ((ee' (i' (sgE [101,69] (bts s) (sgE [46] (bts s) (digE (bts s) (sgE [48] (bts s) (sgE [45] (bts s) 0))))))).a (h15' ((p' (i' (sgE [101,69] (bts s) (sgE [46] (bts s) (digE (bts s) (sgE [48] (bts s) (sgE [45] (bts s) 0))))) = i' (sgE [101,69] (bts s) (sgE [46] (bts s) (digE (bts s) (sgE [48] (bts s) (sgE [45] (bts s) 0))))))).a k1'))))))))) (VT.ite (sgn [46] (bts s) (sgE [48] (bts s) (sgE [45] (bts s) 0))) (VT.ite (!decide (sgE [46] (bts s) (sgE [48] (bts s) (sgE [45] (bts s) 0)) < digE (bts s) (sgE [46] (bts s) (sgE [48] (bts s) (sgE [45] (bts s) 0))))) (VT.leaf (AV.tuple [i' (digE (bts s) (sgE [46] (bts s) (sgE [48] (bts s) (sgE [45] (bts s) 0)))),b' false]) [] 1102 (h28' s 1101 1100 ((ee' (i' (digE (bts s) (sgE [46] (bts s) (sgE [48] (bts s) (sgE [45] (bts s) 0)))))).a (h15' ((p' (i' (digE (bts s) (sgE [46] (bts s) (sgE [48] (bts s) (sgE [45] (bts s) 0)))) = i' (digE (bts s) (sgE [46] (bts s) (sgE [48] (bts s) (sgE [45] (bts s) 0)))))).a k1'))))) (VT.ite (sgn [101,69] (bts s) (digE (bts s) (sgE [46] (bts s) (sgE [48] (bts s) (sgE [45] (bts s) 0))))) (VT.ite (!decide (sgE [43,45] (bts s) (sgE [101,69] (bts s) (digE (bts s) (sgE [46] (bts s) (sgE [48] (bts s) (sgE [45] (bts s) 0))))) < digE (bts s) (sgE [43,45] (bts s) (sgE [101,69] (bts s) (digE (bts s) (sgE [46] (bts s) (sgE [48] (bts s) (sgE [45] (bts s) 0)))))))) (VT.leaf (AV.tuple [i' (digE (bts s) (sgE [43,45] (bts s) (sgE [101,69] (bts s) (digE (bts s) (sgE [46] (bts s) (sgE [48] (bts s) (sgE [45] (bts s) 0))))))),b' false]) [] 1102 (h28' s 1101 1100 ((k33' s 1101 1100).a ((k32' s 1101 1100).a ((k31' s 1101 1100).a ((k30' s).a (h15' ((k29' s).a k1')))))))) (VT.leaf (AV.tuple [i' (digE (bts s) (sgE [43,45] (bts s) (sgE [101,69] (bts s) (digE (bts s) (sgE [46] (bts s) (sgE [48] (bts s) (sgE [45] (bts s) 0))))))),b' true]) [] 1102 (h28' s 1101 1100 ((k33' s 1101 1100).a ((k32' s 1101 1100).a ((k31' s 1101 1100).a ((k30' s).a (h15' ((k29' s).a k1'))))))))) (VT.leaf (AV.tuple [i' (sgE [101,69] (bts s) (digE (bts s) (sgE [46] (bts s) (sgE [48] (bts s) (sgE [45] (bts s) 0))))),b' true]) [] 1102 (h28' s 1101 1100 ((k33' s 1101 1100).a ((ee' (i' (sgE [101,69] (bts s) (digE (bts s) (sgE [46] (bts s) (sgE [48] (bts s) (sgE [45] (bts s) 0))))))).a (h15' ((p' (i' (sgE [101,69] (bts s) (digE (bts s) (sgE [46] (bts s) (sgE [48] (bts s) (sgE [45] (bts s) 0))))) = i' (sgE [101,69] (bts s) (digE (bts s) (sgE [46] (bts s) (sgE [48] (bts s) (sgE [45] (bts s) 0))))))).a k1')))))))) (VT.ite (sgn [101,69] (bts s) (sgE [46] (bts s) (sgE [48] (bts s) (sgE [45] (bts s) 0)))) (VT.ite (!decide (sgE [43,45] (bts s) (sgE [101,69] (bts s) (sgE [46] (bts s) (sgE [48] (bts s) (sgE [45] (bts s) 0)))) < digE (bts s) (sgE [43,45] (bts s) (sgE [101,69] (bts s) (sgE [46] (bts s) (sgE [48] (bts s) (sgE [45] (bts s) 0))))))) (VT.leaf (AV.tuple [i' (digE (bts s) (sgE [43,45] (bts s) (sgE [101,69] (bts s) (sgE [46] (bts s) (sgE [48] (bts s) (sgE [45] (bts s) 0)))))),b' false]) [] 1102 (h39' s 1101 1100 ((k38' s 1101 1100).a ((k37' s 1101 1100).a ((k36' s 1101 1100).a ((k35' s).a (h15' ((k34' s).a k1')))))))) (VT.leaf (AV.tuple [i' (digE (bts s) (sgE [43,45] (bts s) (sgE [101,69] (bts s) (sgE [46] (bts s) (sgE [48] (bts s) (sgE [45] (bts s) 0)))))),b' true]) [] 1102 (h39' s 1101 1100 ((k38' s 1101 1100).a ((k37' s 1101 1100).a ((k36' s 1101 1100).a ((k35' s).a (h15' ((k34' s).a k1'))))))))) (VT.leaf (AV.tuple [i' (sgE [101,69] (bts s) (sgE [46] (bts s) (sgE [48] (bts s) (sgE [45] (bts s) 0)))),b' true]) [] 1102 (h39' s 1101 1100 ((k38' s 1101 1100).a ((ee' (i' (sgE [101,69] (bts s) (sgE [46] (bts s) (sgE [48] (bts s) (sgE [45] (bts s) 0)))))).a (h15' ((p' (i' (sgE [101,69] (bts s) (sgE [46] (bts s) (sgE [48] (bts s) (sgE [45] (bts s) 0)))) = i' (sgE [101,69] (bts s) (sgE [46] (bts s) (sgE [48] (bts s) (sgE [45] (bts s) 0)))))).a k1')))))))) := χ
end
theorem ltFC : decide (o' n < (n : Int)) = false := decide_eq_false (by simp only [Z0]; omega)
theorem ltTC {j : Nat} (h : j < n) : decide (o' j < (n : Int)) = true := decide_eq_true (by simp only [Z0]; omega)
theorem fL' {b b' : Bool} (h : b = b') : Wk (.v (.bool b)) (.v (.bool b')) := by subst h; exact Ya
theorem YN' (x : UInt8) : isD x = true ↔ 48 <= x.toNat /\ x.toNat <= 57 := by
 unfold isD; rw [Bool.and_eq_true, decide_eq_true_eq, decide_eq_true_eq]
theorem B2' (s : Δ) : (bts s).length = s.size := rfl
theorem G0' (h : n < s.size) : (bts s)[n]? = some ((bts s).getD n 0) := by
 have h' : n < (bts s).length := h; rw [List.getD_eq_getElem?_getD, List.getElem?_eq_getElem h']; rfl
theorem EU' {i : Nat} (h : Few n) (hi : i < n) : IntKind.i64.wrap (o' i + o' 1) = o' (i + 1) := CH' i (by unfold Few at h; omega)
theorem n3' (s : Δ) (hs : Few s.size) (m e : Nat) (hm : m <= s.size) (he : digE (bts s) m = e) : LTri Θ default (AA' fDig 2) (tms 0 26 (aD m)) (oN m s) (.exit 0) (tms 0 26 (aD m)) (oN e s) := by
 refine CC' (W := default) (g := fDig) (b := AA' fDig 2) (σ := {i : Nat // i <= s.size /\ digE (bts s) i = e}) 26 (fun _ => aD m) (fun i => oN i.1 s) (.exit 0) (aD m) (oN e s) (fun i => s.size - i.1) [0, 1] [0, 1, 3] (by intro h; cases h) (fun _ => rfl) rfl ?_ ⟨m, hm, he⟩; rintro ⟨i, hi, hE⟩; simp only
 by_cases h1 : i < s.size
 ·obtain ⟨x, hx⟩ : ∃ x, (bts s).getD i 0 = x := ⟨_, rfl⟩; have hg := G0' h1; rw [hx] at hg
  have hby : Wk (v' (.int .u8 (s.data.toList.getD i 0).toNat)) (byv x) := by rw [show s.data.toList.getD i 0 = x from hx]; exact Ya
  have hw := EU' hs h1; have e1 := ltTC h1
  by_cases hd : isD x = true
  ·have h48 := (YN' x).1 hd; rw [ZL' hg hd] at hE
   refine ⟨[], hDg x i true true true, [], fun _ _ => noC, fun _ _ => noL, fun F => ?_⟩
   refine Yj (lO' s x m i F) ⟨⟨?_, rfl, .inl ⟨rfl, ⟨i + 1, h1, hE⟩, C9' h1, [], rfl, rfl, ⟨Ya, Ya, Ya, Ye⟩, ⟨_, rfl, Yc⟩, ⟨_, rfl, Yc⟩, Ye⟩⟩⟩
   simp only [ch', h1, e1, bl', true_and, and_true]; and_intros; all_goals first | (with_reducible exact BA' hw) | exact A0' e1 | exact hby | exact A0' (decide_eq_true (by simp only [Z0, Z1, Z2]; omega)) | exact Kb0'
  ·have hdf : isD x = false := by simpa using hd
   rw [PZ' hg hdf] at hE; subst hE
   by_cases hlo : 48 <= x.toNat
   ·have hhi : ¬ x.toNat <= 57 := fun h => hd ((YN' x).2 ⟨hlo, h⟩)
    refine ⟨[], hDg x i true false false, [], fun _ _ => noC, fun _ _ => noL, fun F => ?_⟩
    refine Yj (lQ' s x m i F) ⟨⟨?_, rfl, .inr ⟨rfl, [], rfl, rfl, ⟨Ya, Ya, Ya, Ye⟩, ⟨_, rfl, Yc⟩, ⟨_, rfl, Yc⟩, Ye⟩⟩⟩
    simp only [ch', h1, e1, bl', true_and, and_true]; and_intros; all_goals first | exact A0' e1 | exact hby | exact A0' (decide_eq_true (by simp only [Z0, Z1, Z2]; omega)) | exact A0' (decide_eq_false (by simp only [Z0, Z1, Z2]; omega)) | exact Kb0'
   ·refine ⟨[], hDg x i false false false, [], fun _ _ => noC, fun _ _ => noL, fun F => ?_⟩
    refine Yj (lP' s x m i F) ⟨⟨?_, rfl, .inr ⟨rfl, [], rfl, rfl, ⟨Ya, Ya, Ya, Ye⟩, ⟨_, rfl, Yc⟩, ⟨_, rfl, Yc⟩, Ye⟩⟩⟩
    simp only [ch', h1, e1, bl', true_and, and_true]; and_intros; all_goals first | exact A0' e1 | exact hby | exact A0' (decide_eq_false (by simp only [Z0, Z1, Z2]; omega)) | exact Kb0'
 ·have hie : i = s.size := ω
  rw [f1' (show (bts s).length <= i by rw [B2']; omega)] at hE; subst hE; rw [hie]
  refine ⟨[], AD' [hf' fDig 2 3], [], fun _ _ => noC, fun _ _ => noL, fun F => ?_⟩
  refine Yj (lR' s m s.size F) ⟨⟨?_, rfl, .inr ⟨rfl, [], rfl, rfl, ⟨Ya, Ya, Ya, Ye⟩, ⟨_, rfl, Yc⟩, ⟨_, rfl, Yc⟩, Ye⟩⟩⟩; exact Cb0'
theorem UI' (K : Nat -> Bool) (n : Nat) (s : Δ) : ∀ x ∈ oN n s, x.2.cl K := A2' (⟨Ye, Ye⟩) (A2' (⟨Ye, Ye⟩) A4')
theorem nY' (s : Δ) (hs : Few s.size) (m : Nat) (hm : m <= s.size) : Tri Θ default fDig [.ptr 0 0, .ptr 1 0] (oN m s) (bv (decide (m < digE (bts s) m))) (oN (digE (bts s) m) s) := by
 obtain ⟨e, he⟩ : ∃ e, digE (bts s) m = e := ⟨_, rfl⟩; rw [he]
 have hl : ∀ F, AH' default F -> L1OK Θ F (AA' fDig 2) (lDg s m e) := fun F hF =>
  GN' hF (fun _ => RO.ret _) (fun _ _ => n3' s hs m e hm he) fun _ => by
   simp only [RT.pick]; exact C4' rfl rfl (A2' rfl (A2' rfl (A2' Ye A4'))) (UI' _ _ _) (A2' rfl (A2' rfl (A2' Ye A4'))) (UI' _ _ _)
 refine AN' (con := []) (hints := AD' [(fDig, 4, 2, hv (bv (decide (m < e))))]) (lc := [(fDig, 2, AA' fDig 2, lDg s m e)]) [0, 1] rfl (fun F _ => noC) (fun F hF => HS' (hl F hF)) fun F => ?_
 refine Yj (oDg_eq s m e _ F) ⟨⟨?_, (AJ' (vs' := [bv (decide (m < e))]) (H' := oN e s) [] rfl rfl (Yb) ⟨⟨_, rfl, Yc⟩, ⟨_, rfl, Yc⟩, Ye⟩).fits rfl⟩⟩
 have hc : decide (o' e > o' m) = decide (m < e) := by simp only [Int.ofNat_eq_natCast, gt_iff_lt, Int.ofNat_lt]
 simp only [ch', bl', true_and, and_true]; and_intros; all_goals first | exact fL' hc | exact Kb0'
theorem IK' : ∀ (l : Γ) (c : UInt8), decide (0 <= Lib.indexByte l c) = l.contains c
 | [], c => rfl
 | a :: l, c => by
  have ih := IK' l c; have hge := Lib.indexByte_ge l c; unfold Lib.indexByte; rw [List.contains_cons]
  by_cases h : a = c
  ·subst h; simp
  ·have h2 : (c == a) = false := by simpa using fun e : c = a => h e.symm
   rw [h2, Bool.false_or, <- ih]; rw [if_neg (by simpa using h)]
   by_cases hm : Lib.indexByte l c = -1
   ·rw [if_pos (by rw [hm]; rfl), hm]
   ·rw [if_neg (by simpa using hm)]
    have : (0 <= Lib.indexByte l c + 1) ↔ 0 <= Lib.indexByte l c := ω
    simp only [this]
theorem RD' (k : Δ) (x : UInt8) : decide (idxC k ↑x.toNat >= o' 0) = (bts k).contains x := by
 rw [<- IK']; unfold idxC bts
 rw [show ((x.toNat : Int).toNat).toUInt8 = x by simp]
 rfl
theorem nO' (s : Δ) (hs : Few s.size) (n : Nat) (hn : n <= s.size) (k : Δ) : Tri Θ default fSgn [sv k, .ptr 0 0, .ptr 1 0] (oN n s) (bv (sgn (bts k) (bts s) n)) (oN (sgE (bts k) (bts s) n) s) := by
 by_cases h1 : n < s.size
 ·obtain ⟨x, hx⟩ : ∃ x, (bts s).getD n 0 = x := ⟨_, rfl⟩; have hg := G0' h1; rw [hx] at hg
  have hby : Wk (v' (.int .u8 (s.data.toList.getD n 0).toNat)) (byv x) := by rw [show s.data.toList.getD n 0 = x from hx]; exact Ya
  have hw := EU' hs h1; have e1 := ltTC h1; have hi := RD' k x
  have hsg : sgn (bts k) (bts s) n = (bts k).contains x := by unfold sgn; rw [hg]
  unfold sgE; rw [hsg]
  cases hc : (bts k).contains x with
  | true =>
   rw [hc] at hi
   refine AN' (con := [(HT', HV')]) (hints := hSg x n true) (lc := []) [0, 1] rfl (fun F hF => BT' (E2' hF)) (fun F _ => noL) fun F => ?_
   refine Yj (jR' s k x n F) ⟨⟨?_, (AJ' (vs' := [bv true]) (H' := oN (n + 1) s) [] rfl rfl (Yb) ⟨⟨_, rfl, Yc⟩, ⟨_, rfl, Yc⟩, Ye⟩).fits rfl⟩⟩
   simp only [ch', h1, e1, bl', true_and, and_true]; and_intros; all_goals first | (with_reducible exact BA' hw) | exact A0' e1 | exact hby | exact A0' hi | exact Kb0'
  | false =>
   rw [hc] at hi
   refine AN' (con := [(HT', HV')]) (hints := hSg x n false) (lc := []) [0, 1] rfl (fun F hF => BT' (E2' hF)) (fun F _ => noL) fun F => ?_
   refine Yj (jS' s k x n F) ⟨⟨?_, (AJ' (vs' := [bv false]) (H' := oN n s) [] rfl rfl (Yb) ⟨⟨_, rfl, Yc⟩, ⟨_, rfl, Yc⟩, Ye⟩).fits rfl⟩⟩
   simp only [ch', h1, e1, bl', true_and, and_true]; and_intros; all_goals first | exact A0' e1 | exact hby | exact A0' hi | exact Kb0'
 ·have hne : n = s.size := ω
  have hg : (bts s)[n]? = none := List.getElem?_eq_none (by rw [B2']; omega)
  have hsg : sgn (bts k) (bts s) n = false := by unfold sgn; rw [hg]
  unfold sgE; rw [hsg]
  refine AN' (con := [(HT', HV')]) (hints := AD' [hf' fSgn 1 3]) (lc := []) [0, 1] rfl (fun F hF => BT' (E2' hF)) (fun F _ => noL) fun F => ?_
  refine Yj (jT' s k n F) ⟨⟨?_, (AJ' (vs' := [bv false]) (H' := oN n s) [] rfl rfl (Yb) ⟨⟨_, rfl, Yc⟩, ⟨_, rfl, Yc⟩, Ye⟩).fits rfl⟩⟩
  have e1 : decide (o' n < (s.size : Int)) = false := by rw [hne]; exact ltFC
  exact Cb1'
theorem Z3' (a b : Nat) (k : Δ) : RO (gNS2 a b k) := by
 unfold gNS2
 refine RO.read _ _ fun o => ?_
 split
 ·split
  ·refine RO.read _ _ fun o2 => ?_
   split
   ·exact RO.ret _
   ·exact RO.fail _
  ·exact RO.fail _
 ·exact RO.fail _
theorem gDg_ro (args : List AV) : RO (gDg args) := by
 unfold gDg; split
 ·exact Z3' _ _ _
 ·exact RO.fail _
theorem gSg_ro (args : List AV) : RO (gSg args) := by
 unfold gSg; split
 ·exact Z3' _ _ _
 ·exact RO.fail _
theorem cDg_ok {W : World} (F : HP) (hF : AH' W F) : C1OK Θ F fDig cDg :=
 BF' (AH'.nothing F) (fun p => bv (decide (p.m < digE (bts p.s) p.m))) gDg_ro (fun _ => rfl) (fun p hp => nY' p.s hp.2 p.m hp.1) fun p => ⟨rfl, rfl, ⟨rfl, rfl, Ye⟩, UI' _ _ _, ⟨Ye, Ye⟩, UI' _ _ _⟩
theorem cSg_ok {W : World} (F : HP) (hF : AH' W F) : C1OK Θ F fSgn cSg :=
 BF' (AH'.nothing F) (fun p => bv (sgn (bts p.k) (bts p.s) p.m)) gSg_ro (fun _ => rfl) (fun p hp => nO' p.s hp.2 p.m hp.1 p.k) fun p => ⟨rfl, rfl, ⟨Ye, rfl, rfl, Ye⟩, UI' _ _ _, ⟨Ye, Ye⟩, UI' _ _ _⟩
def numV (q : Nat × Bool) : AV := .tuple [iv (o' q.1), bv q.2]
theorem lZ' {x : Nat} {b : Bool} (h : numR l = (x, b)) : VW [AV.tuple [v' (.int .i64 (o' x)), v' (.bool b)]] [numV (num l)] := by
 rw [<- lY', h]; exact Yb
theorem s_sg {ks : Γ} (h : n <= s.size) : sgE ks (bts s) n <= s.size := J3' h
theorem s_dg (h : n <= s.size) : digE (bts s) n <= s.size := GW' h
theorem aO' {W : World} (s : Δ) (hs : Few s.size) : Tri Θ W fNum [sv s] [] (numV (num (bts s))) [] := by
 refine AN' (con := [(fDig, cDg), (fSgn, cSg)]) (hints := B4') (lc := []) [] rfl (fun F hF => AP' (cDg_ok F hF) (BT' (cSg_ok F hF))) (fun F _ => noL) fun F => ?_
 refine cast (congrArg (VAll _) (oNm_eq W s F).symm) ?_
 repeat' refine VAll.ite (fun hb => ?_) (fun hb => ?_)
 all_goals
  refine ⟨⟨?_, (AJ' (vs' := [numV (num (bts s))]) (H' := []) [] rfl rfl (lZ' (by simp only [numR, YB', YA', *, if_true, Bool.false_eq_true, if_false])) trivial).fits rfl⟩⟩
  simp only [ch', bl', true_and, and_true]; and_intros; all_goals first | (with_reducible exact Ye) | (with_reducible exact rfl) | (with_reducible exact Ya) | (with_reducible exact Yb) | (with_reducible exact Yc) | (with_reducible exact hs) | exact Nat.zero_le _ | ((repeat (first | exact Nat.zero_le _ | refine s_sg ?_ | refine s_dg ?_)); done)
def gS1 : List AV -> AP Δ := fun args => match args with
 | [.v (.string s)] => .ret s
 | _ => .fail "a text"
def cNum : List AV -> Option (AP AV) := mkC gS1 (fun s => Few s.size) (fun _ k => k) (fun s => [sv s]) (fun _ => []) (fun s => .leaf .ret [numV (num (bts s))] [])
theorem JK' {W : World} (F : HP) (hF : AH' W F) : C1OK Θ F fNum cNum :=
 BF' hF (fun s => numV (num (bts s))) (fun args => by
  unfold gS1; split
  ·exact RO.ret _
  ·exact RO.fail _) (fun _ => rfl) (fun s hs => aO' s hs) fun s => ⟨rfl, rfl, ⟨Ye, Ye⟩, A4', ⟨⟨Ye, Ye, Ye⟩, Ye⟩, A4'⟩
theorem by_wk {x : UInt8} (hx : (bts s).getD n 0 = x) : Wk (v' (.int .u8 (s.data.toList.getD n 0).toNat)) (byv x) := by rw [show s.data.toList.getD n 0 = x from hx]; exact Ya
noncomputable section
abbrev fWS : Nat := 36
abbrev fWB : Nat := 39
def bN : AO := .cells [.v (.pointer none), .v (.slice none 0 0)] tBld
def bU (P : Γ) : AO := .cells [.ptr 0 0, sB 1002 P.length] tBld
def bldL : Option Γ -> LH
 | none => [(0, bN)]
 | some P => [(0, bU P), (1002, rB P)]
def bldR (s : Δ) : Option Γ -> Prop
 | none => bts s = []
 | some P => bts s = P /\ P ≠ []
def bldO (s : Δ) : AO := .own (.text s) (exHP (bldR s) bldL)
abbrev k40' : Cnd := (fe' true)
theorem j7' (W : World) (c : UInt8) (F : HP) : wRun [(fCC, cCC)] (AD' [(fWB, 2, 7, ho 1101 (rB [c]))]) [] W fWB [.ptr 0 0, byv c] [(0, bN)] [0, 1101] F = VT.leaf (v' Value.nilIface) [some (ce' [pt' 0 0,AV.slice 1101 0 1 1 (Cp.lo 1)] 98),some (ce' [v' (vi' u8' ↑c.toNat)] 10)] 1102 (k40'.a ((tt'.a (tt'.a (tt'.a (tt'.a (tt'.a (tt'.a (f' (OW (ce' [v' (vi' u8' ↑c.toNat)] 10) (ce' [v' (vi' u8' ↑c.toNat)] 10))))))))).a (k40'.a k1'))) := χ
theorem j6' (W : World) (P : Γ) (c : UInt8) (F : HP) : wRun [(fCC, cCC)] (AD' [(fWB, 2, 7, ho 1101 (rB (P ++ [c])))]) [] W fWB [.ptr 0 0, byv c] [(0, bU P), (1002, rB P)] [0, 1101] F = VT.leaf (v' Value.nilIface) [some (ce' [pt' 0 0,AV.slice 1101 0 (P.length + 1) 1 (Cp.lo (P.length + 1))] 98),some (ce' (rowV encB (P ++ [c])) 10)] 1102 (k40'.a ((tt'.a (tt'.a (tt'.a (tt'.a ((p' ((0 + P.length * 1).ble (rowV encB P).length = true)).a ((p' (((P.length + 1) * 1).ble 140737488355328 = true)).a ((p' ((P.length + 1).ble 9223372036854775807 = true)).a ((p' ((List.take (P.length * 1) (List.drop 0 (rowV encB P))).length.beq (P.length * 1) = true)).a (f' (OW (ce' (List.take (P.length * 1) (List.drop 0 (rowV encB P)) ++ [v' (vi' u8' ↑c.toNat)]) 10) (ce' (rowV encB (P ++ [c])) 10))))))))))).a (k40'.a k1'))) := χ
theorem j5' (W : World) (t : Δ) (F : HP) : wRun [(fCC, cCC)] (AD' [(fWS, 2, 6, ho 1100 (rB (bts t)))]) [] W fWS [.ptr 0 0, sv t] [(0, bN)] [0, 1100] F = VT.leaf (AV.tuple [z' ↑t.size,v' Value.nilIface]) [some (ce' [pt' 0 0,AV.slice 1100 0 t.size 1 (Cp.lo t.size)] 98),some (ce' (rowV encB (bts t)) 10)] 1101 (k40'.a (((p' (t.size.ble t.size = true)).a ((p' ((vmap (List.map (fun b => vi' u8' ↑b.toNat) (List.take t.size t.data.toList))).all AV.one = true)).a ((p' (Nat.blt 0 t.size = true)).a ((p' ((t.size * 1).ble 140737488355328 = true)).a ((p' (t.size.ble 9223372036854775807 = true)).a (f' (OW (ce' (vmap (List.map (fun b => vi' u8' ↑b.toNat) (List.take t.size t.data.toList))) 10) (ce' (rowV encB (bts t)) 10)))))))).a (k40'.a k1'))) := χ
theorem j4' (W : World) (P : Γ) (t : Δ) (F : HP) : wRun [(fCC, cCC)] (AD' [(fWS, 2, 6, ho 1100 (rB (P ++ bts t)))]) [] W fWS [.ptr 0 0, sv t] [(0, bU P), (1002, rB P)] [0, 1100] F = VT.leaf (AV.tuple [z' ↑t.size,v' Value.nilIface]) [some (ce' [pt' 0 0,AV.slice 1100 0 (P.length + t.size) 1 (Cp.lo (P.length + t.size))] 98),some (ce' (rowV encB (P ++ bts t)) 10)] 1101 (k40'.a (((p' (t.size.ble t.size = true)).a ((p' ((vmap (List.map (fun b => vi' u8' ↑b.toNat) (List.take t.size t.data.toList))).all AV.one = true)).a ((p' (Nat.blt 0 t.size = true)).a ((p' ((0 + P.length * 1).ble (rowV encB P).length = true)).a ((p' (((P.length + t.size) * 1).ble 140737488355328 = true)).a ((p' ((P.length + t.size).ble 9223372036854775807 = true)).a ((p' ((List.take (P.length * 1) (List.drop 0 (rowV encB P))).length.beq (P.length * 1) = true)).a (f' (OW (ce' (List.take (P.length * 1) (List.drop 0 (rowV encB P)) ++ vmap (List.map (fun b => vi' u8' ↑b.toNat) (List.take t.size t.data.toList))) 10) (ce' (rowV encB (P ++ bts t)) 10)))))))))).a (k40'.a k1'))) := χ
end
def cat (s t : Δ) : Δ := tB (bts s ++ bts t)
def oneB (c : UInt8) : Δ := tB [c]
theorem CR' (s t : Δ) : bts (cat s t) = bts s ++ bts t := E6' _
theorem EQ' (c : UInt8) : bts (oneB c) = [c] := E6' _
theorem BH' (s t : Δ) : (cat s t).size = s.size + t.size := by
 rw [<- B2', CR', la']; rfl
theorem RS' (s t u : Δ) : cat (cat s t) u = cat s (cat t u) := by
 unfold cat; rw [show bts (tB (bts s ++ bts t)) = _ from E6' _, show bts (tB (bts t ++ bts u)) = _ from E6' _, List.append_assoc]
theorem gY' (s : Δ) (l m : Γ) : cat (cat s (tB l)) (tB m) = cat s (tB (l ++ m)) := by
 rw [RS']
 congr 1
theorem ZV' (s : Δ) : cat s (tB []) = s := by
 unfold cat; rw [show bts (tB []) = [] from E6' _, List.append_nil]; exact GY' (E6' _)
theorem nF' (z : Option Γ) : ∀ x ∈ bldL z, x.2.cl (kH (bldL z)) := by
 cases z with
 | none => exact A2' ⟨Ye, Ye, Ye⟩ A4'
 | some P => exact A2' ⟨rfl, rfl, Ye⟩ (A2' (WQ' _ _) A4')
theorem a2' (z : Option Γ) : ∃ o, getO (bldL z) 0 = some o := by cases z <;> exact ⟨_, rfl⟩
theorem NW' (z : Option Γ) : Eng.ownL [] (bldL z) = true := by cases z <;> rfl
theorem NJ' {W : World} {f : FuncId} {A : List AV} {v : AV} {H' : LH} (h0 : bts s = [] -> Tri Θ W f A [(0, bN)] v H') (h1 : bts s ≠ [] -> Tri Θ W f A [(0, bU (bts s)), (1002, rB (bts s))] v H') : Tri Θ W f A [(0, bldO s)] v H' :=
 Tri.open (R := bldR s) (L := bldL) (H0 := []) NW' nF' a2' fun z hz => by
  cases z with
  | none => exact h0 hz
  | some P =>
   obtain ⟨rfl, h⟩ := hz; exact h1 h
theorem SK' {P : Γ} {vs : List AV} (h : bts s = P) (hP : P ≠ []) (hv : AV.cls (fun i => Nat.blt i 1000 || false) vs) : Goes vs [(0, bU P), (1002, rB P)] vs [(0, bldO s)] :=
 Goes.shut (R := bldR s) (L := bldL) (m := .text s) (H0 := []) (some P) ⟨h, hP⟩ (NW' _) ⟨_, _, rfl, rfl⟩ hv A4'
theorem RH' (h : n <= 1099511627776) : (n * 1).ble 140737488355328 = true /\ n.ble 9223372036854775807 = true := ⟨by rw [Nat.ble_eq]; omega, by rw [Nat.ble_eq]; omega⟩
theorem WB_tri {W : World} (s : Δ) (c : UInt8) (hs : s.size <= 1000000000) : Tri Θ W fWB [.ptr 0 0, byv c] [(0, bldO s)] (.v .nilIface) [(0, bldO (cat s (oneB c)))] := by
 refine (NJ' (fun h => ?_) fun h => ?_ : Tri Θ W fWB [.ptr 0 0, byv c] [(0, bldO s)] (.v .nilIface) [(0, bU (bts s ++ [c])), (1002, rB (bts s ++ [c]))]).post (SK' (by rw [CR', EQ']) (by simp) ⟨Ye, Ye⟩)
 ·rw [h]
  refine AN' (con := [(fCC, cCC)]) (hints := AD' [(fWB, 2, 7, ho 1101 (rB [c]))]) (lc := []) [0, 1101] rfl (fun F hF => BT' TS') (fun F _ => noL) fun F => ?_
  refine Yj (j7' W c F) ⟨⟨?_, (AJ' (vs' := [.v .nilIface]) (H' := [(0, bU [c]), (1002, rB [c])]) [(1002, 1101)] rfl rfl (Yb) ⟨⟨_, rfl, Yc⟩, ⟨_, rfl, Yc⟩, Ye⟩).fits rfl⟩⟩; exact Cb2'
 ·have hb := RH' (n := (bts s).length + 1) (by rw [B2']; omega); have hin : (0 + (bts s).length * 1).ble (rowV encB (bts s)).length = true := KZ' rfl; have hfu : (List.take ((bts s).length * 1) (List.drop 0 (rowV encB (bts s)))).length.beq ((bts s).length * 1) = true := DK' rfl; have had : List.take ((bts s).length * 1) (List.drop 0 (rowV encB (bts s))) ++ [v' (vi' u8' (c.toNat : Int))] = rowV encB (bts s ++ [c]) := DL' rfl [c]
  refine AN' (con := [(fCC, cCC)]) (hints := AD' [(fWB, 2, 7, ho 1101 (rB (bts s ++ [c])))]) (lc := []) [0, 1101] rfl (fun F hF => BT' TS') (fun F _ => noL) fun F => ?_
  refine Yj (j6' W (bts s) c F) ⟨⟨?_, (AJ' (vs' := [.v .nilIface]) (H' := [(0, bU (bts s ++ [c])), (1002, rB (bts s ++ [c]))]) [(1002, 1101)] rfl rfl (Yb) ⟨⟨_, rfl, by unfold bU; rw [la']; exact Yc⟩, ⟨_, rfl, QZ' rfl rfl⟩, Ye⟩).fits rfl⟩⟩
  simp only [ch', bl', true_and, and_true]; and_intros; all_goals first | exact hin | exact hb.1 | exact hb.2 | exact hfu | (rw [had]; exact Yc) | exact Kb0'
theorem aY' (l : Γ) : (vmap (l.map fun b => vi' u8' (b.toNat : Int))).all AV.one = true := by
 induction l with
 | nil => rfl
 | cons a l ih => exact ih
theorem WS_tri {W : World} (s t : Δ) (hs : s.size <= 1000000000) (ht : t.size <= 1000000000) (h0 : 0 < t.size) : Tri Θ W fWS [.ptr 0 0, sv t] [(0, bldO s)] (.tuple [iv (o' t.size), .v .nilIface]) [(0, bldO (cat s t))] := by
 have htk : List.take t.size t.data.toList = bts t := List.take_of_length_le (Yd); have hrow : vmap ((bts t).map fun b => vi' u8' (b.toNat : Int)) = rowV encB (bts t) := (E1' _).symm
 have hne : bts t ≠ [] := fun e => by have : t.size = 0 := congrArg List.length e; omega
 have b0 : t.size.ble t.size = true := by rw [Nat.ble_eq]; exact Yd
 have h1 := aY' (List.take t.size t.data.toList); refine (NJ' (fun h => ?_) fun h => ?_ : Tri Θ W fWS [.ptr 0 0, sv t] [(0, bldO s)] (.tuple [iv (o' t.size), .v .nilIface]) [(0, bU (bts s ++ bts t)), (1002, rB (bts s ++ bts t))]).post (SK' (by rw [CR']) (by simp [hne]) ⟨⟨Ye, Ye, Ye⟩, Ye⟩)
 ·rw [h, List.nil_append]; have hb := RH' (n := t.size) ω
  refine AN' (con := [(fCC, cCC)]) (hints := AD' [(fWS, 2, 6, ho 1100 (rB (bts t)))]) (lc := []) [0, 1100] rfl (fun F hF => BT' TS') (fun F _ => noL) fun F => ?_
  refine Yj (j5' W t F) ⟨⟨?_, (AJ' (vs' := [.tuple [iv (o' t.size), .v .nilIface]]) (H' := [(0, bU (bts t)), (1002, rB (bts t))]) [(1002, 1100)] rfl rfl (Yb) ⟨⟨_, rfl, Yc⟩, ⟨_, rfl, QZ' rfl rfl⟩, Ye⟩).fits rfl⟩⟩
  simp only [ch', bl', true_and, and_true]; and_intros; all_goals first | exact b0 | exact h1 | exact h0 | exact hb.1 | exact hb.2 | (rw [htk, hrow]; exact Yc) | exact Kb0'
 ·have hb := RH' (n := (bts s).length + t.size) (by rw [B2']; omega); have hin : (0 + (bts s).length * 1).ble (rowV encB (bts s)).length = true := KZ' rfl; have hfu : (List.take ((bts s).length * 1) (List.drop 0 (rowV encB (bts s)))).length.beq ((bts s).length * 1) = true := DK' rfl; have had : List.take ((bts s).length * 1) (List.drop 0 (rowV encB (bts s))) ++ rowV encB (bts t) = rowV encB (bts s ++ bts t) := DL' rfl _
  refine AN' (con := [(fCC, cCC)]) (hints := AD' [(fWS, 2, 6, ho 1100 (rB (bts s ++ bts t)))]) (lc := []) [0, 1100] rfl (fun F hF => BT' TS') (fun F _ => noL) fun F => ?_
  refine Yj (j4' W (bts s) t F) ⟨⟨?_, (AJ' (vs' := [.tuple [iv (o' t.size), .v .nilIface]]) (H' := [(0, bU (bts s ++ bts t)), (1002, rB (bts s ++ bts t))]) [(1002, 1100)] rfl rfl (Yb) ⟨⟨_, rfl, by unfold bU; rw [la']; exact Yc⟩, ⟨_, rfl, QZ' rfl rfl⟩, Ye⟩).fits rfl⟩⟩
  simp only [ch', bl', true_and, and_true]; and_intros; all_goals first | exact b0 | exact h1 | exact h0 | exact hin | exact hb.1 | exact hb.2 | exact hfu | (rw [htk, hrow, had]; exact Yc) | exact Kb0'
noncomputable section
abbrev fQ : Nat := 38
abbrev fHx : Nat := 56
abbrev fDec : Nat := 57
abbrev tBp : TypeId := 2 * 46
structure BS where
 o : Nat
 b : Nat
 s : Δ
 t : Δ
 c : UInt8
def gOwn (a b : Nat) (t : Δ) (c : UInt8) : AP BS := .read a fun o => match o with
 | .own m _ => match m with
  | .text s => .ret ⟨a, b, s, t, c⟩
  | _ => .fail "builder"
 | _ => .fail "builder"
def gWB : List AV -> AP BS := fun args => match args with
 | [.ptr a _, .v (.int .u8 z)] => match z with
  | .ofNat n => gOwn a 0 nil0 (UInt8.ofNat n)
  | _ => .fail "byte"
 | _ => .fail "byte"
def gWS : List AV -> AP BS := fun args => match args with
 | [.ptr a _, .v (.string t)] => gOwn a 0 t 0
 | _ => .fail "text"
def gHx : List AV -> AP BS := fun args => match args with
 | [.v (.string t), .v (.int .u8 z), .ptr b _] => match z with
  | .ofNat n => .read b fun o => match o with
   | .cells [.ptr a _] _ => gOwn a b t (UInt8.ofNat n)
   | _ => .fail "hex"
  | _ => .fail "hex"
 | _ => .fail "hex"
def fitB (s : Δ) : Prop := s.size <= 1000000000
def cWB : List AV -> Option (AP AV) := mkC gWB (fun q => fitB q.s) (fun q _ => q.o) (fun q => [.ptr 0 0, byv q.c]) (fun q => [(0, bldO q.s)]) (fun q => .leaf .ret [.v .nilIface] [(0, bldO (cat q.s (oneB q.c)))])
def cWS : List AV -> Option (AP AV) := mkC gWS (fun q => fitB q.s /\ fitB q.t /\ 0 < q.t.size) (fun q _ => q.o) (fun q => [.ptr 0 0, sv q.t]) (fun q => [(0, bldO q.s)]) (fun q => .leaf .ret [.tuple [iv (o' q.t.size), .v .nilIface]] [(0, bldO (cat q.s q.t))])
def oQ (q : Δ) : LH := [(0, bldO q), (1, .cells [.ptr 0 0] tBp)]
def hdL : Γ := [48, 49, 50, 51, 52, 53, 54, 55, 56, 57, 97, 98, 99, 100, 101, 102]
def hd (n : Nat) : UInt8 := hdL.getD n 0
def hx (c : UInt8) : Γ := [hd (c.toNat / 16), hd (c.toNat % 16)]
def nmHx (q : BS) : Nat -> Nat := fun k => match Nat.beq k 0 with
 | true => q.o
 | false => q.b
def cHx : List AV -> Option (AP AV) := mkC gHx (fun q => fitB q.s /\ fitB q.t /\ 0 < q.t.size /\ q.s.size + q.t.size <= 999999990) nmHx (fun q => [sv q.t, byv q.c, .ptr 1 0]) (fun q => oQ q.s) (fun q => .leaf .ret [.tuple []] (oQ (cat q.s (tB (bts q.t ++ hx q.c)))))
abbrev k41' (q0 : Nat) (q1 : UInt8) : Cnd := ((p' (q0 < 16)).a (f' (Wk (v' (vi' u8' ↑(([48,49,50,51,52,53,54,55,56,57,97,98,99,100,101,102] : Γ).getD q0 0).toNat)) (v' (vi' u8' ↑q1.toNat)))))
abbrev k42' (q0 q1 : Δ) : Cnd := ((p' (fitB q0 /\ fitB q1 /\ 0 < q1.size)).a ((vw' [pt' 0 0,s' q1]).a (f' (OW (AO.own (Md.text q0) (exHP (bldR q0) bldL)) (AO.own (Md.text q0) (exHP (bldR q0) bldL))))))
theorem oHx_eq (W : World) (q t : Δ) (c d e : UInt8) (n m : Nat) (F : HP) : wRun [(fWS, cWS), (fWB, cWB)] (AD' [(fHx, 1, 2, hv (.v (.int .u8 (o' n)))), (fHx, 1, 3, h0v (byv d)), (fHx, 2, 2, hv (.v (.int .u8 (o' m)))), (fHx, 2, 3, h0v (byv e))]) [] W fHx [sv t, byv c, .ptr 1 0] (oQ q) [0, 1] F = VT.leaf (AV.tuple []) [some (AO.own (Md.text (cat (cat (cat q t) (oneB (UInt8.ofNat d.toNat))) (oneB (UInt8.ofNat e.toNat)))) (exHP (bldR (cat (cat (cat q t) (oneB (UInt8.ofNat d.toNat))) (oneB (UInt8.ofNat e.toNat)))) bldL)),some (ce' [pt' 0 0] 92)] 1100 (k40'.a ((k42' q t).a (k40'.a ((f' (Wk (v' (vi' u8' (((c.toNat : Nat) : Int).fdiv (o' 16)))) (v' (vi' u8' (o' n))))).a ((k41' n d).a (((p' (fitB (cat q t))).a ((p' (VW [pt' 0 0,v' (vi' u8' ↑d.toNat)] [pt' 0 0,v' (vi' u8' ↑(UInt8.ofNat d.toNat).toNat)])).a (f' (OW (AO.own (Md.text (cat q t)) (exHP (bldR (cat q t)) bldL)) (AO.own (Md.text (cat q t)) (exHP (bldR (cat q t)) bldL)))))).a (k40'.a ((f' (Wk (v' (vi' u8' (IntKind.u8.wrap ↑(BitVec.ofInt 8 ↑c.toNat &&& BitVec.ofInt 8 (o' 15)).toNat))) (v' (vi' u8' (o' m))))).a ((k41' m e).a (((p' (fitB (cat (cat q t) (oneB (UInt8.ofNat d.toNat))))).a ((p' (VW [pt' 0 0,v' (vi' u8' ↑e.toNat)] [pt' 0 0,v' (vi' u8' ↑(UInt8.ofNat e.toNat).toNat)])).a (f' (OW (AO.own (Md.text (cat (cat q t) (oneB (UInt8.ofNat d.toNat)))) (exHP (bldR (cat (cat q t) (oneB (UInt8.ofNat d.toNat)))) bldL)) (AO.own (Md.text (cat (cat q t) (oneB (UInt8.ofNat d.toNat)))) (exHP (bldR (cat (cat q t) (oneB (UInt8.ofNat d.toNat)))) bldL)))))).a k1')))))))))) := χ
def dR (l : Γ) : Nat := (Lib.decodeL l).1
def dN (l : Γ) : Nat := (Lib.decodeL l).2
def cDec : List AV -> Option (AP AV) := vC g1s (fun s => 0 < s.size) (fun s => .tuple [.v (.int .i32 (o' (dR (bts s)))), iv (o' (dN (bts s)))])
def conQ : CV' := [(fDec, cDec), (fHx, cHx), (fWS, cWS), (fWB, cWB)]
def aQ (l : Δ) : List (Nat × AV) := [(1, sv l), (2, .ptr 1 0), (4, .func (.func fHx) [] [.ptr 1 0])]
def hQ (c : UInt8) (p r : Δ) : AX' := AD' [ht' fQ 3 2, (fQ, 5, 1, h0v (byv c)), (fQ, 6, 3, h0v (sv p)), (fQ, 14, 2, h0v (sv r))]
abbrev y5' : Δ := ByteArray.mk (Array.mk [92, 117, 100, 99])
abbrev y6' : Δ := ByteArray.mk (Array.mk [92, 117, 48, 48])
abbrev k43' (q0 q1 : Δ) : Cnd := ((p' (dN (bts q0) <= q0.size)).a ((p' (q0.size <= q0.size)).a (f' (Wk (s' (q0.extract (dN (bts q0)) q0.size)) (s' q1)))))
abbrev h44' (q0 : Δ) (q1 : UInt8) (z : Cnd) : Cnd := ((wb' (decide (↑q0.size > o' 0)) j').a ((f' (0 < q0.size)).a (((p' (0 < q0.size)).a (f' (Wk (v' (vi' u8' ↑(q0.data.toList.getD 0 0).toNat)) (v' (vi' u8' ↑q1.toNat))))).a z)))
abbrev h45' (q0 : Δ) (q1 : UInt8) (q2 q3 : Δ) (z : Cnd) : Cnd := ((wb' (decide (↑q0.size > o' 0)) j').a ((f' (0 < q0.size)).a (((p' (0 < q0.size)).a (f' (Wk (v' (vi' u8' ↑(q0.data.toList.getD 0 0).toNat)) (v' (vi' u8' ↑q1.toNat))))).a ((fe' true).a (((p' (fitB q2)).a ((vw' [pt' 0 0,v' (vi' u8' (o' 92))]).a (f' (OW (AO.own (Md.text q2) (exHP (bldR q2) bldL)) (AO.own (Md.text q2) (exHP (bldR q2) bldL)))))).a ((fe' true).a (((p' (fitB (cat q2 (oneB (UInt8.ofNat 92))))).a ((p' (VW [pt' 0 0,v' (vi' u8' ↑q1.toNat)] [pt' 0 0,v' (vi' u8' ↑(UInt8.ofNat q1.toNat).toNat)])).a (f' (OW (AO.own (Md.text (cat q2 (oneB (UInt8.ofNat 92)))) (exHP (bldR (cat q2 (oneB (UInt8.ofNat 92)))) bldL)) (AO.own (Md.text (cat q2 (oneB (UInt8.ofNat 92)))) (exHP (bldR (cat q2 (oneB (UInt8.ofNat 92)))) bldL)))))).a (((p' (dN (bts q0) <= q0.size)).a ((p' (q0.size <= q0.size)).a (f' (Wk (s' (q0.extract (dN (bts q0)) q0.size)) (s' q3))))).a z))))))))
abbrev k46' (q0 : Δ) (q1 : UInt8) : Cnd := ((p' (fitB q0 /\ fitB y6' /\ 0 < 4 /\ q0.size + 4 <= 999999990)).a ((p' (VW [s' y6',v' (vi' u8' ↑q1.toNat),pt' 1 0] [s' y6',v' (vi' u8' ↑(UInt8.ofNat q1.toNat).toNat),pt' 1 0])).a ((ow' (AO.own (Md.text q0) (exHP (bldR q0) bldL))).a (f' (OW (ce' [pt' 0 0] 92) (ce' [pt' 0 0] 92))))))
abbrev k47' (q0 q1 : Δ) : Cnd := ((p' (0 <= dN (bts q0))).a ((p' (dN (bts q0) <= q0.size)).a (f' (Wk (s' (q0.extract 0 (dN (bts q0)))) (s' q1)))))
abbrev h48' (q0 : Δ) (q1 : UInt8) (z : Cnd) : Cnd := ((wb' (decide (↑q0.size > o' 0)) j').a ((f' (0 < q0.size)).a (((p' (0 < q0.size)).a (f' (Wk (v' (vi' u8' ↑(q0.data.toList.getD 0 0).toNat)) (v' (vi' u8' ↑q1.toNat))))).a ((fe' true).a z))))
theorem oQR_eq (W : World) (q l p r : Δ) (c : UInt8) (F : HP) : BU' conQ (hQ c p r) [] W fQ (AA' fQ 3) (tms 0 59 (aQ l)) (oQ q) [0, 1] [1, 2, 4] F = VT.ite (o' (dR (bts l)) == o' 65533) (VT.ite (o' (dN (bts l)) == o' 1) (VT.leaf (AX.normal,[s' r,pt' 1 0,AV.func (Fn.func 56) [] [pt' 1 0]],59) [some (AO.own (Md.text (cat q (tB [92,117,100,99,hd ((UInt8.ofNat c.toNat).toNat / 16),hd ((UInt8.ofNat c.toNat).toNat % 16)]))) (exHP (bldR (cat q (tB [92,117,100,99,hd ((UInt8.ofNat c.toNat).toNat / 16),hd ((UInt8.ofNat c.toNat).toNat % 16)]))) bldL)),some (ce' [pt' 0 0] 92)] 1100 (h44' l c (((p' (fitB q /\ fitB y5' /\ 0 < 4 /\ q.size + 4 <= 999999990)).a ((p' (VW [s' y5',v' (vi' u8' ↑c.toNat),pt' 1 0] [s' y5',v' (vi' u8' ↑(UInt8.ofNat c.toNat).toNat),pt' 1 0])).a ((ow' (AO.own (Md.text q) (exHP (bldR q) bldL))).a (f' (OW (ce' [pt' 0 0] 92) (ce' [pt' 0 0] 92)))))).a ((k43' l r).a k1')))) (VT.ite (↑c.toNat == o' 34) (VT.leaf (AX.normal,[s' r,pt' 1 0,AV.func (Fn.func 56) [] [pt' 1 0]],59) [some (AO.own (Md.text (cat (cat q (oneB (UInt8.ofNat 92))) (oneB (UInt8.ofNat c.toNat)))) (exHP (bldR (cat (cat q (oneB (UInt8.ofNat 92))) (oneB (UInt8.ofNat c.toNat)))) bldL)),some (ce' [pt' 0 0] 92)] 1100 (h45' l c q r k1')) (VT.ite (↑c.toNat == o' 92) (VT.leaf (AX.normal,[s' r,pt' 1 0,AV.func (Fn.func 56) [] [pt' 1 0]],59) [some (AO.own (Md.text (cat (cat q (oneB (UInt8.ofNat 92))) (oneB (UInt8.ofNat c.toNat)))) (exHP (bldR (cat (cat q (oneB (UInt8.ofNat 92))) (oneB (UInt8.ofNat c.toNat)))) bldL)),some (ce' [pt' 0 0] 92)] 1100 (h45' l c q r k1')) (VT.ite (decide (↑c.toNat < o' 32)) (VT.leaf (AX.normal,[s' r,pt' 1 0,AV.func (Fn.func 56) [] [pt' 1 0]],59) [some (AO.own (Md.text (cat q (tB [92,117,48,48,hd ((UInt8.ofNat c.toNat).toNat / 16),hd ((UInt8.ofNat c.toNat).toNat % 16)]))) (exHP (bldR (cat q (tB [92,117,48,48,hd ((UInt8.ofNat c.toNat).toNat / 16),hd ((UInt8.ofNat c.toNat).toNat % 16)]))) bldL)),some (ce' [pt' 0 0] 92)] 1100 (h44' l c ((k46' q c).a ((k43' l r).a k1')))) (VT.leaf (AX.normal,[s' r,pt' 1 0,AV.func (Fn.func 56) [] [pt' 1 0]],59) [some (AO.own (Md.text (cat q p)) (exHP (bldR (cat q p)) bldL)),some (ce' [pt' 0 0] 92)] 1100 (h48' l c ((k47' l p).a ((k42' q p).a ((k43' l r).a k1'))))))))) (VT.ite (↑c.toNat == o' 34) (VT.leaf (AX.normal,[s' r,pt' 1 0,AV.func (Fn.func 56) [] [pt' 1 0]],59) [some (AO.own (Md.text (cat (cat q (oneB (UInt8.ofNat 92))) (oneB (UInt8.ofNat c.toNat)))) (exHP (bldR (cat (cat q (oneB (UInt8.ofNat 92))) (oneB (UInt8.ofNat c.toNat)))) bldL)),some (ce' [pt' 0 0] 92)] 1100 (h45' l c q r k1')) (VT.ite (↑c.toNat == o' 92) (VT.leaf (AX.normal,[s' r,pt' 1 0,AV.func (Fn.func 56) [] [pt' 1 0]],59) [some (AO.own (Md.text (cat (cat q (oneB (UInt8.ofNat 92))) (oneB (UInt8.ofNat c.toNat)))) (exHP (bldR (cat (cat q (oneB (UInt8.ofNat 92))) (oneB (UInt8.ofNat c.toNat)))) bldL)),some (ce' [pt' 0 0] 92)] 1100 (h45' l c q r k1')) (VT.ite (decide (↑c.toNat < o' 32)) (VT.leaf (AX.normal,[s' r,pt' 1 0,AV.func (Fn.func 56) [] [pt' 1 0]],59) [some (AO.own (Md.text (cat q (tB [92,117,48,48,hd ((UInt8.ofNat c.toNat).toNat / 16),hd ((UInt8.ofNat c.toNat).toNat % 16)]))) (exHP (bldR (cat q (tB [92,117,48,48,hd ((UInt8.ofNat c.toNat).toNat / 16),hd ((UInt8.ofNat c.toNat).toNat % 16)]))) bldL)),some (ce' [pt' 0 0] 92)] 1100 (h44' l c ((k46' q c).a ((k43' l r).a k1')))) (VT.leaf (AX.normal,[s' r,pt' 1 0,AV.func (Fn.func 56) [] [pt' 1 0]],59) [some (AO.own (Md.text (cat q p)) (exHP (bldR (cat q p)) bldL)),some (ce' [pt' 0 0] 92)] 1100 (h48' l c ((k47' l p).a ((k42' q p).a ((k43' l r).a k1')))))))) := χ
theorem oQE_eq (W : World) (q l : Δ) (F : HP) : BU' conQ (AD' [hf' fQ 3 2]) [] W fQ (AA' fQ 3) (tms 0 59 (aQ l)) (oQ q) [0, 1] [1, 2, 4] F = VT.leaf (AX.exit 0,[s' l,pt' 1 0,AV.func (Fn.func 56) [] [pt' 1 0]],59) [some (AO.own (Md.text q) (exHP (bldR q) bldL)),some (ce' [pt' 0 0] 92)] 1100 ((wb' (decide (↑l.size > o' 0)) g').a k1') := χ
theorem IO' (l : Γ) : 1 <= dN l := Lib.decodeL_width l
def errQ (l : Γ) : Bool := o' (dR l) == o' 65533 && (o' (dN l) == o' 1)
def D5' (c : UInt8) (l : Γ) : Γ := if errQ l then [92, 117, 100, 99] ++ hx c else if c = 34 \/ c = 92 then [92, c] else if c.toNat < 32 then [92, 117, 48, 48] ++ hx c else l.take (dN l)
def qL : Γ -> Γ
 | [] => []
 | c :: l => D5' c (c :: l) ++ qL ((c :: l).drop (dN (c :: l)))
 termination_by l => l.length
 decreasing_by
  have := IO' (c :: l); rw [ld', lc']; omega
def qT (s t : Δ) : Δ := cat s (tB (qL (bts t)))
def gQ (tmps : List AV) : AP (Nat × Nat × Δ × Δ) := match getL tmps 1 with
 | .v (.string l) => match getL tmps 2 with
  | .ptr b _ => .read b fun o => match o with
   | .cells [.ptr a _] _ => .read a fun o => match o with
    | .own m _ => match m with
     | .text s => .ret (a, b, s, l)
     | _ => .fail "quote"
    | _ => .fail "quote"
   | _ => .fail "quote"
  | _ => .fail "quote"
 | _ => .fail "quote"
def lQ (s t : Δ) : List AV -> AP (AX × List AV) := mkL gQ (fun q => q.2.2.1 = s /\ q.2.2.2 = t) (fun q k => match Nat.beq k 0 with | true => q.1 | false => q.2.1) (fun q => tms 0 59 (aQ q.2.2.2)) (fun q => oQ q.2.2.1) (fun q => .leaf (.exit 0) (tms 0 59 [(2, .ptr 1 0)]) (oQ (qT q.2.2.1 q.2.2.2)))
theorem oQ_eq (W : World) (s t : Δ) (F : HP) : wRun conQ B4' [(fQ, 3, AA' fQ 3, lQ (cat s (oneB 34)) t)] W fQ [.ptr 0 0, sv t] [(0, bldO s)] [0] F = VT.leaf (AV.tuple []) [some (AO.own (Md.text (cat (qT (cat s (oneB (UInt8.ofNat 34))) t) (oneB (UInt8.ofNat 34)))) (exHP (bldR (cat (qT (cat s (oneB (UInt8.ofNat 34))) t) (oneB (UInt8.ofNat 34)))) bldL))] 1101 (k40'.a (((p' (fitB s)).a ((vw' [pt' 0 0,v' (vi' u8' (o' 34))]).a (f' (OW (AO.own (Md.text s) (exHP (bldR s) bldL)) (AO.own (Md.text s) (exHP (bldR s) bldL)))))).a ((p' ((fQ,3,AA' fQ 3,lQ (cat s (oneB 34)) t).snd.snd.fst = (fQ,3,AA' fQ 3,lQ (cat s (oneB 34)) t).snd.snd.fst)).a ((p' (cat s (oneB (UInt8.ofNat 34)) = cat s (oneB 34) /\ t = t)).a ((p' (VW (pt' 0 0::s' t::pt' 1100 0::u'::AV.func (Fn.func 56) [] [pt' 1100 0]::u'::u'::u'::AV.func (Fn.func 56) [] [pt' 1100 0]::pt' 0 0::v' Value.nilIface::ru16 (ru16 (ru16 ([])))) (a'::s' t::pt' 1100 0::a'::AV.func (Fn.func 56) [] [pt' 1100 0]::ra16 (ra16 (ra16 (ra4 (a'::a'::[]))))))).a ((ow' (AO.own (Md.text (cat s (oneB (UInt8.ofNat 34)))) (exHP (bldR (cat s (oneB (UInt8.ofNat 34)))) bldL))).a ((ow' (ce' [pt' 0 0] 92)).a (k40'.a (((p' (fitB (qT (cat s (oneB (UInt8.ofNat 34))) t))).a ((vw' [pt' 0 0,v' (vi' u8' (o' 34))]).a (f' (OW (AO.own (Md.text (qT (cat s (oneB (UInt8.ofNat 34))) t)) (exHP (bldR (qT (cat s (oneB (UInt8.ofNat 34))) t)) bldL)) (AO.own (Md.text (qT (cat s (oneB (UInt8.ofNat 34))) t)) (exHP (bldR (qT (cat s (oneB (UInt8.ofNat 34))) t)) bldL)))))).a k1'))))))))) := χ
end
structure LWQ (W : World) : Prop where
 tabs : Lib.Utf8Tabs 2 3 W
variable {W : World}
theorem NP' (a b : Nat) (t : Δ) (c : UInt8) : RO (gOwn a b t c) := by
 unfold gOwn
 refine RO.read _ _ fun o => ?_
 split
 ·split
  ·exact RO.ret _
  ·exact RO.fail _
 ·exact RO.fail _
theorem gWB_ro (args : List AV) : RO (gWB args) := by
 unfold gWB; split
 ·split
  ·exact NP' _ _ _ _
  ·exact RO.fail _
 ·exact RO.fail _
theorem gP' (args : List AV) : RO (gWS args) := by
 unfold gWS; split
 ·exact NP' _ _ _ _
 ·exact RO.fail _
theorem gHx_ro (args : List AV) : RO (gHx args) := by
 unfold gHx; split
 ·split
  ·refine RO.read _ _ fun o => ?_
   split
   ·exact NP' _ _ _ _
   ·exact RO.fail _
  ·exact RO.fail _
 ·exact RO.fail _
theorem d9' (K : Nat -> Bool) (h : K 0 = true) (q : Δ) : ∀ x ∈ oQ q, x.2.cl K := A2' Ye (A2' ⟨h, Ye⟩ A4')
theorem MZ' (F : HP) (hF : AH' W F) : C1OK Θ F fWB cWB :=
 BF' hF (fun _ => .v .nilIface) gWB_ro (fun _ => rfl) (fun q hq => WB_tri q.s q.c hq) fun q => ⟨rfl, rfl, ⟨rfl, Ye, Ye⟩, A2' Ye A4', ⟨Ye, Ye⟩, A2' Ye A4'⟩
theorem MY' (F : HP) (hF : AH' W F) : C1OK Θ F fWS cWS :=
 BF' hF (fun q => .tuple [iv (o' q.t.size), .v .nilIface]) gP' (fun _ => rfl) (fun q hq => WS_tri q.s q.t hq.1 hq.2.1 hq.2.2) fun q => ⟨rfl, rfl, ⟨rfl, Ye, Ye⟩, A2' Ye A4', ⟨⟨Ye, Ye, Ye⟩, Ye⟩, A2' Ye A4'⟩
theorem JX' (c : UInt8) : UInt8.ofNat c.toNat = c := UInt8.ofNat_toNat
theorem VL' {i : Nat} (c : UInt8) : VW [pt' i 0, v' (.int .u8 (c.toNat : Int))] [pt' i 0, v' (.int .u8 ((UInt8.ofNat c.toNat).toNat : Int))] := by rw [JX']; exact Yb
theorem hd_at (h : n < 16) : Wk (v' (vi' u8' (([48, 49, 50, 51, 52, 53, 54, 55, 56, 57, 97, 98, 99, 100, 101, 102] : Γ).getD n 0).toNat)) (v' (vi' u8' (hd n).toNat)) := Ya
theorem shr4 (c : UInt8) : ((c.toNat : Nat) : Int).fdiv (o' 16) = o' (c.toNat / 16) := by
 simp only [Z0]; rw [Int.fdiv_eq_ediv_of_nonneg _ ω]; omega
theorem and15 : ∀ c : Fin 256, IntKind.u8.wrap ((BitVec.ofInt 8 (c.val : Int) &&& BitVec.ofInt 8 (o' 15)).toNat : Int) = o' (c.val % 16) := by decide +kernel
theorem and15' (c : UInt8) : IntKind.u8.wrap ((BitVec.ofInt 8 (c.toNat : Int) &&& BitVec.ofInt 8 (o' 15)).toNat : Int) = o' (c.toNat % 16) := and15 ⟨c.toNat, c.toNat_lt⟩
theorem Hx_tri (q t : Δ) (c : UInt8) (hq : q.size <= 1000000000) (ht : t.size <= 1000000000) (h0 : 0 < t.size) (hqt : q.size + t.size <= 999999990) : Tri Θ W fHx [sv t, byv c, .ptr 1 0] (oQ q) (.tuple []) (oQ (cat q (tB (bts t ++ hx c)))) := by
 have hc := c.toNat_lt
 have n1 : c.toNat / 16 < 16 := ω
 have n2 : c.toNat % 16 < 16 := ω
 have e1 := shr4 c; have e2 := and15' c
 have f1 : fitB (cat q t) := by unfold fitB; rw [BH']; omega
 have f2 : fitB (cat (cat q t) (oneB (UInt8.ofNat (hd (c.toNat / 16)).toNat))) := by
  unfold fitB; rw [BH', BH']; have : (oneB (UInt8.ofNat (hd (c.toNat / 16)).toNat)).size = 1 := rfl; omega
 have hfin : cat (cat (cat q t) (oneB (UInt8.ofNat (hd (c.toNat / 16)).toNat))) (oneB (UInt8.ofNat (hd (c.toNat % 16)).toNat)) = cat q (tB (bts t ++ hx c)) := by
  rw [JX', JX', RS', RS']; rfl
 refine AN' (con := [(fWS, cWS), (fWB, cWB)]) (hints := AD' [(fHx, 1, 2, hv (.v (.int .u8 (o' (c.toNat / 16))))), (fHx, 1, 3, h0v (byv (hd (c.toNat / 16)))), (fHx, 2, 2, hv (.v (.int .u8 (o' (c.toNat % 16))))), (fHx, 2, 3, h0v (byv (hd (c.toNat % 16))))]) (lc := []) [0, 1] rfl (fun F hF => AP' (MY' F hF) (BT' (MZ' F hF))) (fun F _ => noL) fun F => ?_
 refine Yj (oHx_eq W q t c (hd (c.toNat / 16)) (hd (c.toNat % 16)) (c.toNat / 16) (c.toNat % 16) F) ⟨⟨?_, (AJ' (vs' := [.tuple []]) (H' := oQ (cat q (tB (bts t ++ hx c)))) [] rfl rfl (Yb) ⟨⟨_, rfl, by rw [<- hfin]; exact Yc⟩, ⟨_, rfl, Yc⟩, Ye⟩).fits rfl⟩⟩
 simp only [ch', bl', true_and, and_true]; and_intros; all_goals first | exact hq | exact ht | exact h0 | exact n1 | exact n2 | exact IY' e1 | exact IY' e2 | exact hd_at n1 | exact hd_at n2 | exact f1 | exact f2 | exact VL' _ | exact Kb0'
variable {W : World}
theorem ZY' (F : HP) (hF : AH' W F) : C1OK Θ F fHx cHx :=
 BF' hF (fun _ => .tuple []) gHx_ro (fun _ => rfl) (fun q hq => Hx_tri q.s q.t q.c hq.1 hq.2.1 hq.2.2.1 hq.2.2.2) fun q => ⟨rfl, rfl, ⟨Ye, Ye, rfl, Ye⟩, d9' _ rfl _, ⟨Ye, Ye⟩, d9' _ rfl _⟩
theorem n4' (s : Δ) (h : 0 < s.size) : Lib.decodeGo s = Lib.decodeL (bts s) := by
 unfold Lib.decodeGo Lib.decodeL; rw [if_neg ω]; rfl
theorem JM' (hW : LWQ W) (F : HP) (hF : AH' W F) : C1OK Θ F fDec cDec :=
 VU' hF (fun s => [.string s]) (fun s => .tuple #[.int .i32 (o' (dR (bts s))), .int .i64 (o' (dN (bts s)))]) eO' (fun p N => vr_t2 N _ _) fun s hs w hw => by
  have hT : Lib.Utf8Tabs 2 3 w := ⟨fun c hc => hw.cell (hW.tabs.1 c hc), fun i hi => ⟨hw.cell (hW.tabs.2 i hi).1, hw.cell (hW.tabs.2 i hi).2⟩⟩
  have h := Tryd.utf8_DecodeRuneInString s w hT; rw [n4' s hs] at h; exact h
theorem Q0' (l : Γ) (h : 0 < l.length) : dN l <= l.length := by
 unfold dN Lib.decodeL; rw [Lib.decode_at]
 have hs : (ByteArray.mk l.toArray).size = l.length := by simp [ByteArray.size]
 rw [hs]; unfold Lib.decodeN
 repeat' split
 all_goals (simp only; omega)
theorem ZP' (l : Γ) : dN l <= 4 := by
 unfold dN Lib.decodeL; rw [Lib.decode_at]; unfold Lib.decodeN
 repeat' split
 all_goals (simp only; omega)
theorem LC' (c : UInt8) : (hx c).length = 2 := rfl
theorem Q3' (c : UInt8) (l : Γ) (h : 0 < l.length) : (D5' c l).length <= 6 * dN l /\ 0 < (D5' c l).length := by
 have h1 := IO' l; have h2 := Q0' l h; unfold D5'
 repeat' split
 ·rw [la', LC']; simp only [lc', List.length_nil]; omega
 ·simp only [lc', List.length_nil]; omega
 ·rw [la', LC']; simp only [lc', List.length_nil]; omega
 ·rw [List.length_take]; omega
theorem J5' (c : UInt8) (l : Γ) : qL (c :: l) = D5' c (c :: l) ++ qL ((c :: l).drop (dN (c :: l))) := by rw [qL]
theorem g3' : ∀ (n : Nat) (l : Γ), l.length <= n -> (qL l).length <= 6 * l.length
 | 0, l, h => by
  have : l = [] := List.eq_nil_of_length_eq_zero ω; subst this; rw [qL]; simp
 | n + 1, [], h => by rw [qL]; simp
 | n + 1, c :: l, h => by
  have h1 := Q3' c (c :: l) (by simp); have h2 := IO' (c :: l); have h3 := Q0' (c :: l) (by simp); have ih := g3' n ((c :: l).drop (dN (c :: l))) (by rw [ld', lc'] at *; omega); rw [ld'] at ih; rw [J5', la']; omega
theorem TI' (h : (o' (dR l) == o' 65533) = false) : errQ l = false := by unfold errQ; rw [h]; rfl
theorem TH' (h : (o' (dN l) == o' 1) = false) : errQ l = false := by unfold errQ; rw [h, Bool.and_false]
theorem c_eq (hn : n < 256) : ((c.toNat : Int) == o' n) = true ↔ c = UInt8.ofNat n := by
 rw [beq_iff_eq]
 constructor
 ·intro h; simp only [Z0] at h
  have h2 : c.toNat = n := ω
  rw [<- h2, JX']
 ·intro h; subst h; simp only [Z0]; rw [UInt8.toNat_ofNat']; omega
theorem tE (h1 : (o' (dR l) == o' 65533) = true) (h2 : (o' (dN l) == o' 1) = true) : cat s (tB [92, 117, 100, 99, hd ((UInt8.ofNat c.toNat).toNat / 16), hd ((UInt8.ofNat c.toNat).toNat % 16)]) = cat s (tB (D5' c l)) := by
 have : errQ l = true := by unfold errQ; rw [h1, h2]; rfl
 unfold D5'; rw [if_pos this, JX']; rfl
theorem tQ (hE : errQ l = false) (h : c = 34 \/ c = 92) : cat (cat s (oneB (UInt8.ofNat 92))) (oneB (UInt8.ofNat c.toNat)) = cat s (tB (D5' c l)) := by
 unfold D5'; rw [if_neg (by rw [hE]; decide), if_pos h, JX']; exact gY' s [92] [c]
theorem tC (hE : errQ l = false) (h34 : ((c.toNat : Int) == o' 34) = false) (h92 : ((c.toNat : Int) == o' 92) = false) (h : decide ((c.toNat : Int) < o' 32) = true) : cat s (tB [92, 117, 48, 48, hd ((UInt8.ofNat c.toNat).toNat / 16), hd ((UInt8.ofNat c.toNat).toNat % 16)]) = cat s (tB (D5' c l)) := by
 have h := of_decide_eq_true h; simp only [Z0] at h
 have hno : ¬ (c = 34 \/ c = 92) := by
  rintro (e | e)
  ·rw [(c_eq (n := 34) δ).2 e] at h34; cases h34
  ·rw [(c_eq (n := 92) δ).2 e] at h92; cases h92
 unfold D5'; rw [if_neg (by rw [hE]; decide), if_neg hno, if_pos ω, JX']; rfl
theorem tD {p : Δ} (hE : errQ l = false) (h34 : ((c.toNat : Int) == o' 34) = false) (h92 : ((c.toNat : Int) == o' 92) = false) (h : decide ((c.toNat : Int) < o' 32) = false) (hp : bts p = l.take (dN l)) : cat s p = cat s (tB (D5' c l)) := by
 have h := of_decide_eq_false h; simp only [Z0] at h
 have hno : ¬ (c = 34 \/ c = 92) := by
  rintro (e | e)
  ·rw [(c_eq (n := 34) δ).2 e] at h34; cases h34
  ·rw [(c_eq (n := 92) δ).2 e] at h92; cases h92
 unfold D5'; rw [if_neg (by rw [hE]; decide), if_neg hno, if_neg ω, <- hp]
 congr 1
theorem DN' {a b : Δ} {σ : Nat -> Nat} (h : a = b) : OW (AO.own (Md.text a) (exHP (bldR a) bldL)) ((bldO b).ren σ) := by subst h; exact Yc
theorem q_loop (hW : LWQ W) (s0 t0 : Δ) (R : Δ) (hR : qT s0 t0 = R) (hs : s0.size + (qL (bts t0)).length <= 999999000) : LTri Θ W (AA' fQ 3) (tms 0 59 (aQ t0)) (oQ s0) (.exit 0) (tms 0 59 [(2, .ptr 1 0)]) (oQ R) := by
 refine CC' (W := W) (g := fQ) (b := AA' fQ 3) (σ := {p : Δ × Δ // qT p.1 p.2 = R /\ p.1.size + (qL (bts p.2)).length <= 999999000}) 59 (fun p => aQ p.1.2) (fun p => oQ p.1.1) (.exit 0) [(2, .ptr 1 0)] (oQ R) (fun p => p.1.2.size) [0, 1] [1, 2, 4] (by intro h; cases h) (fun _ => rfl) rfl ?_ ⟨(s0, t0), hR, hs⟩; rintro ⟨⟨s, l⟩, hE, hsz⟩; simp only at hE hsz ⊢
 by_cases h0 : 0 < l.size
 ·obtain ⟨c, hc⟩ : ∃ c, (bts l).getD 0 0 = c := ⟨_, rfl⟩; have hby := by_wk hc; have e1 : decide ((l.size : Int) > o' 0) = true := decide_eq_true (by simp only [Z0]; omega); have hn1 := IO' (bts l); have hn2 : dN (bts l) <= l.size := Q0' (bts l) h0; obtain ⟨r, hr⟩ : ∃ r, l.extract (dN (bts l)) l.size = r := ⟨_, rfl⟩; obtain ⟨p, hp⟩ : ∃ p, l.extract 0 (dN (bts l)) = p := ⟨_, rfl⟩
  have hrb : bts r = (bts l).drop (dN (bts l)) := by rw [<- hr]; exact Lib.extract_to_end _ _
  have hpb : bts p = (bts l).take (dN (bts l)) := by
   rw [<- hp]; show (l.extract 0 (dN (bts l))).data.toList = _; rw [Lib.extract_data, List.drop_zero, Nat.sub_zero]; rfl
  have hrs : r.size = l.size - dN (bts l) := by rw [<- B2', hrb, ld', B2']
  have hps : p.size = dN (bts l) := by rw [<- B2', hpb, List.length_take, B2']; omega
  have hcl := Q3' c (bts l) h0
  have hcons : ∃ m, bts l = c :: m := by
   cases hb : bts l with
   | nil => have : l.size = 0 := congrArg List.length hb; omega
   | cons a m => rw [hb] at hc; exact ⟨m, by rw [<- hc]; rfl⟩
  have hinv : qT (cat s (tB (D5' c (bts l)))) r = R := by
   rw [<- hE]; unfold qT; rw [gY', hrb]; obtain ⟨m, hm⟩ := hcons; rw [hm, J5']
  have hinv2 : (cat s (tB (D5' c (bts l)))).size + (qL (bts r)).length <= 999999000 := by
   rw [BH', DJ', hrb]; obtain ⟨m, hm⟩ := hcons; rw [hm, J5', la'] at hsz; rw [hm]; omega
  have hn4 := ZP' (bts l)
  have hdec : r.size < l.size := ω
  have fs : fitB s := by unfold fitB; omega
  have fs1 : fitB (cat s (oneB (UInt8.ofNat 92))) := by unfold fitB; rw [BH']; have : (oneB (UInt8.ofNat 92)).size = 1 := rfl; omega
  have fp : fitB p := by unfold fitB; omega
  have fp0 : 0 < p.size := ω
  have hrw : Wk (v' (.string (l.extract (dN (bts l)) l.size))) (v' (.string r)) := Wk.of_eq (by rw [hr]); have hpw : Wk (v' (.string (l.extract 0 (dN (bts l))))) (v' (.string p)) := Wk.of_eq (by rw [hp])
  have hx1 : fitB (ByteArray.mk (Array.mk [92, 117, 100, 99])) /\ fitB (ByteArray.mk (Array.mk [92, 117, 48, 48])) := ⟨by unfold fitB; decide, by unfold fitB; decide⟩
  have hx2 : s.size + 4 <= 999999990 := ω
  have h34 : 0 < 4 := δ
  refine ⟨conQ, hQ c p r, [], fun F hF => AP' (JM' hW F hF) (AP' (ZY' F hF) (AP' (MY' F hF) (BT' (MZ' F hF)))), fun _ _ => noL, fun F => ?_⟩
  refine cast (congrArg (VAll _) (oQR_eq W s l p r c F).symm) ?_
  repeat' refine VAll.ite (fun hb => ?_) (fun hb => ?_)
  all_goals
   refine ⟨⟨?_, rfl, .inl ⟨rfl, ⟨(cat s (tB (D5' c (bts l))), r), hinv, hinv2⟩, hdec, [], rfl, rfl, ⟨Ya, Ya, Ya, Ye⟩, ⟨_, rfl, DN' (by first
    | exact tE (by assumption) (by assumption)
    | exact tQ (by first | exact TI' (by assumption) | exact TH' (by assumption)) (.inl ((c_eq δ).1 (by assumption)))
    | exact tQ (by first | exact TI' (by assumption) | exact TH' (by assumption)) (.inr ((c_eq δ).1 (by assumption)))
    | exact tC (by first | exact TI' (by assumption) | exact TH' (by assumption)) (by assumption) (by assumption) (by assumption)
    | exact tD (by first | exact TI' (by assumption) | exact TH' (by assumption)) (by assumption) (by assumption) (by assumption) hpb)⟩, ⟨_, rfl, Yc⟩, Ye⟩⟩⟩
   simp only [ch', bl', true_and, and_true]; and_intros; all_goals first | (with_reducible exact Ye) | (with_reducible exact rfl) | (with_reducible exact Ya) | (with_reducible exact Yb) | (with_reducible exact Yc) | (with_reducible exact h0) | (with_reducible exact hn2) | (with_reducible exact fs) | (with_reducible exact fs1) | (with_reducible exact fp) | (with_reducible exact fp0) | (with_reducible exact hx1.1) | (with_reducible exact hx1.2) | (with_reducible exact hx2) | (with_reducible exact hrw) | (with_reducible exact hpw) | (with_reducible exact hby) | (with_reducible exact Yd) | (with_reducible exact Nat.zero_le _) | (with_reducible exact Nat.succ_pos _) | (with_reducible exact A0' e1) | (with_reducible exact VL' _) | (rw [JX']; with_reducible exact Yb) | exact h34 | exact A0' e1 | exact hby
 ·have hl : bts l = [] := List.eq_nil_of_length_eq_zero (by rw [B2']; omega)
  have hsR : s = R := by
   rw [<- hE]; unfold qT; rw [hl, qL, ZV']
  subst hsR; have e1 : decide ((l.size : Int) > o' 0) = false := decide_eq_false (by simp only [Z0]; omega)
  refine ⟨conQ, AD' [hf' fQ 3 2], [], fun F hF => AP' (JM' hW F hF) (AP' (ZY' F hF) (AP' (MY' F hF) (BT' (MZ' F hF)))), fun _ _ => noL, fun F => ?_⟩
  refine Yj (oQE_eq W s l F) ⟨⟨?_, rfl, .inr ⟨rfl, [], rfl, rfl, ⟨Ya, Ye⟩, ⟨_, rfl, Yc⟩, ⟨_, rfl, Yc⟩, Ye⟩⟩⟩; exact Cb1'
def finP (v m n : Nat) : Nat := if v < m then 0 else if 1114111 < v then 0 else if 55296 <= v then (if v <= 57343 then 0 else n) else n
theorem finN_P (v m n : Nat) : finN v m n = finP v m n := by
 unfold finN finP
 have h1 : (decide (o' v < o' m) = true) = (v < m) := by rw [decide_eq_true_eq]; exact propext ⟨fun h => by simp only [Z0] at h; omega, fun h => by simp only [Z0]; omega⟩
 have h2 : (decide (o' v > o' 1114111) = true) = (1114111 < v) := by rw [decide_eq_true_eq]; exact propext ⟨fun h => by simp only [Z0] at h; omega, fun h => by simp only [Z0]; omega⟩
 have h3 : (decide (o' v >= o' 55296) = true) = (55296 <= v) := by rw [decide_eq_true_eq]; exact propext ⟨fun h => by simp only [Z0] at h; omega, fun h => by simp only [Z0]; omega⟩
 have h4 : (decide (o' v <= o' 57343) = true) = (v <= 57343) := by rw [decide_eq_true_eq]; exact propext ⟨fun h => by simp only [Z0] at h; omega, fun h => by simp only [Z0]; omega⟩
 simp only [h1, h2, h3, h4]
theorem mW' (p : Prop) [Decidable p] (o : Option Nat) (m n : Nat) : finO (if p then none else o) m n = if p then 0 else finO o m n := by
 by_cases h : p
 ·rw [if_pos h, if_pos h]; rfl
 ·rw [if_neg h, if_neg h]
theorem Z5' (v m n : Nat) : finO (some v) m n = finP v m n := finN_P v m n
def chP (n b0 b1 b2 b3 : Nat) : Nat := if b0 < 128 then 1 else if b0 < 192 then 0
 else if b0 < 224 then (if n < 2 then 0 else if b1 < 128 then 0 else if 191 < b1 then 0 else finP ((b0 - 192) * 64 + b1 - 128) 128 2)
 else if b0 < 240 then (if n < 3 then 0 else if b1 < 128 then 0 else if 191 < b1 then 0 else if b2 < 128 then 0 else if 191 < b2 then 0 else finP (((b0 - 224) * 64 + b1 - 128) * 64 + b2 - 128) 2048 3)
 else if b0 < 248 then (if n < 4 then 0 else if b1 < 128 then 0 else if 191 < b1 then 0 else if b2 < 128 then 0 else if 191 < b2 then 0 else if b3 < 128 then 0 else if 191 < b3 then 0 else finP ((((b0 - 240) * 64 + b1 - 128) * 64 + b2 - 128) * 64 + b3 - 128) 65536 4)
 else 0
theorem RO' (l : Γ) (i : Nat) : EX' l i = chP (l.length - i) (l.getD i 0).toNat (l.getD (i + 1) 0).toNat (l.getD (i + 2) 0).toNat (l.getD (i + 3) 0).toNat := by
 unfold EX' chP chF; simp only [show 2 - 1 = 1 from rfl, show 3 - 1 = 2 from rfl, show 4 - 1 = 3 from rfl, chK, mW', Z5']
theorem mV' (n b0 b1 b2 b3 : Nat) (h0 : b0 < 256) (h1 : b1 < 256) (h2 : b2 < 256) (h3 : b3 < 256) : chP n b0 b1 b2 b3 = if (Lib.decodeN n b0 b1 b2 b3).1 = 65533 /\ (Lib.decodeN n b0 b1 b2 b3).2 = 1 then 0 else (Lib.decodeN n b0 b1 b2 b3).2 := by
 unfold chP
 by_cases c1 : b0 < 128
 ·have e : Lib.decodeN n b0 b1 b2 b3 = (b0, 1) := by unfold Lib.decodeN; rw [if_pos c1]
  rw [if_pos c1, e, if_neg (by simp only; omega)]
 rw [if_neg c1]
 have err : ∀ {z : Nat × Nat}, z = (65533, 1) -> (if z.1 = 65533 /\ z.2 = 1 then 0 else z.2) = 0 := fun h => by rw [h]; rfl
 have ok : ∀ {z : Nat × Nat} {v k : Nat}, z = (v, k) -> k ≠ 1 -> (if z.1 = 65533 /\ z.2 = 1 then 0 else z.2) = k := fun h hk => by rw [h, if_neg (fun h => hk h.2)]
 by_cases c2 : b0 < 192
 ·rw [if_pos c2]; refine (err ?_).symm; unfold Lib.decodeN; rw [if_neg c1, if_neg ω, if_neg ω, if_neg ω]
 rw [if_neg c2]
 by_cases c3 : b0 < 224
 ·rw [if_pos c3]
  by_cases hx : n < 2 \/ b1 < 128 \/ 191 < b1
  ·have e : Lib.decodeN n b0 b1 b2 b3 = (65533, 1) := by
    unfold Lib.decodeN; rw [if_neg c1, if_neg ω, if_neg ω, if_neg ω]
   rw [err e]; split
   ·rfl
   split
   ·rfl
   split
   ·rfl
   ·omega
  ·rw [if_neg ω, if_neg ω, if_neg ω]; unfold finP
   have hv : (b0 - 192) * 64 + b1 - 128 = b0 % 32 * 64 + b1 % 64 := ω
   rw [hv]
   by_cases hq : b0 % 32 * 64 + b1 % 64 >= 128
   ·have e : Lib.decodeN n b0 b1 b2 b3 = (b0 % 32 * 64 + b1 % 64, 2) := by
     unfold Lib.decodeN; rw [if_neg c1, if_pos ω, if_pos hq]
    rw [ok e δ, if_neg ω, if_neg ω, if_neg ω]
   ·have e : Lib.decodeN n b0 b1 b2 b3 = (65533, 1) := by
     unfold Lib.decodeN; rw [if_neg c1, if_pos ω, if_neg hq]
    rw [err e, if_pos ω]
 rw [if_neg c3]
 by_cases c4 : b0 < 240
 ·rw [if_pos c4]
  by_cases hx : n < 3 \/ b1 < 128 \/ 191 < b1 \/ b2 < 128 \/ 191 < b2
  ·have e : Lib.decodeN n b0 b1 b2 b3 = (65533, 1) := by
    unfold Lib.decodeN; rw [if_neg c1, if_neg ω, if_neg ω, if_neg ω]
   rw [err e]; split
   ·rfl
   split
   ·rfl
   split
   ·rfl
   split
   ·rfl
   split
   ·rfl
   ·omega
  ·rw [if_neg ω, if_neg ω, if_neg ω, if_neg ω, if_neg ω]; unfold finP
   have hv : ((b0 - 224) * 64 + b1 - 128) * 64 + b2 - 128 = b0 % 16 * 4096 + b1 % 64 * 64 + b2 % 64 := ω
   rw [hv]
   by_cases hq : b0 % 16 * 4096 + b1 % 64 * 64 + b2 % 64 >= 2048 /\ (b0 % 16 * 4096 + b1 % 64 * 64 + b2 % 64 < 55296 \/ (57344 <= b0 % 16 * 4096 + b1 % 64 * 64 + b2 % 64 /\ b0 % 16 * 4096 + b1 % 64 * 64 + b2 % 64 <= 1114111))
   ·have e : Lib.decodeN n b0 b1 b2 b3 = (b0 % 16 * 4096 + b1 % 64 * 64 + b2 % 64, 3) := by
     unfold Lib.decodeN; rw [if_neg c1, if_neg ω, if_pos ω, if_pos hq]
    rw [ok e δ, if_neg ω, if_neg ω]; split
    ·rw [if_neg ω]
    ·rfl
   ·have e : Lib.decodeN n b0 b1 b2 b3 = (65533, 1) := by
     unfold Lib.decodeN; rw [if_neg c1, if_neg ω, if_pos ω, if_neg hq]
    rw [err e]; split
    ·rfl
    split
    ·rfl
    split
    ·split
     ·rfl
     ·omega
    ·omega
 rw [if_neg c4]
 by_cases c5 : b0 < 248
 ·rw [if_pos c5]
  by_cases hx : n < 4 \/ b1 < 128 \/ 191 < b1 \/ b2 < 128 \/ 191 < b2 \/ b3 < 128 \/ 191 < b3
  ·have e : Lib.decodeN n b0 b1 b2 b3 = (65533, 1) := by
    unfold Lib.decodeN; rw [if_neg c1, if_neg ω, if_neg ω, if_neg ω]
   rw [err e]; split
   ·rfl
   split
   ·rfl
   split
   ·rfl
   split
   ·rfl
   split
   ·rfl
   split
   ·rfl
   split
   ·rfl
   ·omega
  ·rw [if_neg ω, if_neg ω, if_neg ω, if_neg ω, if_neg ω, if_neg ω, if_neg ω]; unfold finP
   have hv : (((b0 - 240) * 64 + b1 - 128) * 64 + b2 - 128) * 64 + b3 - 128 = b0 % 8 * 262144 + b1 % 64 * 4096 + b2 % 64 * 64 + b3 % 64 := ω
   rw [hv]
   by_cases hq : b0 % 8 * 262144 + b1 % 64 * 4096 + b2 % 64 * 64 + b3 % 64 >= 65536 /\ (b0 % 8 * 262144 + b1 % 64 * 4096 + b2 % 64 * 64 + b3 % 64 < 55296 \/ (57344 <= b0 % 8 * 262144 + b1 % 64 * 4096 + b2 % 64 * 64 + b3 % 64 /\ b0 % 8 * 262144 + b1 % 64 * 4096 + b2 % 64 * 64 + b3 % 64 <= 1114111))
   ·have e : Lib.decodeN n b0 b1 b2 b3 = (b0 % 8 * 262144 + b1 % 64 * 4096 + b2 % 64 * 64 + b3 % 64, 4) := by
     unfold Lib.decodeN; rw [if_neg c1, if_neg ω, if_neg ω, if_pos ω, if_pos hq]
    rw [ok e δ, if_neg ω, if_neg ω]; split
    ·rw [if_neg ω]
    ·rfl
   ·have e : Lib.decodeN n b0 b1 b2 b3 = (65533, 1) := by
     unfold Lib.decodeN; rw [if_neg c1, if_neg ω, if_neg ω, if_pos ω, if_neg hq]
    rw [err e]; split
    ·rfl
    split
    ·rfl
    split
    ·split
     ·rfl
     ·omega
    ·omega
 ·rw [if_neg c5]; refine (err ?_).symm; unfold Lib.decodeN; rw [if_neg c1, if_neg ω, if_neg ω, if_neg ω]
theorem TT' (l : Γ) (k : Nat) : (ByteArray.mk l.toArray).get! k = l.getD k 0 := by
 show l.toArray[k]! = _; rw [List.getElem!_toArray, List.getD_eq_getElem?_getD]; simp only [List.getElem!_eq_getElem?_getD]; rfl
theorem GX' (l : Γ) (i : Nat) : EX' l i = if errQ (l.drop i) = true then 0 else dN (l.drop i) := by
 rw [RO', mV' _ _ _ _ _ (UInt8.toNat_lt _) (UInt8.toNat_lt _) (UInt8.toNat_lt _) (UInt8.toNat_lt _)]
 have hd : Lib.decodeL (l.drop i) = Lib.decodeN (l.length - i) (l.getD i 0).toNat (l.getD (i + 1) 0).toNat (l.getD (i + 2) 0).toNat (l.getD (i + 3) 0).toNat := by
  unfold Lib.decodeL; rw [Lib.decode_at, TT', TT', TT', TT']
  have hs : (ByteArray.mk (l.drop i).toArray).size = l.length - i := by simp [ByteArray.size]
  have g : ∀ k, (l.drop i).getD k 0 = l.getD (i + k) 0 := fun k => by rw [List.getD_eq_getElem?_getD, List.getD_eq_getElem?_getD, List.getElem?_drop]
  rw [hs, g, g, g, g]; rfl
 rw [<- hd]; unfold errQ dR dN
 have hq : ((o' (Lib.decodeL (l.drop i)).1 == o' 65533 && (o' (Lib.decodeL (l.drop i)).2 == o' 1)) = true) = ((Lib.decodeL (l.drop i)).1 = 65533 /\ (Lib.decodeL (l.drop i)).2 = 1) := by
  rw [Bool.and_eq_true, beq_iff_eq, beq_iff_eq]
  exact propext ⟨fun h => ⟨Int.ofNat.inj h.1, Int.ofNat.inj h.2⟩, fun h => ⟨congrArg o' h.1, congrArg o' h.2⟩⟩
 simp only [hq]
inductive Rd (α : Type) where
 | err (e : Nat)
 | ok (a : α) (j : Nat)
def isBl (b : UInt8) : Bool := [32, 9, 10, 13].contains b
def skB (l : Γ) (i : Nat) : Nat := i + ((l.drop i).takeWhile isBl).length
def sgA (l : Γ) (i : Nat) : Option UInt8 := l[skB l i]?
def hexV (c : UInt8) : Option Nat :=
 if 48 <= c.toNat /\ c.toNat <= 57 then some (c.toNat - 48)
 else if 97 <= c.toNat /\ c.toNat <= 102 then some (c.toNat - 97 + 10)
 else if 65 <= c.toNat /\ c.toNat <= 70 then some (c.toNat - 65 + 10)
 else none
def CG' : Γ -> Nat -> Option Nat
 | [], n => some n
 | c :: l, n => match hexV c with
  | none => none
  | some d => CG' l (n * 16 + d)
def hexA (l : Γ) (i : Nat) : Option Nat := if i + 4 <= l.length then CG' ((l.drop i).take 4) 0 else none
def utf (n : Nat) : Γ :=
 if n < 128 then [n.toUInt8] else if n < 2048 then [(192 + n / 64).toUInt8, (128 + n % 64).toUInt8] else if n < 65536 then [(224 + n / 4096).toUInt8, (128 + n / 64 % 64).toUInt8, (128 + n % 64).toUInt8]
 else [(240 + n / 262144).toUInt8, (128 + n / 4096 % 64).toUInt8, (128 + n / 64 % 64).toUInt8, (128 + n % 64).toUInt8]
def escF : Γ := [34, 92, 47, 98, 102, 110, 114, 116]
def mX' : Γ := [34, 92, 47, 8, 12, 10, 13, 9]
def whr (l : Γ) (c : UInt8) : Option Nat := l.findIdx? (· == c)
def GT' (l : Γ) (n i : Nat) : Option Nat := if n < 56320 /\ l[i]? = some 92 /\ l[i + 1]? = some 117 then (hexA l (i + 2)).bind fun low => if 56320 <= low /\ low <= 57343 then some low else none else none
def escU (l : Γ) (n i : Nat) : Rd Γ :=
 if n < 55296 \/ 57343 < n then .ok (utf n) i else match GT' l n i with
  | some low => .ok (utf (65536 + (n - 55296) * 1024 + (low - 56320))) (i + 6)
  | none => if n < 56448 \/ 56575 < n then .err 233 else .ok [(n % 256).toUInt8] i
def escP (l : Γ) (i : Nat) : Rd Γ := match l[i]? with
 | none => .err 3
 | some c => match whr escF c with
  | some k => .ok [mX'.getD k 0] (i + 1)
  | none => match hexA l (i + 1) with
   | none => .err 232
   | some n => if c = 117 then escU l n (i + 5) else .err 232
def txtP (l : Γ) : Nat -> Nat -> Γ -> Rd Γ
 | 0, _, _ => .err 0
 | f + 1, i, acc => match l[i]? with
  | none => .err 3
  | some c => if c = 34 then .ok acc (i + 1) else if c.toNat < 32 then .err 233 else if c = 92 then (match escP l (i + 1) with
    | .err e => .err e
    | .ok b j => txtP l f j (acc ++ b))
   else if EX' l i = 0 then .err 233 else txtP l f (i + EX' l i) (acc ++ (l.drop i).take (EX' l i))
def txtA (l : Γ) (i : Nat) : Rd Δ := match txtP l (l.length + 1) i [] with
 | .err e => .err e
 | .ok t j => .ok (tB t) j
def GB' (l : Γ) (i : Nat) (w : Γ) : Bool := (l.drop i).take w.length == w
def plJ (k n : Int) (t : Δ) : Jv := .mk k n t [] []
def hasM (ns : List Δ) (t : Δ) : Bool := (ns.map fun m => m.data.toList).contains t.data.toList
def memP (l : Γ) (i : Nat) (ns : List Δ) : Rd Δ := match sgA l i with
 | none => .err 3
 | some c => if c = 34 then (match txtA l (skB l i + 1) with
   | .err e => .err e
   | .ok t j => if hasM ns t then .err 5 else match sgA l j with
    | none => .err 3
    | some c => if c = 58 then .ok t (skB l j + 1) else .err 231)
  else .err 231
def lsP (V : Nat -> Rd Jv) (l : Γ) : Nat -> Nat -> List Jv -> Rd Jv
 | 0, _, _ => .err 0
 | f + 1, i, vs => match V i with
  | .err e => .err e
  | .ok v j => match sgA l j with
   | none => .err 3
   | some c => if c = 44 then lsP V l f (skB l j + 1) (vs ++ [v]) else if c = 93 then .ok (.mk 5 0 nil0 (vs ++ [v]) []) (skB l j + 1) else .err 231
def obP (V : Nat -> Rd Jv) (l : Γ) : Nat -> Nat -> List Jv -> List Δ -> Rd Jv
 | 0, _, _, _ => .err 0
 | f + 1, i, vs, ns => match memP l i ns with
  | .err e => .err e
  | .ok n j => match V j with
   | .err e => .err e
   | .ok v j => match sgA l j with
    | none => .err 3
    | some c => if c = 44 then obP V l f (skB l j + 1) (vs ++ [v]) (ns ++ [n]) else if c = 125 then .ok (.mk 6 0 nil0 (vs ++ [v]) (ns ++ [n])) (skB l j + 1) else .err 231
def grP (V : Nat -> Rd Jv) (l : Γ) (ob : Bool) (i : Nat) : Rd Jv := match sgA l i with
 | none => .err 3
 | some c => match ob with
  | false => if c = 93 then .ok (plJ 5 0 nil0) (skB l i + 1) else lsP V l (l.length + 1) i []
  | true => if c = 125 then .ok (plJ 6 0 nil0) (skB l i + 1) else obP V l (l.length + 1) i [] []
theorem gG' {V : Nat -> Rd Jv} {l : Γ} : ∀ (f i : Nat) (vs : List Jv) (v : Jv) (j : Nat), lsP V l f i vs = .ok v j -> v.list ≠ []
 | 0, _, _, _, _, h => by cases h
 | f + 1, i, vs, v, j, h => by
  rw [lsP] at h; split at h
  ·cases h
  ·split at h
   ·cases h
   ·split at h
    ·exact gG' f _ _ v j h
    ·split at h
     ·injection h with h3 _; rw [<- h3]; simp [Jv.list]
     ·cases h
theorem g9' {V : Nat -> Rd Jv} {l : Γ} : ∀ (f i : Nat) (vs : List Jv) (ns : List Δ) (v : Jv) (j : Nat), obP V l f i vs ns = .ok v j -> v.names ≠ []
 | 0, _, _, _, _, _, h => by cases h
 | f + 1, i, vs, ns, v, j, h => by
  rw [obP] at h; split at h
  ·cases h
  ·split at h
   ·cases h
   ·split at h
    ·cases h
    ·split at h
     ·exact g9' f _ _ _ v j h
     ·split at h
      ·injection h with h3 _; rw [<- h3]; simp [Jv.names]
      ·cases h
def atP (G : Option (Bool -> Nat -> Rd Jv)) (l : Γ) (c : UInt8) (i : Nat) : Rd Jv :=
 if c = 123 \/ c = 91 then (match G with
  | none => .err 8
  | some G => G (c == 123) (i + 1))
 else if c = 34 then (match txtA l (i + 1) with
  | .err e => .err e
  | .ok t j => .ok (plJ 4 0 t) j)
 else if c = 116 then (if GB' l i [116, 114, 117, 101] then .ok (plJ 2 1 nil0) (i + 4) else .err 231)
 else if c = 102 then (if GB' l i [102, 97, 108, 115, 101] then .ok (plJ 2 0 nil0) (i + 5) else .err 231)
 else if c = 110 then (if GB' l i [110, 117, 108, 108] then .ok (plJ 1 0 nil0) (i + 4) else .err 231)
 else if c = 45 \/ isD c = true then (if (numF l i).2 then .ok (plJ 3 0 (tB ((l.drop i).take ((numF l i).1 - i)))) (numF l i).1 else .err 230)
 else .err 231
def valP (l : Γ) : Nat -> Nat -> Rd Jv
 | 0, i => match sgA l i with
  | none => .err 3
  | some c => atP none l c (skB l i)
 | k + 1, i => match sgA l i with
  | none => .err 3
  | some c => atP (some (grP (valP l k) l)) l c (skB l i)
def parP (l : Γ) : Jv ⊕ Nat := if 65536 < l.length then .inr 1 else match valP l 16 0 with
 | .err e => .inr e
 | .ok v j => if skB l j < l.length then .inr 4 else .inl v
noncomputable section
abbrev fBl : Nat := 26
abbrev fNx : Nat := 40
abbrev fGv : Nat := 27
abbrev tRdr : TypeId := 2 * 57
def rdO (s : Δ) (i : Nat) : AO := .cells [sv s, iv (o' i)] tRdr
def oR (s : Δ) (i : Nat) : LH := [(0, rdO s i)]
def oU (s : Δ) (i : Nat) : LH := [(0, rdO s i), (999, upO)]
def oX (s : Δ) (i : Nat) : LH := [(0, rdO s i), (999, K9' .nothing)]
def trb (c : Nat) : PanT := fun ch => c <= 255 /\ ch = [{ v := .iface 53 (.agg #[.int .i64 (o' c)]), recovered := false }]
def byA (l : Γ) (i : Nat) : AV := byv (l.getD i 0)
def hBl (x : UInt8) (i : Nat) (b : Bool) : AX' := AD' [ht' fBl 0 9, (fBl, 0, 19, h0v (byv x)), (fBl, 0, 21, hv (.lit b)), (fBl, 1, 4, hv (iv (o' (i + 1))))]
theorem lV' (W : World) (s : Δ) (x : UInt8) (i : Nat) (F : HP) : BU' [(HT', HV')] (hBl x i true) [] W fBl (AA' fBl 0) (tms 0 32 [(0, .ptr 0 0)]) (oR s i) [0] [0] F = VT.leaf (AX.normal,[pt' 0 0],32) [some (ce' [s' s,i' (i + 1)] 114)] 1100 (h14' i s x ((wb' (decide (idxC (ByteArray.mk (Array.mk [32,9,10,13])) ↑x.toNat >= o' 0)) j').a (h2' i k1'))) := χ
theorem lW' (W : World) (s : Δ) (x : UInt8) (i : Nat) (F : HP) : BU' [(HT', HV')] (hBl x i false) [] W fBl (AA' fBl 0) (tms 0 32 [(0, .ptr 0 0)]) (oR s i) [0] [0] F = VT.leaf (AX.exit 0,[pt' 0 0],32) [some (ce' [s' s,i' i] 114)] 1100 (h14' i s x ((wb' (decide (idxC (ByteArray.mk (Array.mk [32,9,10,13])) ↑x.toNat >= o' 0)) g').a k1')) := χ
theorem lX' (W : World) (s : Δ) (i : Nat) (F : HP) : BU' [(HT', HV')] (AD' [hf' fBl 0 9]) [] W fBl (AA' fBl 0) (tms 0 32 [(0, .ptr 0 0)]) (oR s i) [0] [0] F = VT.leaf (AX.exit 0,[pt' 0 0],32) [some (ce' [s' s,i' i] 114)] 1100 (h11' i s ((k10' i s).a k1')) := χ
def lBl (s : Δ) (m e : Nat) : List AV -> AP (AX × List AV) := mkL (fun _ => .ret ()) (fun _ => True) (fun _ k => k) (fun _ => tms 0 32 [(0, .ptr 0 0)]) (fun _ => oR s m) (fun _ => .leaf (.exit 0) (tms 0 32 [(0, .ptr 0 0)]) (oR s e))
theorem oBl_eq (W : World) (s : Δ) (m e : Nat) (F : HP) : wRun [] B4' [(fBl, 0, AA' fBl 0, lBl s m e)] W fBl [.ptr 0 0] (oR s m) [0] F = VT.leaf (AV.tuple []) [some (ce' [s' s,i' e] 114)] 1100 ((p' ((fBl,0,AA' fBl 0,lBl s m e).snd.snd.fst = (fBl,0,AA' fBl 0,lBl s m e).snd.snd.fst)).a (k13'.a ((p' (VW (pt' 0 0::ru16 (ru8 (ru4 (u'::u'::u'::[])))) (pt' 0 0::ra16 (ra8 (ra4 (a'::a'::a'::[])))))).a ((ow' (ce' [s' s,i' m] 114)).a k1')))) := χ
structure RS where
 o : Nat
 i : Nat
 s : Δ
def gRS (a : Nat) : AP RS := .read a fun o => match o with
 | .cells [.v (.string s), .v (.int .i64 z)] _ => match z with
  | .ofNat i => .ret ⟨a, i, s⟩
  | _ => .fail "place"
 | _ => .fail "reader"
def gR1 : List AV -> AP RS := fun args => match args with
 | [.ptr a _] => gRS a
 | _ => .fail "reader"
def gR2 : List AV -> AP RS := fun args => match args with
 | [.ptr a _, _] => gRS a
 | _ => .fail "reader"
def nmR (p : RS) : Nat -> Nat := fun k => match Nat.beq k 0 with
 | true => p.o
 | false => k
def cBl : List AV -> Option (AP AV) := mkC gR1 (fun p => p.i <= p.s.size /\ Few p.s.size) nmR (fun _ => [.ptr 0 0]) (fun p => oR p.s p.i) (fun p => .leaf .ret [.tuple []] (oR p.s (skB (bts p.s) p.i)))
def oGive : LH := [(999, upO)]
def cGv (c : Nat) : List AV -> Option (AP AV) := mkC (fun args => match args with | [.v (.int .i64 z)] => (match z with | .ofNat n => .ret n | _ => .fail "give") | _ => .fail "give") (fun n => n = c /\ n <= 255) (fun _ k => k) (fun n => [iv (o' n)]) (fun _ => oGive) (fun _ => .leaf .ret [.tuple []] [(999, K9' .nothing)])
abbrev k49' : Cnd := (p' (∀ (a b : Nat) (D : Nat -> Prop) (w : World),¬(noH a b).on D w))
abbrev k50' (q0 : Nat) : Cnd := ((p' (3 = q0 /\ 3 <= 255)).a ((vw' [i' 3]).a (f' (OW Ω Ω))))
abbrev k51' (q0 : Δ) : Cnd := (ee' (s' q0))
abbrev k52' (q0 : Δ) (q1 : Nat) : Cnd := (ee' (i' (skB (bts q0) q1)))
abbrev k53' (q0 : Nat) (q1 : Δ) : Cnd := ((p' (q0 <= q1.size /\ Few q1.size)).a ((vw' [pt' 0 0]).a (f' (OW (ce' [s' q1,i' q0] 114) (ce' [s' q1,i' q0] 114)))))
theorem gA' (R : PanT) (W : World) (s : Δ) (i c : Nat) (x : UInt8) (F : HP) : uRun R [(fBl, cBl), (fGv, cGv c)] (AD' [(fNx, 4, 8, h0v (byv x))]) [] W fNx [.ptr 0 0] (oU s i) [0, 999] F = VT.ite (o' (skB (bts s) i) == ↑s.size) (VT.leaf (v' (vi' u8' (o' 0))) [some (ce' [s' s,i' (skB (bts s) i)] 114),some (AO.own Md.nothing noH)] 1100 ((k53' i s).a ((k52' s i).a ((k51' s).a ((k50' c).a (k49'.a k1')))))) (VT.leaf (v' (vi' u8' ↑x.toNat)) [some (ce' [s' s,i' (skB (bts s) i)] 114),some Ω] 1100 ((k53' i s).a ((k52' s i).a ((k51' s).a ((k51' s).a ((k52' s i).a (((p' (skB (bts s) i < s.size)).a (f' (Wk (v' (vi' u8' ↑(s.data.toList.getD (skB (bts s) i) 0).toNat)) (v' (vi' u8' ↑x.toNat))))).a k1'))))))) := χ
end
end Go.Proofs.YtdphpillcaajpaaDoor.Js
