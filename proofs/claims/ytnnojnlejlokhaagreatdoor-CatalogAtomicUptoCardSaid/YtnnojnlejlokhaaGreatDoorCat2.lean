/- Parts of the proof, merged. -/
import Derived.Test.YtnnojnlejlokhaaGreatDoorMd
import Derived.Test.YtnnojnlejlokhaaGreatDoorEngCon
import Derived.Test.YtnnojnlejlokhaaGreatDoorEngRow
import Derived.Test.YtnnojnlejlokhaaGreatDoorEngXCat
import Derived.Test.YtnnojnlejlokhaaGreatDoorEngKit
import Derived.Test.YtnnojnlejlokhaaGreatDoorEngFam
import Derived.Test.YtnnojnlejlokhaaGreatDoorEngSorted
import Derived.Laws.Externs
import Derived.Test.YtnnojnlejlokhaaGreatDoorShelf
import Derived.Test.YtnnojnlejlokhaaGreatDoorEngShut
noncomputable section
set_option linter.unusedVariables false
set_option linter.unusedSimpArgs false
set_option maxRecDepth 100000
set_option linter.unusedSectionVars false
namespace Go.Proofs.YtnnojnlejlokhaaGreatDoor.Wk
open List renaming length_append -> la'
open List renaming append_assoc -> as'
variable {k : Nat}
abbrev Bs := Γ
def be4 (n : Nat) : Bs := [UInt8.ofNat (n / 16777216), UInt8.ofNat (n / 65536), UInt8.ofNat (n / 256), UInt8.ofNat n]
def val : Bs -> Nat := fun b => b.foldl (fun n c => n * 256 + c.toNat) 0
theorem PM' {n : Nat} (h : n < 4294967296) : val (be4 n) = n := by
 simp only [val, be4, List.foldl_cons, List.foldl_nil, UInt8.toNat_ofNat']; omega
theorem CQ' (n : Nat) : (be4 n).length = 4 := rfl
def nib : List Nat := [0x00000000, 0x105ec76f, 0x20bd8ede, 0x30e349b1, 0x417b1dbc, 0x5125dad3, 0x61c69362, 0x7198540d, 0x82f63b78, 0x92a8fc17, 0xa24bb5a6, 0xb21572c9, 0xc38d26c4, 0xd3d3e1ab, 0xe330a81a, 0xf36e6f75]
def nb (k : Nat) : Nat := nib.getD k 0
def half (s : Nat) : Nat := (s >>> 4) ^^^ nb (s &&& 15)
def NJ' (s : Nat) (c : UInt8) : Nat := half (half (s ^^^ c.toNat))
def ovr (s : Nat) (b : Bs) : Nat := b.foldl NJ' s
theorem YZ' (k : Nat) : nb k < 4294967296 := by
 unfold nb
 rcases k with _|_|_|_|_|_|_|_|_|_|_|_|_|_|_|_|k
 all_goals first | decide | (show (0 : Nat) < 4294967296; decide)
theorem Q4' {s : Nat} (h : s < 4294967296) : half s < 4294967296 := by
 have h1 : s >>> 4 < 2 ^ 32 := by rw [Nat.shiftRight_eq_div_pow]; omega
 exact Nat.xor_lt_two_pow (n := 32) h1 (YZ' _)
theorem WB' {s : Nat} (h : s < 4294967296) (c : UInt8) : NJ' s c < 4294967296 := by
 have hc : c.toNat < 2 ^ 32 := by have := c.toNat_lt; omega
 exact Q4' (Q4' (Nat.xor_lt_two_pow (n := 32) h hc))
theorem E9' : ∀ (b : Bs) {s : Nat}, s < 4294967296 -> ovr s b < 4294967296
 | [], s, h => h
 | c :: b, s, h => E9' b (WB' h c)
def ones : Nat := 4294967295
def sumB (r : Bs) : Nat := ovr (ovr ones (be4 r.length)) r ^^^ ones
theorem aD' (r : Bs) : sumB r < 4294967296 := Nat.xor_lt_two_pow (n := 32) (E9' _ (E9' _ δ)) δ
def BF' (r : Bs) : Bs := be4 r.length ++ be4 (sumB r) ++ r
def most : Nat := 1048576
theorem BO' (r : Bs) : (BF' r).length = 8 + r.length := by rw [BF', la', la', CQ', CQ']
def unwB (b : Bs) : Option Bs :=
 if b.length < 8 then none
 else if val (b.take 4) > most then none
 else if val (b.take 4) > b.length - 8 then none
 else if ovr (ovr ones (b.take 4)) ((b.drop 8).take (val (b.take 4))) ^^^ ones = val ((b.drop 4).take 4) then some ((b.drop 8).take (val (b.take 4))) else none
theorem JK' {b d : Bs} (h : unwB b = some d) : 8 + d.length <= b.length := by
 unfold unwB at h
 repeat' split at h
 all_goals first | (cases h; done) | (cases h; rw [List.length_take, List.length_drop]; omega)
def AP' (b : Bs) : List Bs := match h : unwB b with
 | none => []
 | some d => d :: AP' (b.drop (8 + d.length))
termination_by b.length
decreasing_by rw [List.length_drop]; have := JK' h; omega
theorem CR' {b : Bs} (h : unwB b = none) : AP' b = [] := by
 rw [AP']; split
 ·rfl
 ·rename_i h2; rw [h] at h2; cases h2
theorem H0' {b d : Bs} (h : unwB b = some d) : AP' b = d :: AP' (b.drop (8 + d.length)) := by
 rw [AP']; split
 ·rename_i h2; rw [h] at h2; cases h2
 ·rename_i h2; rw [h] at h2; cases h2; rfl
theorem W8' {r : Bs} (h : r.length <= most) (t : Bs) : unwB (BF' r ++ t) = some r := by
 have hm : r.length < 4294967296 := by unfold most at h; omega
 have e0 : BF' r ++ t = be4 r.length ++ (be4 (sumB r) ++ (r ++ t)) := by rw [BF']; simp only [as']
 have e1 : (BF' r ++ t).take 4 = be4 r.length := by rw [e0, List.take_append_of_le_length (Nat.le_refl 4)]; rfl
 have e2 : (BF' r ++ t).drop 4 = be4 (sumB r) ++ (r ++ t) := by rw [e0]; exact List.drop_left' rfl
 have e3 : (BF' r ++ t).drop 8 = r ++ t := by
  rw [show 8 = 4 + 4 from rfl, <- List.drop_drop, e2]; exact List.drop_left' rfl
 have e4 : ((BF' r ++ t).drop 4).take 4 = be4 (sumB r) := by rw [e2, List.take_append_of_le_length (Nat.le_refl 4)]; rfl
 have hl : (BF' r ++ t).length = 8 + r.length + t.length := by rw [la', BO']
 unfold unwB; rw [e1, e3, e4, PM' hm, PM' (aD' r), hl, List.take_left' rfl]; rw [if_neg ω, if_neg ω, if_neg ω]; exact if_pos rfl
theorem W7' (t : Bs) : unwB (List.replicate 8 0 ++ t) = none := by
 have hl : (List.replicate 8 0 ++ t).length = 8 + t.length := by rw [la', List.length_replicate]
 unfold unwB; rw [hl, if_neg ω]; have e1 : (List.replicate 8 (0 : UInt8) ++ t).take 4 = [0, 0, 0, 0] := rfl; have e2 : ((List.replicate 8 (0 : UInt8) ++ t).drop 4).take 4 = [0, 0, 0, 0] := rfl; rw [e1, e2]; have v0 : val [0, 0, 0, 0] = 0 := rfl; rw [v0, if_neg δ, if_neg ω, List.take_zero, if_neg]
 decide
def cat (rs : List Bs) : Bs := rs.flatMap BF'
theorem DS' (r : Bs) (rs : List Bs) : cat (r :: rs) = BF' r ++ cat rs := by rw [cat, List.flatMap_cons]; rfl
theorem I7' (rs : List Bs) (r : Bs) : cat (rs ++ [r]) = cat rs ++ BF' r := by rw [cat, List.flatMap_append, List.flatMap_cons, List.flatMap_nil, List.append_nil]; rfl
def NC' (rs : List Bs) : Prop := ∀ r ∈ rs, r.length <= most
theorem EY' : ∀ (rs : List Bs) (t : Bs), NC' rs -> AP' (cat rs ++ t) = rs ++ AP' t
 | [], t, _ => rfl
 | r :: rs, t, h => by
  rw [DS', as', H0' (W8' (h r List.mem_cons_self) _), <- BO', List.drop_left' rfl, EY' rs t (fun x hx => h x (List.mem_cons_of_mem _ hx))]; rfl
def E8' (b : Bs) (at' : Nat) (d : Bs) : Bs := b ++ List.replicate (at' - b.length) 0 ++ d
inductive Left (S : List Bs) (rs : List Bs) : Nat -> Bs -> Prop where
 | full (k : Nat) : Left S rs k (cat (S ++ rs.take k))
 | gap (k j : Nat) (h : j < k) : Left S rs k (cat (S ++ rs.take j))
 | zero (k j : Nat) (h : j <= k) (t : Bs) : Left S rs k (cat (S ++ rs.take j) ++ (List.replicate 8 0 ++ t))
theorem OX' {S rs : List Bs} {j : Nat} (h : j < k) (hk : k <= rs.length) : (cat (S ++ rs.take j)).length + 8 <= (cat (S ++ rs.take k)).length := by
 obtain ⟨m, rfl⟩ : ∃ m, k = j + 1 + m := ⟨k - j - 1, by omega⟩
 clear h
 induction m with
 | zero =>
  have hj : j < rs.length := ω
  have e : rs.take (j + 1) = rs.take j ++ [rs[j]] := by rw [List.take_add_one, List.getElem?_eq_getElem hj]; rfl
  rw [show j + 1 + 0 = j + 1 from rfl, e, <- as', I7', la', BO']; omega
 | succ m ih =>
  have hj : j + 1 + m < rs.length := ω
  have e : rs.take (j + 1 + m + 1) = rs.take (j + 1 + m) ++ [rs[j + 1 + m]] := by rw [List.take_add_one, List.getElem?_eq_getElem hj]; rfl
  have := ih ω; rw [show j + 1 + (m + 1) = j + 1 + m + 1 from rfl, e, <- as', I7', la']; omega
theorem a0' {n : Nat} (h : 8 <= n) (t : Bs) : List.replicate n 0 ++ t = List.replicate 8 0 ++ (List.replicate (n - 8) (0 : UInt8) ++ t) := by
 rw [<- as', List.replicate_append_replicate]
 congr 2
 omega
theorem Left.keep {S rs : List Bs} {b r : Bs} (h : Left S rs k b) (hr : rs[k]? = some r) : Left S rs (k + 1) (E8' b (cat (S ++ rs.take k)).length (BF' r)) := by
 obtain ⟨hk, hke⟩ := List.getElem?_eq_some_iff.1 hr
 have e : rs.take (k + 1) = rs.take k ++ [r] := by rw [List.take_add_one, hr]; rfl
 cases h with
 | full =>
  rw [E8', Nat.sub_self, List.replicate_zero, List.append_nil, <- I7', as', <- e]; exact .full _
 | gap j hj =>
  have := OX' (S := S) hj (Nat.le_of_lt hk); rw [E8', as', a0' ω]; exact .zero _ _ ω _
 | zero j hj t =>
  rw [E8', as', as', as']; exact .zero _ _ ω _
theorem Left.drop {S rs : List Bs} {b : Bs} (h : Left S rs k b) : Left S rs (k + 1) b := by
 cases h with
 | full => exact .gap _ _ (Nat.lt_succ_self _)
 | gap j hj => exact .gap _ _ ω
 | zero j hj t => exact .zero _ _ ω _
theorem IE' {rs : List Bs} (h : NC' rs) (k : Nat) : NC' (rs.take k) := fun r hr => h r (List.mem_of_mem_take hr)
theorem KX' {S rs : List Bs} (h : NC' S) (h' : NC' rs) : NC' (S ++ rs) := fun r hr => (List.mem_append.1 hr).elim (h r) (h' r)
theorem Left.whole {S rs : List Bs} (hS : NC' S) (hR : NC' rs) {b : Bs} (h : Left S rs k b) : ∃ j, j <= k /\ AP' b = S ++ rs.take j := by
 have h0 : AP' [] = [] := CR' rfl
 cases h with
 | full =>
  have := EY' (S ++ rs.take k) [] (KX' hS (IE' hR _)); rw [List.append_nil, h0, List.append_nil] at this; exact ⟨k, Yd, this⟩
 | gap j hj =>
  have := EY' (S ++ rs.take j) [] (KX' hS (IE' hR _)); rw [List.append_nil, h0, List.append_nil] at this
  exact ⟨j, by omega, this⟩
 | zero j hj t =>
  rw [EY' _ _ (KX' hS (IE' hR _)), CR' (W7' t), List.append_nil]; exact ⟨j, hj, rfl⟩
end Go.Proofs.YtnnojnlejlokhaaGreatDoor.Wk
namespace Go.Proofs.YtnnojnlejlokhaaGreatDoor.Eng
open Go Go.RowKit
section
variable {α : Type} {enc : α -> List Value} {k : Nat}
theorem WE' (hk : ∀ x, (enc x).length = k) (L : List α) (d0 : α) (i : Nat) (hi : i < L.length) (j : Nat) (hj : j < k) (v : Value) (hv : (enc (L.getD i d0))[j]? = some v) (d : AV) : (rowV enc L).getD (0 + i * k + j) d = .v v := by
 have h := K4' hk L d0 i hi
 have h2 : (((rowV enc L).drop (i * k)).take k)[j]? = some (.v v) := by
  rw [h, vmap, List.getElem?_map, hv]; rfl
 rw [List.getElem?_take_of_lt hj, List.getElem?_drop] at h2; rw [Nat.zero_add, List.getD, h2]; rfl
end
end Go.Proofs.YtnnojnlejlokhaaGreatDoor.Eng
namespace Go.Proofs.YtnnojnlejlokhaaGreatDoor.Kit
open Go Go.RowKit Eng Kit
variable {p : Nat} {P : Γ}
def nil0 : Δ := ByteArray.empty
def byv (b : UInt8) : AV := .v (.int .u8 b.toNat)
def encB (b : UInt8) : List Value := [.int .u8 b.toNat]
abbrev tByt : TypeId := 2 * 5
def rB (l : Γ) : AO := .cells (rowV encB l) tByt
def sB (i n : Nat) : AV := .slice i 0 n 1 (.lo n)
theorem JR' (x : UInt8) : (encB x).length = 1 := rfl
theorem BS' (M : Γ) : (rowV encB M).length = M.length := by rw [BP' (k := 1) JR', Nat.mul_one]
theorem KA' (σ : Nat -> Nat) (L : Γ) : (rB L).ren σ = rB L := by simp only [rB, AO.ren, A5']
theorem AQ' {x : List AV} {L : Γ} {e : TypeId} {σ : Nat -> Nat} (h : x = rowV encB L) (he : e = tByt) : OW (.cells x e) ((rB L).ren σ) := by rw [KA']; subst h he; exact Yc
theorem AR' (K : Nat -> Bool) (L : Γ) : (rB L).cl K := RS' _ _
theorem U2' (M : Γ) (i : Nat) (hi : i < M.length) (d : AV) : (rowV encB M).getD (0 + i * 1) d = byv (M.getD i 0) := by
 have := WE' (k := 1) JR' M 0 i hi 0 δ (.int .u8 (M.getD i 0).toNat) rfl d; simpa [byv] using this
theorem CX' (l : Γ) : rowV encB l = vmap (l.map fun b => .int .u8 b.toNat) := by
 unfold rowV
 congr 1
 induction l with
 | nil => rfl
 | cons a l ih => rw [List.flatMap_cons, List.map_cons, ih]; rfl
theorem PQ' (h : P.length = p) : (0 + p * 1).ble (rowV encB P).length = true := by rw [BS', Nat.ble_eq]; omega
theorem H6' (h : P.length = p) : (List.take (p * 1) (List.drop 0 (rowV encB P))).length.beq (p * 1) = true := by
 have : (List.take (p * 1) (List.drop 0 (rowV encB P))).length = p * 1 := by rw [List.length_take, List.drop_zero, BS']; omega
 rw [this]; exact Nat.beq_refl _
theorem H7' (h : P.length = p) (l : Γ) : List.take (p * 1) (List.drop 0 (rowV encB P)) ++ rowV encB l = rowV encB (P ++ l) := by
 rw [List.drop_zero, List.take_of_length_le (by rw [BS']; omega), <- BY']
theorem ltTN {j n : Nat} (h : j < n) : decide (Int.ofNat j < Int.ofNat n) = true := decide_eq_true (by simp only [Z0]; omega)
theorem ltFN {j n : Nat} (h : n <= j) : decide (Int.ofNat j < Int.ofNat n) = false := decide_eq_false (by simp only [Z0]; omega)
theorem AL' {a b : Nat} (h : a <= b) : a.ble b = true := by rw [Nat.ble_eq]; exact h
theorem IM' {F : HP} {f : FuncId} {r : Nat} {b : Code} {g : List AV -> AP (AX × List AV)} {l : LcL} (h : L1OK Θ F b g) (hl : ∀ x ∈ l, L1OK Θ F x.2.2.1 x.2.2.2) : ∀ x ∈ (f, r, b, g) :: l, L1OK Θ F x.2.2.1 x.2.2.2 := fun x hx => by
 rcases List.mem_cons.1 hx with rfl | hx
 ·exact h
 ·exact hl x hx
theorem VAll.ite {α : Type} {Q : α -> List (Option AO) -> Nat -> Prop} {b : Bool} {x y : VT α} (h1 : b = true -> VAll Q x) (h2 : b = false -> VAll Q y) : VAll Q (.ite b x y) := ⟨⟨fun h => (h1 h).out, fun h => (h2 h).out⟩⟩
end Go.Proofs.YtnnojnlejlokhaaGreatDoor.Kit
namespace Go.Proofs.YtnnojnlejlokhaaGreatDoor.Tree
open Go Go.RowKit Eng Kit
open List renaming length_append -> la'
variable {w : World} {d : Nat} {N : A9'} {e : TypeId}
inductive Tv where
 | mk (kind num : Int) (text : Δ) (list : List Tv) (tab : List (Δ × Tv))
 deriving Inhabited
abbrev Tf := List (Δ × Tv)
def Tv.kind : Tv -> Int
 | .mk k _ _ _ _ => k
def Tv.num : Tv -> Int
 | .mk _ n _ _ _ => n
def Tv.text : Tv -> Δ
 | .mk _ _ t _ _ => t
def Tv.list : Tv -> List Tv
 | .mk _ _ _ l _ => l
def Tv.tab : Tv -> Tf
 | .mk _ _ _ _ f => f
structure Rv where
 k : Int
 n : Int
 t : Δ
 la : Option Addr
 ll : Nat
 lc : Nat
 ta : Option Addr
 tl : Nat
 tc : Nat
 deriving Inhabited
def Rv.cells (r : Rv) : List Value := [.int .i64 r.k, .int .i64 r.n, .string r.t, .slice r.la r.ll r.lc, .slice r.ta r.tl r.tc]
abbrev Mem := Addr -> Option Value
def W3' (C : Mem) (a : Addr) (cs : List Value) : Prop := ∀ j u, cs[j]? = some u -> C (a.add j) = some u
def big : Nat := 140737488351232
def LOf (V : Tv -> Rv -> Prop) (C : Mem) (oa : Option Addr) (l : List Tv) : Prop := l.length * 80 <= big /\ ∀ i x, l[i]? = some x -> ∃ a r, oa = some a /\ W3' C (a.add (i * 5)) r.cells /\ V x r
def FOf (V : Tv -> Rv -> Prop) (C : Mem) (oa : Option Addr) (f : Tf) : Prop := f.length * 96 <= big /\ ∀ i nm x, f[i]? = some (nm, x) -> ∃ a r, oa = some a /\ W3' C (a.add (i * 6)) (.string nm :: r.cells) /\ V x r
def VAt (C : Mem) : Nat -> Tv -> Rv -> Prop
 | 0 => fun _ _ => False
 | d + 1 => fun v r => (r.k = v.kind /\ r.n = v.num /\ r.t = v.text /\ r.ll = v.list.length /\ r.tl = v.tab.length) /\ LOf (VAt C d) C r.la v.list /\ FOf (VAt C d) C r.ta v.tab
abbrev LAt (C : Mem) (d : Nat) := LOf (VAt C d) C
abbrev FAt (C : Mem) (d : Nat) := FOf (VAt C d) C
theorem W3'.mono {C C' : Mem} (h : ∀ a v, C a = some v -> C' a = some v) {a : Addr} {cs : List Value} (hc : W3' C a cs) : W3' C' a cs := fun j u hu => h _ _ (hc j u hu)
theorem LOf.mono {V V' : Tv -> Rv -> Prop} (hV : ∀ x r, V x r -> V' x r) {C C' : Mem} (h : ∀ a v, C a = some v -> C' a = some v) {oa : Option Addr} {l : List Tv} (hl : LOf V C oa l) : LOf V' C' oa l :=
 ⟨hl.1, fun i x hx => by
  obtain ⟨a, r, h1, h2, h3⟩ := hl.2 i x hx
  exact ⟨a, r, h1, h2.mono h, hV _ _ h3⟩⟩
theorem FOf.mono {V V' : Tv -> Rv -> Prop} (hV : ∀ x r, V x r -> V' x r) {C C' : Mem} (h : ∀ a v, C a = some v -> C' a = some v) {oa : Option Addr} {f : Tf} (hf : FOf V C oa f) : FOf V' C' oa f :=
 ⟨hf.1, fun i nm x hx => by
  obtain ⟨a, r, h1, h2, h3⟩ := hf.2 i nm x hx
  exact ⟨a, r, h1, h2.mono h, hV _ _ h3⟩⟩
theorem VAt.mono {C C' : Mem} (h : ∀ a v, C a = some v -> C' a = some v) : ∀ {d : Nat} {v : Tv} {r : Rv}, VAt C d v r -> VAt C' d v r
 | 0, _, _, hv => hv.elim
 | d + 1, v, r, hv => ⟨hv.1, hv.2.1.mono (fun x r hx => VAt.mono h hx) h, hv.2.2.mono (fun x r hx => VAt.mono h hx) h⟩
theorem LAt.mono {C C' : Mem} (h : ∀ a v, C a = some v -> C' a = some v) {oa : Option Addr} {l : List Tv} (hl : LAt C d oa l) : LAt C' d oa l := LOf.mono (fun _ _ hx => VAt.mono h hx) h hl
theorem FAt.mono {C C' : Mem} (h : ∀ a v, C a = some v -> C' a = some v) {oa : Option Addr} {l : Tf} (hl : FAt C d oa l) : FAt C' d oa l := FOf.mono (fun _ _ hx => VAt.mono h hx) h hl
noncomputable section
def H8' (D : Nat -> Prop) (w : World) : Mem := fun a => by classical exact if D a.block then w.cell? a else none
theorem RG' {D : Nat -> Prop} {a : Addr} (h : D a.block) : H8' D w a = w.cell? a := by unfold H8'; rw [if_pos h]
theorem GH' {D : Nat -> Prop} {a : Addr} {v : Value} (h : H8' D w a = some v) : D a.block /\ w.cell? a = some v := by
 unfold H8' at h; split at h
 ·rename_i hd; exact ⟨hd, h⟩
 ·cases h
theorem GI' {D D' : Nat -> Prop} (h : ∀ b, D b -> D' b) : ∀ a v, H8' D w a = some v -> H8' D' w a = some v := fun a v ha => by
 obtain ⟨h1, h2⟩ := GH' ha; rw [RG' (h _ h1)]; exact h2
theorem RY' {w' : World} {a : Addr} (h : w'.heap[a.block]? = w.heap[a.block]?) : w'.cell? a = w.cell? a := by unfold World.cell?; rw [h]
theorem O0' {D : Nat -> Prop} {w' : World} (h : ∀ b, D b -> w'.heap[b]? = w.heap[b]?) : H8' D w' = H8' D w := by
 funext a; unfold H8'; split
 ·rename_i hd; exact RY' (h _ hd)
 ·rfl
def frz (P : Mem -> Prop) : HP where
 on D w := P (H8' D w) /\ ∀ b, D b -> b < w.heap.size
 far {D w w'} hf := fun ⟨h1, h2⟩ => ⟨by rw [O0' hf]; exact h1, fun b hb => by
  have h3 := hf b hb; rw [Array.getElem?_eq_getElem (h2 b hb)] at h3
  exact (Array.getElem?_eq_some_iff.1 h3).1⟩
 lt {D w} := fun ⟨_, h2⟩ => h2
theorem SH' {W0 : World} {F : HP} {N1 : A9'} {H H' : LH} {D0 : Nat -> Prop} {D : Nat -> Nat -> Prop} (hl : AA' 1100 H = true) (hl' : AA' 1100 H' = true) (r : Rep W0 N1 F (AK' H) w)
  (h1 : F.on D0 w) (h2 : ∀ i o, getO H i = some o -> OR N1 i o (D i) w /\ ∀ b, D i b -> ¬ D0 b) (h3 : ∀ i j o o', getO H i = some o -> getO H j = some o' -> i ≠ j -> ∀ b, D i b -> ¬ D j b)
  (k : Nat) (S : Nat -> Prop) (hkS : ¬ S k) {ok : AO} (hk0 : getO H k = some ok)
  (hn : ∀ n o', n ≠ k -> getO H' n = some o' -> ¬ S n /\ ∃ o, getO H n = some o /\ OR N1 n o' (D n) w)
  (hk : ∀ o', getO H' k = some o' -> OR N1 k o' (fun x => D k x \/ ∃ j, S j /\ (∃ o, getO H j = some o) /\ D j x) w) : Rep W0 N1 F (AK' H') w := by
 classical
 have hf' : ∀ n, (AK' H').find n = getO H' n := AE' (D7' hl')
 refine ⟨r.os, r.tape, r.output, D0, fun n x => if n = k then (D k x \/ ∃ j, S j /\ (∃ o, getO H j = some o) /\ D j x) else D n x, h1, fun n o hno => ?_, fun n m o o' hno hmo hnm b hb hb' => ?_⟩
 ·rw [hf'] at hno
  by_cases e : n = k
  ·subst e; simp only [if_true]
   refine ⟨hk o hno, fun b hb => ?_⟩
   rcases hb with hb | ⟨j, _, ⟨oj, hj⟩, hb⟩
   ·exact (h2 n _ hk0).2 b hb
   ·exact (h2 j _ hj).2 b hb
  ·simp only [if_neg e]; obtain ⟨_, o0, q1, q2⟩ := hn n o e hno; exact ⟨q2, (h2 n _ q1).2⟩
 ·rw [hf'] at hno hmo
  have key : ∀ m o', getO H' m = some o' -> m ≠ k -> ∀ b, (D k b \/ ∃ j, S j /\ (∃ o, getO H j = some o) /\ D j b) -> ¬ D m b := by
   intro m o' hm hmk b hb; obtain ⟨q0, o1, q1, _⟩ := hn m o' hmk hm
   rcases hb with hb | ⟨j, hj, ⟨oj, hjo⟩, hb⟩
   ·exact h3 k m _ _ hk0 q1 (Ne.symm hmk) b hb
   ·exact h3 j m _ _ hjo q1 (fun e => q0 (e ▸ hj)) b hb
  by_cases e : n = k
  ·subst e; simp only [if_true] at hb; have e' : m ≠ n := Ne.symm hnm; simp only [if_neg e'] at hb'; exact key m o' hmo e' b hb hb'
  ·simp only [if_neg e] at hb
   by_cases e' : m = k
   ·subst e'; simp only [if_true] at hb'; exact key n o hno e b hb' hb
   ·simp only [if_neg e'] at hb'; obtain ⟨_, o1, q1, _⟩ := hn n o e hno; obtain ⟨_, o2, q2, _⟩ := hn m o' e' hmo; exact h3 n m _ _ q1 q2 hnm b hb hb'
variable (m : Md)
def ownL (d : Nat) (l : List Tv) : AO := .own m fun b _ => frz fun C => LAt C d (some ⟨b, 0, none⟩) l
variable {m}
theorem LOf.nil {V : Tv -> Rv -> Prop} {C : Mem} (oa : Option Addr) : LOf V C oa [] := ⟨Nat.zero_le _, fun i x h => by simp at h⟩
theorem FOf.nil {V : Tv -> Rv -> Prop} {C : Mem} (oa : Option Addr) : FOf V C oa [] := ⟨Nat.zero_le _, fun i nm x h => by simp at h⟩
theorem NL' {k n sz : Nat} {y : Value} (h : VR N (.slice k 0 n sz (.lo n)) y) : ∃ l x c, N k = some l /\ y = .slice (some ⟨l.blk, x, none⟩) n c /\ (0 < n -> x = l.off) := by
 simp only [VR] at h; obtain ⟨l, x, c, h1, h2, h3, h4, h5, h6⟩ := h
 refine ⟨l, x, c, h1, h2, fun hn => ?_⟩
 rcases h3 with h3 | h3
 ·rw [h3, Nat.add_zero]
 ·omega
def encF (p : Δ × Rv) : List Value := .string p.1 :: p.2.cells
def PF (d : Nat) (R : List (Δ × Rv)) (f : Tf) (C : Mem) : Prop := R.length = f.length /\ ∀ (i : Nat) (nm : Δ) (x : Tv), f[i]? = some (nm, x) -> ∃ r, R[i]? = some (nm, r) /\ VAt C d x r
def PV (d : Nat) (R : List Rv) (l : List Tv) (C : Mem) : Prop := R.length = l.length /\ ∀ (i : Nat) (x : Tv), l[i]? = some x -> ∃ r, R[i]? = some r /\ VAt C d x r
theorem PF.mono {R : List (Δ × Rv)} {f : Tf} {C C' : Mem} (h : ∀ a v, C a = some v -> C' a = some v) (hp : PF d R f C) : PF d R f C' := ⟨hp.1, fun i nm x hx => by
 obtain ⟨r, h1, h2⟩ := hp.2 i nm x hx
 exact ⟨r, h1, h2.mono h⟩⟩
theorem PV.mono {R : List Rv} {l : List Tv} {C C' : Mem} (h : ∀ a v, C a = some v -> C' a = some v) (hp : PV d R l C) : PV d R l C' := ⟨hp.1, fun i x hx => by
 obtain ⟨r, h1, h2⟩ := hp.2 i x hx
 exact ⟨r, h1, h2.mono h⟩⟩
theorem PF.add {R : List (Δ × Rv)} {f : Tf} {C : Mem} (hp : PF d R f C) {nm : Δ} {x : Tv} {r : Rv} (hx : VAt C d x r) : PF d (R ++ [(nm, r)]) (f ++ [(nm, x)]) C := by
 refine ⟨by simp [hp.1], fun i n y hy => ?_⟩
 rcases Nat.lt_or_ge i f.length with h | h
 ·rw [List.getElem?_append_left h] at hy; obtain ⟨s, h1, h2⟩ := hp.2 i n y hy
  exact ⟨s, by rw [List.getElem?_append_left (by have := hp.1; omega)]; exact h1, h2⟩
 ·rw [List.getElem?_append_right h] at hy
  have : i - f.length = 0 := by
   cases hk : i - f.length with
   | zero => rfl
   | succ n => rw [hk] at hy; simp at hy
  rw [this] at hy; simp only [List.getElem?_cons_zero, Option.some.injEq, Prod.mk.injEq] at hy; obtain ⟨rfl, rfl⟩ := hy; refine ⟨r, ?_, hx⟩
  rw [List.getElem?_append_right (by have := hp.1; omega), show i - R.length = 0 by have := hp.1; omega]
  rfl
theorem PV.add {R : List Rv} {f : List Tv} {C : Mem} (hp : PV d R f C) {x : Tv} {r : Rv} (hx : VAt C d x r) : PV d (R ++ [r]) (f ++ [x]) C := by
 refine ⟨by simp [hp.1], fun i y hy => ?_⟩
 rcases Nat.lt_or_ge i f.length with h | h
 ·rw [List.getElem?_append_left h] at hy; obtain ⟨s, h1, h2⟩ := hp.2 i y hy
  exact ⟨s, by rw [List.getElem?_append_left (by have := hp.1; omega)]; exact h1, h2⟩
 ·rw [List.getElem?_append_right h] at hy
  have : i - f.length = 0 := by
   cases hk : i - f.length with
   | zero => rfl
   | succ n => rw [hk] at hy; simp at hy
  rw [this] at hy; simp only [List.getElem?_cons_zero, Option.some.injEq] at hy; subst hy; refine ⟨r, ?_, hx⟩
  rw [List.getElem?_append_right (by have := hp.1; omega), show i - R.length = 0 by have := hp.1; omega]
  rfl
end
theorem QD' {i : Nat} {a b : List AV} {D : Nat -> Prop} (h : OR N i (.cells (a ++ b) e) D w) : ∃ yb, VRs N b yb /\ ∀ c : List AV, c.length = b.length -> VRs N c yb -> OR N i (.cells (a ++ c) e) D w := by
 obtain ⟨l, arr, fz, h1, h2, h3, h4, h5, h6, h7, h8⟩ := h; obtain ⟨ys, hys⟩ : ∃ ys, (arr.toList.drop l.off).take (a ++ b).length = ys := ⟨_, rfl⟩
 have key : ∀ (a : List AV) (ys : List Value), VRs N (a ++ b) ys -> ∃ yb, VRs N b yb /\ ∀ c : List AV, VRs N c yb -> VRs N (a ++ c) ys := by
  intro a
  induction a with
  | nil => exact fun ys hy => ⟨ys, hy, fun c hc => hc⟩
  | cons x a ih =>
   intro ys hy; obtain ⟨y, r, q1, q2, rfl⟩ := hy; obtain ⟨yb, q3, q4⟩ := ih r q2
   exact ⟨yb, q3, fun c hc => ⟨y, r, q1, q4 c hc, rfl⟩⟩
 rw [hys] at h7; obtain ⟨yb, q3, q4⟩ := key a ys h7
 refine ⟨yb, q3, fun c hc hv => ⟨l, arr, fz, h1, h2, h3, h4, ?_, h6, ?_, h8⟩⟩
 ·rw [la', hc, <- la']; exact h5
 ·rw [la', hc, <- la', hys]; exact q4 c hv
theorem YL' {W0 : World} {F : HP} {H : LH} {vs : List AV} {ys : List Value} (hl : AA' 1100 H = true) (hs : St W0 F N H vs ys w) (i k : Nat) (S : List Nat) (hik : i ≠ k) (hiS : i ∉ S) (hkS : k ∉ S) {a b : List AV} {ok : AO}
  (hi : getO H i = some (.cells (a ++ b) e)) (hk : getO H k = some ok) (hkl : ∀ N1 D w, OR N1 k ok D w -> ∀ b, D b -> b < w.heap.size) (Q : List Value -> Mem -> Prop)
  (core : ∀ (N1 : A9') (D : Nat -> Nat -> Prop), (∀ n o, getO H n = some o -> OR N1 n o (D n) w) -> ∀ yb, VRs N1 b yb -> ∃ c : List Value, c.length = b.length /\ VRs N1 (vmap c) yb /\ Q c (H8' (fun x => D k x \/ ∃ j, j ∈ S /\ (∃ o, getO H j = some o) /\ D j x) w)) :
  ∃ c, (∃ C, Q c C) /\ ∀ (H' : LH) (Q' : Mem -> Prop), AA' 1100 H' = true -> getO H' i = some (.cells (a ++ vmap c) e) -> getO H' k = some (.any (frz Q')) -> (∀ C, Q c C -> Q' C) -> (∀ n o, n ≠ i -> n ≠ k -> getO H' n = some o -> n ∉ S /\ getO H n = some o) ->
   AV.cls (fun n => Nat.blt n 1000 || (getO H' n).isSome) vs -> (∀ x ∈ H', x.2.cl (fun n => Nat.blt n 1000 || (getO H' n).isSome)) -> St W0 F N H' vs ys w := by
 obtain ⟨N1, g1, g2, r, hvs⟩ := hs; obtain ⟨D0, D, h1, h2, h3⟩ := r.sat; have hf : ∀ n, (AK' H).find n = getO H n := AE' (D7' hl)
 have h2' : ∀ n o, getO H n = some o -> OR N1 n o (D n) w /\ ∀ b, D n b -> ¬ D0 b := fun n o hn => h2 n o (by rw [hf]; exact hn)
 obtain ⟨yb, q1, q2⟩ := QD' (h2' i _ hi).1; obtain ⟨c, c1, c2, c3⟩ := core N1 D (fun n o hn => (h2' n o hn).1) yb q1
 refine ⟨c, ⟨_, c3⟩, fun H' Q' hl' hi' hk' hQ hn hv ho => H3' hl' g1 (SH' hl hl' r h1 h2' (fun n m o o' hn hm => h3 n m o o' (by rw [hf]; exact hn) (by rw [hf]; exact hm)) k (fun n => n ∈ S) hkS hk (fun n o' hnk hno => ?_) fun o' hko => ?_) hvs hv ho⟩
 ·by_cases hni : n = i
  ·subst hni; rw [hi'] at hno; cases hno; exact ⟨hiS, _, hi, q2 _ (by rw [show (vmap c).length = c.length by simp [vmap]]; exact c1) c2⟩
  ·obtain ⟨a1, a2⟩ := hn n o' hni hnk hno; exact ⟨a1, o', a2, (h2' n o' a2).1⟩
 ·rw [hk'] at hko; cases hko
  refine ⟨hQ _ c3, fun b hb => ?_⟩
  rcases hb with hb | ⟨j, _, ⟨oj, hj⟩, hb⟩
  ·exact (h2' k _ hk).1.lt b hb
  ·exact (h2' j _ hj).1.lt b hb
theorem KS' {i : Nat} {cs : List Value} {D : Nat -> Prop} (h : OR N i (.cells (vmap cs) (2 * e)) D w) : ∃ l, N i = some l /\ l.off = 0 /\ ∀ j u, cs[j]? = some u -> H8' D w ⟨l.blk, j, none⟩ = some u := by
 obtain ⟨l, arr, fz, h1, h2, h3, h4, h5, h6, h7, h8⟩ := h; obtain ⟨z, _⟩ := h8 (Nat.mul_mod_right 2 e)
 refine ⟨l, h1, z, fun j u hj => ?_⟩
 rw [RG' ((h2 _).2 rfl)]; have h7 := VRs.of_vmap h7
 have hlen : (vmap cs).length = cs.length := by simp [vmap]
 rw [z, List.drop_zero, hlen] at h7; unfold World.cell?; simp only [h3]; have hj' := (List.getElem?_eq_some_iff.1 hj).1
 have : (arr.toList.take cs.length)[j]? = some u := by rw [h7]; exact hj
 rw [List.getElem?_take_of_lt hj'] at this; simpa using this
theorem pieces {α : Type} {f : α -> List Value} {m : Nat} (hf : ∀ x, (f x).length = m) : ∀ (l : List α) (k j : Nat) (x : α), l[k]? = some x -> j < m -> (l.flatMap f)[k * m + j]? = (f x)[j]?
 | [], k, j, x, h, _ => by simp at h
 | y :: l, 0, j, x, h, hj => by
  simp only [List.getElem?_cons_zero, Option.some.injEq] at h; subst h; rw [List.flatMap_cons, Nat.zero_mul, Nat.zero_add, List.getElem?_append_left (by rw [hf]; exact hj)]
 | y :: l, k + 1, j, x, h, hj => by
  rw [List.getElem?_cons_succ] at h
  rw [List.flatMap_cons, List.getElem?_append_right (by rw [hf, Nat.succ_mul]; omega), hf, show (k + 1) * m + j - m = k * m + j from by rw [Nat.succ_mul]; omega]
  exact pieces hf l k j x h hj
theorem MN' (p : Δ × Rv) : (encF p).length = 6 := rfl
end Go.Proofs.YtnnojnlejlokhaaGreatDoor.Tree
namespace Go.Proofs.YtnnojnlejlokhaaGreatDoor.Wk
open Go Go.RowKit Eng Kit Tree
open Int renaming ofNat -> o'
open Go.Value renaming int -> vi'
open AV renaming v -> v'
open Go.Value renaming slice -> sl'
noncomputable section
abbrev fOv : Nat := 82
def uN (n : Nat) : AV := .v (.int .u32 (o' n))
structure LN (W : World) : Prop where
 tab : ∀ k, k < 16 -> W.cell? ((Addr.mk 0 0 none).add (k * 1)) = some (.int .u32 (o' (nb k)))
def BAt (C : Mem) (oa : Option Addr) (l : Bs) : Prop := l.length <= big /\ ∀ i b, l[i]? = some b -> ∃ a, oa = some a /\ C (a.add (i * 1)) = some (.int .u8 (b.toNat : Int))
def aOv (oa : Option Addr) (n c j s : Nat) : List (Nat × AV) := [(0, uN s), (7, slV oa n c), (8, iv (o' n)), (9, iv (o' j))]
def hOv (j s : Nat) (x : UInt8) : BI' := A6' [ht' fOv 2 0, (fOv, 3, 1, hv (byv x)), (fOv, 4, 3, hv (uN (s ^^^ x.toNat))), (fOv, 5, 3, hv (uN ((s ^^^ x.toNat) &&& 15))), (fOv, 5, 5, hv (uN (nb ((s ^^^ x.toNat) &&& 15)))), (fOv, 5, 6, hv (uN (half (s ^^^ x.toNat)))), (fOv, 6, 3, hv (uN (half (s ^^^ x.toNat) &&& 15))), (fOv, 6, 5, hv (uN (nb (half (s ^^^ x.toNat) &&& 15)))), (fOv, 6, 6, hv (uN (NJ' s x))), (fOv, 7, 0, hv (iv (o' (j + 1))))]
abbrev k1' : Cnd := t'
abbrev k2' (q0 : Nat) : Cnd := (f' (Wk (z' (IntKind.i64.wrap (o' q0 + o' 1))) (i' (q0 + 1))))
abbrev h3' (q0 q1 : Nat) (z : Cnd) : Cnd := ((wb' (decide (o' q0 < o' q1)) j').a ((f' (q0.blt q1 = true)).a z))
theorem dG' (W : World) (a : Addr) (n c j s : Nat) (x : UInt8) (F : HP) : AW' [] (hOv j s x) [] W fOv (A3' fOv 2) (tms 0 33 (aOv (some a) n c j s)) [] [] [0, 7, 8, 9] F = VT.leaf (AX.normal,[v' (vi' IntKind.u32 (o' (NJ' s x))),v' (sl' (some a) n c),i' n,i' (j + 1)],33) [] 1100 (h3' j n (((p' ((W.cell? (a.add (j * 1))).isSome = true)).a ((p' (v' ((W.cell? (a.add (j * 1))).getD (Value.tuple (Array.mk []))) = v' (vi' IntKind.u8 (v' ((W.cell? (a.add (j * 1))).getD (Value.tuple (Array.mk [])))).intOf))).a (f' (Wk (v' (vi' IntKind.u8 (v' ((W.cell? (a.add (j * 1))).getD (Value.tuple (Array.mk [])))).intOf)) (v' (vi' IntKind.u8 ↑x.toNat)))))).a ((f' (Wk (v' (vi' IntKind.u32 (IntKind.u32.wrap ↑(BitVec.ofInt 32 (o' s) ^^^ BitVec.ofInt 32 (IntKind.u32.wrap ↑x.toNat)).toNat))) (v' (vi' IntKind.u32 (o' (s ^^^ x.toNat)))))).a ((f' (Wk (v' (vi' IntKind.u32 (IntKind.u32.wrap ↑(BitVec.ofInt 32 (o' (s ^^^ x.toNat)) &&& BitVec.ofInt 32 (o' 15)).toNat))) (v' (vi' IntKind.u32 (o' ((s ^^^ x.toNat) &&& 15)))))).a ((f' (((s ^^^ x.toNat) &&& 15).blt 16 = true)).a (((p' ((W.cell? ((Addr.mk 0 0 none).add (((s ^^^ x.toNat) &&& 15) * 1))).isSome = true)).a ((p' (v' ((W.cell? ((Addr.mk 0 0 none).add (((s ^^^ x.toNat) &&& 15) * 1))).getD (Value.tuple (Array.mk []))) = v' (vi' IntKind.u32 (v' ((W.cell? ((Addr.mk 0 0 none).add (((s ^^^ x.toNat) &&& 15) * 1))).getD (Value.tuple (Array.mk [])))).intOf))).a (f' (Wk (v' (vi' IntKind.u32 (v' ((W.cell? ((Addr.mk 0 0 none).add (((s ^^^ x.toNat) &&& 15) * 1))).getD (Value.tuple (Array.mk [])))).intOf)) (v' (vi' IntKind.u32 (o' (nb ((s ^^^ x.toNat) &&& 15))))))))).a ((f' (Wk (v' (vi' IntKind.u32 (IntKind.u32.wrap ↑(BitVec.ofInt 32 ((o' (s ^^^ x.toNat)).fdiv (o' 16)) ^^^ BitVec.ofInt 32 (o' (nb ((s ^^^ x.toNat) &&& 15)))).toNat))) (v' (vi' IntKind.u32 (o' (half (s ^^^ x.toNat))))))).a ((f' (Wk (v' (vi' IntKind.u32 (IntKind.u32.wrap ↑(BitVec.ofInt 32 (o' (half (s ^^^ x.toNat))) &&& BitVec.ofInt 32 (o' 15)).toNat))) (v' (vi' IntKind.u32 (o' (half (s ^^^ x.toNat) &&& 15)))))).a ((f' ((half (s ^^^ x.toNat) &&& 15).blt 16 = true)).a (((p' ((W.cell? ((Addr.mk 0 0 none).add ((half (s ^^^ x.toNat) &&& 15) * 1))).isSome = true)).a ((p' (v' ((W.cell? ((Addr.mk 0 0 none).add ((half (s ^^^ x.toNat) &&& 15) * 1))).getD (Value.tuple (Array.mk []))) = v' (vi' IntKind.u32 (v' ((W.cell? ((Addr.mk 0 0 none).add ((half (s ^^^ x.toNat) &&& 15) * 1))).getD (Value.tuple (Array.mk [])))).intOf))).a (f' (Wk (v' (vi' IntKind.u32 (v' ((W.cell? ((Addr.mk 0 0 none).add ((half (s ^^^ x.toNat) &&& 15) * 1))).getD (Value.tuple (Array.mk [])))).intOf)) (v' (vi' IntKind.u32 (o' (nb (half (s ^^^ x.toNat) &&& 15))))))))).a ((f' (Wk (v' (vi' IntKind.u32 (IntKind.u32.wrap ↑(BitVec.ofInt 32 ((o' (half (s ^^^ x.toNat))).fdiv (o' 16)) ^^^ BitVec.ofInt 32 (o' (nb (half (s ^^^ x.toNat) &&& 15)))).toNat))) (v' (vi' IntKind.u32 (o' (NJ' s x)))))).a ((k2' j).a k1')))))))))))) := χ
theorem dH' (W : World) (oa : Option Addr) (n c s : Nat) (F : HP) : AW' [] (A6' [hf' fOv 2 0]) [] W fOv (A3' fOv 2) (tms 0 33 (aOv oa n c n s)) [] [] [0, 7, 8, 9] F = VT.leaf (AX.exit 0,[v' (vi' IntKind.u32 (o' s)),v' (sl' oa n c),i' n,i' n],33) [] 1100 ((wb' (decide (o' n < o' n)) g').a k1') := χ
def lOv (oa : Option Addr) (n c s s' : Nat) : List AV -> AP (AX × List AV) := mkL (fun _ => .ret ()) (fun _ => True) (fun _ k => k) (fun _ => tms 0 33 (aOv oa n c 0 s)) (fun _ => []) (fun _ => .leaf (.exit 0) (tms 0 33 [(0, uN s')]) [])
abbrev k4' : Cnd := (p' True)
theorem oOv_eq (W : World) (oa : Option Addr) (n c s s' : Nat) (F : HP) : wRun [] BA' [(fOv, 2, A3' fOv 2, lOv oa n c s s')] W fOv [uN s, slV oa n c] [] [] F = VT.leaf (v' (vi' IntKind.u32 (o' s'))) [] 1100 ((p' ((fOv,2,A3' fOv 2,lOv oa n c s s').snd.snd.fst = (fOv,2,A3' fOv 2,lOv oa n c s s').snd.snd.fst)).a (k4'.a ((p' (VW (v' (vi' IntKind.u32 (o' s))::v' (sl' oa n c)::u'::u'::v' (vi' IntKind.u32 (o' 0))::u'::u'::v' (sl' oa n c)::z' ↑n::i' 0::ru16 (ru4 (u'::u'::u'::[]))) (v' (vi' IntKind.u32 (o' s))::ra4 (a'::a'::v' (sl' oa n c)::i' n::i' 0::ra16 (ra4 (a'::a'::a'::[])))))).a k1'))) := χ
end
end Go.Proofs.YtnnojnlejlokhaaGreatDoor.Wk
namespace Go.Proofs.YtnnojnlejlokhaaGreatDoor.Eng
open Go Go.RowKit
variable {H H' : LH}
theorem JQ' : ∀ (H H' : LH) (i : Nat), getO (H ++ H') i = match getO H i with | some o => some o | none => getO H' i
 | [], H', i => rfl
 | x :: l, H', i => by
  rw [List.cons_append, getO, getO]
  by_cases e : i = x.1
  ·rw [if_pos e, if_pos e]
  ·rw [if_neg e, if_neg e]; exact JQ' l H' i
theorem PU' {b : Nat} (h : AA' b H = true) (h' : AA' b H' = true) : AA' b (H ++ H') = true := by
 simp only [AA', List.all_append, Bool.and_eq_true] at *; exact ⟨h, h'⟩
theorem WG' {W0 w w' : World} {F : HP} {N N1 : A9'} (hl : AA' 1100 H = true) (hl' : AA' 1100 H' = true) (hd : ∀ i o, getO H' i = some o -> 1000 <= i /\ getO H i = none)
  (hNB : NB N H) (r : Rep W0 N F (AK' H) w) (g0 : ∀ i, i < 1000 -> N1 i = none) (g1 : NB N1 H') (r1 : Rep w N1 (HP.old w) (AK' H') w') :
  ∃ N2 : A9', (∀ i, i < 1000 -> N2 i = N i) /\ NB N2 (H ++ H') /\ Rep W0 N2 F (AK' (H ++ H')) w' /\ N.le N2 /\ N1.le N2 := by
 have hf : ∀ i, (AK' H).find i = getO H i := AE' (D7' hl); have hf' : ∀ i, (AK' H').find i = getO H' i := AE' (D7' hl'); have hf2 : ∀ i, (AK' (H ++ H')).find i = getO (H ++ H') i := AE' (D7' (PU' hl hl')); have hb := r1.old_below; have rb := r.below hb
 have hN : N.le (fun i => if (getO H' i).isSome then N1 i else N i) := fun i l hi => by
  cases h : getO H' i with
  | none => simpa [h] using hi
  | some o =>
   have := hNB i (hd i o h).1 (hd i o h).2; rw [this] at hi; cases hi
 have hN1 : N1.le (fun i => if (getO H' i).isSome then N1 i else N i) := fun i l hi => by
  cases h : getO H' i with
  | some o => simpa [h] using hi
  | none =>
   rcases Nat.lt_or_ge i 1000 with h2 | h2
   ·rw [g0 i h2] at hi; cases hi
   ·rw [g1 i h2 h] at hi; cases hi
 refine ⟨_, fun i hi => ?_, fun i hi hn => ?_, ?_, hN, hN1⟩
 ·have h : getO H' i = none := by
   cases h : getO H' i with
   | none => rfl
   | some o => have := (hd i o h).1; omega
  simp [h]
 ·rw [JQ'] at hn
  cases h : getO H i with
  | some o => rw [h] at hn; cases hn
  | none =>
   rw [h] at hn; simp only at hn; simpa [hn] using hNB i hi h
 ·obtain ⟨D0, D, h1, h2, h3⟩ := r.sat; obtain ⟨B0, B, k1, k2, k3⟩ := r1.sat; have hB0 : ∀ b, B0 b ↔ b < w.heap.size := k1.1
  have lt : ∀ i o, getO H i = some o -> ∀ b, D i b -> b < w.heap.size := fun i o hi b hb => ((h2 i o ((hf i).trans hi)).1.lt b hb)
  have ge : ∀ i o, getO H' i = some o -> ∀ b, B i b -> w.heap.size <= b := fun i o hi b hb' => by
   have := (k2 i o ((hf' i).trans hi)).2 b hb'; rw [hB0] at this; omega
  refine ⟨hb.os.trans r.os, hb.tape.trans r.tape, hb.output.trans r.output, D0, fun i b => if (getO H' i).isSome then B i b else D i b, F.far (fun b hb' => hb.block b (F.lt h1 b hb')) h1, fun i o hi => ?_, fun i j o o' hi hj hij b hbi hbj => ?_⟩
  ·rw [hf2, JQ'] at hi
   cases h : getO H' i with
   | some o1 =>
    rw [(hd i o1 h).2] at hi; simp only [h, Option.some.injEq] at hi; subst hi; show OR _ i o1 (fun b => if (getO H' i).isSome then B i b else D i b) w' /\ ∀ b, (if (getO H' i).isSome then B i b else D i b) -> ¬ D0 b; simp only [h, Option.isSome_some, if_true]
    refine ⟨((k2 i o1 ((hf' i).trans h)).1).mono hN1, fun b hb' h0 => ?_⟩
    have := ge i o1 h b hb'; have := F.lt h1 b h0; omega
   | none =>
    show OR _ i o (fun b => if (getO H' i).isSome then B i b else D i b) w' /\ ∀ b, (if (getO H' i).isSome then B i b else D i b) -> ¬ D0 b; simp only [h, Option.isSome_none, Bool.false_eq_true, if_false]
    cases hh : getO H i with
    | none => rw [hh] at hi; simp only [h] at hi; cases hi
    | some o1 =>
     rw [hh] at hi; cases hi; have hq := h2 i o ((hf i).trans hh); exact ⟨(hq.1.far (fun b hb' => hb.block b (hq.1.lt b hb'))).mono hN, hq.2⟩
  ·rw [hf2, JQ'] at hi hj
   have side : ∀ i o b, (match getO H i with | some o => some o | none => getO H' i) = some o -> (if (getO H' i).isSome then B i b else D i b) -> (∃ o1, getO H' i = some o1 /\ B i b) \/ (getO H' i = none /\ getO H i = some o /\ D i b) := by
    intro i o b hi hb'
    cases h : getO H' i with
    | some o1 => rw [h] at hb'; exact .inl ⟨o1, rfl, by simpa using hb'⟩
    | none =>
     rw [h] at hb'
     cases hh : getO H i with
     | none => rw [hh] at hi; simp only [h] at hi; cases hi
     | some o2 => rw [hh] at hi; cases hi; exact .inr ⟨rfl, rfl, by simpa using hb'⟩
   rcases side i o b hi hbi with ⟨o1, q1, q2⟩ | ⟨q0, q1, q2⟩
   ·rcases side j o' b hj hbj with ⟨o2, p1, p2⟩ | ⟨p0, p1, p2⟩
    ·exact k3 i j o1 o2 ((hf' i).trans q1) ((hf' j).trans p1) hij b q2 p2
    ·have := ge i o1 q1 b q2; have := lt j o' p1 b p2; omega
   ·rcases side j o' b hj hbj with ⟨o2, p1, p2⟩ | ⟨p0, p1, p2⟩
    ·have := ge j o2 p1 b p2; have := lt i o q1 b q2; omega
    ·exact h3 i j o o' ((hf i).trans q1) ((hf j).trans p1) hij b q2 p2
theorem TM' {P : Program} {W : World} {f : FuncId} {A : List AV} {v : AV} (hl : AA' 1100 H = true) (hl' : AA' 1100 H' = true) (hd : ∀ i o, getO H' i = some o -> 1000 <= i /\ getO H i = none)
  (h : ∀ (W0 : World) (F : HP) (N : A9') (w : World) (vargs : Array Value), AH' W F -> NB N H -> Rep W0 N F (AK' H) w -> VRs N A vargs.toList -> ∃ A1, vargs.toList = A1 /\ Tri P w f (vmap A1) [] v H') : Tri P W f A H v (H ++ H') := by
 intro W0 F N w vargs hF hNB r ha; obtain ⟨A1, hA, ht⟩ := h W0 F N w vargs hF hNB r ha; have hold : AH' w (HP.old w) := AH'.self w; refine (ht w (HP.old w) (fun _ => none) w vargs hold (fun _ _ _ => rfl) (M8' w) (by rw [hA]; exact VRs.vmap _)).mono ?_; rintro e w' ⟨y, rfl, N1, g0, g1, r1, hv⟩; obtain ⟨N2, q0, q1, q2, q3, q4⟩ := WG' hl hl' hd hNB r g0 g1 r1; exact ⟨y, rfl, N2, q0, q1, q2, VRs.mono q4 hv⟩
end Go.Proofs.YtnnojnlejlokhaaGreatDoor.Eng
namespace Go.Proofs.YtnnojnlejlokhaaGreatDoor.Wk
open Go Go.RowKit Eng Kit Tree
open Int renaming ofNat -> o'
open Go.Value renaming int -> vi'
open AO renaming cells -> ce'
open AV renaming v -> v'
open AV renaming ptr -> pt'
open Go.IntKind renaming u8 -> u8'
open Cnd renaming holds -> ch'
open Nat renaming blt_eq -> bl'
open List renaming length_append -> la'
variable {n s : Nat} {W : World} {pre : List Value} {f : FuncId} {v : AV} {H' : LH}
theorem AY' {α : Type} {l : List α} {i : Nat} (h : i < l.length) : ∃ x, l[i]? = some x := ⟨_, List.getElem?_eq_getElem h⟩
theorem BAt.mono {C C' : Mem} (h : ∀ a v, C a = some v -> C' a = some v) {oa : Option Addr} {l : Bs} (hl : BAt C oa l) : BAt C' oa l := ⟨hl.1, fun i b hb => by
 obtain ⟨a, h1, h2⟩ := hl.2 i b hb
 exact ⟨a, h1, h _ _ h2⟩⟩
theorem LN.mono {W' : World} (h : ∀ a v, W.cell? a = some v -> W'.cell? a = some v) (hN : LN W) : LN W' := ⟨fun k hk => h _ _ (hN.tab k hk)⟩
theorem B0' {α : Type} {l : List α} {j : Nat} {x : α} (h : l[j]? = some x) : l.take (j + 1) = l.take j ++ [x] := by rw [List.take_add_one, h]; rfl
theorem NE' {a b : Int} (h : a = b) : Wk (.v (.int .u32 a)) (.v (.int .u32 b)) := by subst h; exact Ya
theorem u32_in (h : n < 4294967296) : IntKind.u32.wrap (n : Int) = (n : Int) := IntWalk.u32_in _ ω
theorem S2' (h : n < 4294967296) : (BitVec.ofInt 32 (o' n)).toNat = n := by
 rw [show (o' n : Int) = ((n : Nat) : Int) from rfl, BitVec.ofInt_natCast, BitVec.toNat_ofNat, Nat.mod_eq_of_lt h]
theorem x_eq {a b : Nat} (ha : a < 4294967296) (hb : b < 4294967296) : IntKind.u32.wrap ((BitVec.ofInt 32 (o' a) ^^^ BitVec.ofInt 32 (o' b)).toNat : Int) = o' (a ^^^ b) := by
 rw [BitVec.toNat_xor, S2' ha, S2' hb, u32_in (Nat.xor_lt_two_pow (n := 32) ha hb)]; rfl
theorem c_eq {x : UInt8} (hs : s < 4294967296) : IntKind.u32.wrap ((BitVec.ofInt 32 (o' s) ^^^ BitVec.ofInt 32 (IntKind.u32.wrap (x.toNat : Int))).toNat : Int) = o' (s ^^^ x.toNat) := by
 have hx : x.toNat < 4294967296 := by have := x.toNat_lt; omega
 rw [u32_in hx]; exact x_eq hs hx
theorem a_eq (hs : s < 4294967296) : IntKind.u32.wrap ((BitVec.ofInt 32 (o' s) &&& BitVec.ofInt 32 (o' 15)).toNat : Int) = o' (s &&& 15) := by
 rw [BitVec.toNat_and, S2' hs, S2' δ, u32_in (Nat.lt_of_le_of_lt Nat.and_le_right δ)]; rfl
theorem h_eq (hs : s < 4294967296) : IntKind.u32.wrap ((BitVec.ofInt 32 ((o' s).fdiv (o' 16)) ^^^ BitVec.ofInt 32 (o' (nb (s &&& 15)))).toNat : Int) = o' (half s) := by
 have e : (o' s).fdiv (o' 16) = o' (s >>> 4) := by
  rw [Nat.shiftRight_eq_div_pow, Int.fdiv_eq_ediv_of_nonneg _ δ]; rfl
 rw [e, x_eq (by rw [Nat.shiftRight_eq_div_pow]; omega) (YZ' _)]; rfl
theorem st_eq {x : UInt8} (hs : half (s ^^^ x.toNat) < 4294967296) : IntKind.u32.wrap ((BitVec.ofInt 32 ((o' (half (s ^^^ x.toNat))).fdiv (o' 16)) ^^^ BitVec.ofInt 32 (o' (nb (half (s ^^^ x.toNat) &&& 15)))).toNat : Int) = o' (NJ' s x) := h_eq hs
theorem WL' (s : Nat) (l : Bs) (x : UInt8) : ovr s (l ++ [x]) = NJ' (ovr s l) x := by rw [ovr, List.foldl_append]; rfl
theorem U8' (W : World) (hN : LN W) (s : Nat) (hs : s < 4294967296) (oa : Option Addr) (c : Nat) (l : Bs) (h : BAt W.cell? oa l) : Tri Θ W fOv [uN s, slV oa l.length c] [] (uN (ovr s l)) [] := by
 have hlen : l.length <= 140737488351232 := h.1
 have hloop : LTri Θ W (A3' fOv 2) (tms 0 33 (aOv oa l.length c 0 s)) [] (.exit 0) (tms 0 33 [(0, uN (ovr s l))]) [] := by
  refine B6' (W := W) (g := fOv) (b := A3' fOv 2) (σ := {j : Nat // j <= l.length}) 33 (fun j => aOv oa l.length c j.1 (ovr s (l.take j.1))) (fun j => []) (.exit 0) [(0, uN (ovr s l))] [] (fun j => l.length - j.1) [] [0, 7, 8, 9] (by intro h; cases h) (fun _ => rfl) rfl ?_ ⟨0, Nat.zero_le _⟩; rintro ⟨j, hj⟩; simp only
  by_cases h1 : j < l.length
  ·obtain ⟨x, hx⟩ := AY' h1; obtain ⟨a, rfl, q1⟩ := h.2 j x hx; have hw := B8' j ω; have e1 : decide (o' j < o' l.length) = true := ltTN h1; have hsj := E9' (l.take j) hs
   have enx : ovr s (l.take (j + 1)) = NJ' (ovr s (l.take j)) x := by rw [B0' hx, WL']
   obtain ⟨t, ht⟩ : ∃ t, ovr s (l.take j) = t := ⟨_, rfl⟩; rw [ht] at hsj enx ⊢
   have hx8 : x.toNat < 4294967296 := by have := x.toNat_lt; omega
   have hu : t ^^^ x.toNat < 4294967296 := Nat.xor_lt_two_pow (n := 32) hsj hx8; have hh := Q4' hu; have k1 : (t ^^^ x.toNat) &&& 15 < 16 := Nat.lt_of_le_of_lt Nat.and_le_right δ; have k2 : half (t ^^^ x.toNat) &&& 15 < 16 := Nat.lt_of_le_of_lt Nat.and_le_right δ; have t1 := hN.tab _ k1; have t2 := hN.tab _ k2
   refine ⟨[], hOv j t x, [], fun F hF => noC, fun _ _ => noL, fun F => ?_⟩
   refine Yj (dG' W a l.length c j t x F) ⟨⟨?_, rfl, .inl ⟨rfl, ⟨j + 1, h1⟩, B1' h1, [], by kernel_rfl, by kernel_rfl, ⟨by rw [enx]; exact Ya, Ya, Ya, Ya, Ye⟩, Ye⟩⟩⟩
   simp only [ch', e1, h1, q1, t1, t2, k1, k2, Option.getD_some, Option.isSome_some, bl', true_and, and_true]; and_intros; all_goals first | (with_reducible exact C6' hw) | (with_reducible exact A2' e1) | (with_reducible exact NE' (c_eq hsj)) | (with_reducible exact NE' (a_eq hu)) | (with_reducible exact NE' (a_eq hh)) | (with_reducible exact NE' (h_eq hu)) | (with_reducible exact NE' (st_eq hh)) | exact Kc10'
  ·have hje : j = l.length := ω
   subst hje; rw [List.take_length]
   refine ⟨[], A6' [hf' fOv 2 0], [], fun _ _ => noC, fun _ _ => noL, fun F => ?_⟩
   refine Yj (dH' W oa l.length c (ovr s l) F) ⟨⟨?_, rfl, .inr ⟨rfl, [], by kernel_rfl, by kernel_rfl, ⟨Ya, Ye⟩, Ye⟩⟩⟩
   simp only [ch', and_true]; exact A2' (ltFN (Yd))
 have hl : ∀ F, AH' W F -> L1OK Θ F (A3' fOv 2) (lOv oa l.length c s (ovr s l)) := fun F hF =>
  BV' hF (fun _ => RO.ret _) (fun _ _ => hloop) fun _ => by
   simp only [RT.pick]; exact BD' rfl rfl (A0' Ye (A0' Ye (A0' Ye (A0' Ye A1')))) A1' (A0' Ye A1') A1'
 refine AF' (con := []) (hints := BA') (lc := [(fOv, 2, A3' fOv 2, lOv oa l.length c s (ovr s l))]) [] rfl (fun F _ => noC) (fun F hF => C2' (hl F hF)) fun F => ?_
 refine Yj (oOv_eq W oa l.length c s (ovr s l) F) ⟨⟨?_, (AO' (vs' := [uN (ovr s l)]) (H' := []) [] rfl rfl (Yb) trivial).fits rfl⟩⟩
 simp only [ch', bl', true_and, and_true]; and_intros; all_goals first | (with_reducible exact Ye) | (with_reducible exact rfl) | (with_reducible exact Yb) | exact rfl | exact Yb | ((repeat (first | exact VW.nil | refine VW.cons Ya ?_ | refine VW.cons (Wk.any _) ?_)); done)
theorem W6' {N : A9'} {xs : List AV} {ys : List Value} (h : VRs N (vmap pre ++ xs) ys) : ∃ zs, ys = pre ++ zs /\ VRs N xs zs := by
 induction pre generalizing ys with
 | nil => exact ⟨ys, rfl, h⟩
 | cons p pre ih =>
  obtain ⟨y, r, q1, q2, rfl⟩ := h; obtain ⟨zs, rfl, h2⟩ := ih q2; have : y = p := VR_v.1 q1; subst this; exact ⟨zs, rfl, h2⟩
theorem rB_raw {N : A9'} {k : Nat} {D : Nat -> Prop} {w : World} {l : Bs} {y : Value} (hb : l.length <= big) (hp : 0 < l.length) (ho : OR N k (rB l) D w) (h : VR N (sB k l.length) y) : ∃ a c, y = .slice (some a) l.length c /\ BAt w.cell? (some a) l /\ l.length <= c := by
 have h0c := h; obtain ⟨lo, x, c, h1, rfl, h3⟩ := NL' h
 have hcap : l.length <= c := by
  simp only [sB, VR] at h0c; obtain ⟨l', x', c', _, e2, _, _, _, e6⟩ := h0c; simp only [Value.slice.injEq] at e2; rw [e2.2.2]; exact e6
 rw [show rB l = .cells (vmap (l.map fun b => .int .u8 b.toNat)) (2 * 5) by rw [rB, CX']] at ho
 obtain ⟨lo', h1', h0, h2⟩ := KS' ho; rw [h1] at h1'; cases h1'
 refine ⟨_, _, rfl, ⟨hb, fun i b hi => ⟨_, rfl, ?_⟩⟩, hcap⟩
 rw [h3 hp, h0, Nat.mul_one]; have hq := h2 i (.int .u8 b.toNat) (by rw [List.getElem?_map, hi]; rfl)
 have e : ((Addr.mk lo.blk 0 none).add i) = Addr.mk lo.blk i none := by
  unfold Addr.add; split
  ·rename_i hi; subst hi; rfl
  ·show Addr.mk lo.blk (0 + i) none = _; rw [Nat.zero_add]
 rw [e]; exact (GH' hq).2
theorem TY' (K : World -> Prop) (hm : ∀ W W' : World, (∀ a v, W.cell? a = some v -> W'.cell? a = some v) -> K W -> K W') (W : World) (hN : K W) {l : Bs} (hb : l.length <= big) (hp : 0 < l.length) (hl : AA' 1100 H' = true) (hd : ∀ i o, getO H' i = some o -> 1000 <= i /\ getO [(0, rB l)] i = none)
  (h : ∀ W', K W' -> ∀ oa c, BAt W'.cell? oa l -> l.length <= c -> Tri Θ W' f (vmap pre ++ [slV oa l.length c]) [] v H') : Tri Θ W f (vmap pre ++ [sB 0 l.length]) [(0, rB l)] v ([(0, rB l)] ++ H') := by
 refine TM' (H := [(0, rB l)]) (H' := H') rfl hl hd fun W0 F N w vargs hF hNB r ha => ?_
 obtain ⟨zs, e, hz⟩ := W6' ha; obtain ⟨y, r1, q1, q2, rfl⟩ := hz; have q2 : r1 = [] := q2; subst q2
 have hfo : (AK' [(0, rB l)]).find 0 = some (rB l) := by rw [AE' χ]; rfl
 obtain ⟨D, hO⟩ := r.obj hfo; obtain ⟨a, c, rfl, hB, hC⟩ := rB_raw hb hp hO q1; have r0 := r; obtain ⟨_, _, _, D0, _, hD0, _, _⟩ := r0; have hold : ∀ a v, W.cell? a = some v -> w.cell? a = some v := I6' (hF D0 w hD0); have := h w (hm W w hold hN) (some a) c hB hC; refine ⟨pre ++ [.slice (some a) l.length c], e, ?_⟩
 have e2 : vmap (pre ++ [.slice (some a) l.length c]) = vmap pre ++ [slV (some a) l.length c] := by simp [vmap, slV]
 rw [e2]; exact this
theorem TZ' (W : World) (hN : LN W) {l : Bs} (hb : l.length <= big) (hp : 0 < l.length) (hl : AA' 1100 H' = true) (hd : ∀ i o, getO H' i = some o -> 1000 <= i /\ getO [(0, rB l)] i = none)
  (h : ∀ W', LN W' -> ∀ oa c, BAt W'.cell? oa l -> l.length <= c -> Tri Θ W' f (vmap pre ++ [slV oa l.length c]) [] v H') : Tri Θ W f (vmap pre ++ [sB 0 l.length]) [(0, rB l)] v ([(0, rB l)] ++ H') :=
 TY' LN (fun _ _ h k => k.mono h) W hN hb hp hl hd h
noncomputable section
abbrev fNw : Nat := 44
abbrev fNu : Nat := 68
abbrev fLo : Nat := 81
abbrev fRw : Nat := 83
abbrev fBy : Nat := 47
abbrev fCl : Nat := 32
abbrev tWr : TypeId := 2 * 131
abbrev nilS : AV := .v (.slice none 0 0)
abbrev k5' : Cnd := (f' (Wk (b' false) g'))
theorem f8' (W : World) (a : Addr) (n c : Nat) (F : HP) : wRun [] (A6' [hf' fCl 1 1]) [] W fCl [slV (some a) n c] [] [1100, 1101, 1102, 1103] F = VT.leaf (AV.slice 1101 0 (0 + n) 1 (Cp.lo (0 + n))) [some (ce' (rep [v' (vi' u8' (o' 0))] 0) 10),some (ce' ([] ++ vmap (AM' W a (n * 1))) 10),none,none] 1102 (k5'.a (((p' (n.ble n = true)).a ((p' (((List.range (n * 1)).all fun j => (W.cell? (a.add j)).isSome) = true)).a ((p' ((vmap (AM' W a (n * 1))).all AV.one = true)).a ((p' (Nat.blt 0 n = true)).a (tt'.a ((p' (((0 + n) * 1).ble 140737488355328 = true)).a ((p' ((0 + n).ble 9223372036854775807 = true)).a (tt'.a (f' (Nat.blt 0 (0 + n) = true)))))))))).a k1')) := χ
def wZ : AO := .cells [nilS, iv 0] tWr
def wC (p : Nat) : AO := .cells [sB 1001 p, iv 0] tWr
def wH (p : Nat) (l : Bs) : LH := [(0, wC p), (1001, rB l)]
theorem oNw_eq (F : HP) : wRun [] BA' [] default fNw [] [] [1100, 1101] F = VT.leaf (pt' 1100 0) [some (ce' [e',i' 0] 262),none] 1101 k1' := χ
def aNu (n : Nat) (i : Int) : List (Nat × AV) := [(0, .ptr 0 0), (2, iv (o' n)), (6, iv i)]
def kNu : List Nat := [0, 1001, 1100, 1101, 1102, 1103]
abbrev k6' : Cnd := (f' (Wk (i' 2) (i' 2)))
abbrev k7' : Cnd := (fe' true)
abbrev k8' : Cnd := (tt'.a (tt'.a (tt'.a (tt'.a (ee' true)))))
abbrev k9' (q0 : Nat) (q1 : UInt8) : Cnd := (f' (Wk (v' (vi' u8' (IntKind.u8.wrap ((o' q0).fdiv (o' 16777216))))) (v' (vi' u8' ↑q1.toNat))))
abbrev h10' (z : Cnd) : Cnd := ((f' (Wk (b' true) j')).a ((fe' true).a z))
theorem dU' (n : Nat) (b : UInt8) (F : HP) : AW' [] (A6' [ht' fNu 2 1, (fNu, 4, 9, hv (byv b)), (fNu, 3, 1, hv (iv 2))]) [] default fNu (A3' fNu 2) (tms 0 30 (aNu n 3)) [(0, wZ)] kNu [0, 2, 6] F = VT.leaf (AX.normal,[pt' 0 0,i' n,i' 2],30) [some (ce' [AV.slice 1101 0 1 1 (Cp.lo 1),i' 0] 262),none,some (ce' [v' (vi' u8' ↑b.toNat)] 10),some (ce' [v' (vi' u8' ↑b.toNat)] 10),none,none] 1102 (h10' ((k9' n b).a (k8'.a (k7'.a (k6'.a k1'))))) := χ
abbrev h11' (q0 : Nat) (q1 : Bs) (z : Cnd) : Cnd := ((tt'.a (tt'.a (tt'.a (tt'.a ((p' ((0 + q0 * 1).ble (rowV encB q1).length = true)).a ((p' (((q0 + 1) * 1).ble 140737488355328 = true)).a ((p' ((q0 + 1).ble 9223372036854775807 = true)).a (f' ((List.take (q0 * 1) (List.drop 0 (rowV encB q1))).length.beq (q0 * 1) = true))))))))).a ((fe' true).a z))
theorem dW' (n p : Nat) (l : Bs) (b : UInt8) (F : HP) : AW' [] (A6' [ht' fNu 2 1, (fNu, 4, 9, hv (byv b)), (fNu, 3, 1, hv (iv 2))]) [] default fNu (A3' fNu 2) (tms 0 30 (aNu n 3)) (wH p l) kNu [0, 2, 6] F = VT.leaf (AX.normal,[pt' 0 0,i' n,i' 2],30) [some (ce' [AV.slice 1101 0 (p + 1) 1 (Cp.lo (p + 1)),i' 0] 262),none,some (ce' [v' (vi' u8' ↑b.toNat)] 10),some (ce' (List.take (p * 1) (List.drop 0 (rowV encB l)) ++ [v' (vi' u8' ↑b.toNat)]) 10),none,none] 1102 (h10' ((k9' n b).a (h11' p l (k6'.a k1')))) := χ
abbrev k12' : Cnd := (f' (Wk (i' 1) (i' 1)))
theorem dX' (n p : Nat) (l : Bs) (b : UInt8) (F : HP) : AW' [] (A6' [ht' fNu 2 1, (fNu, 4, 9, hv (byv b)), (fNu, 3, 1, hv (iv 1))]) [] default fNu (A3' fNu 2) (tms 0 30 (aNu n 2)) (wH p l) kNu [0, 2, 6] F = VT.leaf (AX.normal,[pt' 0 0,i' n,i' 1],30) [some (ce' [AV.slice 1101 0 (p + 1) 1 (Cp.lo (p + 1)),i' 0] 262),none,some (ce' [v' (vi' u8' ↑b.toNat)] 10),some (ce' (List.take (p * 1) (List.drop 0 (rowV encB l)) ++ [v' (vi' u8' ↑b.toNat)]) 10),none,none] 1102 (h10' ((f' (Wk (v' (vi' u8' (IntKind.u8.wrap ((o' n).fdiv (o' 65536))))) (v' (vi' u8' ↑b.toNat)))).a (h11' p l (k12'.a k1')))) := χ
abbrev k13' : Cnd := (f' (Wk (i' 0) (i' 0)))
theorem dY' (n p : Nat) (l : Bs) (b : UInt8) (F : HP) : AW' [] (A6' [ht' fNu 2 1, (fNu, 4, 9, hv (byv b)), (fNu, 3, 1, hv (iv 0))]) [] default fNu (A3' fNu 2) (tms 0 30 (aNu n 1)) (wH p l) kNu [0, 2, 6] F = VT.leaf (AX.normal,[pt' 0 0,i' n,i' 0],30) [some (ce' [AV.slice 1101 0 (p + 1) 1 (Cp.lo (p + 1)),i' 0] 262),none,some (ce' [v' (vi' u8' ↑b.toNat)] 10),some (ce' (List.take (p * 1) (List.drop 0 (rowV encB l)) ++ [v' (vi' u8' ↑b.toNat)]) 10),none,none] 1102 (h10' ((f' (Wk (v' (vi' u8' (IntKind.u8.wrap ((o' n).fdiv (o' 256))))) (v' (vi' u8' ↑b.toNat)))).a (h11' p l (k13'.a k1')))) := χ
theorem dZ' (n p : Nat) (l : Bs) (b : UInt8) (F : HP) : AW' [] (A6' [ht' fNu 2 1, (fNu, 4, 9, hv (byv b)), (fNu, 3, 1, hv (iv (-1)))]) [] default fNu (A3' fNu 2) (tms 0 30 (aNu n 0)) (wH p l) kNu [0, 2, 6] F = VT.leaf (AX.normal,[pt' 0 0,i' n,z' (Int.negSucc 0)],30) [some (ce' [AV.slice 1101 0 (p + 1) 1 (Cp.lo (p + 1)),i' 0] 262),none,some (ce' [v' (vi' u8' ↑b.toNat)] 10),some (ce' (List.take (p * 1) (List.drop 0 (rowV encB l)) ++ [v' (vi' u8' ↑b.toNat)]) 10),none,none] 1102 (h10' ((f' (Wk (v' (vi' u8' (IntKind.u8.wrap ((o' n).fdiv (o' 1))))) (v' (vi' u8' ↑b.toNat)))).a (h11' p l ((f' (Wk (z' (Int.negSucc 0)) (z' (Int.negSucc 0)))).a k1')))) := χ
theorem dV' (n p : Nat) (l : Bs) (F : HP) : AW' [] (A6' [hf' fNu 2 1]) [] default fNu (A3' fNu 2) (tms 0 30 (aNu n (-1))) (wH p l) kNu [0, 2, 6] F = VT.leaf (AX.exit 0,[pt' 0 0,i' n,z' (Int.negSucc 0)],30) [some (ce' [AV.slice 1001 0 p 1 (Cp.lo p),i' 0] 262),some (ce' (rowV encB l) 10),none,none,none,none] 1100 (k5'.a k1') := χ
def lNu (H : LH) (n : Nat) (H' : LH) : List AV -> AP (AX × List AV) := mkL (fun _ => .ret ()) (fun _ => True) (fun _ k => k) (fun _ => tms 0 30 (aNu n 3)) (fun _ => H) (fun _ => .leaf (.exit 0) (tms 0 30 []) H')
theorem eA' (n : Nat) (q : Nat) (l : Bs) (F : HP) : wRun [] (A6' [(fNu, 1, 1, hv (iv 3))]) [(fNu, 2, A3' fNu 2, lNu [(0, wZ)] n (wH q l))] default fLo [.ptr 0 0, iv (o' n)] [(0, wZ)] kNu F = VT.leaf (AV.tuple []) [some (ce' [AV.slice 1100 0 q 1 (Cp.lo q),i' 0] 262),none,some (ce' (AV.rens (sgN (fun k => k) [1001] 1100) (rowV encB l)) 10),none,none,none] 1101 (((fe' true).a ((f' (Wk (i' 3) (i' 3))).a ((p' ((fNu,2,A3' fNu 2,lNu [(0,wZ)] n (wH q l)).snd.snd.fst = (fNu,2,A3' fNu 2,lNu [(0,wZ)] n (wH q l)).snd.snd.fst)).a ((Cnd.p True).a ((p' (VW (pt' 0 0::i' 4::i' n::u'::u'::u'::i' 3::pt' 0 0::pt' 0 0::pt' 0 1::i' 4::i' 3::ru16 (u'::u'::[])) (pt' 0 0::a'::i' n::a'::a'::a'::i' 3::ra16 (ra4 (a'::a'::a'::[]))))).a (f' (OW (ce' [e',i' 0] 262) (ce' [e',i' 0] 262)))))))).a k1') := χ
theorem e9' (n p q : Nat) (k l : Bs) (F : HP) : wRun [] (A6' [(fNu, 1, 1, hv (iv 3))]) [(fNu, 2, A3' fNu 2, lNu (wH p k) n (wH q l))] default fLo [.ptr 0 0, iv (o' n)] (wH p k) kNu F = VT.leaf (AV.tuple []) [some (ce' [AV.slice 1100 0 q 1 (Cp.lo q),i' 0] 262),none,some (ce' (AV.rens (sgN (fun k => k) [1001] 1100) (rowV encB l)) 10),none,none,none] 1101 (((fe' true).a ((f' (Wk (i' 3) (i' 3))).a ((p' ((fNu,2,A3' fNu 2,lNu (wH p k) n (wH q l)).snd.snd.fst = (fNu,2,A3' fNu 2,lNu (wH p k) n (wH q l)).snd.snd.fst)).a ((Cnd.p True).a ((p' (VW (pt' 0 0::i' 4::i' n::u'::u'::u'::i' 3::pt' 0 0::pt' 0 0::pt' 0 1::i' 4::i' 3::ru16 (u'::u'::[])) (pt' 0 0::a'::i' n::a'::a'::a'::i' 3::ra16 (ra4 (a'::a'::a'::[]))))).a ((ow' (ce' [AV.slice 1001 0 p 1 (Cp.lo p),i' 0] 262)).a (f' (OW (ce' (rowV encB k) 10) (ce' (AV.rens (fun k => k) (rowV encB k)) 10))))))))).a k1') := χ
def cClB (p : Nat) (l : Bs) : List AV -> Option (AP AV) := mkC (fun args => match args with | [.slice i _ _ _ _] => .ret i | _ => .fail "clone") (fun _ => True) (fun i k => match k with | 0 => i | k => k) (fun _ => [sB 0 p]) (fun _ => [(0, rB l)]) (fun _ => .leaf .ret [sB 1000 p] [(0, rB l), (1000, rB l)])
abbrev k14' (q0 q1 : Nat) (q2 : Bs) : Cnd := ((p' True).a ((vw' [AV.slice q0 0 q1 1 (Cp.lo q1)]).a (f' (OW (ce' (rowV encB q2) 10) (ce' (AV.rens (fun k => match k with | 0 => q0 | k => k) (rowV encB q2)) 10)))))
theorem oBy_eq (p : Nat) (l : Bs) (F : HP) : wRun [(fCl, cClB p l)] BA' [] default fBy [.ptr 0 0] (wH p l) kNu F = VT.leaf (AV.slice 1100 0 p 1 (Cp.lo p)) [some (ce' [AV.slice 1001 0 p 1 (Cp.lo p),i' 0] 262),some (ce' (AV.rens (sgN (fun k => match k with | 0 => 1001 | k => k) [1000] 1100) (rowV encB l)) 10),some (ce' (AV.rens (sgN (fun k => match k with | 0 => 1001 | k => k) [1000] 1100) (rowV encB l)) 10),none,none,none] 1101 (k7'.a ((k14' 1001 p l).a k1')) := χ
abbrev h15' (z : Cnd) : Cnd := ((fe' true).a ((fe' true).a z))
theorem oRw_eq (W : World) (a : Addr) (p n c : Nat) (l : Bs) (F : HP) : wRun [] BA' [] W fRw [.ptr 0 0, slV (some a) n c] (wH p l) kNu F = VT.leaf (AV.tuple []) [some (ce' [AV.slice 1100 0 (p + n) 1 (Cp.lo (p + n)),i' 0] 262),none,some (ce' (List.take (p * 1) (List.drop 0 (rowV encB l)) ++ vmap (AM' W a (n * 1))) 10),none,none,none] 1101 (h15' (((p' (n.ble n = true)).a ((p' (((List.range (n * 1)).all fun j => (W.cell? (a.add j)).isSome) = true)).a ((p' ((vmap (AM' W a (n * 1))).all AV.one = true)).a ((p' (Nat.blt 0 n = true)).a ((p' ((0 + p * 1).ble (rowV encB l).length = true)).a ((p' (((p + n) * 1).ble 140737488355328 = true)).a ((p' ((p + n).ble 9223372036854775807 = true)).a (f' ((List.take (p * 1) (List.drop 0 (rowV encB l))).length.beq (p * 1) = true))))))))).a (k7'.a k1'))) := χ
theorem bV' (W : World) (a : Addr) (p c : Nat) (l : Bs) (F : HP) : wRun [] (A6' [(fRw, 1, 6, h0)]) [] W fRw [.ptr 0 0, slV (some a) 0 c] (wH p l) kNu F = VT.leaf (AV.tuple []) [some (ce' [AV.slice 1001 0 p 1 (Cp.lo p),i' 0] 262),some (ce' (rowV encB l) 10),none,none,none,none] 1100 (h15' ((fe' 0).a (k7'.a k1'))) := χ
theorem bU' (W : World) (p c : Nat) (l : Bs) (F : HP) : wRun [] (A6' [(fRw, 1, 6, h0)]) [] W fRw [.ptr 0 0, slV none 0 c] (wH p l) kNu F = VT.leaf (AV.tuple []) [some (ce' [AV.slice 1001 0 p 1 (Cp.lo p),i' 0] 262),some (ce' (rowV encB l) 10),none,none,none,none] 1100 (h15' ((fe' 0).a (k7'.a k1'))) := χ
end
theorem EB' {a : Addr} {l : Bs} (h : BAt W.cell? (some a) l) : ((List.range (l.length * 1)).all fun j => (W.cell? (a.add j)).isSome) = true /\ vmap (AM' W a (l.length * 1)) = rowV encB l := by
 have hc : ∀ i b, l[i]? = some b -> W.cell? (a.add i) = some (.int .u8 (b.toNat : Int)) := fun i b hb => by
  obtain ⟨a', e, q⟩ := h.2 i b hb; obtain rfl := Option.some.inj e
  rwa [Nat.mul_one] at q
 rw [Nat.mul_one, CX']
 refine ⟨List.all_eq_true.2 fun j hj => ?_, congrArg vmap ?_⟩
 ·obtain ⟨b, hb⟩ := AY' (l := l) (List.mem_range.1 hj); rw [hc j b hb]; rfl
 ·unfold AM'
  refine List.ext_getElem (by simp) fun j h1 h2 => ?_
  have hj : j < l.length := by simpa using h1
  simp only [List.getElem_map, List.getElem_range]; rw [hc j l[j] (List.getElem?_eq_getElem hj)]; rfl
theorem KD' (l : Bs) : (rowV encB l).all AV.one = true := by
 rw [CX']
 induction l with
 | nil => rfl
 | cons a l ih => exact ih
theorem RU' (W : World) (oa : Option Addr) (c : Nat) (l : Bs) (h : BAt W.cell? oa l) (hp : 0 < l.length) : Tri Θ W fCl [slV oa l.length c] [] (sB 1000 l.length) [(1000, rB l)] := by
 obtain ⟨x, hx⟩ := AY' (l := l) hp; obtain ⟨a, rfl, _⟩ := h.2 0 x hx; have hb : l.length <= 140737488351232 := h.1; have b1 : l.length.ble l.length = true := AL' (Yd); obtain ⟨b2, b3⟩ := EB' h
 have b4 : (vmap (AM' W a (l.length * 1))).all AV.one = true := by rw [b3]; exact KD' l
 have b5 : ((0 + l.length) * 1).ble 140737488355328 = true := AL' ω; have b6 : (0 + l.length).ble 9223372036854775807 = true := AL' ω
 have b8 : 0 < 0 + l.length := ω
 refine AF' (con := []) (hints := A6' [hf' fCl 1 1]) (lc := []) [1100, 1101, 1102, 1103] rfl (fun _ _ => noC) (fun F _ => noL) fun F => ?_
 refine Yj (f8' W a l.length c F) ⟨⟨?_, (AO' (vs' := [sB 1000 l.length]) (H' := [(1000, rB l)]) [(1000, 1101)] rfl rfl (by rw [Nat.zero_add]; exact Yb) ⟨⟨_, rfl, by rw [List.nil_append]; exact AQ' b3 rfl⟩, Ye⟩).fits rfl⟩⟩; simp only [ch', bl', true_and, and_true]; exact ⟨AT' _, b1, b2, b4, hp, b5, b6, b8⟩
theorem gL' (W : World) (l : Bs) (hb : l.length <= big) (hp : 0 < l.length) : Tri Θ W fCl [sB 0 l.length] [(0, rB l)] (sB 1000 l.length) [(0, rB l), (1000, rB l)] :=
 TY' (fun _ => True) (fun _ _ _ _ => trivial) W trivial (pre := []) (H' := [(1000, rB l)]) hb hp rfl (fun i o h => by
  simp only [getO] at h ⊢
  by_cases e : i = 1000
  ·subst e; exact ⟨δ, by simp⟩
  ·rw [if_neg e] at h; cases h) fun W' _ oa c h _ => RU' W' oa c l h hp
def wL : Bs -> LH
 | [] => [(0, wZ)]
 | b :: l => wH (l.length + 1) (b :: l)
def wHP (l : Bs) : Nat -> Nat -> HP := exHP (fun _ : Unit => True) (fun _ => wL l)
def wM (m : Md) (l : Bs) : AO := .own m (wHP l)
theorem EG' {l : Bs} (h : l ≠ []) : wL l = wH l.length l := by
 cases l with
 | nil => exact absurd rfl h
 | cons b l => rfl
theorem wL_cl : ∀ l : Bs, ∀ x ∈ wL l, x.2.cl (kH (wL l))
 | [] => A0' ⟨Ye, Ye, Ye⟩ A1'
 | b :: l => A0' ⟨rfl, Ye, Ye⟩ (A0' (AR' _ _) A1')
theorem PL' : ∀ l : Bs, ∃ cs e, getO (wL l) 0 = some (.cells cs e) /\ e % 2 = 0
 | [] => ⟨_, _, rfl, by kernel_rfl⟩
 | b :: l => ⟨_, _, rfl, by kernel_rfl⟩
theorem YI' : ∀ l : Bs, ownL [] (wL l) = true
 | [] => rfl
 | b :: l => rfl
theorem NZ' {m : Md} {l : Bs} {Ar : List AV} (h : Tri Θ W f Ar (wL l) v H') : Tri Θ W f Ar [(0, wM m l)] v H' :=
 Tri.open (R := fun _ : Unit => True) (L := fun _ => wL l) (H0 := []) (fun _ => YI' l) (fun _ => wL_cl l) (fun _ => by obtain ⟨cs, e, h, _⟩ := PL' l; exact ⟨_, h⟩) fun _ _ => by rw [List.append_nil]; exact h
theorem NM' {m : Md} {l : Bs} {vs : List AV} (hv : AV.cls (fun i => Nat.blt i 1000) vs) : Goes vs (wL l) vs [(0, wM m l)] := by
 have := Goes.shut (R := fun _ : Unit => True) (L := fun _ => wL l) (m := m) (H0 := []) (vs := vs) () trivial (YI' l) (PL' l) (by
  have e : (fun i => Nat.blt i 1000 || (getO ([] : LH) i).isSome) = fun i => Nat.blt i 1000 := by funext i; simp only [getO, Option.isSome_none, Bool.or_false]
  rw [e]; exact hv) (fun x hx => by cases hx)
 rwa [List.append_nil] at this
theorem YX' (m : Md) : Tri Θ default fNw [] [] (.ptr 1000 0) [(1000, wM m [])] := by
 refine AF' (con := []) (hints := BA') (lc := []) [1100, 1101] rfl (fun _ _ => noC) (fun F _ => noL) fun F => ?_
 refine Yj (oNw_eq F) ⟨⟨Ye, [.ptr 1000 0], [(1000, wZ)], [(1000, 1100)], rfl, AO' (vs' := [.ptr 1000 0]) (H' := [(1000, wZ)]) _ χ χ (Yb) ⟨⟨_, rfl, Yc⟩, Ye⟩, ?_⟩⟩
 exact Goes.shutNew (R := fun _ : Unit => True) (L := fun _ => wL []) (m := m) 1000 δ () trivial χ χ ⟨_, _, rfl, by kernel_rfl⟩ ⟨rfl, Ye⟩
theorem VD' {d : Nat} (hd : 0 < d) : IntKind.u8.wrap ((o' n).fdiv (o' d)) = ((UInt8.ofNat (n / d)).toNat : Int) := by
 have e : (o' n).fdiv (o' d) = ((n / d : Nat) : Int) := by
  show ((n : Int)).fdiv (d : Int) = _; rw [Int.fdiv_eq_ediv_of_nonneg _ ω]; rfl
 rw [e, UInt8.toNat_ofNat', IntKind.wrap_u8]; omega
theorem by_eq1 : IntKind.u8.wrap ((o' n).fdiv (o' 1)) = ((UInt8.ofNat n).toNat : Int) := by
 have h := VD' (n := n) (d := 1) δ
 rwa [Nat.div_one] at h
theorem wk_b {a b : Int} (h : a = b) : Wk (.v (.int .u8 a)) (.v (.int .u8 b)) := by subst h; exact Ya
theorem Y7' (n : Nat) : (be4 n).take 0 = [] /\ (be4 n).take 1 = [UInt8.ofNat (n / 16777216)] /\ (be4 n).take 2 = [UInt8.ofNat (n / 16777216)] ++ [UInt8.ofNat (n / 65536)] /\ (be4 n).take 3 = [UInt8.ofNat (n / 16777216), UInt8.ofNat (n / 65536)] ++ [UInt8.ofNat (n / 256)] /\ (be4 n).take 4 = [UInt8.ofNat (n / 16777216), UInt8.ofNat (n / 65536), UInt8.ofNat (n / 256)] ++ [UInt8.ofNat n] := ⟨rfl, rfl, rfl, rfl, rfl⟩
theorem nu_tri (n : Nat) (l : Bs) (hb : l.length + 4 <= 140737488351232) : LTri Θ default (A3' fNu 2) (tms 0 30 (aNu n 3)) (wL l) (.exit 0) (tms 0 30 []) (wL (l ++ be4 n)) := by
 suffices h : LTri Θ default (A3' fNu 2) (tms 0 30 (aNu n 3)) (wL (l ++ (be4 n).take 0)) (.exit 0) (tms 0 30 []) (wL (l ++ be4 n)) by rwa [List.take_zero, List.append_nil] at h
 refine B6' (W := default) (g := fNu) (b := A3' fNu 2) (σ := {j : Nat // j <= 4}) 30 (fun j => aNu n (3 - (j.1 : Int))) (fun j => wL (l ++ (be4 n).take j.1)) (.exit 0) [] (wL (l ++ be4 n)) (fun j => 4 - j.1) kNu [0, 2, 6] (by intro h; cases h) (fun j => by
  cases (l ++ (be4 n).take j.1) with
  | nil => rfl
  | cons b l => rfl) (by
  cases (l ++ be4 n) with
  | nil => rfl
  | cons b l => rfl) ?_ ⟨0, Nat.zero_le _⟩
 rintro ⟨j, hj⟩; simp only; obtain ⟨t0, t1, t2, t3, t4⟩ := Y7' n
 rcases j with _|_|_|_|_|j
 ·cases l with
  | nil =>
   refine ⟨[], A6' [ht' fNu 2 1, (fNu, 4, 9, hv (byv (UInt8.ofNat (n / 16777216)))), (fNu, 3, 1, hv (iv 2))], [], fun F hF => noC, fun _ _ => noL, fun F => ?_⟩
   refine Yj (dU' n (UInt8.ofNat (n / 16777216)) F) ⟨⟨?_, rfl, .inl ⟨rfl, ⟨1, by omega⟩, by simp only; omega, [(1001, 1101)], by kernel_rfl, by kernel_rfl, ⟨Ya, Ya, Ya, Ye⟩, ⟨_, rfl, Yc⟩, ⟨_, rfl, AQ' rfl rfl⟩, Ye⟩⟩⟩
   simp only [ch', bl', true_and, and_true]; and_intros; all_goals exact Kc7'
  | cons x l =>
   rw [t0, List.append_nil]
   have hne : x :: l ≠ [] := by simp
   have hne2 : (x :: l) ++ [UInt8.ofNat (n / 16777216)] ≠ [] := by simp
   have hl1 : ((x :: l) ++ [UInt8.ofNat (n / 16777216)]).length = (x :: l).length + 1 := la'; rw [EG' hne]; have k1 : (0 + (x :: l).length * 1).ble (rowV encB (x :: l)).length = true := PQ' rfl; have k2 : (((x :: l).length + 1) * 1).ble 140737488355328 = true := AL' (by have := hb; simp only [List.length_cons] at *; omega); have k3 : ((x :: l).length + 1).ble 9223372036854775807 = true := AL' (by have := hb; simp only [List.length_cons] at *; omega); have k4 := H6' (P := x :: l) rfl
   refine ⟨[], A6' [ht' fNu 2 1, (fNu, 4, 9, hv (byv (UInt8.ofNat (n / 16777216)))), (fNu, 3, 1, hv (iv 2))], [], fun F hF => noC, fun _ _ => noL, fun F => ?_⟩
   refine Yj (dW' n (x :: l).length (x :: l) (UInt8.ofNat (n / 16777216)) F) ⟨⟨?_, rfl, .inl ⟨rfl, ⟨1, by omega⟩, by simp only; omega, [(1001, 1101)], ?_⟩⟩⟩
   ·exact Cc0'
   ·show FitT _ _ _ _ _ (wL ((x :: l) ++ (be4 n).take 1)) _
    rw [show (x :: l) ++ (be4 n).take 1 = (x :: l) ++ [UInt8.ofNat (n / 16777216)] by simp [be4], EG' hne2, hl1]
    exact ⟨χ, by kernel_rfl, ⟨Ya, Ya, Ya, Ye⟩, ⟨_, rfl, Yc⟩, ⟨_, rfl, AQ' (H7' rfl [UInt8.ofNat (n / 16777216)]) rfl⟩, Ye⟩
 ·rw [show l ++ (be4 n).take 1 = l ++ [UInt8.ofNat (n / 16777216)] by simp [be4]]
  have hne : l ++ [UInt8.ofNat (n / 16777216)] ≠ [] := by simp
  have hlen : (l ++ [UInt8.ofNat (n / 16777216)]).length = l.length + 1 := by simp
  have hne2 : l ++ [UInt8.ofNat (n / 16777216)] ++ [UInt8.ofNat (n / 65536)] ≠ [] := by simp
  have hl1 : (l ++ [UInt8.ofNat (n / 16777216)] ++ [UInt8.ofNat (n / 65536)]).length = (l ++ [UInt8.ofNat (n / 16777216)]).length + 1 := la'; rw [EG' hne]; have k1 : (0 + (l ++ [UInt8.ofNat (n / 16777216)]).length * 1).ble (rowV encB (l ++ [UInt8.ofNat (n / 16777216)])).length = true := PQ' rfl; have k2 : (((l ++ [UInt8.ofNat (n / 16777216)]).length + 1) * 1).ble 140737488355328 = true := AL' (by rw [hlen]; omega); have k3 : ((l ++ [UInt8.ofNat (n / 16777216)]).length + 1).ble 9223372036854775807 = true := AL' (by rw [hlen]; omega); have k4 := H6' (P := l ++ [UInt8.ofNat (n / 16777216)]) rfl
  refine ⟨[], A6' [ht' fNu 2 1, (fNu, 4, 9, hv (byv (UInt8.ofNat (n / 65536)))), (fNu, 3, 1, hv (iv 1))], [], fun F hF => noC, fun _ _ => noL, fun F => ?_⟩
  refine Yj (dX' n (l ++ [UInt8.ofNat (n / 16777216)]).length (l ++ [UInt8.ofNat (n / 16777216)]) (UInt8.ofNat (n / 65536)) F) ⟨⟨?_, rfl, .inl ⟨rfl, ⟨2, by omega⟩, by simp only; omega, [(1001, 1101)], ?_⟩⟩⟩
  ·exact Cc0'
  ·show FitT _ _ _ _ _ (wL (l ++ (be4 n).take 2)) _
   rw [show l ++ (be4 n).take 2 = l ++ [UInt8.ofNat (n / 16777216)] ++ [UInt8.ofNat (n / 65536)] by simp [be4], EG' hne2, hl1]
   exact ⟨χ, by kernel_rfl, ⟨Ya, Ya, Ya, Ye⟩, ⟨_, rfl, Yc⟩, ⟨_, rfl, AQ' (H7' rfl [UInt8.ofNat (n / 65536)]) rfl⟩, Ye⟩
 ·rw [show l ++ (be4 n).take 2 = l ++ [UInt8.ofNat (n / 16777216), UInt8.ofNat (n / 65536)] by simp [be4]]
  have hne : l ++ [UInt8.ofNat (n / 16777216), UInt8.ofNat (n / 65536)] ≠ [] := by simp
  have hlen : (l ++ [UInt8.ofNat (n / 16777216), UInt8.ofNat (n / 65536)]).length = l.length + 2 := by simp
  have hne2 : l ++ [UInt8.ofNat (n / 16777216), UInt8.ofNat (n / 65536)] ++ [UInt8.ofNat (n / 256)] ≠ [] := by simp
  have hl1 : (l ++ [UInt8.ofNat (n / 16777216), UInt8.ofNat (n / 65536)] ++ [UInt8.ofNat (n / 256)]).length = (l ++ [UInt8.ofNat (n / 16777216), UInt8.ofNat (n / 65536)]).length + 1 := la'; rw [EG' hne]; have k1 : (0 + (l ++ [UInt8.ofNat (n / 16777216), UInt8.ofNat (n / 65536)]).length * 1).ble (rowV encB (l ++ [UInt8.ofNat (n / 16777216), UInt8.ofNat (n / 65536)])).length = true := PQ' rfl; have k2 : (((l ++ [UInt8.ofNat (n / 16777216), UInt8.ofNat (n / 65536)]).length + 1) * 1).ble 140737488355328 = true := AL' (by rw [hlen]; omega); have k3 : ((l ++ [UInt8.ofNat (n / 16777216), UInt8.ofNat (n / 65536)]).length + 1).ble 9223372036854775807 = true := AL' (by rw [hlen]; omega); have k4 := H6' (P := l ++ [UInt8.ofNat (n / 16777216), UInt8.ofNat (n / 65536)]) rfl
  refine ⟨[], A6' [ht' fNu 2 1, (fNu, 4, 9, hv (byv (UInt8.ofNat (n / 256)))), (fNu, 3, 1, hv (iv 0))], [], fun F hF => noC, fun _ _ => noL, fun F => ?_⟩
  refine Yj (dY' n (l ++ [UInt8.ofNat (n / 16777216), UInt8.ofNat (n / 65536)]).length (l ++ [UInt8.ofNat (n / 16777216), UInt8.ofNat (n / 65536)]) (UInt8.ofNat (n / 256)) F) ⟨⟨?_, rfl, .inl ⟨rfl, ⟨3, by omega⟩, by simp only; omega, [(1001, 1101)], ?_⟩⟩⟩
  ·exact Cc0'
  ·show FitT _ _ _ _ _ (wL (l ++ (be4 n).take 3)) _
   rw [show l ++ (be4 n).take 3 = l ++ [UInt8.ofNat (n / 16777216), UInt8.ofNat (n / 65536)] ++ [UInt8.ofNat (n / 256)] by simp [be4], EG' hne2, hl1]
   exact ⟨χ, by kernel_rfl, ⟨Ya, Ya, Ya, Ye⟩, ⟨_, rfl, Yc⟩, ⟨_, rfl, AQ' (H7' rfl [UInt8.ofNat (n / 256)]) rfl⟩, Ye⟩
 ·rw [show l ++ (be4 n).take 3 = l ++ [UInt8.ofNat (n / 16777216), UInt8.ofNat (n / 65536), UInt8.ofNat (n / 256)] by simp [be4]]
  have hne : l ++ [UInt8.ofNat (n / 16777216), UInt8.ofNat (n / 65536), UInt8.ofNat (n / 256)] ≠ [] := by simp
  have hlen : (l ++ [UInt8.ofNat (n / 16777216), UInt8.ofNat (n / 65536), UInt8.ofNat (n / 256)]).length = l.length + 3 := by simp
  have hne2 : l ++ [UInt8.ofNat (n / 16777216), UInt8.ofNat (n / 65536), UInt8.ofNat (n / 256)] ++ [UInt8.ofNat n] ≠ [] := by simp
  have hl1 : (l ++ [UInt8.ofNat (n / 16777216), UInt8.ofNat (n / 65536), UInt8.ofNat (n / 256)] ++ [UInt8.ofNat n]).length = (l ++ [UInt8.ofNat (n / 16777216), UInt8.ofNat (n / 65536), UInt8.ofNat (n / 256)]).length + 1 := la'; rw [EG' hne]; have k1 : (0 + (l ++ [UInt8.ofNat (n / 16777216), UInt8.ofNat (n / 65536), UInt8.ofNat (n / 256)]).length * 1).ble (rowV encB (l ++ [UInt8.ofNat (n / 16777216), UInt8.ofNat (n / 65536), UInt8.ofNat (n / 256)])).length = true := PQ' rfl; have k2 : (((l ++ [UInt8.ofNat (n / 16777216), UInt8.ofNat (n / 65536), UInt8.ofNat (n / 256)]).length + 1) * 1).ble 140737488355328 = true := AL' (by rw [hlen]; omega); have k3 : ((l ++ [UInt8.ofNat (n / 16777216), UInt8.ofNat (n / 65536), UInt8.ofNat (n / 256)]).length + 1).ble 9223372036854775807 = true := AL' (by rw [hlen]; omega); have k4 := H6' (P := l ++ [UInt8.ofNat (n / 16777216), UInt8.ofNat (n / 65536), UInt8.ofNat (n / 256)]) rfl
  refine ⟨[], A6' [ht' fNu 2 1, (fNu, 4, 9, hv (byv (UInt8.ofNat n))), (fNu, 3, 1, hv (iv (-1)))], [], fun F hF => noC, fun _ _ => noL, fun F => ?_⟩
  refine Yj (dZ' n (l ++ [UInt8.ofNat (n / 16777216), UInt8.ofNat (n / 65536), UInt8.ofNat (n / 256)]).length (l ++ [UInt8.ofNat (n / 16777216), UInt8.ofNat (n / 65536), UInt8.ofNat (n / 256)]) (UInt8.ofNat n) F) ⟨⟨?_, rfl, .inl ⟨rfl, ⟨4, by omega⟩, by simp only; omega, [(1001, 1101)], ?_⟩⟩⟩
  ·simp only [ch', bl', true_and, and_true, k1, k2, k3, k4]; and_intros; all_goals first | (with_reducible exact Ye) | (with_reducible exact rfl) | (with_reducible exact Ya) | (with_reducible exact Yb) | (with_reducible exact Yc) | (with_reducible exact AT' _) | (with_reducible assumption) | exact wk_b by_eq1 | exact Kc4'
  ·show FitT _ _ _ _ _ (wL (l ++ (be4 n).take 4)) _
   rw [show l ++ (be4 n).take 4 = l ++ [UInt8.ofNat (n / 16777216), UInt8.ofNat (n / 65536), UInt8.ofNat (n / 256)] ++ [UInt8.ofNat n] by simp [be4], EG' hne2, hl1]
   exact ⟨χ, by kernel_rfl, ⟨Ya, Ya, Ya, Ye⟩, ⟨_, rfl, Yc⟩, ⟨_, rfl, AQ' (H7' rfl [UInt8.ofNat n]) rfl⟩, Ye⟩
 ·rw [show (be4 n).take 4 = be4 n from rfl]
  have hne : l ++ be4 n ≠ [] := by simp [be4]
  rw [EG' hne]
  refine ⟨[], A6' [hf' fNu 2 1], [], fun F hF => noC, fun _ _ => noL, fun F => ?_⟩
  refine Yj (dV' n (l ++ be4 n).length (l ++ be4 n) F) ⟨⟨?_, rfl, .inr ⟨rfl, [(1001, 1001)], by kernel_rfl, by kernel_rfl, Ye, ⟨_, rfl, Yc⟩, ⟨_, rfl, OW.of_eq (KA' _ _).symm⟩, Ye⟩⟩⟩
  exact Cc1'
 ·omega
theorem VE' (l : Bs) (n : Nat) : l ++ be4 n ≠ [] := by simp [be4]
theorem Z6' {k : Bs} (hb : k.length + 4 <= 140737488351232) (F : HP) : L1OK Θ F (A3' fNu 2) (lNu (wL k) n (wL (k ++ be4 n))) :=
 BV' (W := default) AZ' (fun _ => RO.ret _) (fun _ _ => nu_tri n k hb) fun _ => by
  simp only [RT.pick]; rw [EG' (VE' k n)]
  cases k with
  | nil => exact BD' rfl rfl (A0' rfl (A0' Ye (A0' Ye A1'))) (A0' ⟨Ye, Ye, Ye⟩ A1') A1' (A0' ⟨rfl, Ye, Ye⟩ (A0' (AR' _ _) A1'))
  | cons b k => exact BD' rfl rfl (A0' rfl (A0' Ye (A0' Ye A1'))) (A0' ⟨rfl, Ye, Ye⟩ (A0' (AR' _ _) A1')) A1' (A0' ⟨rfl, Ye, Ye⟩ (A0' (AR' _ _) A1'))
theorem Z2' (m m' : Md) (n : Nat) (k : Bs) (hb : k.length + 4 <= 140737488351232) : Tri Θ default fLo [.ptr 0 0, iv (o' n)] [(0, wM m k)] (.tuple []) [(0, wM m' (k ++ be4 n))] := by
 refine NZ' ?_
 have hl := fun F => Z6' (n := n) hb F
 have e2 := EG' (VE' k n)
 cases k with
 | nil =>
  refine Tri.post (v := .tuple []) (H' := wL ([] ++ be4 n)) ?_ (NM' ⟨Ye, Ye⟩)
  refine AF' (con := []) (hints := A6' [(fNu, 1, 1, hv (iv 3))]) (lc := [(fNu, 2, A3' fNu 2, lNu [(0, wZ)] n (wH 4 (be4 n)))]) kNu rfl (fun _ _ => noC) (fun F _ => C2' (hl F)) fun F => ?_
  refine Yj (eA' n 4 (be4 n) F) ⟨⟨?_, (AO' (vs' := [.tuple []]) (H' := wH 4 (be4 n)) [(1001, 1100)] χ χ (Yb) ⟨⟨_, rfl, Yc⟩, ⟨_, rfl, AQ' (A5' _ _) rfl⟩, Ye⟩).fits rfl⟩⟩; exact Cc1'
 | cons b k =>
  refine Tri.post (v := .tuple []) (H' := wL ((b :: k) ++ be4 n)) ?_ (NM' ⟨Ye, Ye⟩); rw [e2]
  have hl' := fun F => hl F
  rw [e2] at hl'
  refine AF' (con := []) (hints := A6' [(fNu, 1, 1, hv (iv 3))]) (lc := [(fNu, 2, A3' fNu 2, lNu (wH (k.length + 1) (b :: k)) n (wH ((b :: k) ++ be4 n).length ((b :: k) ++ be4 n)))]) kNu rfl (fun _ _ => noC) (fun F _ => C2' (hl' F)) fun F => ?_
  refine Yj (e9' n (k.length + 1) ((b :: k) ++ be4 n).length (b :: k) ((b :: k) ++ be4 n) F) ⟨⟨?_, (AO' (vs' := [.tuple []]) (H' := wH ((b :: k) ++ be4 n).length ((b :: k) ++ be4 n)) [(1001, 1100)] χ χ (Yb) ⟨⟨_, rfl, Yc⟩, ⟨_, rfl, AQ' (A5' _ _) rfl⟩, Ye⟩).fits rfl⟩⟩; exact Cc2'
theorem GB' {l : Bs} (hb : l.length <= big) (hp : 0 < l.length) (F : HP) : C1OK Θ F fCl (cClB l.length l) :=
 AU' (W := default) AZ' (fun _ => sB 1000 l.length) (fun args => by split <;> first | exact RO.ret _ | exact RO.fail _) (fun _ => rfl) (fun _ _ => gL' default l hb hp) fun _ => ⟨rfl, rfl, ⟨rfl, Ye⟩, A0' (AR' _ _) A1', ⟨rfl, Ye⟩, A0' (AR' _ _) (A0' (AR' _ _) A1')⟩
theorem VC' (m : Md) (k : Bs) (hb : k.length <= big) (hne : k ≠ []) : Tri Θ default fBy [.ptr 0 0] [(0, wM m k)] (sB 1000 k.length) [(0, wM m k), (1000, rB k)] := by
 refine NZ' ?_; have hp : 0 < k.length := List.length_pos_iff.2 hne; have e := EG' hne; rw [e]
 refine AF' (con := [(fCl, cClB k.length k)]) (hints := BA') (lc := []) kNu rfl (fun F _ => BJ' (GB' hb hp F)) (fun F _ => noL) fun F => ?_
 refine Yj (oBy_eq k.length k F) ⟨⟨?_, [sB 1000 k.length], wH k.length k ++ [(1000, rB k)], [(1001, 1001), (1000, 1100)], rfl, AO' (vs' := [sB 1000 k.length]) (H' := [(0, wC k.length), (1001, rB k), (1000, rB k)]) [(1001, 1001), (1000, 1100)] χ χ (Yb) ⟨⟨_, rfl, Yc⟩, ⟨_, rfl, AQ' (A5' _ _) rfl⟩, ⟨_, rfl, AQ' (A5' _ _) rfl⟩, Ye⟩, ?_⟩⟩
 ·exact Cc2'
 ·rw [<- e]; exact Goes.shut (R := fun _ : Unit => True) (L := fun _ => wL k) (m := m) (H0 := [(1000, rB k)]) (vs := [sB 1000 k.length]) () trivial (by rw [e]; rfl) (PL' k) ⟨rfl, Ye⟩ (A0' (AR' _ _) A1')
theorem rw_tri (m m' : Md) (W : World) (oa : Option Addr) (c : Nat) (r k : Bs) (h : BAt W.cell? oa r) (hne : k ≠ []) (hb : k.length + r.length <= 140737488351232) : Tri Θ W fRw [.ptr 0 0, slV oa r.length c] [(0, wM m k)] (.tuple []) [(0, wM m' (k ++ r))] := by
 refine NZ' ?_
 have hkr : k ++ r ≠ [] := fun e => hne (List.append_eq_nil_iff.1 e).1
 refine Tri.post (v := .tuple []) (H' := wL (k ++ r)) ?_ (NM' ⟨Ye, Ye⟩); rw [EG' hne, EG' hkr]
 cases r with
 | nil =>
  rw [List.append_nil]
  cases oa with
  | none =>
   refine AF' (con := []) (hints := A6' [(fRw, 1, 6, h0)]) (lc := []) kNu rfl (fun _ _ => noC) (fun F _ => noL) fun F => ?_
   refine Yj (bU' W k.length c k F) ⟨⟨?_, (AO' (vs' := [.tuple []]) (H' := wH k.length k) [(1001, 1001)] χ χ (Yb) ⟨⟨_, rfl, Yc⟩, ⟨_, rfl, AQ' rfl rfl⟩, Ye⟩).fits rfl⟩⟩; exact Cc1'
  | some a =>
   refine AF' (con := []) (hints := A6' [(fRw, 1, 6, h0)]) (lc := []) kNu rfl (fun _ _ => noC) (fun F _ => noL) fun F => ?_
   refine Yj (bV' W a k.length c k F) ⟨⟨?_, (AO' (vs' := [.tuple []]) (H' := wH k.length k) [(1001, 1001)] χ χ (Yb) ⟨⟨_, rfl, Yc⟩, ⟨_, rfl, AQ' rfl rfl⟩, Ye⟩).fits rfl⟩⟩; exact Cc1'
 | cons x r =>
  obtain ⟨a, rfl, _⟩ := h.2 0 x rfl
  generalize hr : x :: r = l at *
  have hp : 0 < l.length := by rw [<- hr]; simp
  have b1 : l.length.ble l.length = true := AL' (Yd); obtain ⟨b2, b3⟩ := EB' h
  have b4 : (vmap (AM' W a (l.length * 1))).all AV.one = true := by rw [b3]; exact KD' l
  have k1 : (0 + k.length * 1).ble (rowV encB k).length = true := PQ' rfl; have k2 : ((k.length + l.length) * 1).ble 140737488355328 = true := AL' ω; have k3 : (k.length + l.length).ble 9223372036854775807 = true := AL' ω; have k4 := H6' (P := k) rfl
  refine AF' (con := []) (hints := BA') (lc := []) kNu rfl (fun _ _ => noC) (fun F _ => noL) fun F => ?_
  refine Yj (oRw_eq W a k.length l.length c k F) ⟨⟨?_, (AO' (vs' := [.tuple []]) (H' := wH (k ++ l).length (k ++ l)) [(1001, 1100)] χ χ (Yb) ⟨⟨_, rfl, by rw [la']; exact Yc⟩, ⟨_, rfl, AQ' (by rw [b3]; exact H7' rfl l) rfl⟩, Ye⟩).fits rfl⟩⟩; simp only [ch', bl', true_and, and_true]; exact ⟨b1, b2, b4, hp, k1, k2, k3, k4⟩
end Go.Proofs.YtnnojnlejlokhaaGreatDoor.Wk
namespace Go.Proofs.YtnnojnlejlokhaaGreatDoor.Co
open Go Eng
structure Chg where
 k : Δ
 v : Δ
 d : Bool
abbrev KM := KMap Δ Δ
structure St where
 m : KM
 c : Nat
 b : Nat
def kvB (e : Δ × Δ × Nat) : Nat := e.1.size + e.2.1.size
def byB (m : KM) : Nat := (m.map kvB).sum
def s0 : St := ⟨[], 0, 0⟩
def off (s : St) (x : Chg) : St := match B5' x.k s.m with
 | some v => ⟨kdel s.m x.k, s.c, s.b - (x.k.size + v.size)⟩
 | none => s
def onn (s : St) (x : Chg) : St := ⟨kset s.m s.c x.k x.v, HA' s.m s.c x.k, s.b + (x.k.size + x.v.size)⟩
def ap1 (s : St) (x : Chg) : St := match x.d with
 | true => off s x
 | false => onn (off s x) x
def apL (s : St) (xs : List Chg) : St := xs.foldl ap1 s
structure St.OK (s : St) : Prop where
 ki : KI s.m s.c
 by_ : s.b = byB s.m
theorem aN' : s0.OK := ⟨KI.nil, rfl⟩
theorem hG' : byB [] = 0 := rfl
theorem I8' (e : Δ × Δ × Nat) (m : KM) : byB (e :: m) = kvB e + byB m := by simp [byB]
theorem hH' (a b : KM) : byB (a ++ b) = byB a + byB b := by simp [byB]
theorem OZ' : ∀ {m : KM} {i : Nat} {k : Δ} {j : Nat} {v : Δ}, CN' k m i = some (j, v) -> byB (m.eraseIdx (j - i)) + (k.size + v.size) = byB m
 | [], i, k, j, v, h => by cases h
 | e :: l, i, k, j, v, h => by
  rw [CN'] at h; split at h
  ·rename_i hk; cases h; rw [Nat.sub_self, List.eraseIdx_cons_zero, I8', kvB, hk]; omega
  ·obtain ⟨hle, _⟩ := DR' h
   rw [show j - i = (j - (i + 1)) + 1 from ω, List.eraseIdx_cons_succ, I8', I8']
   have := OZ' h; omega
theorem S1' {m : KM} {k v : Δ} (h : B5' k m = some v) : byB (kdel m k) + (k.size + v.size) = byB m := by
 rw [<- CB' k m 0] at h; rw [kdel]
 cases hf : CN' k m 0 with
 | none => rw [hf] at h; cases h
 | some p =>
  obtain ⟨j, y⟩ := p; rw [hf] at h; cases h; exact OZ' (i := 0) hf
theorem O9' {m : KM} {c : Nat} {k v : Δ} (h : B5' k m = none) : kset m c k v = m ++ [(k, v, c)] := by
 rw [<- CB' k m 0] at h; rw [kset]
 cases hf : CN' k m 0 with
 | none => rfl
 | some p => rw [hf] at h; cases h
theorem UN' {m : KM} {k : Δ} (h : B5' k m = none) : kdel m k = m := by
 rw [<- CB' k m 0] at h; rw [kdel]
 cases hf : CN' k m 0 with
 | none => rfl
 | some p => rw [hf] at h; cases h
theorem b8' (s : St) (x : Chg) : (off s x).m = kdel s.m x.k := by
 rw [off]
 cases h : B5' x.k s.m with
 | none => exact (UN' h).symm
 | some v => rfl
theorem off_c (s : St) (x : Chg) : (off s x).c = s.c := by
 rw [off]
 cases h : B5' x.k s.m <;> rfl
theorem JN' {s : St} (h : s.OK) (x : Chg) (k : Δ) : B5' k (off s x).m = if k = x.k then none else B5' k s.m := by
 rw [b8']; exact SO' h.ki _ _
theorem YV' {s : St} (h : s.OK) (x : Chg) : (off s x).OK := by
 refine ⟨?_, ?_⟩
 ·rw [b8', off_c]; exact h.ki.kdel _
 ·rw [off]
  cases hl : B5' x.k s.m with
  | none => exact h.by_
  | some v =>
   have := S1' hl; have := h.by_; show s.b - (x.k.size + v.size) = byB (kdel s.m x.k); omega
theorem onn_ok {s : St} (h : s.OK) (x : Chg) (hl : B5' x.k s.m = none) : (onn s x).OK := by
 refine ⟨h.ki.kset _ _, ?_⟩; show s.b + (x.k.size + x.v.size) = byB (kset s.m s.c x.k x.v); rw [O9' hl, hH', I8', hG', h.by_]; rfl
theorem VH' {s : St} (h : s.OK) (x : Chg) : (ap1 s x).OK := by
 rw [ap1]
 cases x.d with
 | true => exact YV' h x
 | false => exact onn_ok (YV' h x) x (by rw [JN' h, if_pos rfl])
theorem P3' {s : St} (h : s.OK) (xs : List Chg) : (apL s xs).OK := by
 induction xs generalizing s with
 | nil => exact h
 | cons x xs ih => exact ih (VH' h x)
theorem YA' {s : St} (h : s.OK) (x : Chg) (k : Δ) : B5' k (ap1 s x).m = if k = x.k then (if x.d then none else some x.v) else B5' k s.m := by
 rw [ap1]
 cases x.d with
 | true =>
  simp only [if_true]; exact JN' h x k
 | false =>
  show B5' k (kset (off s x).m (off s x).c x.k x.v) = _; rw [SN', JN' h]
  by_cases e : k = x.k
  ·rw [if_pos e, if_pos e]; rfl
  ·rw [if_neg e, if_neg e, if_neg e]
def szC (x : Chg) : Nat := x.k.size + x.v.size
def szL (xs : List Chg) : Nat := (xs.map szC).sum
theorem D8' (x : Chg) (xs : List Chg) : szL (x :: xs) = szC x + szL xs := by simp [szL]
theorem JW' (a b : List Chg) : szL (a ++ b) = szL a + szL b := by simp [szL]
theorem off_le (s : St) (x : Chg) : (off s x).b <= s.b /\ (off s x).m.length <= s.m.length := by
 refine ⟨?_, ?_⟩
 ·rw [off]
  cases h : B5' x.k s.m with
  | none => exact Yd
  | some v => exact Nat.sub_le _ _
 ·rw [b8']; exact (JP' _ _).length_le
theorem ap1_le {s : St} (h : s.OK) (x : Chg) : (ap1 s x).b <= s.b + szC x /\ (ap1 s x).m.length <= s.m.length + 1 := by
 obtain ⟨h1, h2⟩ := off_le s x; rw [ap1, szC]
 cases x.d with
 | true => exact ⟨by simp only; omega, by simp only; omega⟩
 | false =>
  refine ⟨?_, ?_⟩
  ·show (off s x).b + (x.k.size + x.v.size) <= _; omega
  ·show (kset (off s x).m (off s x).c x.k x.v).length <= _; rw [O9' (by rw [JN' h, if_pos rfl]), List.length_append, List.length_cons, List.length_nil]; omega
theorem S5' {s : St} (h : s.OK) (xs : List Chg) : (apL s xs).b <= s.b + szL xs /\ (apL s xs).m.length <= s.m.length + xs.length := by
 induction xs generalizing s with
 | nil => exact ⟨Yd, Yd⟩
 | cons x xs ih =>
  obtain ⟨h1, h2⟩ := ap1_le h x; obtain ⟨h3, h4⟩ := ih (VH' h x); rw [D8', List.length_cons]
  exact ⟨by simp only [apL, List.foldl_cons] at h3 ⊢; omega, by simp only [apL, List.foldl_cons] at h4 ⊢; omega⟩
def HY' (k : Δ) : List Chg -> Option (Option Δ)
 | [] => none
 | x :: xs => match HY' k xs with
  | some r => some r
  | none => if k = x.k then some (if x.d then none else some x.v) else none
theorem Y8' {s : St} (h : s.OK) (xs : List Chg) (k : Δ) : B5' k (apL s xs).m = (HY' k xs).getD (B5' k s.m) := by
 induction xs generalizing s with
 | nil => rfl
 | cons x xs ih =>
  show B5' k (apL (ap1 s x) xs).m = _; rw [ih (VH' h x), HY']
  cases hl : HY' k xs with
  | some r => rfl
  | none =>
   simp only [Option.getD_none]; rw [YA' h]
   by_cases e : k = x.k
   ·rw [if_pos e, if_pos e]; rfl
   ·rw [if_neg e, if_neg e]; rfl
def CY' (m : KM) : List Γ := HO' leS (m.map fun e => e.1.data.toList)
def bsOf (l : Γ) : Δ := ⟨⟨l⟩⟩
def C7' (m : KM) : List (Δ × Δ) := (CY' m).map fun k => (bsOf k, (B5' (bsOf k) m).getD ⟨#[]⟩)
theorem SP' {m : KM} {c : Nat} (h : KI m c) : (m.map fun e => e.1.data.toList).Nodup := by
 have : (m.map fun e => e.1.data.toList) = (m.map (·.1)).map fun s => s.data.toList := by rw [List.map_map]; rfl
 rw [this, List.nodup_iff_pairwise_ne, List.pairwise_map]
 refine (List.nodup_iff_pairwise_ne.1 h.keys).imp fun {a b} hne e => hne ?_
 have := congrArg bsOf e; exact this
theorem XN' {m : KM} (l : Γ) : l ∈ (m.map fun e => e.1.data.toList) ↔ B5' (bsOf l) m ≠ none := by
 rw [Ne, IN', Classical.not_not, List.mem_map, List.mem_map]
 constructor
 ·rintro ⟨e, he, rfl⟩; exact ⟨e, he, rfl⟩
 ·rintro ⟨e, he, hq⟩; exact ⟨e, he, by rw [hq]; rfl⟩
def MK' (k : Δ) : Bool := !(k.size == 0) && decide (k.size <= 255)
def okL (xs : List Chg) : Bool := xs.all fun x => MK' x.k
def comm (s : St) (xs : List Chg) : St := if okL xs then apL s xs else s
def BZ' (x : Chg) : Chg := match x.d with
 | true => ⟨x.k, ⟨#[]⟩, true⟩
 | false => x
theorem Y9' (s : St) (x : Chg) : ap1 s (BZ' x) = ap1 s x := by
 obtain ⟨k, v, d⟩ := x
 cases d <;> rfl
theorem S4' (s : St) (xs : List Chg) : apL s (xs.map BZ') = apL s xs := by
 rw [apL, List.foldl_map]; exact congrArg (fun f => List.foldl f s xs) (by funext s x; exact Y9' s x)
end Go.Proofs.YtnnojnlejlokhaaGreatDoor.Co
namespace Go.Proofs.YtnnojnlejlokhaaGreatDoor.Wk
open Go Go.RowKit Eng Kit Tree Co
abbrev tCh : TypeId := 2 * 29
abbrev tCt : TypeId := 2 * 71
abbrev fCk : Nat := 24
abbrev fAy : Nat := 27
abbrev fCC : Nat := 25
abbrev fMC : Nat := 26
abbrev fEc : Nat := 29
abbrev fCm : Nat := 9
abbrev fKs : Nat := 18
abbrev fPs : Nat := 11
abbrev fSm : Nat := 10
abbrev fCo : Nat := 15
abbrev fOd : Nat := 8
def chV (x : Chg) : List Value := [.string x.k, .string x.v, .bool x.d]
def chA (x : Chg) : AV := .agg [sv x.k, sv x.v, bv x.d]
def rC (l : List Chg) : AO := .cells (rowV chV l) tCh
def sC (k n : Nat) : AV := .slice k 0 n 3 (.lo n)
theorem chV_len (x : Chg) : (chV x).length = 3 := rfl
structure CAt (W : World) (oa : Option Addr) (l : List Chg) : Prop where
 len : l.length <= 1048576
 at' : ∀ (i : Nat) (x : Chg), l[i]? = some x -> ∃ a, oa = some a /\ ∀ (j : Nat) (v : Value), (chV x)[j]? = some v -> W.cell? (a.add (i * 3 + j)) = some v
def enV (x : Δ) : AV := .agg [sv x]
def kM (m : KM) : List (AV × AV × Nat) := kE Value.string enV m
def mO (m : KM) (c : Nat) : AO := .map (kM m) c
def ctO (lg : AV) (k : Nat) (b : Int) : AO := .cells [lg, .map k, iv b] tCt
end Go.Proofs.YtnnojnlejlokhaaGreatDoor.Wk
namespace Go.Proofs.YtnnojnlejlokhaaGreatDoor.Eng
open Go Go.RowKit
variable {P : Program} {claim : BI'} {lcon : JJ'}
theorem SG' {f : FuncId} {fn : Func} (hf : P.funcs[f]? = some fn) (hname : (fn.name == "runtime.NumGoroutine") = false)
  (hb : fn.body.isNone = true) (hn : (Extern.findNext fn).isNone = true) (he : Extern.find fn = some Extern.MapsClone.clone) (t b : Nat) (es : Array MapEntry) (k : Nat) (w : World) (h : w.heap[b]? = some (.map es k)) :
  (callFunc f #[.iface t (.map (some b))]).run P w = .ok (.value (.iface t (.map (some w.heap.size)))) (w.alloc (.map es k)) := by
 rw [run_callFunc_extern hf hname hb (by simpa using hn) he]
 have e : Extern.MapsClone.clone #[.iface t (.map (some b))] = (getObj b >>= fun o => match o with
   | .map entries clock => newObj (.map entries clock) >>= fun r => pure (.iface t (.map (some r)))
   | _ => stuck "maps.clone: a map expected") := rfl
 rw [e]; simp [Sem.run_bind, BB' h]
def envC (P : Program) (k : FuncId) (F : HP) (con : ConT) (claim : BI') (lcon : JJ') (W : World) : Env := { envO P F con claim lcon W with clone := fun f => Nat.beq f k }
def QX' (P : Program) (k : FuncId) : Prop := ∀ t b es q w, w.heap[b]? = some (.map es q) -> (callFunc k #[.iface t (.map (some b))]).run P w = .ok (.value (.iface t (.map (some w.heap.size)))) (w.alloc (.map es q))
theorem AH'.envC {k : FuncId} {W : World} {F : HP} {con : ConT} (h : AH' W F) (hk : QX' P k) : EnvOk P (Eng.envC P k F con claim lcon W) :=
 have q : EnvOk P (envO P F con claim lcon W) := h.env
 ⟨q.wk, q.ow, q.gd, q.fc, q.info, q.fn, q.old, q.laid, fun f hf => (by
  obtain rfl := Nat.eq_of_beq_eq_true hf
  exact hk), q.same⟩
theorem tri_C {k : FuncId} {con : ConT} {W : World} {f : FuncId} {A : List AV} {H H' : LH} {v : AV} (ks : List Nat) (fuel : Nat) (hm : P.follows .mixedOrders = true) (hk : QX' P k) (hH : AA' 1100 H = true)
  (hcon : ∀ F, AH' W F -> IB' P (Eng.envC P k F con claim lcon W)) (hl : ∀ F, AH' W F -> DU' P (Eng.envC P k F con claim lcon W))
  (hrun : ∀ F, AH' W F -> VAll (fun u os _ => Fits ks [u] os [v] H') (((D3' P (Eng.envC P k F con claim lcon W) fuel f A).run2 (AK' H) 1100 []).view ks)) : Tri P W f A H v H' := by
 intro W0 F N w vargs hF hN r ha; obtain ⟨u, h', n', lg', c, he, hc, hfit⟩ := VT.all_pick (hrun F hF).out; rw [E6'] at he; refine (DB' (hF.envC hk) hm (hcon F hF) (hl F hF) he hc r ha (fun i h1 h2 => hN.nothing hH h1)).mono ?_; rintro e w' ⟨y, N1, rfl, r1, hv, hx⟩; exact ⟨y, rfl, hfit.state r1 hx (E3' _ he δ) (fun i hi => hN.nothing hH hi) (AD'.2 ⟨hv, AX'⟩)⟩
end Go.Proofs.YtnnojnlejlokhaaGreatDoor.Eng
namespace Go.Proofs.YtnnojnlejlokhaaGreatDoor.Kit
open Go Go.RowKit Eng Kit
abbrev fMc : FuncId := 42
theorem RT' : QX' Θ fMc := fun t b es q w h => SG' Tryz.func42 χ χ χ χ t b es q w h
def wRunC (con : GP') (hints : BI') (lc : LcL) (W : World) (f : FuncId) (A : List AV) (H : LH) (ks : List Nat) (F : HP) : VT AV := ((D3' Θ (envC Θ fMc F (conL con) hints (Q0' lc) W) 1000 f A).run2 (AK' H) 1100 []).view ks
theorem W9' {con : GP'} {hints : BI'} {lc : LcL} {W : World} {f : FuncId} {A : List AV} {H H' : LH} {v : AV} (ks : List Nat) (hH : AA' 1100 H = true)
  (hcon : ∀ F, AH' W F -> ∀ x ∈ con, C1OK Θ F x.1 x.2) (hl : ∀ F, AH' W F -> ∀ x ∈ lc, L1OK Θ F x.2.2.1 x.2.2.2) (h : ∀ F, VAll (fun u os _ => Fits ks [u] os [v] H') (wRunC con hints lc W f A H ks F)) : Tri Θ W f A H v H' :=
 tri_C ks 1000 XG' RT' hH (fun F hF => MQ' rfl (hcon F hF)) (fun F hF => JO' rfl (hl F hF)) fun F _ => h F
end Go.Proofs.YtnnojnlejlokhaaGreatDoor.Kit
namespace Go.Proofs.YtnnojnlejlokhaaGreatDoor.Eng
open Go Go.RowKit Go.Maps Go.Sort Go.Shelf Go.Proofs
theorem TS' (m : Nat) : AnyZ.SortsIn Θ Tryz.sorted38_ren Fence.wide m :=
 ⟨fun blk off cap ss W hH hblk hsz => callsIn_wide.2 (AnyM.slices_Sort_string Tryz.sort63 blk off cap ss W hH hblk hsz),
  fun p cap W => callsIn_wide.2 (AnyM.slices_Sort_string_none Tryz.sort63 p cap W)⟩
set_option maxHeartbeats 1000000 in
theorem DG' : DT' Θ 38 64 9 := by
 intro Bm b nn D0 R w hBm hcell hown hmax hbytes; refine (callsIn_wide (n := 5)).1 ?_
 have hseq : SeqGives Fence.wide 2 Θ 64 #[.pointer (some ⟨Bm, 0, none⟩)] encStr (fun ss => ss.Perm (strKeys D0)) (Maps.size D0) w :=
  AnyZ.keys_gives (ρ := Tryz.keys39_ren) { Tryz.keys39 with } Fence.wide _ trivial rfl ω Bm b nn D0 _ hBm hcell hown
 exact AnyZ.sorted_in Tryz.sorted38 Fence.wide 5 trivial trivial trivial trivial rfl ω (TS' _) (enters_of Tryz.func63 χ rfl) 64 #[.pointer (some ⟨Bm, 0, none⟩)] trivial (enters_of Tryz.func64 χ rfl) _ _ hmax hbytes _ hseq
set_option maxHeartbeats 1000000 in
theorem K1' : DT' Θ 38 69 9 := by
 intro Bm b nn D0 R w hBm hcell hown hmax hbytes; refine (callsIn_wide (n := 5)).1 ?_
 have hseq : SeqGives Fence.wide 2 Θ 69 #[.pointer (some ⟨Bm, 0, none⟩)] encStr (fun ss => ss.Perm (strKeys D0)) (Maps.size D0) w :=
  AnyZ.keys_gives (ρ := Tryz.keys49_ren) { Tryz.keys49 with } Fence.wide _ trivial rfl ω Bm b nn D0 _ hBm hcell hown
 exact AnyZ.sorted_in Tryz.sorted38 Fence.wide 5 trivial trivial trivial trivial rfl ω (TS' _) (enters_of Tryz.func63 χ rfl) 69 #[.pointer (some ⟨Bm, 0, none⟩)] trivial (enters_of Tryz.func69 χ rfl) _ _ hmax hbytes _ hseq
theorem aF' : DT' Θ 38 69 9 := K1'
end Go.Proofs.YtnnojnlejlokhaaGreatDoor.Eng
namespace Go.Proofs.YtnnojnlejlokhaaGreatDoor.Wk
open Go Go.RowKit Eng Kit Tree
open Int renaming ofNat -> o'
open Go.Value renaming int -> vi'
open AO renaming cells -> ce'
open AV renaming v -> v'
open AV renaming ptr -> pt'
open List renaming length_drop -> ld'
open Go.Value renaming slice -> sl'
variable {W : World} {n c : Nat}
abbrev fWp : Nat := 66
abbrev wT (t : List Int) (l : Bs) : AO := wM (.turns t) l
def by3 {α : Type} (a b c : α) : List Int -> α
 | [] => a
 | [_] => b
 | _ :: _ :: _ => c
def by3O (a b c : AO) : List Int -> AO
 | [] => a
 | [_] => b
 | _ :: _ :: _ => c
def gMk : List AV -> AP (Nat × List Int) := fun args => match args with
 | .ptr i _ :: _ => .read i fun o => match o with
  | .own m _ => match m with
   | .turns l => .ret (i, l)
   | _ => .fail "mark"
  | _ => .fail "mark"
 | _ => .fail "writer"
def nmW (i : Nat) : Nat -> Nat := fun k => match k with | 0 => i | k => k
def cNw : List AV -> Option (AP AV) := mkC (fun _ => .ret ()) (fun _ => True) (fun _ k => k) (fun _ => []) (fun _ => []) (fun _ => .leaf .ret [.ptr 1000 0] [(1000, wT [] [])])
def cLo (n sm : Nat) (l1 l2 : Bs) : List AV -> Option (AP AV) := mkC gMk (fun _ => True) (fun q => nmW q.1) (fun q => [.ptr 0 0, by3 (iv (o' n)) (iv (o' sm)) (iv (o' sm)) q.2]) (fun q => [(0, by3O (wT [] []) (wT [1] l1) (wT [1] l1) q.2)]) (fun q => .leaf .ret [.tuple []] [(0, by3O (wT [1] l1) (wT [1, 2] l2) (wT [1, 2] l2) q.2)])
def cBy (p1 p3 : Nat) (l1 l3 : Bs) : List AV -> Option (AP AV) := mkC gMk (fun _ => True) (fun q => nmW q.1) (fun q => [.ptr 0 0]) (fun q => [(0, by3O (wT [1] l1) (wT [1] l1) (wT [1, 2] l3) q.2)]) (fun q => .leaf .ret [by3 (sB 1000 p1) (sB 1000 p1) (sB 1000 p3) q.2] [(0, by3O (wT [1] l1) (wT [1] l1) (wT [1, 2] l3) q.2), (1000, by3O (rB l1) (rB l1) (rB l3) q.2)])
def cRw (oa : Option Addr) (n c : Nat) (l2 l3 : Bs) : List AV -> Option (AP AV) := mkC (fun args => match args with | .ptr i _ :: _ => .ret i | _ => .fail "writer") (fun _ => True) nmW (fun _ => [.ptr 0 0, slV oa n c]) (fun _ => [(0, wT [1, 2] l2)]) (fun _ => .leaf .ret [.tuple []] [(0, wT [1, 2] l3)])
def cOvO (s s' p : Nat) (l : Bs) : List AV -> Option (AP AV) := mkC (fun args => match args with | _ :: .slice i _ _ _ _ :: _ => .ret i | _ => .fail "over") (fun _ => True) nmW (fun _ => [uN s, sB 0 p]) (fun _ => [(0, rB l)]) (fun _ => .leaf .ret [uN s'] [(0, rB l)])
def cOvR (s s' : Nat) (oa : Option Addr) (n c : Nat) : List AV -> Option (AP AV) := mkC (fun _ => .ret ()) (fun _ => True) (fun _ k => k) (fun _ => [uN s, slV oa n c]) (fun _ => []) (fun _ => .leaf .ret [uN s'] [])
def cOvW (s1 s2 p1 : Nat) (l1 : Bs) (oa : Option Addr) (n c : Nat) : List AV -> Option (AP AV) := fun args => match args with
 | _ :: .slice _ _ _ _ _ :: _ => cOvO 4294967295 s1 p1 l1 args
 | _ => cOvR s1 s2 oa n c args
def hWp (n sm : Nat) : BI' := A6' [hf' fWp 1 2, (fWp, 4, 2, hv (iv (o' n))), (fWp, 5, 7, hv (iv (o' sm)))]
def conWp (oa : Option Addr) (n c sm p1 p3 s1 s2 : Nat) (l1 l2 l3 : Bs) : GP' := [(fNw, cNw), (fLo, cLo n sm l1 l2), (fBy, cBy p1 p3 l1 l3), (fOv, cOvW s1 s2 p1 l1 oa n c), (fRw, cRw oa n c l2 l3)]
theorem oWp_eq (W : World) (oa : Option Addr) (n c sm p1 p3 s1 s2 : Nat) (l1 l2 l3 : Bs) (F : HP) : wRun (conWp oa n c sm p1 p3 s1 s2 l1 l2 l3) (hWp n sm) [] W fWp [slV oa n c] [] [1100, 1101, 1102, 1103, 1104, 1105] F = VT.leaf (AV.tuple [AV.slice 1102 0 p3 1 (Cp.lo p3),i' 0]) [some (AO.own (Md.turns [o' 1,o' 2]) (wHP l3)),some (ce' (AV.rens (sgN (nmW 1101) [] 0) (rowV encB l1)) 10),some (ce' (AV.rens (sgN (nmW 1100) [1000] 1102) (rowV encB l3)) 10),none,none,none] 1103 ((wb' (decide (↑n > o' 1048576)) g').a (((Cnd.p True).a (f' (VW [] []))).a ((f' (Wk (z' ↑n) (i' n))).a (((Cnd.p True).a ((vw' [pt' 1100 0,i' n]).a (f' (OW (AO.own (Md.turns []) (wHP [])) (AO.own (Md.turns []) (wHP [])))))).a (((Cnd.p True).a ((vw' [pt' 1100 0]).a (f' (OW (AO.own (Md.turns [o' 1]) (wHP l1)) (AO.own (Md.turns [o' 1]) (wHP l1)))))).a (((Cnd.p True).a ((vw' [v' (vi' IntKind.u32 (o' 4294967295)),AV.slice 1101 0 p1 1 (Cp.lo p1)]).a (f' (OW (ce' (AV.rens (sgN (nmW 1100) [1000] 1101) (rowV encB l1)) 10) (ce' (AV.rens (nmW 1101) (rowV encB l1)) 10))))).a (((Cnd.p True).a (f' (VW [v' (vi' IntKind.u32 (o' s1)),v' (sl' oa n c)] [v' (vi' IntKind.u32 (o' s1)),v' (sl' oa n c)]))).a ((f' (Wk (z' (IntKind.i64.wrap (IntKind.u32.wrap ↑(BitVec.ofInt 32 (o' s2) ^^^ BitVec.ofInt 32 (o' 4294967295)).toNat))) (i' sm))).a (((Cnd.p True).a ((vw' [pt' 1100 0,i' sm]).a (f' (OW (AO.own (Md.turns [o' 1]) (wHP l1)) (AO.own (Md.turns [o' 1]) (wHP l1)))))).a (((Cnd.p True).a ((vw' [pt' 1100 0,v' (sl' oa n c)]).a (f' (OW (AO.own (Md.turns [o' 1,o' 2]) (wHP l2)) (AO.own (Md.turns [o' 1,o' 2]) (wHP l2)))))).a (((Cnd.p True).a ((vw' [pt' 1100 0]).a (f' (OW (AO.own (Md.turns [o' 1,o' 2]) (wHP l3)) (AO.own (Md.turns [o' 1,o' 2]) (wHP l3)))))).a k1'))))))))))) := χ
theorem ZF' : ∀ args, RO (gMk args) := by
 intro args; unfold gMk; split
 ·refine RO.read _ _ fun o => ?_
  repeat' split
  all_goals first | exact RO.ret _ | exact RO.fail _
 ·exact RO.fail _
theorem cNw_ok (F : HP) : C1OK Θ F fNw cNw :=
 AU' (W := default) AZ' (fun _ => .ptr 1000 0) (fun _ => RO.ret _) (fun _ => rfl) (fun _ _ => YX' _) fun _ => ⟨rfl, rfl, Ye, A1', ⟨rfl, Ye⟩, A0' Ye A1'⟩
theorem cLo_ok {sm : Nat} {l1 l2 : Bs} (h1 : l1 = be4 n) (h2 : l2 = l1 ++ be4 sm) (F : HP) : C1OK Θ F fLo (cLo n sm l1 l2) := by
 have a1 : Tri Θ default fLo [.ptr 0 0, iv (o' n)] [(0, wT [] [])] (.tuple []) [(0, wT [1] l1)] := by rw [h1]; exact Z2' _ _ n [] δ
 have a2 : Tri Θ default fLo [.ptr 0 0, iv (o' sm)] [(0, wT [1] l1)] (.tuple []) [(0, wT [1, 2] l2)] := by
  rw [h2]; exact Z2' _ _ sm l1 (by rw [h1, CQ']; decide)
 refine AU' (W := default) AZ' (fun _ => .tuple []) ZF' (fun _ => rfl) (fun q _ => ?_) fun q => ?_
 ·obtain ⟨i, t⟩ := q
  rcases t with _ | ⟨x, _ | ⟨y, t⟩⟩
  ·exact a1
  ·exact a2
  ·exact a2
 ·obtain ⟨i, t⟩ := q
  rcases t with _ | ⟨x, _ | ⟨y, t⟩⟩
  ·exact ⟨rfl, rfl, ⟨rfl, Ye, Ye⟩, A0' Ye A1', ⟨Ye, Ye⟩, A0' Ye A1'⟩
  ·exact ⟨rfl, rfl, ⟨rfl, Ye, Ye⟩, A0' Ye A1', ⟨Ye, Ye⟩, A0' Ye A1'⟩
  ·exact ⟨rfl, rfl, ⟨rfl, Ye, Ye⟩, A0' Ye A1', ⟨Ye, Ye⟩, A0' Ye A1'⟩
theorem cBy_ok {p1 p3 : Nat} {l1 l3 : Bs} (h1 : p1 = l1.length) (h3 : p3 = l3.length) (b1 : l1.length <= big) (b3 : l3.length <= big) (n1 : l1 ≠ []) (n3 : l3 ≠ []) (F : HP) : C1OK Θ F fBy (cBy p1 p3 l1 l3) := by
 subst h1 h3; have a1 := VC' (.turns [1]) l1 b1 n1; have a3 := VC' (.turns [1, 2]) l3 b3 n3
 refine AU' (W := default) AZ' (fun q => by3 (sB 1000 l1.length) (sB 1000 l1.length) (sB 1000 l3.length) q.2) ZF' (fun _ => rfl) (fun q _ => ?_) fun q => ?_
 ·obtain ⟨i, t⟩ := q
  rcases t with _ | ⟨x, _ | ⟨y, t⟩⟩
  ·exact a1
  ·exact a1
  ·exact a3
 ·obtain ⟨i, t⟩ := q
  rcases t with _ | ⟨x, _ | ⟨y, t⟩⟩
  ·exact ⟨rfl, rfl, ⟨rfl, Ye⟩, A0' Ye A1', ⟨rfl, Ye⟩, A0' Ye (A0' (AR' _ _) A1')⟩
  ·exact ⟨rfl, rfl, ⟨rfl, Ye⟩, A0' Ye A1', ⟨rfl, Ye⟩, A0' Ye (A0' (AR' _ _) A1')⟩
  ·exact ⟨rfl, rfl, ⟨rfl, Ye⟩, A0' Ye A1', ⟨rfl, Ye⟩, A0' Ye (A0' (AR' _ _) A1')⟩
theorem cRw_ok {oa : Option Addr} {r l2 l3 : Bs} (h : BAt W.cell? oa r) (h3 : l3 = l2 ++ r) (n2 : l2 ≠ []) (hb : l2.length + r.length <= 140737488351232) (F : HP) (hF : AH' W F) : C1OK Θ F fRw (cRw oa r.length c l2 l3) := by
 subst h3
 exact AU' hF (fun _ => .tuple []) (fun args => by split <;> first | exact RO.ret _ | exact RO.fail _) (fun _ => rfl) (fun _ _ => rw_tri _ _ W oa c r l2 h n2 hb) fun _ => ⟨rfl, rfl, ⟨rfl, Ye, Ye⟩, A0' Ye A1', ⟨Ye, Ye⟩, A0' Ye A1'⟩
theorem gZ' (hN : LN W) {s1 s2 p1 : Nat} {l1 r : Bs} {oa : Option Addr} (h : BAt W.cell? oa r) (hp : p1 = l1.length) (hb : l1.length <= big) (h0 : 0 < l1.length) (e1 : s1 = ovr ones l1) (e2 : s2 = ovr s1 r) (F : HP) (hF : AH' W F) : C1OK Θ F fOv (cOvW s1 s2 p1 l1 oa r.length c) := by
 have hs1 : s1 < 4294967296 := by rw [e1]; exact E9' _ δ
 have c1 : C1OK Θ F fOv (cOvO 4294967295 s1 p1 l1) := by
  subst hp e1
  refine AU' hF (fun _ => uN (ovr ones l1)) (fun args => by split <;> first | exact RO.ret _ | exact RO.fail _) (fun _ => rfl) (fun _ _ => ?_) fun _ => ⟨rfl, rfl, ⟨Ye, rfl, Ye⟩, A0' (AR' _ _) A1', ⟨Ye, Ye⟩, A0' (AR' _ _) A1'⟩
  exact TZ' W hN (pre := [.int .u32 (o' 4294967295)]) (H' := []) hb h0 rfl (fun i o h => by cases h) fun W' hN' oa c h _ => U8' W' hN' ones δ oa c l1 h
 have c2 : C1OK Θ F fOv (cOvR s1 s2 oa r.length c) := by
  subst e2
  exact AU' hF (fun _ => uN (ovr s1 r)) (fun _ => RO.ret _) (fun _ => rfl) (fun _ _ => U8' W hN s1 hs1 oa c r h) fun _ => ⟨rfl, rfl, ⟨Ye, Ye, Ye⟩, A1', ⟨Ye, Ye⟩, A1'⟩
 intro st W0 N hh w args vargs v h' n n' lg lg' cc p q1 q2 q3 q4 q5 q6; unfold cOvW at q1; split at q1
 ·exact c1 st W0 N hh w _ vargs v h' n n' lg lg' cc p q1 q2 q3 q4 q5 q6
 ·exact c2 st W0 N hh w _ vargs v h' n n' lg lg' cc p q1 q2 q3 q4 q5 q6
theorem BG' {a b : Int} (h : a = b) : Wk (.v (.int .i64 a)) (.v (.int .i64 b)) := by subst h; exact Ya
theorem TT' {s : Nat} (h : s < 4294967296) : IntKind.i64.wrap (IntKind.u32.wrap ((BitVec.ofInt 32 (o' s) ^^^ BitVec.ofInt 32 (o' 4294967295)).toNat : Int)) = o' (s ^^^ ones) := by
 have e := x_eq h (show 4294967295 < 4294967296 by decide); have hlt : s ^^^ ones < 4294967296 := Nat.xor_lt_two_pow (n := 32) h δ; rw [e]; exact IntWalk.i64_in _ (by show (-9223372036854775808 : Int) <= ((s ^^^ ones : Nat) : Int) /\ ((s ^^^ ones : Nat) : Int) <= 9223372036854775807; omega)
theorem QY' (W : World) (hN : LN W) (oa : Option Addr) (c : Nat) (r : Bs) (h : BAt W.cell? oa r) (hm : r.length <= most) : Tri Θ W fWp [slV oa r.length c] [] (.tuple [sB 1000 (BF' r).length, iv 0]) [(1000, rB (BF' r))] := by
 have hm' : r.length <= 1048576 := hm; have hs1 : ovr ones (be4 r.length) < 4294967296 := E9' _ δ; have hs2 : ovr (ovr ones (be4 r.length)) r < 4294967296 := E9' _ hs1
 have d1 := fun F => cLo_ok (n := r.length) (sm := sumB r) (l1 := be4 r.length) (l2 := be4 r.length ++ be4 (sumB r)) rfl rfl F
 have hl3 : (be4 r.length ++ be4 (sumB r) ++ r).length = 8 + r.length := BO' r
 have d2 := fun F => cBy_ok (p1 := 4) (p3 := (BF' r).length) (l1 := be4 r.length) (l3 := be4 r.length ++ be4 (sumB r) ++ r) rfl rfl (by rw [CQ']; decide) (by rw [hl3]; show _ <= 140737488351232; omega) (by simp [be4]) (by simp [be4]) F
 have d3 := fun F hF => cRw_ok (W := W) (oa := oa) (c := c) (r := r) (l2 := be4 r.length ++ be4 (sumB r)) (l3 := be4 r.length ++ be4 (sumB r) ++ r) h rfl (by simp [be4]) (by show (be4 r.length ++ be4 (sumB r)).length + _ <= _; rw [List.length_append, CQ', CQ']; omega) F hF
 have d4 := fun F hF => gZ' (W := W) hN (s1 := ovr ones (be4 r.length)) (s2 := ovr (ovr ones (be4 r.length)) r) (p1 := 4) (l1 := be4 r.length) (r := r) (oa := oa) (c := c) h rfl (by rw [CQ']; decide) (by rw [CQ']; decide) rfl rfl F hF
 refine AF' (con := conWp oa r.length c (sumB r) 4 (BF' r).length (ovr ones (be4 r.length)) (ovr (ovr ones (be4 r.length)) r) (be4 r.length) (be4 r.length ++ be4 (sumB r)) (be4 r.length ++ be4 (sumB r) ++ r)) (hints := hWp r.length (sumB r)) (lc := []) [1100, 1101, 1102, 1103, 1104, 1105] rfl (fun F hF => AC' (cNw_ok F) (AC' (d1 F) (AC' (d2 F) (AC' (d4 F hF) (BJ' (d3 F hF)))))) (fun F _ => noL) fun F => ?_
 clear d1 d2 d3 d4; have e0 : decide ((r.length : Int) > o' 1048576) = false := decide_eq_false (by simp only [Z0]; omega); refine Yj (oWp_eq W oa r.length c (sumB r) 4 (BF' r).length (ovr ones (be4 r.length)) (ovr (ovr ones (be4 r.length)) r) (be4 r.length) (be4 r.length ++ be4 (sumB r)) (be4 r.length ++ be4 (sumB r) ++ r) F) ⟨⟨?_, (AO' (vs' := [.tuple [sB 1000 (BF' r).length, iv 0]]) (H' := [(1000, rB (BF' r))]) [(1000, 1102)] χ χ (Yb) ⟨⟨_, rfl, AQ' (A5' _ _) rfl⟩, Ye⟩).fits rfl⟩⟩
 simp only [Cnd.holds, Nat.blt_eq, true_and, and_true]; and_intros; all_goals first | (with_reducible exact A2' e0) | (with_reducible exact BG' (TT' hs2)) | (with_reducible exact Ye) | (with_reducible exact rfl) | (with_reducible exact Ya) | (with_reducible exact Yb) | (with_reducible exact Yc) | exact BG' (TT' hs2) | exact Ya | exact Yb | exact Yc | (refine OW.of_eq ?_; simp only [AO.ren, A5']; done)
noncomputable section
abbrev fUn : Nat := 73
abbrev fTk : Nat := 76
abbrev fRn : Nat := 92
def aRn (o : Nat) (cp : Cp) (j m : Nat) : List (Nat × AV) := [(4, iv (o' m)), (9, .slice 0 o 4 1 cp), (10, iv 4), (11, iv (o' j))]
def hRn (j m' : Nat) (b : UInt8) : BI' := A6' [ht' fRn 2 0, (fRn, 3, 1, hv (byv b)), (fRn, 4, 4, hv (iv (o' m'))), (fRn, 5, 0, hv (iv (o' (j + 1))))]
theorem UB' (o j m m' : Nat) (cp : Cp) (l : Bs) (b : UInt8) (F : HP) : AW' [] (hRn j m' b) [] default fRn (A3' fRn 2) (tms 0 22 (aRn o cp j m)) [(0, rB l)] [0] [4, 9, 10, 11] F = VT.leaf (AX.normal,[i' m',AV.slice 0 o 4 1 cp,i' 4,i' (j + 1)],22) [some (ce' (rowV encB l) 10)] 1100 ((wb' (decide (o' j < o' 4)) j').a ((f' (j.blt 4 = true)).a (((p' ((o + j * 1).blt (rowV encB l).length = true)).a ((p' ((rowV encB l).getD (o + j * 1) (u') = v' (vi' IntKind.u8 ((rowV encB l).getD (o + j * 1) (u')).intOf))).a (f' (Wk (v' (vi' IntKind.u8 ((rowV encB l).getD (o + j * 1) (u')).intOf)) (v' (vi' IntKind.u8 ↑b.toNat)))))).a ((f' (Wk (z' (IntKind.i64.wrap ↑(BitVec.ofInt 64 (IntKind.i64.wrap (o' m * o' 256)) ||| BitVec.ofInt 64 (IntKind.i64.wrap ↑b.toNat)).toNat)) (i' m'))).a ((k2' j).a k1'))))) := χ
theorem UC' (o m : Nat) (cp : Cp) (l : Bs) (F : HP) : AW' [] (A6' [hf' fRn 2 0]) [] default fRn (A3' fRn 2) (tms 0 22 (aRn o cp 4 m)) [(0, rB l)] [0] [4, 9, 10, 11] F = VT.leaf (AX.exit 0,[i' m,AV.slice 0 o 4 1 cp,i' 4,i' 4],22) [some (ce' (rowV encB l) 10)] 1100 (k5'.a k1') := χ
def gRn : List AV -> AP (Nat × Nat × Cp) := fun tmps => match getL tmps 9 with
 | .slice k o _ _ cp => .ret (k, o, cp)
 | _ => .fail "octets"
def nmR (i : Nat) : Nat -> Nat := fun k => match k with | 0 => i | k => k
def by04 (a b : Nat) : Nat -> Nat
 | 0 => a
 | _ => b
def lRn (l : Bs) (n1 n2 : Nat) : List AV -> AP (AX × List AV) := mkL gRn (fun q => q.2.1 = 0 \/ q.2.1 = 4) (fun q => nmR q.1) (fun q => tms 0 22 (aRn q.2.1 q.2.2 0 0)) (fun _ => [(0, rB l)]) (fun q => .leaf (.exit 0) (tms 0 22 [(4, iv (o' (by04 n1 n2 q.2.1)))]) [(0, rB l)])
def cCl8 (a : Addr) (c : Nat) (l : Bs) : List AV -> Option (AP AV) := mkC (fun _ => .ret ()) (fun _ => True) (fun _ k => k) (fun _ => [slV (some a) 8 c]) (fun _ => []) (fun _ => .leaf .ret [sB 1000 8] [(1000, rB l)])
def UD' : AV -> AP Nat := fun x => match x with
 | .v v => match v with
  | .int _ m => match m with
   | .ofNat n => .ret n
   | _ => .fail "number"
  | _ => .fail "number"
 | _ => .fail "number"
def slOf : AV -> AP (Option Addr × Nat × Nat) := fun x => match x with
 | .v v => match v with
  | .slice a n c => .ret (a, n, c)
  | _ => .fail "slice"
 | _ => .fail "slice"
def gOvR : List AV -> AP (Nat × Option Addr × Nat × Nat) := fun args => match args with
 | x :: y :: _ => (UD' x).bind fun s => (slOf y).bind fun z => .ret (s, z.1, z.2.1, z.2.2)
 | _ => .fail "over"
structure OvP (W : World) (f : Nat -> Option Addr -> Nat -> Nat) (q : Nat × Option Addr × Nat × Nat) : Prop where
 lt : q.1 < 4294967296
 at' : ∃ r : Bs, r.length = q.2.2.1 /\ BAt W.cell? q.2.1 r /\ f q.1 q.2.1 q.2.2.1 = ovr q.1 r
def cOvF (W : World) (f : Nat -> Option Addr -> Nat -> Nat) : List AV -> Option (AP AV) := mkC gOvR (OvP W f) (fun _ k => k) (fun q => [uN q.1, slV q.2.1 q.2.2.1 q.2.2.2]) (fun q => []) (fun q => .leaf .ret [uN (f q.1 q.2.1 q.2.2.1)] [])
def hUn : List (Nat × Nat × Nat × Hint) := [hf' fUn 1 2, (fUn, 3, 1, h0), ht' fTk 2 4, hf' fTk 2 7, hf' fTk 2 15, hf' fTk 4 4]
theorem bL' (W : World) (oa : Option Addr) (n c : Nat) (F : HP) : wRun [] (A6' [ht' fUn 1 2]) [] W fUn [slV oa n c] [] [] F = VT.leaf (AV.tuple [e',i' 0,i' 3]) [] 1100 ((wb' (decide (↑n < o' 8)) j').a k1') := χ
theorem bK' (W : World) (a : Addr) (n c n1 n2 : Nat) (l : Bs) (F : HP) : wRun [(fCl, cCl8 a c l)] (A6' (hUn ++ [ht' fUn 5 1])) [(fRn, 2, A3' fRn 2, lRn l n1 n2)] W fUn [slV (some a) n c] [] [] F = VT.leaf (AV.tuple [e',i' 0,i' 1]) [] 1102 ((wb' (decide (↑n < o' 8)) g').a (((p' (0 <= 8)).a (f' (8 <= c))).a ((((Cnd.p True).a (f' (VW [v' (sl' (some a) 8 c)] [v' (sl' (some a) 8 c)]))).a t').a (((((fe' true).a ((ee' (i' 0)).a ((f' (Wk (b' true) j')).a ((f' (Wk (b' false) g')).a ((fe' true).a ((f' (Wk (b' false) g')).a ((ee' (i' 0)).a ((f' (Wk (b' false) g')).a ((fe' true).a ((tt'.a (ee' true)).a ((fe' true).a ((tt'.a (ee' true)).a ((fe' true).a t'))))))))))))).a ((p' ((fRn,2,A3' fRn 2,lRn l n1 n2).snd.snd.fst = (fRn,2,A3' fRn 2,lRn l n1 n2).snd.snd.fst)).a ((p' (0 = 0 \/ 0 = 4)).a ((p' (VW (pt' 1101 0::i' 4::u'::u'::i' 0::u'::u'::pt' 1101 0::i' 4::AV.slice 1100 0 4 1 (Cp.ex 4)::i' 4::i' 0::ru8 (u'::u'::[])) (ra4 (i' 0::ra4 (AV.slice 1100 0 4 1 (Cp.ex 4)::i' 4::i' 0::ra8 (a'::a'::[])))))).a (f' (OW (ce' (AV.rens (sgN (fun k => k) [1000] 1100) (rowV encB l)) 10) (ce' (AV.rens (nmR 1100) (rowV encB l)) 10))))))).a t').a (((((fe' true).a ((ee' (i' 0)).a ((f' (Wk (b' true) j')).a ((f' (Wk (b' false) g')).a ((fe' true).a ((f' (Wk (b' false) g')).a ((ee' (i' 0)).a ((f' (Wk (b' false) g')).a ((fe' true).a ((tt'.a (ee' true)).a ((fe' true).a ((tt'.a (ee' true)).a ((fe' true).a t'))))))))))))).a ((p' ((fRn,2,A3' fRn 2,lRn l n1 n2).snd.snd.fst = (fRn,2,A3' fRn 2,lRn l n1 n2).snd.snd.fst)).a ((p' (4 = 0 \/ 4 = 4)).a ((p' (VW (pt' 1101 0::i' 4::u'::u'::i' 0::u'::u'::pt' 1101 0::i' 4::AV.slice 1100 4 4 1 (Cp.ex 4)::i' 4::i' 0::ru8 (u'::u'::[])) (ra4 (i' 0::ra4 (AV.slice 1100 4 4 1 (Cp.ex 4)::i' 4::i' 0::ra8 (a'::a'::[])))))).a (f' (OW (ce' (AV.rens (sgN (nmR 1100) [] 0) (rowV encB l)) 10) (ce' (AV.rens (nmR 1100) (rowV encB l)) 10))))))).a t').a ((wb' (decide (o' n1 > o' 1048576)) j').a k1')))))) := χ
abbrev h16' (q0 q1 : Nat) (q2 : Addr) (q3 : Bs) (q4 q5 q6 q7 q8 : Nat) (z : Cnd) : Cnd := ((wb' (decide (↑q0 < o' 8)) g').a (((p' (0 <= 8)).a (f' (8 <= q1))).a ((((p' True).a (f' (VW [v' (sl' (some q2) 8 q1)] [v' (sl' (some q2) 8 q1)]))).a t').a (((((fe' true).a ((ee' (i' 0)).a ((f' (Wk (b' true) j')).a ((f' (Wk (b' false) g')).a ((fe' true).a ((f' (Wk (b' false) g')).a ((ee' (i' 0)).a ((f' (Wk (b' false) g')).a ((fe' true).a ((tt'.a (ee' true)).a ((fe' true).a ((tt'.a (ee' true)).a ((fe' true).a t'))))))))))))).a ((p' ((fRn,2,A3' fRn 2,lRn q3 q4 q5).snd.snd.fst = (fRn,2,A3' fRn 2,lRn q3 q4 q5).snd.snd.fst)).a ((p' (0 = 0 \/ 0 = 4)).a ((p' (VW (pt' q6 0::i' 4::u'::u'::i' 0::u'::u'::pt' q6 0::i' 4::AV.slice q7 0 4 1 (Cp.ex 4)::i' 4::i' 0::ru8 (u'::u'::[])) (ra4 (i' 0::ra4 (AV.slice q7 0 4 1 (Cp.ex 4)::i' 4::i' 0::ra8 (a'::a'::[])))))).a (f' (OW (ce' (AV.rens (sgN (fun k => k) [q8] q7) (rowV encB q3)) 10) (ce' (AV.rens (nmR q7) (rowV encB q3)) 10))))))).a t').a (((((fe' true).a ((ee' (i' 0)).a ((f' (Wk (b' true) j')).a ((f' (Wk (b' false) g')).a ((fe' true).a ((f' (Wk (b' false) g')).a ((ee' (i' 0)).a ((f' (Wk (b' false) g')).a ((fe' true).a ((tt'.a (ee' true)).a ((fe' true).a ((tt'.a (ee' true)).a ((fe' true).a t'))))))))))))).a ((p' ((fRn,2,A3' fRn 2,lRn q3 q4 q5).snd.snd.fst = (fRn,2,A3' fRn 2,lRn q3 q4 q5).snd.snd.fst)).a ((p' (4 = 0 \/ 4 = 4)).a ((p' (VW (pt' q6 0::i' 4::u'::u'::i' 0::u'::u'::pt' q6 0::i' 4::AV.slice q7 4 4 1 (Cp.ex 4)::i' 4::i' 0::ru8 (u'::u'::[])) (ra4 (i' 0::ra4 (AV.slice q7 4 4 1 (Cp.ex 4)::i' 4::i' 0::ra8 (a'::a'::[])))))).a (f' (OW (ce' (AV.rens (sgN (nmR q7) [] 0) (rowV encB q3)) 10) (ce' (AV.rens (nmR q7) (rowV encB q3)) 10))))))).a t').a ((wb' (decide (o' q4 > o' 1048576)) g').a z))))))
theorem bJ' (W : World) (a : Addr) (n c n1 n2 : Nat) (l : Bs) (F : HP) : wRun [(fCl, cCl8 a c l)] (A6' (hUn ++ [hf' fUn 5 1, ht' fUn 7 4])) [(fRn, 2, A3' fRn 2, lRn l n1 n2)] W fUn [slV (some a) n c] [] [] F = VT.leaf (AV.tuple [e',i' 0,i' 3]) [] 1102 (h16' n c a l n1 n2 1101 1100 1000 ((wb' (decide (o' n1 > IntKind.i64.wrap (↑n - o' 8))) j').a k1')) := χ
def hU4 (b : Addr) (n1 : Nat) (x : Bool) : List (Nat × Nat × Nat × Hint) := [hf' fUn 5 1, hf' fUn 7 4, (fUn, 9, 1, hv (iv (o' (8 + n1)))), (fUn, 11, 1, h0), (fUn, 11, 8, hv (.lit x))]
abbrev k17' (q0 : World) (q1 : Nat -> Option Addr -> Nat -> Nat) (q2 : Addr) (q3 : Nat) (q4 : Addr) (q5 : Nat) : Cnd := ((p' (OvP q0 q1 (q1 (4294967295,(some q2,4,q3).fst,(some q2,4,q3).snd.fst,(some q2,4,q3).snd.snd).fst (4294967295,(some q2,4,q3).fst,(some q2,4,q3).snd.fst,(some q2,4,q3).snd.snd).snd.fst (4294967295,(some q2,4,q3).fst,(some q2,4,q3).snd.fst,(some q2,4,q3).snd.snd).snd.snd.fst,some q4,q5,q5))).a (f' (VW [v' (vi' IntKind.u32 (o' (q1 (4294967295,(some q2,4,q3).fst,(some q2,4,q3).snd.fst,(some q2,4,q3).snd.snd).fst (4294967295,(some q2,4,q3).fst,(some q2,4,q3).snd.fst,(some q2,4,q3).snd.snd).snd.fst (4294967295,(some q2,4,q3).fst,(some q2,4,q3).snd.fst,(some q2,4,q3).snd.snd).snd.snd.fst))),v' (sl' (some q4) q5 q5)] [v' (vi' IntKind.u32 (o' (q1 (4294967295,(some q2,4,q3).fst,(some q2,4,q3).snd.fst,(some q2,4,q3).snd.snd).fst (4294967295,(some q2,4,q3).fst,(some q2,4,q3).snd.fst,(some q2,4,q3).snd.snd).snd.fst (4294967295,(some q2,4,q3).fst,(some q2,4,q3).snd.fst,(some q2,4,q3).snd.snd).snd.snd.fst))),v' (sl' (some q4) q5 q5)])))
abbrev h18' (q0 : Nat) (q1 : World) (q2 : Nat -> Option Addr -> Nat -> Nat) (q3 : Addr) (z : Cnd) : Cnd := (((p' (0 <= 4)).a (f' (4 <= q0))).a (((p' (OvP q1 q2 (4294967295,some q3,4,q0))).a (f' (VW [v' (vi' IntKind.u32 (o' 4294967295)),v' (sl' (some q3) 4 q0)] [v' (vi' IntKind.u32 (o' 4294967295)),v' (sl' (some q3) 4 q0)]))).a z))
abbrev k19' (q0 q1 : Nat) (q2 q3 : Addr) : Cnd := ((p' (8 <= 8 + q0)).a ((p' (8 + q0 <= 8 + q0)).a ((p' (8 + q0 <= q1)).a (f' (Wk (v' (sl' (if 8 + q0 = 8 then some q2 else some (Addr.mk q2.block (q2.off + 8) none)) (8 + q0 - 8) (8 + q0 - 8))) (v' (sl' (some q3) q0 q0)))))))
abbrev k20' (q0 : Nat) : Cnd := (f' (Wk (z' (IntKind.i64.wrap (o' 8 + o' q0))) (i' (8 + q0))))
abbrev k21' (q0 q1 : Nat) : Cnd := (wb' (decide (o' q0 > IntKind.i64.wrap (↑q1 - o' 8))) g')
theorem bI' (W : World) (a b : Addr) (n c n1 n2 : Nat) (l : Bs) (f : Nat -> Option Addr -> Nat -> Nat) (F : HP) : wRun [(fCl, cCl8 a c l), (fOv, cOvF W f)] (A6' (hUn ++ hU4 b n1 true ++ [(fUn, 10, 3, h0v (.v (.slice (some b) n1 n1)))])) [(fRn, 2, A3' fRn 2, lRn l n1 n2)] W fUn [slV (some a) n c] [] [] F = VT.leaf (AV.tuple [e',i' 0,i' 9]) [] 1102 (h16' n c a l n1 n2 1101 1100 1000 ((k21' n1 n).a ((k20' n1).a ((k19' n1 c a b).a (h18' c W f a ((k17' W f a c b n1).a ((wb' (IntKind.i64.wrap (IntKind.u32.wrap ↑(BitVec.ofInt 32 (o' (f (f (4294967295,(some a,4,c).fst,(some a,4,c).snd.fst,(some a,4,c).snd.snd).fst (4294967295,(some a,4,c).fst,(some a,4,c).snd.fst,(some a,4,c).snd.snd).snd.fst (4294967295,(some a,4,c).fst,(some a,4,c).snd.fst,(some a,4,c).snd.snd).snd.snd.fst,(some b,n1,n1).fst,(some b,n1,n1).snd.fst,(some b,n1,n1).snd.snd).fst (f (4294967295,(some a,4,c).fst,(some a,4,c).snd.fst,(some a,4,c).snd.snd).fst (4294967295,(some a,4,c).fst,(some a,4,c).snd.fst,(some a,4,c).snd.snd).snd.fst (4294967295,(some a,4,c).fst,(some a,4,c).snd.fst,(some a,4,c).snd.snd).snd.snd.fst,(some b,n1,n1).fst,(some b,n1,n1).snd.fst,(some b,n1,n1).snd.snd).snd.fst (f (4294967295,(some a,4,c).fst,(some a,4,c).snd.fst,(some a,4,c).snd.snd).fst (4294967295,(some a,4,c).fst,(some a,4,c).snd.fst,(some a,4,c).snd.snd).snd.fst (4294967295,(some a,4,c).fst,(some a,4,c).snd.fst,(some a,4,c).snd.snd).snd.snd.fst,(some b,n1,n1).fst,(some b,n1,n1).snd.fst,(some b,n1,n1).snd.snd).snd.snd.fst)) ^^^ BitVec.ofInt 32 (o' 4294967295)).toNat) != o' n2) j').a k1'))))))) := χ
theorem bH' (W : World) (a b : Addr) (n c n1 n2 : Nat) (l : Bs) (f : Nat -> Option Addr -> Nat -> Nat) (F : HP) : wRun [(fCl, cCl8 a c l), (fOv, cOvF W f)] (A6' (hUn ++ hU4 b n1 false ++ [(fUn, 10, 3, h0v (.v (.slice (some b) n1 n1)))])) [(fRn, 2, A3' fRn 2, lRn l n1 n2)] W fUn [slV (some a) n c] [] [1100, 1101, 1102, 1103, 1104] F = VT.leaf (AV.tuple [AV.slice 1102 0 n1 1 (Cp.lo n1),i' (8 + n1),i' 0]) [some (ce' (AV.rens (sgN (nmR 1100) [] 0) (rowV encB l)) 10),some (ce' [AV.slice 1100 8 0 1 (Cp.lo 0),v' (vi' IntKind.u8 (o' 0)),i' 0,i' 0] 284),some (ce' (vmap (AM' W b (n1 * 1))) 10),none,none] 1103 (h16' n c a l n1 n2 1101 1100 1000 ((k21' n1 n).a ((k20' n1).a ((k19' n1 c a b).a (h18' c W f a ((k17' W f a c b n1).a ((wb' (IntKind.i64.wrap (IntKind.u32.wrap ↑(BitVec.ofInt 32 (o' (f (f (4294967295,(some a,4,c).fst,(some a,4,c).snd.fst,(some a,4,c).snd.snd).fst (4294967295,(some a,4,c).fst,(some a,4,c).snd.fst,(some a,4,c).snd.snd).snd.fst (4294967295,(some a,4,c).fst,(some a,4,c).snd.fst,(some a,4,c).snd.snd).snd.snd.fst,(some b,n1,n1).fst,(some b,n1,n1).snd.fst,(some b,n1,n1).snd.snd).fst (f (4294967295,(some a,4,c).fst,(some a,4,c).snd.fst,(some a,4,c).snd.snd).fst (4294967295,(some a,4,c).fst,(some a,4,c).snd.fst,(some a,4,c).snd.snd).snd.fst (4294967295,(some a,4,c).fst,(some a,4,c).snd.fst,(some a,4,c).snd.snd).snd.snd.fst,(some b,n1,n1).fst,(some b,n1,n1).snd.fst,(some b,n1,n1).snd.snd).snd.fst (f (4294967295,(some a,4,c).fst,(some a,4,c).snd.fst,(some a,4,c).snd.snd).fst (4294967295,(some a,4,c).fst,(some a,4,c).snd.fst,(some a,4,c).snd.snd).snd.fst (4294967295,(some a,4,c).fst,(some a,4,c).snd.fst,(some a,4,c).snd.snd).snd.snd.fst,(some b,n1,n1).fst,(some b,n1,n1).snd.fst,(some b,n1,n1).snd.snd).snd.snd.fst)) ^^^ BitVec.ofInt 32 (o' 4294967295)).toNat) != o' n2) g').a (((p' (n1.ble n1 = true)).a ((p' (((List.range (n1 * 1)).all fun j => (W.cell? (b.add j)).isSome) = true)).a ((p' ((vmap (AM' W b (n1 * 1))).all AV.one = true)).a ((p' (Nat.blt 0 n1 = true)).a ((p' ((n1 * 1).ble 140737488355328 = true)).a (f' (n1.ble 9223372036854775807 = true))))))).a k1')))))))) := χ
theorem bG' (W : World) (a b : Addr) (n c n2 : Nat) (l : Bs) (f : Nat -> Option Addr -> Nat -> Nat) (F : HP) : wRun [(fCl, cCl8 a c l), (fOv, cOvF W f)] (A6' (hUn ++ hU4 b 0 false ++ [(fUn, 10, 3, h0v (.v (.slice (some b) 0 0))), (fUn, 13, 1, h0)])) [(fRn, 2, A3' fRn 2, lRn l 0 n2)] W fUn [slV (some a) n c] [] [] F = VT.leaf (AV.tuple [e',i' 8,i' 0]) [] 1102 ((wb' (decide (↑n < o' 8)) g').a (((p' (0 <= 8)).a (f' (8 <= c))).a ((((Cnd.p True).a (f' (VW [v' (sl' (some a) 8 c)] [v' (sl' (some a) 8 c)]))).a t').a (((((fe' true).a ((ee' (i' 0)).a ((f' (Wk (b' true) j')).a ((f' (Wk (b' false) g')).a ((fe' true).a ((f' (Wk (b' false) g')).a ((ee' (i' 0)).a ((f' (Wk (b' false) g')).a ((fe' true).a ((tt'.a (ee' true)).a ((fe' true).a ((tt'.a (ee' true)).a ((fe' true).a t'))))))))))))).a ((p' ((fRn,2,A3' fRn 2,lRn l 0 n2).snd.snd.fst = (fRn,2,A3' fRn 2,lRn l 0 n2).snd.snd.fst)).a ((p' (0 = 0 \/ 0 = 4)).a ((p' (VW (pt' 1101 0::i' 4::u'::u'::i' 0::u'::u'::pt' 1101 0::i' 4::AV.slice 1100 0 4 1 (Cp.ex 4)::i' 4::i' 0::ru8 (u'::u'::[])) (ra4 (i' 0::ra4 (AV.slice 1100 0 4 1 (Cp.ex 4)::i' 4::i' 0::ra8 (a'::a'::[])))))).a (f' (OW (ce' (AV.rens (sgN (fun k => k) [1000] 1100) (rowV encB l)) 10) (ce' (AV.rens (nmR 1100) (rowV encB l)) 10))))))).a t').a (((((fe' true).a ((ee' (i' 0)).a ((f' (Wk (b' true) j')).a ((f' (Wk (b' false) g')).a ((fe' true).a ((f' (Wk (b' false) g')).a ((ee' (i' 0)).a ((f' (Wk (b' false) g')).a ((fe' true).a ((tt'.a (ee' true)).a ((fe' true).a ((tt'.a (ee' true)).a ((fe' true).a t'))))))))))))).a ((p' ((fRn,2,A3' fRn 2,lRn l 0 n2).snd.snd.fst = (fRn,2,A3' fRn 2,lRn l 0 n2).snd.snd.fst)).a ((p' (4 = 0 \/ 4 = 4)).a ((p' (VW (pt' 1101 0::i' 4::u'::u'::i' 0::u'::u'::pt' 1101 0::i' 4::AV.slice 1100 4 4 1 (Cp.ex 4)::i' 4::i' 0::ru8 (u'::u'::[])) (ra4 (i' 0::ra4 (AV.slice 1100 4 4 1 (Cp.ex 4)::i' 4::i' 0::ra8 (a'::a'::[])))))).a (f' (OW (ce' (AV.rens (sgN (nmR 1100) [] 0) (rowV encB l)) 10) (ce' (AV.rens (nmR 1100) (rowV encB l)) 10))))))).a t').a (k5'.a ((wb' (decide (o' 0 > IntKind.i64.wrap (↑n - o' 8))) g').a ((f' (Wk (i' 8) (i' 8))).a (((p' (8 <= 8)).a ((p' (8 <= 8)).a ((p' (8 <= c)).a (f' (Wk (v' (sl' (some a) 0 0)) (v' (sl' (some b) 0 0))))))).a (h18' c W f a (((p' (OvP W f (f (4294967295,(some a,4,c).fst,(some a,4,c).snd.fst,(some a,4,c).snd.snd).fst (4294967295,(some a,4,c).fst,(some a,4,c).snd.fst,(some a,4,c).snd.snd).snd.fst (4294967295,(some a,4,c).fst,(some a,4,c).snd.fst,(some a,4,c).snd.snd).snd.snd.fst,some b,0,0))).a (f' (VW [v' (vi' IntKind.u32 (o' (f (4294967295,(some a,4,c).fst,(some a,4,c).snd.fst,(some a,4,c).snd.snd).fst (4294967295,(some a,4,c).fst,(some a,4,c).snd.fst,(some a,4,c).snd.snd).snd.fst (4294967295,(some a,4,c).fst,(some a,4,c).snd.fst,(some a,4,c).snd.snd).snd.snd.fst))),v' (sl' (some b) 0 0)] [v' (vi' IntKind.u32 (o' (f (4294967295,(some a,4,c).fst,(some a,4,c).snd.fst,(some a,4,c).snd.snd).fst (4294967295,(some a,4,c).fst,(some a,4,c).snd.fst,(some a,4,c).snd.snd).snd.fst (4294967295,(some a,4,c).fst,(some a,4,c).snd.fst,(some a,4,c).snd.snd).snd.snd.fst))),v' (sl' (some b) 0 0)]))).a ((wb' (IntKind.i64.wrap (IntKind.u32.wrap ↑(BitVec.ofInt 32 (o' (f (f (4294967295,(some a,4,c).fst,(some a,4,c).snd.fst,(some a,4,c).snd.snd).fst (4294967295,(some a,4,c).fst,(some a,4,c).snd.fst,(some a,4,c).snd.snd).snd.fst (4294967295,(some a,4,c).fst,(some a,4,c).snd.fst,(some a,4,c).snd.snd).snd.snd.fst,(some b,0,0).fst,(some b,0,0).snd.fst,(some b,0,0).snd.snd).fst (f (4294967295,(some a,4,c).fst,(some a,4,c).snd.fst,(some a,4,c).snd.snd).fst (4294967295,(some a,4,c).fst,(some a,4,c).snd.fst,(some a,4,c).snd.snd).snd.fst (4294967295,(some a,4,c).fst,(some a,4,c).snd.fst,(some a,4,c).snd.snd).snd.snd.fst,(some b,0,0).fst,(some b,0,0).snd.fst,(some b,0,0).snd.snd).snd.fst (f (4294967295,(some a,4,c).fst,(some a,4,c).snd.fst,(some a,4,c).snd.snd).fst (4294967295,(some a,4,c).fst,(some a,4,c).snd.fst,(some a,4,c).snd.snd).snd.fst (4294967295,(some a,4,c).fst,(some a,4,c).snd.fst,(some a,4,c).snd.snd).snd.snd.fst,(some b,0,0).fst,(some b,0,0).snd.fst,(some b,0,0).snd.snd).snd.snd.fst)) ^^^ BitVec.ofInt 32 (o' 4294967295)).toNat) != o' n2) g').a ((fe' 0).a k1'))))))))))))) := χ
end
theorem M0' (b : Bs) (c : UInt8) : val (b ++ [c]) = val b * 256 + c.toNat := by rw [val, List.foldl_append]; rfl
theorem YJ' : ∀ {k : Nat} (b : Bs), b.length = k -> val b < 256 ^ k := by
 intro k
 induction k with
 | zero => intro b hb; rw [List.length_eq_zero_iff.1 hb]; decide
 | succ k ih =>
  intro b hb
  obtain ⟨l, c, rfl⟩ : ∃ l c, b = l ++ [c] := by
   rcases List.eq_nil_or_concat b with h | ⟨l, c, h⟩
   ·rw [h] at hb; cases hb
   ·exact ⟨l, c, by simpa using h⟩
  rw [M0']; have := ih l (by simpa using hb); have := c.toNat_lt; rw [Nat.pow_succ]; omega
theorem DJ' (h : n < 9223372036854775808) : IntKind.i64.wrap (n : Int) = (n : Int) := IntWalk.i64_in _ ω
theorem bv64 (h : n < 18446744073709551616) : (BitVec.ofInt 64 (n : Int)).toNat = n := by
 rw [BitVec.ofInt_natCast, BitVec.toNat_ofNat, Nat.mod_eq_of_lt h]
theorem or_eq {m : Nat} {b : UInt8} (h : m < 1099511627776) : IntKind.i64.wrap ((BitVec.ofInt 64 (IntKind.i64.wrap (o' m * o' 256)) ||| BitVec.ofInt 64 (IntKind.i64.wrap (b.toNat : Int))).toNat : Int) = o' (m * 256 + b.toNat) := by
 have hb := b.toNat_lt
 have e1 : (o' m * o' 256 : Int) = ((m * 256 : Nat) : Int) := by simp
 have w1 := DJ' (n := m * 256) ω; have w2 := DJ' (n := b.toNat) ω; rw [e1, w1, w2, BitVec.toNat_or, bv64 (n := m * 256) ω, bv64 (n := b.toNat) ω]
 have e2 : m * 256 ||| b.toNat = m * 256 + b.toNat := by
  have := Nat.shiftLeft_add_eq_or_of_lt (i := 8) (b := b.toNat) ω m; rw [Nat.shiftLeft_eq] at this; exact this.symm
 rw [e2, DJ' ω]; rfl
theorem rn_tri (l : Bs) (o : Nat) (cp : Cp) (hl : l.length = 8) (ho : o = 0 \/ o = 4) : LTri Θ default (A3' fRn 2) (tms 0 22 (aRn o cp 0 0)) [(0, rB l)] (.exit 0) (tms 0 22 [(4, iv (o' (val ((l.drop o).take 4))))]) [(0, rB l)] := by
 have ho8 : o + 4 <= 8 := ω
 refine B6' (W := default) (g := fRn) (b := A3' fRn 2) (σ := {j : Nat // j <= 4}) 22 (fun j => aRn o cp j.1 (val ((l.drop o).take j.1))) (fun j => [(0, rB l)]) (.exit 0) [(4, iv (o' (val ((l.drop o).take 4))))] [(0, rB l)] (fun j => 4 - j.1) [0] [4, 9, 10, 11] (by intro h; cases h) (fun _ => rfl) rfl ?_ ⟨0, Nat.zero_le _⟩
 rintro ⟨j, hj⟩; simp only
 by_cases h1 : j < 4
 ·obtain ⟨b, hb⟩ := AY' (l := l.drop o) (i := j) (by rw [ld']; omega)
  have hbl : l.getD (o + j) 0 = b := by
   rw [List.getElem?_drop] at hb; rw [List.getD, hb]; rfl
  have hw := B8' j ω; have e1 : decide (o' j < o' 4) = true := ltTN h1; have hvl : val ((l.drop o).take j) < 256 ^ j := YJ' _ (by rw [List.length_take, ld']; omega)
  have hv2 : val ((l.drop o).take j) < 1099511627776 := Nat.lt_of_lt_of_le hvl (by
   have : (256 : Nat) ^ j <= 256 ^ 4 := Nat.pow_le_pow_right δ ω
   exact Nat.le_trans this δ)
  have hnx : val ((l.drop o).take (j + 1)) = val ((l.drop o).take j) * 256 + b.toNat := by rw [B0' hb, M0']
  have g1 : (o + j * 1) < (rowV encB l).length := by rw [BS', hl]; omega
  have g2 : (rowV encB l).getD (o + j * 1) AV.undef = byv b := by
   have := U2' l (o + j) ω AV.undef
   rw [show 0 + (o + j) * 1 = o + j * 1 by omega] at this
   rw [this, hbl]
  have g3 : (rowV encB l).getD (o + j * 1) AV.undef = v' (vi' IntKind.u8 (b.toNat : Int)) := g2
  refine ⟨[], hRn j (val ((l.drop o).take j) * 256 + b.toNat) b, [], fun F hF => noC, fun _ _ => noL, fun F => ?_⟩
  refine Yj (UB' o j (val ((l.drop o).take j)) (val ((l.drop o).take j) * 256 + b.toNat) cp l b F) ⟨⟨?_, rfl, .inl ⟨rfl, ⟨j + 1, h1⟩, by simp only; omega, [], by kernel_rfl, by kernel_rfl, ⟨by rw [hnx]; exact Ya, Ya, Ya, Ya, Ye⟩, ⟨_, rfl, OW.of_eq (KA' _ _).symm⟩, Ye⟩⟩⟩
  exact Cc3'
 ·have hje : j = 4 := ω
  subst hje
  refine ⟨[], A6' [hf' fRn 2 0], [], fun _ _ => noC, fun _ _ => noL, fun F => ?_⟩
  refine Yj (UC' o (val ((l.drop o).take 4)) cp l F) ⟨⟨?_, rfl, .inr ⟨rfl, [], by kernel_rfl, by kernel_rfl, ⟨Ya, Ye⟩, ⟨_, rfl, OW.of_eq (KA' _ _).symm⟩, Ye⟩⟩⟩
  simp only [Cnd.holds, and_true]; exact A2' rfl
theorem ZC' : ∀ args, RO (gRn args) := by
 intro args; unfold gRn; split
 ·exact RO.ret _
 ·exact RO.fail _
theorem O8' {l : Bs} {n1 n2 : Nat} (hl : l.length = 8) (h1 : n1 = val (l.take 4)) (h2 : n2 = val ((l.drop 4).take 4)) (F : HP) (W : World) (hF : AH' W F) : L1OK Θ F (A3' fRn 2) (lRn l n1 n2) :=
 BV' (W := default) AZ' ZC' (fun q hq => by
  obtain ⟨k, o, cp⟩ := q; have hq : o = 0 \/ o = 4 := hq; have := rn_tri l o cp hl hq
  rcases hq with rfl | rfl
  ·rw [List.drop_zero, <- h1] at this; exact this
  ·rw [<- h2] at this; exact this) fun q => by
   simp only [RT.pick]; exact BD' rfl rfl (A0' Ye (A0' rfl (A0' Ye (A0' Ye A1')))) (A0' (AR' _ _) A1') (A0' Ye A1') (A0' (AR' _ _) A1')
def WI' (W : World) (oa : Option Addr) (n : Nat) : Bs := (List.range n).map fun i => match oa with
 | some a => match W.cell? (a.add (i * 1)) with
  | some (.int _ k) => UInt8.ofNat k.toNat
  | _ => 0
 | none => 0
theorem WH' {oa : Option Addr} {r : Bs} (h : BAt W.cell? oa r) : WI' W oa r.length = r := by
 refine List.ext_getElem (by simp [WI']) fun i h1 h2 => ?_
 obtain ⟨a, rfl, q⟩ := h.2 i r[i] (List.getElem?_eq_getElem h2); simp only [WI', List.getElem_map, List.getElem_range, q]; simp
def fOvr (W : World) (s : Nat) (oa : Option Addr) (n : Nat) : Nat := ovr s (WI' W oa n)
theorem ovp {s : Nat} {oa : Option Addr} {r : Bs} (h : BAt W.cell? oa r) (hs : s < 4294967296) (hn : n = r.length) : OvP W (fOvr W) (s, oa, n, c) /\ fOvr W s oa n = ovr s r := by
 subst hn
 have e : fOvr W s oa r.length = ovr s r := by rw [fOvr, WH' h]
 exact ⟨⟨hs, r, rfl, h, e⟩, e⟩
theorem XE' (x : AV) : RO (UD' x) := by
 unfold UD'
 repeat' split
 all_goals first | exact RO.ret _ | exact RO.fail _
theorem aJ' (x : AV) : RO (slOf x) := by
 unfold slOf
 repeat' split
 all_goals first | exact RO.ret _ | exact RO.fail _
theorem VW' {α β : Type} {p : AP α} {f : α -> AP β} (h : RO p) (hf : ∀ a, RO (f a)) : RO (p.bind f) := by
 induction h with
 | ret a => exact hf a
 | fail why => exact RO.fail _
 | read i k h ih => exact RO.read _ _ fun o => ih o
theorem g2' : ∀ args, RO (gOvR args) := by
 intro args; unfold gOvR; split
 ·exact VW' (XE' _) fun s => VW' (aJ' _) fun z => RO.ret _
 ·exact RO.fail _
theorem QF' (hN : LN W) (f : Nat -> Option Addr -> Nat -> Nat) (F : HP) (hF : AH' W F) : C1OK Θ F fOv (cOvF W f) :=
 AU' hF (fun q => uN (f q.1 q.2.1 q.2.2.1)) g2' (fun _ => rfl) (fun q hq => by
  obtain ⟨s, oa, n, c⟩ := q; obtain ⟨hs, r, hr, hB, e⟩ := hq; have hr : r.length = n := hr; subst hr; have e : f s oa r.length = ovr s r := e; show Tri Θ W fOv [uN s, slV oa r.length c] [] (uN (f s oa r.length)) []; rw [e]
  exact U8' W hN s hs oa c r hB) fun _ => ⟨rfl, rfl, ⟨Ye, Ye, Ye⟩, A1', ⟨Ye, Ye⟩, A1'⟩
theorem VN' (a : Addr) (m n : Nat) : (a.add m).add n = a.add (m + n) := by
 unfold Addr.add
 by_cases hm : m = 0
 ·subst hm; simp
 ·by_cases hn : n = 0
  ·subst hn; simp
  ·simp [hm, hn, Nat.add_assoc]
theorem BAt.take {C : Mem} {oa : Option Addr} {l : Bs} (h : BAt C oa l) (k : Nat) : BAt C oa (l.take k) := ⟨Nat.le_trans (by rw [List.length_take]; omega) h.1, fun i b hb => by
 rw [List.getElem?_take] at hb; split at hb
 ·exact h.2 i b hb
 ·cases hb⟩
theorem BAt.drop {C : Mem} {a : Addr} {l : Bs} (h : BAt C (some a) l) (k : Nat) : BAt C (some (a.add k)) (l.drop k) := ⟨Nat.le_trans (by rw [ld']; omega) h.1, fun i b hb => by
 rw [List.getElem?_drop] at hb; obtain ⟨a', e, q⟩ := h.2 _ b hb; obtain rfl := Option.some.inj e; refine ⟨_, rfl, ?_⟩; rw [VN', Nat.mul_one]
 rwa [Nat.mul_one] at q⟩
theorem KW' {a : Addr} {l : Bs} (h : BAt W.cell? (some a) l) (hl : l.length = 8) (F : HP) (hF : AH' W F) : C1OK Θ F fCl (cCl8 a c l) :=
 AU' hF (fun _ => sB 1000 8) (fun _ => RO.ret _) (fun _ => rfl) (fun _ _ => by have := RU' W (some a) c l h ω; rw [hl] at this; exact this) fun _ => ⟨rfl, rfl, ⟨Ye, Ye⟩, A1', ⟨rfl, Ye⟩, A0' (AR' _ _) A1'⟩
theorem gtT {a b : Nat} (h : b < a) : decide ((a : Int) > (b : Int)) = true := decide_eq_true ω
theorem gtF {a b : Nat} (h : a <= b) : decide ((a : Int) > (b : Int)) = false := decide_eq_false ω
theorem PO' {oa : Option Addr} {l : Bs} (h : BAt W.cell? oa l) (h8 : 8 <= l.length) : ∃ a, oa = some a := by
 obtain ⟨x, hx⟩ := AY' (l := l) (i := 0) ω; obtain ⟨a, rfl, _⟩ := h.2 0 x hx; exact ⟨a, rfl⟩
theorem GQ' {l : Bs} : (l.take 8).take 4 = l.take 4 /\ ((l.take 8).drop 4).take 4 = (l.drop 4).take 4 := by
 refine ⟨by rw [List.take_take]; rfl, ?_⟩; rw [List.drop_take, List.take_take]; rfl
theorem wk_v {a b : Value} (h : a = b) : Wk (.v a) (.v b) := by subst h; exact Ya
def GA' (a : Addr) (n : Nat) : Addr := if n = 0 then a else a.add 8
theorem LV' (a : Addr) (n : Nat) : sl' (if 8 + n = 7 + 1 then some a else Option.map (fun x => x.add ((7 + 1) * 1)) (some a)) (8 + n - (7 + 1)) (8 + n - (7 + 1)) = sl' (some (GA' a n)) n n := by
 have e : 8 + n - (7 + 1) = n := ω
 rw [e]; unfold GA'
 by_cases h : n = 0
 ·subst h; rfl
 ·rw [if_neg ω, if_neg h]; rfl
theorem ZK' {C : Mem} {a : Addr} {l : Bs} (h : BAt C (some a) l) (n : Nat) (hn : n <= l.length - 8) : BAt C (some (GA' a n)) ((l.drop 8).take n) := by
 unfold GA'; split
 ·rename_i h0; subst h0; rw [List.take_zero]; exact ⟨Nat.zero_le _, fun i b hb => by simp at hb⟩
 ·exact (h.drop 8).take n
theorem un1 (W : World) (oa : Option Addr) (c n : Nat) (h : n < 8) : Tri Θ W fUn [slV oa n c] [] (.tuple [nilS, iv 0, iv 3]) [] := by
 have e8 : decide ((n : Int) < o' 8) = true := decide_eq_true (by simp only [Z0]; omega)
 refine AF' (con := []) (hints := A6' [ht' fUn 1 2]) (lc := []) [] rfl (fun F hF => noC) (fun F hF => noL) fun F => ?_
 refine Yj (bL' W oa n c F) ⟨⟨?_, (AO' (vs' := [.tuple [nilS, iv 0, iv 3]]) (H' := []) [] rfl rfl (Yb) trivial).fits rfl⟩⟩; simp only [Cnd.holds, and_true]; exact A2' e8
theorem un2 (W : World) (hN : LN W) (a : Addr) (c : Nat) (l : Bs) (h : BAt W.cell? (some a) l) (hc : l.length <= c) (h8 : 8 <= l.length) (hm : most < val (l.take 4)) : Tri Θ W fUn [slV (some a) l.length c] [] (.tuple [nilS, iv 0, iv 1]) [] := by
 have hb : 8 <= c := Nat.le_trans h8 hc; have e8 : decide ((l.length : Int) < o' 8) = false := decide_eq_false (by simp only [Z0]; omega)
 have hl8 : (l.take 8).length = 8 := by rw [List.length_take]; omega
 have k1 := fun F hF => KW' (W := W) (c := c) (h.take 8) hl8 F hF
 have k2 := fun F hF => O8' (n1 := val (l.take 4)) (n2 := val ((l.drop 4).take 4)) hl8 (by rw [GQ'.1]) (by rw [GQ'.2]) F W hF
 have em : decide (o' (val (l.take 4)) > o' 1048576) = true := gtT hm
 refine AF' (con := [(fCl, cCl8 a c (l.take 8))]) (hints := A6' (hUn ++ [ht' fUn 5 1])) (lc := [(fRn, 2, A3' fRn 2, lRn (l.take 8) (val (l.take 4)) (val ((l.drop 4).take 4)))]) [] rfl (fun F hF => BJ' (k1 F hF)) (fun F hF => C2' (k2 F hF)) fun F => ?_
 clear k1 k2; refine Yj (bK' W a l.length c (val (l.take 4)) (val ((l.drop 4).take 4)) (l.take 8) F) ⟨⟨?_, (AO' (vs' := [.tuple [nilS, iv 0, iv 1]]) (H' := []) [] χ χ (Yb) trivial).fits rfl⟩⟩; exact Cc4'
theorem un3 (W : World) (hN : LN W) (a : Addr) (c : Nat) (l : Bs) (h : BAt W.cell? (some a) l) (hc : l.length <= c) (h8 : 8 <= l.length) (hm : val (l.take 4) <= most) (hg : l.length - 8 < val (l.take 4)) : Tri Θ W fUn [slV (some a) l.length c] [] (.tuple [nilS, iv 0, iv 3]) [] := by
 have hb : 8 <= c := Nat.le_trans h8 hc; have e8 : decide ((l.length : Int) < o' 8) = false := decide_eq_false (by simp only [Z0]; omega)
 have hl8 : (l.take 8).length = 8 := by rw [List.length_take]; omega
 have k1 := fun F hF => KW' (W := W) (c := c) (h.take 8) hl8 F hF
 have k2 := fun F hF => O8' (n1 := val (l.take 4)) (n2 := val ((l.drop 4).take 4)) hl8 (by rw [GQ'.1]) (by rw [GQ'.2]) F W hF
 have em : decide (o' (val (l.take 4)) > o' 1048576) = false := gtF hm; have hlb : l.length <= 140737488351232 := h.1
 have hsub : IntKind.i64.wrap ((l.length : Int) - o' 8) = ((l.length - 8 : Nat) : Int) := by
  rw [show ((l.length : Int) - o' 8) = ((l.length - 8 : Nat) : Int) by simp only [Z0]; omega]
  exact DJ' ω
 have el : decide (o' (val (l.take 4)) > IntKind.i64.wrap ((l.length : Int) - o' 8)) = true := by rw [hsub]; exact gtT hg
 refine AF' (con := [(fCl, cCl8 a c (l.take 8))]) (hints := A6' (hUn ++ [hf' fUn 5 1, ht' fUn 7 4])) (lc := [(fRn, 2, A3' fRn 2, lRn (l.take 8) (val (l.take 4)) (val ((l.drop 4).take 4)))]) [] rfl (fun F hF => BJ' (k1 F hF)) (fun F hF => C2' (k2 F hF)) fun F => ?_
 clear k1 k2; refine Yj (bJ' W a l.length c (val (l.take 4)) (val ((l.drop 4).take 4)) (l.take 8) F) ⟨⟨?_, (AO' (vs' := [.tuple [nilS, iv 0, iv 3]]) (H' := []) [] χ χ (Yb) trivial).fits rfl⟩⟩; exact Cc4'
theorem un4 (W : World) (hN : LN W) (a : Addr) (c : Nat) (l : Bs) (h : BAt W.cell? (some a) l) (hc : l.length <= c) (h8 : 8 <= l.length) (hm : val (l.take 4) <= most) (hg : val (l.take 4) <= l.length - 8) (hx : ¬ ovr (ovr ones (l.take 4)) ((l.drop 8).take (val (l.take 4))) ^^^ ones = val ((l.drop 4).take 4)) : Tri Θ W fUn [slV (some a) l.length c] [] (.tuple [nilS, iv 0, iv 9]) [] := by
 have hb : 8 <= c := Nat.le_trans h8 hc; have e8 : decide ((l.length : Int) < o' 8) = false := decide_eq_false (by simp only [Z0]; omega)
 have hl8 : (l.take 8).length = 8 := by rw [List.length_take]; omega
 have k1 := fun F hF => KW' (W := W) (c := c) (h.take 8) hl8 F hF
 have k2 := fun F hF => O8' (n1 := val (l.take 4)) (n2 := val ((l.drop 4).take 4)) hl8 (by rw [GQ'.1]) (by rw [GQ'.2]) F W hF
 have em : decide (o' (val (l.take 4)) > o' 1048576) = false := gtF hm; have hlb : l.length <= 140737488351232 := h.1
 have hsub : IntKind.i64.wrap ((l.length : Int) - o' 8) = ((l.length - 8 : Nat) : Int) := by
  rw [show ((l.length : Int) - o' 8) = ((l.length - 8 : Nat) : Int) by simp only [Z0]; omega]
  exact DJ' ω
 have el : decide (o' (val (l.take 4)) > IntKind.i64.wrap ((l.length : Int) - o' 8)) = false := by rw [hsub]; exact gtF hg
 have hmm : val (l.take 4) <= 1048576 := hm; have hD := ZK' h _ hg
 have hdl : ((l.drop 8).take (val (l.take 4))).length = val (l.take 4) := by rw [List.length_take, ld']; omega
 have p1 := ovp (c := c) (h.take 4) (show (4294967295 : Nat) < 4294967296 by decide) (n := 4) (by rw [List.length_take]; omega); have hs1 : ovr ones (l.take 4) < 4294967296 := E9' _ δ; have p2 := ovp (s := fOvr W 4294967295 (some a) 4) (c := val (l.take 4)) hD (by rw [p1.2]; exact hs1) (n := val (l.take 4)) hdl.symm
 have hs2 : fOvr W (fOvr W 4294967295 (some a) 4) (some (GA' a (val (l.take 4)))) (val (l.take 4)) < 4294967296 := by rw [p2.2]; exact E9' _ (by rw [p1.2]; exact hs1)
 have hsm := TT' hs2
 have hfin : fOvr W (fOvr W 4294967295 (some a) 4) (some (GA' a (val (l.take 4)))) (val (l.take 4)) = ovr (ovr ones (l.take 4)) ((l.drop 8).take (val (l.take 4))) := by rw [p2.2, p1.2]; rfl
 have e9 : IntKind.i64.wrap (o' 8 + o' (val (l.take 4))) = o' (8 + val (l.take 4)) := by
  rw [show (o' 8 + o' (val (l.take 4)) : Int) = ((8 + val (l.take 4) : Nat) : Int) by simp]
  exact DJ' ω
 have kO := fun F hF => QF' hN (fOvr W) F hF
 have es : (IntKind.i64.wrap (IntKind.u32.wrap ((BitVec.ofInt 32 (o' (fOvr W (fOvr W 4294967295 (some a) 4) (some (GA' a (val (l.take 4)))) (val (l.take 4)))) ^^^ BitVec.ofInt 32 (o' 4294967295)).toNat : Int)) != o' (val ((l.drop 4).take 4))) = true := by
  rw [hsm, hfin]
  exact bne_iff_ne.2 fun e => hx (Int.ofNat.inj e)
 refine AF' (con := [(fCl, cCl8 a c (l.take 8)), (fOv, cOvF W (fOvr W))]) (hints := A6' (hUn ++ hU4 (GA' a (val (l.take 4))) (val (l.take 4)) true ++ [(fUn, 10, 3, h0v (.v (.slice (some (GA' a (val (l.take 4)))) (val (l.take 4)) (val (l.take 4)))))])) (lc := [(fRn, 2, A3' fRn 2, lRn (l.take 8) (val (l.take 4)) (val ((l.drop 4).take 4)))]) [] rfl (fun F hF => AC' (k1 F hF) (BJ' (kO F hF))) (fun F hF => C2' (k2 F hF)) fun F => ?_
 clear k1 k2; refine Yj (bI' W a (GA' a (val (l.take 4))) l.length c (val (l.take 4)) (val ((l.drop 4).take 4)) (l.take 8) (fOvr W) F) ⟨⟨?_, (AO' (vs' := [.tuple [nilS, iv 0, iv 9]]) (H' := []) [] χ χ (Yb) trivial).fits rfl⟩⟩; exact Cc5'
theorem un5 (W : World) (hN : LN W) (a : Addr) (c : Nat) (l : Bs) (h : BAt W.cell? (some a) l) (hc : l.length <= c) (h8 : 8 <= l.length) (hm : val (l.take 4) <= most) (hg : val (l.take 4) <= l.length - 8) (hx : ovr (ovr ones (l.take 4)) ((l.drop 8).take (val (l.take 4))) ^^^ ones = val ((l.drop 4).take 4)) (hp : 0 < val (l.take 4)) : Tri Θ W fUn [slV (some a) l.length c] [] (.tuple [sB 1000 (val (l.take 4)), iv (o' (8 + val (l.take 4))), iv 0]) [(1000, rB ((l.drop 8).take (val (l.take 4))))] := by
 have hb : 8 <= c := Nat.le_trans h8 hc; have e8 : decide ((l.length : Int) < o' 8) = false := decide_eq_false (by simp only [Z0]; omega)
 have hl8 : (l.take 8).length = 8 := by rw [List.length_take]; omega
 have k1 := fun F hF => KW' (W := W) (c := c) (h.take 8) hl8 F hF
 have k2 := fun F hF => O8' (n1 := val (l.take 4)) (n2 := val ((l.drop 4).take 4)) hl8 (by rw [GQ'.1]) (by rw [GQ'.2]) F W hF
 have em : decide (o' (val (l.take 4)) > o' 1048576) = false := gtF hm; have hlb : l.length <= 140737488351232 := h.1
 have hsub : IntKind.i64.wrap ((l.length : Int) - o' 8) = ((l.length - 8 : Nat) : Int) := by
  rw [show ((l.length : Int) - o' 8) = ((l.length - 8 : Nat) : Int) by simp only [Z0]; omega]
  exact DJ' ω
 have el : decide (o' (val (l.take 4)) > IntKind.i64.wrap ((l.length : Int) - o' 8)) = false := by rw [hsub]; exact gtF hg
 have hmm : val (l.take 4) <= 1048576 := hm; have hD := ZK' h _ hg
 have hdl : ((l.drop 8).take (val (l.take 4))).length = val (l.take 4) := by rw [List.length_take, ld']; omega
 have p1 := ovp (c := c) (h.take 4) (show (4294967295 : Nat) < 4294967296 by decide) (n := 4) (by rw [List.length_take]; omega); have hs1 : ovr ones (l.take 4) < 4294967296 := E9' _ δ; have p2 := ovp (s := fOvr W 4294967295 (some a) 4) (c := val (l.take 4)) hD (by rw [p1.2]; exact hs1) (n := val (l.take 4)) hdl.symm
 have hs2 : fOvr W (fOvr W 4294967295 (some a) 4) (some (GA' a (val (l.take 4)))) (val (l.take 4)) < 4294967296 := by rw [p2.2]; exact E9' _ (by rw [p1.2]; exact hs1)
 have hsm := TT' hs2
 have hfin : fOvr W (fOvr W 4294967295 (some a) 4) (some (GA' a (val (l.take 4)))) (val (l.take 4)) = ovr (ovr ones (l.take 4)) ((l.drop 8).take (val (l.take 4))) := by rw [p2.2, p1.2]; rfl
 have e9 : IntKind.i64.wrap (o' 8 + o' (val (l.take 4))) = o' (8 + val (l.take 4)) := by
  rw [show (o' 8 + o' (val (l.take 4)) : Int) = ((8 + val (l.take 4) : Nat) : Int) by simp]
  exact DJ' ω
 have kO := fun F hF => QF' hN (fOvr W) F hF
 have es : (IntKind.i64.wrap (IntKind.u32.wrap ((BitVec.ofInt 32 (o' (fOvr W (fOvr W 4294967295 (some a) 4) (some (GA' a (val (l.take 4)))) (val (l.take 4)))) ^^^ BitVec.ofInt 32 (o' 4294967295)).toNat : Int)) != o' (val ((l.drop 4).take 4))) = false := by
  rw [hsm, hfin]; rw [hx]; exact bne_self_eq_false _
 have o1 := EB' hD; rw [hdl] at o1; obtain ⟨o1, o2⟩ := o1
 have o3 : (vmap (AM' W (GA' a (val (l.take 4))) (val (l.take 4) * 1))).all AV.one = true := by rw [o2]; exact KD' _
 have b1 : (val (l.take 4)).ble (val (l.take 4)) = true := AL' (Yd); have b5 : (val (l.take 4) * 1).ble 140737488355328 = true := AL' ω; have b6 : (val (l.take 4)).ble 9223372036854775807 = true := AL' ω
 refine AF' (con := [(fCl, cCl8 a c (l.take 8)), (fOv, cOvF W (fOvr W))]) (hints := A6' (hUn ++ hU4 (GA' a (val (l.take 4))) (val (l.take 4)) false ++ [(fUn, 10, 3, h0v (.v (.slice (some (GA' a (val (l.take 4)))) (val (l.take 4)) (val (l.take 4)))))])) (lc := [(fRn, 2, A3' fRn 2, lRn (l.take 8) (val (l.take 4)) (val ((l.drop 4).take 4)))]) [1100, 1101, 1102, 1103, 1104] rfl (fun F hF => AC' (k1 F hF) (BJ' (kO F hF))) (fun F hF => C2' (k2 F hF)) fun F => ?_
 clear k1 k2; refine Yj (bH' W a (GA' a (val (l.take 4))) l.length c (val (l.take 4)) (val ((l.drop 4).take 4)) (l.take 8) (fOvr W) F) ⟨⟨?_, (AO' (vs' := [.tuple [sB 1000 (val (l.take 4)), iv (o' (8 + val (l.take 4))), iv 0]]) (H' := [(1000, rB ((l.drop 8).take (val (l.take 4))))]) [(1000, 1102)] χ χ (Yb) ⟨⟨_, rfl, AQ' o2 rfl⟩, Ye⟩).fits rfl⟩⟩; exact Cc5'
theorem un6 (W : World) (hN : LN W) (a : Addr) (c : Nat) (l : Bs) (h : BAt W.cell? (some a) l) (hc : l.length <= c) (h8 : 8 <= l.length) (hz : val (l.take 4) = 0) (hx : ovr (ovr ones (l.take 4)) [] ^^^ ones = val ((l.drop 4).take 4)) : Tri Θ W fUn [slV (some a) l.length c] [] (.tuple [nilS, iv 8, iv 0]) [] := by
 have hb : 8 <= c := Nat.le_trans h8 hc; have e8 : decide ((l.length : Int) < o' 8) = false := decide_eq_false (by simp only [Z0]; omega)
 have hl8 : (l.take 8).length = 8 := by rw [List.length_take]; omega
 have k1 := fun F hF => KW' (W := W) (c := c) (h.take 8) hl8 F hF
 have k2 := fun F hF => O8' (n1 := 0) (n2 := val ((l.drop 4).take 4)) hl8 (by rw [GQ'.1, hz]) (by rw [GQ'.2]) F W hF
 have em : decide (o' 0 > o' 1048576) = false := rfl; have hlb : l.length <= 140737488351232 := h.1
 have hsub : IntKind.i64.wrap ((l.length : Int) - o' 8) = ((l.length - 8 : Nat) : Int) := by
  rw [show ((l.length : Int) - o' 8) = ((l.length - 8 : Nat) : Int) by simp only [Z0]; omega]
  exact DJ' ω
 have el : decide (o' 0 > IntKind.i64.wrap ((l.length : Int) - o' 8)) = false := by rw [hsub]; exact gtF (a := 0) (Nat.zero_le _)
 have hD : BAt W.cell? (some a) [] := ⟨Nat.zero_le _, fun i b hb => by simp at hb⟩
 have p1 := ovp (c := c) (h.take 4) (show (4294967295 : Nat) < 4294967296 by decide) (n := 4) (by rw [List.length_take]; omega); have hs1 : ovr ones (l.take 4) < 4294967296 := E9' _ δ; have p2 := ovp (s := fOvr W 4294967295 (some a) 4) (c := 0) hD (by rw [p1.2]; exact hs1) (n := 0) rfl
 have hs2 : fOvr W (fOvr W 4294967295 (some a) 4) (some a) 0 < 4294967296 := by rw [p2.2]; exact E9' _ (by rw [p1.2]; exact hs1)
 have hsm := TT' hs2
 have hfin : fOvr W (fOvr W 4294967295 (some a) 4) (some a) 0 = ovr (ovr ones (l.take 4)) [] := by rw [p2.2, p1.2]; rfl
 have e9 : IntKind.i64.wrap (o' 8 + o' 0) = o' (8 + 0) := DJ' (n := 8) δ
 have kO := fun F hF => QF' hN (fOvr W) F hF
 have es : (IntKind.i64.wrap (IntKind.u32.wrap ((BitVec.ofInt 32 (o' (fOvr W (fOvr W 4294967295 (some a) 4) (some a) 0)) ^^^ BitVec.ofInt 32 (o' 4294967295)).toNat : Int)) != o' (val ((l.drop 4).take 4))) = false := by
  rw [hsm, hfin, hx]; exact bne_self_eq_false _
 refine AF' (con := [(fCl, cCl8 a c (l.take 8)), (fOv, cOvF W (fOvr W))]) (hints := A6' (hUn ++ hU4 a 0 false ++ [(fUn, 10, 3, h0v (.v (.slice (some a) 0 0))), (fUn, 13, 1, h0)])) (lc := [(fRn, 2, A3' fRn 2, lRn (l.take 8) 0 (val ((l.drop 4).take 4)))]) [] rfl (fun F hF => AC' (k1 F hF) (BJ' (kO F hF))) (fun F hF => C2' (k2 F hF)) fun F => ?_
 clear k1 k2; refine Yj (bG' W a a l.length c (val ((l.drop 4).take 4)) (l.take 8) (fOvr W) F) ⟨⟨?_, (AO' (vs' := [.tuple [nilS, iv 8, iv 0]]) (H' := []) [] χ χ (Yb) trivial).fits rfl⟩⟩
 simp only [Cnd.holds, Nat.blt_eq, true_and, and_true]; and_intros; all_goals first | (with_reducible exact Ye) | (with_reducible exact rfl) | (with_reducible exact Ya) | (with_reducible exact Yb) | (with_reducible exact Yc) | (with_reducible exact AT' _) | (with_reducible assumption) | (with_reducible exact A2' e8) | (with_reducible exact A2' em) | (with_reducible exact A2' el) | (with_reducible exact A2' es) | (with_reducible exact BG' e9) | exact A2' rfl | exact hb | exact .inl rfl | exact .inr rfl | exact .inl trivial | exact .inr trivial | (refine OW.of_eq ?_; simp only [AO.ren, A5']; done) | exact BG' e9 | (with_reducible exact p1.1) | (with_reducible exact p2.1) | exact p1.1 | exact p2.1 | exact Nat.zero_le _ | (with_reducible exact wk_v (LV' _ _)) | exact wk_v (LV' _ _) | (show 8 + 0 <= c; omega) | (show 4 <= c; omega) | omega | exact Kc4'
theorem aA' (W : World) (hN : LN W) (oa : Option Addr) (c : Nat) (l : Bs) (h : BAt W.cell? oa l) (hc : l.length <= c) (hu : unwB l = none) : ∃ e : Nat, e ≠ 0 /\ Tri Θ W fUn [slV oa l.length c] [] (.tuple [nilS, iv 0, iv (o' e)]) [] := by
 unfold unwB at hu; split at hu
 ·rename_i h8
  exact ⟨3, by decide, un1 W oa c l.length h8⟩
 ·rename_i h8; obtain ⟨a, rfl⟩ := PO' h ω; split at hu
  ·rename_i hm
   exact ⟨1, by decide, un2 W hN a c l h hc ω hm⟩
  ·rename_i hm; split at hu
   ·rename_i hg
    exact ⟨3, by decide, un3 W hN a c l h hc ω ω hg⟩
   ·rename_i hg; split at hu
    ·cases hu
    ·rename_i hx
     exact ⟨9, by decide, un4 W hN a c l h hc ω ω ω hx⟩
theorem NF' {l d : Bs} (hu : unwB l = some d) : 8 <= l.length /\ val (l.take 4) <= most /\ val (l.take 4) <= l.length - 8 /\ ovr (ovr ones (l.take 4)) ((l.drop 8).take (val (l.take 4))) ^^^ ones = val ((l.drop 4).take 4) /\ d = (l.drop 8).take (val (l.take 4)) /\ d.length = val (l.take 4) := by
 unfold unwB at hu; split at hu
 ·cases hu
 ·split at hu
  ·cases hu
  ·split at hu
   ·cases hu
   ·split at hu
    ·rename_i h8 hm hg hx; cases hu
     exact ⟨ω, by omega, by omega, hx, rfl, by rw [List.length_take, ld']; omega⟩
    ·cases hu
theorem a9' (W : World) (hN : LN W) (oa : Option Addr) (c : Nat) (l d : Bs) (h : BAt W.cell? oa l) (hc : l.length <= c) (hu : unwB l = some d) (hd : d ≠ []) : Tri Θ W fUn [slV oa l.length c] [] (.tuple [sB 1000 d.length, iv (o' (8 + d.length)), iv 0]) [(1000, rB d)] := by
 obtain ⟨h8, hm, hg, hx, e1, e2⟩ := NF' hu; obtain ⟨a, rfl⟩ := PO' h h8; have hp : 0 < d.length := List.length_pos_iff.2 hd; have := un5 W hN a c l h hc h8 hm hg hx ω; rw [<- e1, <- e2] at this; exact this
theorem un_nil (W : World) (hN : LN W) (oa : Option Addr) (c : Nat) (l : Bs) (h : BAt W.cell? oa l) (hc : l.length <= c) (hu : unwB l = some []) : Tri Θ W fUn [slV oa l.length c] [] (.tuple [nilS, iv 8, iv 0]) [] := by
 obtain ⟨h8, hm, hg, hx, e1, e2⟩ := NF' hu; obtain ⟨a, rfl⟩ := PO' h h8; have hz : val (l.take 4) = 0 := e2.symm; rw [hz, List.take_zero] at hx; exact un6 W hN a c l h hc h8 hz hx
end Go.Proofs.YtnnojnlejlokhaaGreatDoor.Wk
namespace Go.Proofs.YtnnojnlejlokhaaGreatDoor.Eng
open Go Go.RowKit
theorem LTri.open {P : Program} {W : World} {b : Code} {A : List AV} {σ : Type} {R : σ -> Prop} {L : σ -> LH} {m : Md} {H0 H' : LH} {ax : AX} {A' : List AV} (hL : ∀ s, ownL H0 (L s) = true) (hcl : ∀ s, ∀ x ∈ L s, x.2.cl (kH (L s))) (hr : ∀ s, ∃ o, getO (L s) 0 = some o)
  (h : ∀ s, R s -> LTri P W b A (L s ++ H0) ax A' H') : LTri P W b A ((0, .own m (exHP R L)) :: H0) ax A' H' := by
 intro W0 F N w a Q hF hNB r ha hK; obtain ⟨s, hs, N', q1, q2, q3, q4⟩ := St.open hL hcl hr hNB r ha
 refine h s hs W0 F N' w a Q hF q2 q3 q4 fun a' w' ⟨N2, p1, p2, p3, p4⟩ hd => hK a' w' ⟨N2, fun i hi => (p1 i hi).trans (q1 i hi), p2, p3, p4⟩ hd
open Tree
variable {vs : List AV} {H : LH}
def dumZ : AO := .any (frz fun _ => True)
theorem ED' {H' : LH} {k : Nat} {P : Mem -> Prop} (hP : ∀ C, P C) (hl : AA' 1100 H = true) (hl' : AA' 1100 H' = true) (hk : getO H' k = some (.any (frz P))) (hk1 : 1000 <= k) (hk0 : getO H k = none) (hr : ∀ n, n ≠ k -> getO H' n = getO H n) : Goes vs H vs H' := by
 intro W0 F N ys w ⟨N1, g1, g2, r, hvs⟩; have hf : ∀ n, (AK' H).find n = getO H n := AE' (D7' hl); have hf' : ∀ n, (AK' H').find n = getO H' n := AE' (D7' hl'); obtain ⟨D0, D, h1, h2, h3⟩ := r.sat
 refine ⟨N1, g1, fun n hn hg => ?_, ⟨r.os, r.tape, r.output, D0, fun n x => if n = k then False else D n x, h1, fun n o hno => ?_, fun n m o o' hn hm hnm x hx hx' => ?_⟩, hvs⟩
 ·by_cases e : n = k
  ·rw [e, hk] at hg; cases hg
  ·rw [hr n e] at hg; exact g2 n hn hg
 ·rw [hf'] at hno
  by_cases e : n = k
  ·subst e; rw [hk] at hno; cases hno; simp only [if_true]
   exact ⟨⟨hP _, fun b hb => hb.elim⟩, fun b hb => hb.elim⟩
  ·simp only [if_neg e]; exact h2 n o (by rw [hf, <- hr n e]; exact hno)
 ·rw [hf'] at hn hm
  by_cases e : n = k
  ·simp only [if_pos e] at hx
  ·by_cases eR : m = k
   ·simp only [if_pos eR] at hx'
   ·simp only [if_neg e] at hx; simp only [if_neg eR] at hx'; exact h3 n m o o' (by rw [hf, <- hr n e]; exact hn) (by rw [hf, <- hr m eR]; exact hm) hnm x hx hx'
theorem KN' {vs' : List AV} {H' : LH} (hn : AA' 1100 H = true) (hn' : AA' 1100 H' = true) (hv : VW vs vs') (hh : ∀ i o, getO H' i = some o -> getO H i = some o) (hc : AV.cls (fun i => Nat.blt i 1000 || (getO H' i).isSome) vs') (ho : ∀ x ∈ H', x.2.cl (fun i => Nat.blt i 1000 || (getO H' i).isSome)) : Goes vs H vs' H' := by
 intro W0 F N ys w ⟨N', g1, g2, r, hvs⟩; have hf : ∀ i, (AK' H).find i = getO H i := AE' (D7' hn); have hf' : ∀ i, (AK' H').find i = getO H' i := AE' (D7' hn'); obtain ⟨D0, D, h1, h2, h3⟩ := r.sat
 have r' : Rep W0 N' F (AK' H') w := ⟨r.os, r.tape, r.output, D0, D, h1, fun i o hi => h2 i o (by rw [hf'] at hi; rw [hf]; exact hh i o hi), fun i j o o' hi hj => h3 i j o o' (by rw [hf'] at hi; rw [hf]; exact hh i o hi) (by rw [hf'] at hj; rw [hf]; exact hh j o' hj)⟩
 exact H3' hn' g1 r' (hv _ _ hvs) hc ho
theorem g0' {i : Nat} {o o' : AO} (hi : i < 1100) (h : OW o o') : Goes vs [(i, o)] vs [(i, o')] := by
 intro W0 F N ys w ⟨N', g1, g2, r, hv⟩
 have hlim : i < T.limit := by have : T.limit = 1048576 := rfl; omega
 have hf : ∀ (a : AO) j b, (AK' [(i, a)]).find j = some b -> j = i /\ b = a := by
  intro a j b hj; rw [AE' (by simp only [AA', List.all_cons, List.all_nil, Bool.and_true, Nat.blt_eq]; exact hlim), getO] at hj; split at hj
  ·rename_i e; cases hj; exact ⟨e, rfl⟩
  ·cases hj
 have hf2 : (AK' [(i, o)]).find i = some o := by
  rw [AE' (by simp only [AA', List.all_cons, List.all_nil, Bool.and_true, Nat.blt_eq]; exact hlim), getO, if_pos rfl]
 refine ⟨N', g1, fun j hj hg => g2 j hj ?_, ?_, hv⟩
 ·rw [getO] at hg ⊢; split at hg
  ·cases hg
  ·rename_i e; rw [if_neg e]; rfl
 ·obtain ⟨D0, D, h1, h2, h3⟩ := r.sat
  refine ⟨r.os, r.tape, r.output, D0, D, h1, fun j b hj => ?_, fun j k b b' hj hk hjk => ?_⟩
  ·obtain ⟨rfl, rfl⟩ := hf _ j b hj; exact ⟨h _ _ _ _ (h2 j o hf2).1, (h2 j o hf2).2⟩
  ·exact (hjk ((hf _ j b hj).1.trans (hf _ k b' hk).1.symm)).elim
theorem R1' {m : Nat} {told : List (Nat × AV)} {K : Nat -> Bool} (h : ∀ x ∈ told, AV.cl K x.2) : AV.cls K (tms 0 m told) := MR' h m 0
theorem CW' (V : List Value) : (vmap V).length = V.length := by simp [vmap]
theorem LZ' (V U : List Value) : vmap (V ++ U) = vmap V ++ vmap U := by simp [vmap]
theorem Goes.vw {vs' : List AV} (h : VW vs vs') : Goes vs H vs' H := fun W0 F N ys w ⟨N1, g1, g2, g3, g4⟩ => ⟨N1, g1, g2, g3, h _ _ g4⟩
end Go.Proofs.YtnnojnlejlokhaaGreatDoor.Eng
namespace Go.Proofs.YtnnojnlejlokhaaGreatDoor.Wk
open Go Go.RowKit Eng Kit Tree
open Int renaming ofNat -> o'
open AO renaming cells -> ce'
open AV renaming v -> v'
open Go.Value renaming slice -> sl'
noncomputable section
abbrev fWh : Nat := 53
abbrev tRb : TypeId := 2 * 74
def aWh (oa : Option Addr) (n c : Nat) (x : AV) (e : Nat) : List (Nat × AV) := [(0, slV oa n c), (2, x), (3, iv (o' e))]
def oWh (O : AO) (PR : Mem -> Prop) : LH := [(1006, O), (1009, .any (frz PR))]
def slW (m : Nat) : AV := .slice 1006 0 m 1 (.lo m)
def cUnE (ob : Option Addr) (m k e : Nat) : List AV -> Option (AP AV) := mkC (fun _ => .ret ()) (fun _ => True) (fun _ k => k) (fun _ => [slV ob m k]) (fun _ => []) (fun _ => .leaf .ret [.tuple [nilS, iv 0, iv (o' e)]] [])
def cUnZ (ob : Option Addr) (m k : Nat) : List AV -> Option (AP AV) := mkC (fun _ => .ret ()) (fun _ => True) (fun _ k => k) (fun _ => [slV ob m k]) (fun _ => []) (fun _ => .leaf .ret [.tuple [nilS, iv 8, iv 0]] [])
def cUnS (ob : Option Addr) (m k p q : Nat) (d : Bs) : List AV -> Option (AP AV) := mkC (fun _ => .ret ()) (fun _ => True) (fun _ k => k) (fun _ => [slV ob m k]) (fun _ => []) (fun _ => .leaf .ret [.tuple [sB 1000 p, iv (o' q), iv 0]] [(1000, rB d)])
def hWh (ob : Option Addr) (m k eR : Nat) (b : Bool) : BI' := A6' [(fWh, 1, 2, h0v (slV ob m k)), (fWh, 2, 1, hv (.lit b)), (fWh, 5, 2, hv (iv (o' eR)))]
def kWh : List Nat := [1006, 1009, 1100, 1101, 1102, 1103]
abbrev k22' : Cnd := (f' (Wk (b' true) j'))
abbrev k23' (q0 : Option Addr) (q1 q2 : Nat) : Cnd := ((p' True).a (f' (VW [v' (sl' q0 q1 q2)] [v' (sl' q0 q1 q2)])))
abbrev k24' (q0 q1 : Nat) (q2 q3 : Option Addr) (q4 q5 : Nat) : Cnd := ((p' (0 <= q0)).a ((p' (q0 <= q1)).a (f' (Wk (v' (sl' q2 q0 q1)) (v' (sl' q3 q4 q5))))))
theorem WS' (W : World) (oa : Option Addr) (n c m k e : Nat) (ob : Option Addr) (O : AO) (P : Mem -> Prop) (F : HP) : AW' [(fUn, cUnE ob m k (e + 1))] (hWh ob m k 0 true) [] W fWh (A3' fWh 1) (tms 0 26 (aWh oa n c nilS 0)) (oWh O P) kWh [0, 2, 3] F = VT.leaf (AX.ret,[v' (sl' oa n c),e',i' 0],26) [some O,some (AO.any (frz P)),none,none,none,none] 1100 ((k24' n c oa ob m k).a ((k23' ob m k).a (k22'.a k1'))) := χ
abbrev k25' (q0 q1 q2 : Nat) (q3 q4 : Option Addr) (q5 q6 : Nat) : Cnd := ((p' (q0 + 1 <= q1)).a ((p' (q1 <= q2)).a (f' (Wk (v' (sl' (if q2 = q0 + 1 then q3 else Option.map (fun x => Addr.mk x.block (x.off + (q0 + 1) * 1) none) q3) (q1 - (q0 + 1)) (q2 - (q0 + 1)))) (v' (sl' q4 q5 q6))))))
theorem WR' (W : World) (oa : Option Addr) (n c m k e s z : Nat) (ob : Option Addr) (V : List Value) (P : Mem -> Prop) (F : HP) : AW' [(fUn, cUnE ob m k (e + 1))] (hWh ob m k 0 true) [] W fWh (A3' fWh 1) (tms 0 26 (aWh oa n c (slW z) (s + 1))) (oWh (.cells (vmap V) tRb) P) kWh [0, 2, 3] F = VT.leaf (AX.ret,[v' (sl' oa n c),AV.slice 1006 0 z 1 (Cp.lo z),i' (s + 1)],26) [some (ce' (vmap V) 148),some (AO.any (frz P)),none,none,none,none] 1100 ((k25' s n c oa ob m k).a ((k23' ob m k).a (k22'.a k1'))) := χ
abbrev h26' (q0 : Option Addr) (q1 q2 : Nat) (z : Cnd) : Cnd := (((p' True).a (f' (VW [v' (sl' q0 q1 q2)] [v' (sl' q0 q1 q2)]))).a ((f' (Wk (b' false) g')).a z))
theorem WQ' (W : World) (oa : Option Addr) (n c m k p q eR : Nat) (ob : Option Addr) (d : Bs) (O : AO) (P : Mem -> Prop) (F : HP) : AW' [(fUn, cUnS ob m k p q d)] (hWh ob m k eR false) [] W fWh (A3' fWh 1) (tms 0 26 (aWh oa n c nilS 0)) (oWh O P) kWh [0, 2, 3] F = VT.leaf (AX.normal,[v' (sl' oa n c),AV.slice 1102 0 1 1 (Cp.lo 1),i' eR],26) [some O,some (AO.any (frz P)),some (ce' (AV.rens (sgN (fun k => k) [1000] 1100) (rowV encB d)) 10),some (ce' [AV.slice 1100 0 p 1 (Cp.lo p)] 148),some (ce' [AV.slice 1100 0 p 1 (Cp.lo p)] 148),none] 1103 ((k24' n c oa ob m k).a (h26' ob m k (k8'.a ((f' (Wk (z' (IntKind.i64.wrap (o' 0 + o' q))) (i' eR))).a k1')))) := χ
theorem WP' (W : World) (oa : Option Addr) (n c m k eR : Nat) (ob : Option Addr) (O : AO) (P : Mem -> Prop) (F : HP) : AW' [(fUn, cUnZ ob m k)] (hWh ob m k eR false) [] W fWh (A3' fWh 1) (tms 0 26 (aWh oa n c nilS 0)) (oWh O P) kWh [0, 2, 3] F = VT.leaf (AX.normal,[v' (sl' oa n c),AV.slice 1101 0 1 1 (Cp.lo 1),i' eR],26) [some O,some (AO.any (frz P)),some (ce' [e'] 148),some (ce' [e'] 148),none,none] 1102 ((k24' n c oa ob m k).a (h26' ob m k (k8'.a ((f' (Wk (i' 8) (i' eR))).a k1')))) := χ
abbrev k27' (q0 : Nat) (q1 : List Value) : Cnd := (tt'.a (tt'.a (tt'.a (tt'.a ((p' ((0 + q0 * 1).ble (vmap q1).length = true)).a ((p' (((q0 + 1) * 24).ble 140737488355328 = true)).a ((p' ((q0 + 1).ble 9223372036854775807 = true)).a (f' ((List.take (q0 * 1) (List.drop 0 (vmap q1))).length.beq (q0 * 1) = true)))))))))
theorem WO' (W : World) (oa : Option Addr) (n c m k p q eR s z : Nat) (ob : Option Addr) (d : Bs) (V : List Value) (P : Mem -> Prop) (F : HP) : AW' [(fUn, cUnS ob m k p q d)] (hWh ob m k eR false) [] W fWh (A3' fWh 1) (tms 0 26 (aWh oa n c (slW z) (s + 1))) (oWh (.cells (vmap V) tRb) P) kWh [0, 2, 3] F = VT.leaf (AX.normal,[v' (sl' oa n c),AV.slice 1102 0 (z + 1) 1 (Cp.lo (z + 1)),i' eR],26) [none,some (AO.any (frz P)),some (ce' (AV.rens (sgN (fun k => k) [1000] 1100) (rowV encB d)) 10),some (ce' [AV.slice 1100 0 p 1 (Cp.lo p)] 148),some (ce' (List.take (z * 1) (List.drop 0 (vmap V)) ++ [AV.slice 1100 0 p 1 (Cp.lo p)]) 148),none] 1103 ((k25' s n c oa ob m k).a (h26' ob m k ((k27' z V).a ((f' (Wk (z' (IntKind.i64.wrap (o' (s + 1) + o' q))) (i' eR))).a k1')))) := χ
theorem WN' (W : World) (oa : Option Addr) (n c m k eR s z : Nat) (ob : Option Addr) (V : List Value) (P : Mem -> Prop) (F : HP) : AW' [(fUn, cUnZ ob m k)] (hWh ob m k eR false) [] W fWh (A3' fWh 1) (tms 0 26 (aWh oa n c (slW z) (s + 1))) (oWh (.cells (vmap V) tRb) P) kWh [0, 2, 3] F = VT.leaf (AX.normal,[v' (sl' oa n c),AV.slice 1101 0 (z + 1) 1 (Cp.lo (z + 1)),i' eR],26) [none,some (AO.any (frz P)),some (ce' [e'] 148),some (ce' (List.take (z * 1) (List.drop 0 (vmap V)) ++ [e']) 148),none,none] 1102 ((k25' s n c oa ob m k).a (h26' ob m k ((k27' z V).a ((f' (Wk (z' (IntKind.i64.wrap (o' (s + 1) + o' 8))) (i' eR))).a k1')))) := χ
def lWh (oa : Option Addr) (n c e : Nat) (x : AV) (H : LH) : List AV -> AP (AX × List AV) := mkL (fun _ => .ret ()) (fun _ => True) (fun _ k => k) (fun _ => tms 0 26 (aWh oa n c nilS 0)) (fun _ => []) (fun _ => .leaf .ret (tms 0 26 [(2, x), (3, iv (o' e))]) H)
theorem bF' (W : World) (oa : Option Addr) (n c e m : Nat) (O : AO) (F : HP) : wRun [] BA' [(fWh, 1, A3' fWh 1, lWh oa n c e (slW m) [(1006, O)])] W fWh [slV oa n c] [] [1100, 1101, 1102] F = VT.leaf (AV.tuple [AV.slice 1100 0 m 1 (Cp.lo m),i' e]) [some (AO.ren (sgN (fun k => k) [1006] 1100) O),none,none] 1101 ((p' ((fWh,1,A3' fWh 1,lWh oa n c e (slW m) [(1006,O)]).snd.snd.fst = (fWh,1,A3' fWh 1,lWh oa n c e (slW m) [(1006,O)]).snd.snd.fst)).a (k4'.a ((p' (VW (v' (sl' oa n c)::u'::e'::i' 0::ru16 (ru4 (u'::u'::[]))) (v' (sl' oa n c)::a'::e'::i' 0::ra16 (ra4 (a'::a'::[]))))).a k1'))) := χ
end
end Go.Proofs.YtnnojnlejlokhaaGreatDoor.Wk
