/- Parts of the proof, merged. -/
import Derived.Test.YtnnojnlejlokhaaGreatDoorShelf
import Derived.Test.YtnnojnlejlokhaaGreatDoorEngSorted
import Derived.Test.YtnnojnlejlokhaaGreatDoorMd
import Derived.Test.YtnnojnlejlokhaaGreatDoorEngCon
import Derived.Test.YtnnojnlejlokhaaGreatDoorEngRow
import Derived.Test.YtnnojnlejlokhaaGreatDoorEngXCor
import Derived.Test.YtnnojnlejlokhaaGreatDoorEngKit
import Derived.Test.YtnnojnlejlokhaaGreatDoorEngFam
import Derived.Test.YtnnojnlejlokhaaGreatDoorEngOpen
import Derived.Test.YtnnojnlejlokhaaGreatDoorEngGood
import Derived.Lib.Strings
import Derived.Laws.Externs
noncomputable section
set_option linter.unusedVariables false
set_option linter.unusedSimpArgs false
set_option maxRecDepth 100000
set_option linter.unusedSectionVars false
namespace Go.Proofs.YtnnojnlejlokhaaGreatDoor
noncomputable abbrev Θ : Go.Program := Tryz.prog
end Go.Proofs.YtnnojnlejlokhaaGreatDoor
namespace Go.Proofs.YtnnojnlejlokhaaGreatDoor.Eng
open Go Go.RowKit Go.Maps Go.Sort Go.Shelf Go.Proofs
theorem RN' (m : Nat) : AnyZ.SortsIn Θ Tryz.sorted38_ren Fence.wide m :=
 ⟨fun blk off cap ss W hH hblk hsz => callsIn_wide.2 (AnyM.slices_Sort_string Tryz.sort63 blk off cap ss W hH hblk hsz),
  fun p cap W => callsIn_wide.2 (AnyM.slices_Sort_string_none Tryz.sort63 p cap W)⟩
set_option maxHeartbeats 1000000 in
theorem GG' : DA' Θ 38 64 9 := by
 intro Bm b nn D0 R w hBm hcell hown hmax hbytes; refine (callsIn_wide (n := 5)).1 ?_
 have hseq : SeqGives Fence.wide 2 Θ 64 #[.pointer (some ⟨Bm, 0, none⟩)] encStr (fun ss => ss.Perm (strKeys D0)) (Maps.size D0) w :=
  AnyZ.keys_gives (ρ := Tryz.keys39_ren) { Tryz.keys39 with } Fence.wide _ trivial rfl ω Bm b nn D0 _ hBm hcell hown
 exact AnyZ.sorted_in Tryz.sorted38 Fence.wide 5 trivial trivial trivial trivial rfl ω (RN' _) (enters_of Tryz.func63 χ rfl) 64 #[.pointer (some ⟨Bm, 0, none⟩)] trivial (enters_of Tryz.func64 χ rfl) _ _ hmax hbytes _ hseq
set_option maxHeartbeats 1000000 in
theorem J4' : DA' Θ 38 69 9 := by
 intro Bm b nn D0 R w hBm hcell hown hmax hbytes; refine (callsIn_wide (n := 5)).1 ?_
 have hseq : SeqGives Fence.wide 2 Θ 69 #[.pointer (some ⟨Bm, 0, none⟩)] encStr (fun ss => ss.Perm (strKeys D0)) (Maps.size D0) w :=
  AnyZ.keys_gives (ρ := Tryz.keys49_ren) { Tryz.keys49 with } Fence.wide _ trivial rfl ω Bm b nn D0 _ hBm hcell hown
 exact AnyZ.sorted_in Tryz.sorted38 Fence.wide 5 trivial trivial trivial trivial rfl ω (RN' _) (enters_of Tryz.func63 χ rfl) 69 #[.pointer (some ⟨Bm, 0, none⟩)] trivial (enters_of Tryz.func69 χ rfl) _ _ hmax hbytes _ hseq
theorem XT' : DA' Θ 38 69 9 := J4'
end Go.Proofs.YtnnojnlejlokhaaGreatDoor.Eng
namespace Go.Proofs.YtnnojnlejlokhaaGreatDoor.Wk
open List renaming length_append -> la'
open List renaming append_assoc -> as'
variable {k : Nat}
abbrev Bs := Γ
def be4 (n : Nat) : Bs := [UInt8.ofNat (n / 16777216), UInt8.ofNat (n / 65536), UInt8.ofNat (n / 256), UInt8.ofNat n]
def val : Bs -> Nat := fun b => b.foldl (fun n c => n * 256 + c.toNat) 0
theorem RE' {n : Nat} (h : n < 4294967296) : val (be4 n) = n := by
 simp only [val, be4, List.foldl_cons, List.foldl_nil, UInt8.toNat_ofNat']; omega
theorem D1' (n : Nat) : (be4 n).length = 4 := rfl
def nib : List Nat := [0x00000000, 0x105ec76f, 0x20bd8ede, 0x30e349b1, 0x417b1dbc, 0x5125dad3, 0x61c69362, 0x7198540d, 0x82f63b78, 0x92a8fc17, 0xa24bb5a6, 0xb21572c9, 0xc38d26c4, 0xd3d3e1ab, 0xe330a81a, 0xf36e6f75]
def nb (k : Nat) : Nat := nib.getD k 0
def half (s : Nat) : Nat := (s >>> 4) ^^^ nb (s &&& 15)
def M6' (s : Nat) (c : UInt8) : Nat := half (half (s ^^^ c.toNat))
def ovr (s : Nat) (b : Bs) : Nat := b.foldl M6' s
theorem WL' (k : Nat) : nb k < 4294967296 := by
 unfold nb
 rcases k with _|_|_|_|_|_|_|_|_|_|_|_|_|_|_|_|k
 all_goals first | decide | (show (0 : Nat) < 4294967296; decide)
theorem OL' {s : Nat} (h : s < 4294967296) : half s < 4294967296 := by
 have h1 : s >>> 4 < 2 ^ 32 := by rw [Nat.shiftRight_eq_div_pow]; omega
 exact Nat.xor_lt_two_pow (n := 32) h1 (WL' _)
theorem U0' {s : Nat} (h : s < 4294967296) (c : UInt8) : M6' s c < 4294967296 := by
 have hc : c.toNat < 2 ^ 32 := by have := c.toNat_lt; omega
 exact OL' (OL' (Nat.xor_lt_two_pow (n := 32) h hc))
theorem JD' : ∀ (b : Bs) {s : Nat}, s < 4294967296 -> ovr s b < 4294967296
 | [], s, h => h
 | c :: b, s, h => JD' b (U0' h c)
def ones : Nat := 4294967295
def sumB (r : Bs) : Nat := ovr (ovr ones (be4 r.length)) r ^^^ ones
theorem XR' (r : Bs) : sumB r < 4294967296 := Nat.xor_lt_two_pow (n := 32) (JD' _ (JD' _ δ)) δ
def B2' (r : Bs) : Bs := be4 r.length ++ be4 (sumB r) ++ r
def most : Nat := 1048576
theorem C2' (r : Bs) : (B2' r).length = 8 + r.length := by rw [B2', la', la', D1', D1']
def unwB (b : Bs) : Option Bs :=
 if b.length < 8 then none
 else if val (b.take 4) > most then none
 else if val (b.take 4) > b.length - 8 then none
 else if ovr (ovr ones (b.take 4)) ((b.drop 8).take (val (b.take 4))) ^^^ ones = val ((b.drop 4).take 4) then some ((b.drop 8).take (val (b.take 4))) else none
theorem PD' {b d : Bs} (h : unwB b = some d) : 8 + d.length <= b.length := by
 unfold unwB at h
 repeat' split at h
 all_goals first | (cases h; done) | (cases h; rw [List.length_take, List.length_drop]; omega)
def DL' (b : Bs) : List Bs := match h : unwB b with
 | none => []
 | some d => d :: DL' (b.drop (8 + d.length))
termination_by b.length
decreasing_by rw [List.length_drop]; have := PD' h; omega
theorem GD' {b : Bs} (h : unwB b = none) : DL' b = [] := by
 rw [DL']; split
 ·rfl
 ·rename_i h2; rw [h] at h2; cases h2
theorem IZ' {b d : Bs} (h : unwB b = some d) : DL' b = d :: DL' (b.drop (8 + d.length)) := by
 rw [DL']; split
 ·rename_i h2; rw [h] at h2; cases h2
 ·rename_i h2; rw [h] at h2; cases h2; rfl
theorem TV' {r : Bs} (h : r.length <= most) (t : Bs) : unwB (B2' r ++ t) = some r := by
 have hm : r.length < 4294967296 := by unfold most at h; omega
 have e0 : B2' r ++ t = be4 r.length ++ (be4 (sumB r) ++ (r ++ t)) := by rw [B2']; simp only [as']
 have e1 : (B2' r ++ t).take 4 = be4 r.length := by rw [e0, List.take_append_of_le_length (Nat.le_refl 4)]; rfl
 have e2 : (B2' r ++ t).drop 4 = be4 (sumB r) ++ (r ++ t) := by rw [e0]; exact List.drop_left' rfl
 have e3 : (B2' r ++ t).drop 8 = r ++ t := by
  rw [show 8 = 4 + 4 from rfl, <- List.drop_drop, e2]; exact List.drop_left' rfl
 have e4 : ((B2' r ++ t).drop 4).take 4 = be4 (sumB r) := by rw [e2, List.take_append_of_le_length (Nat.le_refl 4)]; rfl
 have hl : (B2' r ++ t).length = 8 + r.length + t.length := by rw [la', C2']
 unfold unwB; rw [e1, e3, e4, RE' hm, RE' (XR' r), hl, List.take_left' rfl]; rw [if_neg ω, if_neg ω, if_neg ω]; exact if_pos rfl
theorem TU' (t : Bs) : unwB (List.replicate 8 0 ++ t) = none := by
 have hl : (List.replicate 8 0 ++ t).length = 8 + t.length := by rw [la', List.length_replicate]
 unfold unwB; rw [hl, if_neg ω]; have e1 : (List.replicate 8 (0 : UInt8) ++ t).take 4 = [0, 0, 0, 0] := rfl; have e2 : ((List.replicate 8 (0 : UInt8) ++ t).drop 4).take 4 = [0, 0, 0, 0] := rfl; rw [e1, e2]; have v0 : val [0, 0, 0, 0] = 0 := rfl; rw [v0, if_neg δ, if_neg ω, List.take_zero, if_neg]
 decide
def cat (rs : List Bs) : Bs := rs.flatMap B2'
theorem IV' (r : Bs) (rs : List Bs) : cat (r :: rs) = B2' r ++ cat rs := by rw [cat, List.flatMap_cons]; rfl
theorem HI' (rs : List Bs) (r : Bs) : cat (rs ++ [r]) = cat rs ++ B2' r := by rw [cat, List.flatMap_append, List.flatMap_cons, List.flatMap_nil, List.append_nil]; rfl
def NW' (rs : List Bs) : Prop := ∀ r ∈ rs, r.length <= most
theorem GW' : ∀ (rs : List Bs) (t : Bs), NW' rs -> DL' (cat rs ++ t) = rs ++ DL' t
 | [], t, _ => rfl
 | r :: rs, t, h => by
  rw [IV', as', IZ' (TV' (h r List.mem_cons_self) _), <- C2', List.drop_left' rfl, GW' rs t (fun x hx => h x (List.mem_cons_of_mem _ hx))]; rfl
def U4' (b : Bs) (at' : Nat) (d : Bs) : Bs := b ++ List.replicate (at' - b.length) 0 ++ d
inductive Left (S : List Bs) (rs : List Bs) : Nat -> Bs -> Prop where
 | full (k : Nat) : Left S rs k (cat (S ++ rs.take k))
 | gap (k j : Nat) (h : j < k) : Left S rs k (cat (S ++ rs.take j))
 | zero (k j : Nat) (h : j <= k) (t : Bs) : Left S rs k (cat (S ++ rs.take j) ++ (List.replicate 8 0 ++ t))
theorem NG' {S rs : List Bs} {j : Nat} (h : j < k) (hk : k <= rs.length) : (cat (S ++ rs.take j)).length + 8 <= (cat (S ++ rs.take k)).length := by
 obtain ⟨m, rfl⟩ : ∃ m, k = j + 1 + m := ⟨k - j - 1, by omega⟩
 clear h
 induction m with
 | zero =>
  have hj : j < rs.length := ω
  have e : rs.take (j + 1) = rs.take j ++ [rs[j]] := by rw [List.take_add_one, List.getElem?_eq_getElem hj]; rfl
  rw [show j + 1 + 0 = j + 1 from rfl, e, <- as', HI', la', C2']; omega
 | succ m ih =>
  have hj : j + 1 + m < rs.length := ω
  have e : rs.take (j + 1 + m + 1) = rs.take (j + 1 + m) ++ [rs[j + 1 + m]] := by rw [List.take_add_one, List.getElem?_eq_getElem hj]; rfl
  have := ih ω; rw [show j + 1 + (m + 1) = j + 1 + m + 1 from rfl, e, <- as', HI', la']; omega
theorem XI' {n : Nat} (h : 8 <= n) (t : Bs) : List.replicate n 0 ++ t = List.replicate 8 0 ++ (List.replicate (n - 8) (0 : UInt8) ++ t) := by
 rw [<- as', List.replicate_append_replicate]
 congr 2
 omega
theorem Left.keep {S rs : List Bs} {b r : Bs} (h : Left S rs k b) (hr : rs[k]? = some r) : Left S rs (k + 1) (U4' b (cat (S ++ rs.take k)).length (B2' r)) := by
 obtain ⟨hk, hke⟩ := List.getElem?_eq_some_iff.1 hr
 have e : rs.take (k + 1) = rs.take k ++ [r] := by rw [List.take_add_one, hr]; rfl
 cases h with
 | full =>
  rw [U4', Nat.sub_self, List.replicate_zero, List.append_nil, <- HI', as', <- e]; exact .full _
 | gap j hj =>
  have := NG' (S := S) hj (Nat.le_of_lt hk); rw [U4', as', XI' ω]; exact .zero _ _ ω _
 | zero j hj t =>
  rw [U4', as', as', as']; exact .zero _ _ ω _
theorem Left.drop {S rs : List Bs} {b : Bs} (h : Left S rs k b) : Left S rs (k + 1) b := by
 cases h with
 | full => exact .gap _ _ (Nat.lt_succ_self _)
 | gap j hj => exact .gap _ _ ω
 | zero j hj t => exact .zero _ _ ω _
theorem HR' {rs : List Bs} (h : NW' rs) (k : Nat) : NW' (rs.take k) := fun r hr => h r (List.mem_of_mem_take hr)
theorem JS' {S rs : List Bs} (h : NW' S) (h' : NW' rs) : NW' (S ++ rs) := fun r hr => (List.mem_append.1 hr).elim (h r) (h' r)
theorem Left.whole {S rs : List Bs} (hS : NW' S) (hR : NW' rs) {b : Bs} (h : Left S rs k b) : ∃ j, j <= k /\ DL' b = S ++ rs.take j := by
 have h0 : DL' [] = [] := GD' rfl
 cases h with
 | full =>
  have := GW' (S ++ rs.take k) [] (JS' hS (HR' hR _)); rw [List.append_nil, h0, List.append_nil] at this; exact ⟨k, Yd, this⟩
 | gap j hj =>
  have := GW' (S ++ rs.take j) [] (JS' hS (HR' hR _)); rw [List.append_nil, h0, List.append_nil] at this
  exact ⟨j, by omega, this⟩
 | zero j hj t =>
  rw [GW' _ _ (JS' hS (HR' hR _)), GD' (TU' t), List.append_nil]; exact ⟨j, hj, rfl⟩
end Go.Proofs.YtnnojnlejlokhaaGreatDoor.Wk
namespace Go.Proofs.YtnnojnlejlokhaaGreatDoor.Eng
open Go Go.RowKit
section
variable {α : Type} {enc : α -> List Value} {k : Nat}
end
end Go.Proofs.YtnnojnlejlokhaaGreatDoor.Eng
namespace Go.Proofs.YtnnojnlejlokhaaGreatDoor.Kit
open Go Go.RowKit Eng Kit
variable {p : Nat} {P : Γ}
def nil0 : Δ := ByteArray.empty
def byv (b : UInt8) : AV := .v (.int .u8 b.toNat)
def encB (b : UInt8) : List Value := [.int .u8 b.toNat]
abbrev tByt : TypeId := 2 * 5
def rB (l : Γ) : AO := .cells (rowV encB l) tByt
def sB (i n : Nat) : AV := .slice i 0 n 1 (.lo n)
theorem VD' (x : UInt8) : (encB x).length = 1 := rfl
theorem CR' (M : Γ) : (rowV encB M).length = M.length := by rw [BE' (k := 1) VD', Nat.mul_one]
theorem WB' (σ : Nat -> Nat) (L : Γ) : (rB L).ren σ = rB L := by simp only [rB, AO.ren, AD']
theorem BO' {x : List AV} {L : Γ} {e : TypeId} {σ : Nat -> Nat} (h : x = rowV encB L) (he : e = tByt) : OW (.cells x e) ((rB L).ren σ) := by rw [WB']; subst h he; exact Yc
theorem C5' (K : Nat -> Bool) (L : Γ) : (rB L).cl K := PX' _ _
theorem D7' (l : Γ) : rowV encB l = vmap (l.map fun b => .int .u8 b.toNat) := by
 unfold rowV
 congr 1
 induction l with
 | nil => rfl
 | cons a l ih => rw [List.flatMap_cons, List.map_cons, ih]; rfl
theorem O9' (h : P.length = p) : (0 + p * 1).ble (rowV encB P).length = true := by rw [CR', Nat.ble_eq]; omega
theorem GI' (h : P.length = p) : (List.take (p * 1) (List.drop 0 (rowV encB P))).length.beq (p * 1) = true := by
 have : (List.take (p * 1) (List.drop 0 (rowV encB P))).length = p * 1 := by rw [List.length_take, List.drop_zero, CR']; omega
 rw [this]; exact Nat.beq_refl _
theorem GJ' (h : P.length = p) (l : Γ) : List.take (p * 1) (List.drop 0 (rowV encB P)) ++ rowV encB l = rowV encB (P ++ l) := by
 rw [List.drop_zero, List.take_of_length_le (by rw [CR']; omega), <- AB']
theorem ltTN {j n : Nat} (h : j < n) : decide (Int.ofNat j < Int.ofNat n) = true := decide_eq_true (by simp only [Z0]; omega)
theorem ltFN {j n : Nat} (h : n <= j) : decide (Int.ofNat j < Int.ofNat n) = false := decide_eq_false (by simp only [Z0]; omega)
theorem AW' {a b : Nat} (h : a <= b) : a.ble b = true := by rw [Nat.ble_eq]; exact h
theorem DI' {F : HP} {f : FuncId} {r : Nat} {b : Code} {g : List AV -> AP (AX × List AV)} {l : LcL} (h : L1OK Θ F b g) (hl : ∀ x ∈ l, L1OK Θ F x.2.2.1 x.2.2.2) : ∀ x ∈ (f, r, b, g) :: l, L1OK Θ F x.2.2.1 x.2.2.2 := fun x hx => by
 rcases List.mem_cons.1 hx with rfl | hx
 ·exact h
 ·exact hl x hx
theorem VAll.ite {α : Type} {Q : α -> List (Option AO) -> Nat -> Prop} {b : Bool} {x y : VT α} (h1 : b = true -> VAll Q x) (h2 : b = false -> VAll Q y) : VAll Q (.ite b x y) := ⟨⟨fun h => (h1 h).out, fun h => (h2 h).out⟩⟩
end Go.Proofs.YtnnojnlejlokhaaGreatDoor.Kit
namespace Go.Proofs.YtnnojnlejlokhaaGreatDoor.Tree
open Go Go.RowKit Eng Kit
open List renaming length_append -> la'
variable {w : World} {d : Nat} {N : A7'} {e : TypeId}
inductive Tv where
 | mk (kind num : Int) (text : Δ) (list : List Tv) (tab : List (Δ × Tv))
 deriving Inhabited
abbrev Tf := List (Δ × Tv)
def Tv.kind : Tv -> Int
 | .mk k _ _ _ _ => k
def Tv.num : Tv -> Int
 | .mk _ n _ _ _ => n
def Tv.text : Tv -> Δ
 | .mk _ _ t _ _ => t
def Tv.list : Tv -> List Tv
 | .mk _ _ _ l _ => l
def Tv.tab : Tv -> Tf
 | .mk _ _ _ _ f => f
structure Rv where
 k : Int
 n : Int
 t : Δ
 la : Option Addr
 ll : Nat
 lc : Nat
 ta : Option Addr
 tl : Nat
 tc : Nat
 deriving Inhabited
def Rv.cells (r : Rv) : List Value := [.int .i64 r.k, .int .i64 r.n, .string r.t, .slice r.la r.ll r.lc, .slice r.ta r.tl r.tc]
abbrev Mem := Addr -> Option Value
def TQ' (C : Mem) (a : Addr) (cs : List Value) : Prop := ∀ j u, cs[j]? = some u -> C (a.add j) = some u
def big : Nat := 140737488351232
def LOf (V : Tv -> Rv -> Prop) (C : Mem) (oa : Option Addr) (l : List Tv) : Prop := l.length * 80 <= big /\ ∀ i x, l[i]? = some x -> ∃ a r, oa = some a /\ TQ' C (a.add (i * 5)) r.cells /\ V x r
def FOf (V : Tv -> Rv -> Prop) (C : Mem) (oa : Option Addr) (f : Tf) : Prop := f.length * 96 <= big /\ ∀ i nm x, f[i]? = some (nm, x) -> ∃ a r, oa = some a /\ TQ' C (a.add (i * 6)) (.string nm :: r.cells) /\ V x r
def VAt (C : Mem) : Nat -> Tv -> Rv -> Prop
 | 0 => fun _ _ => False
 | d + 1 => fun v r => (r.k = v.kind /\ r.n = v.num /\ r.t = v.text /\ r.ll = v.list.length /\ r.tl = v.tab.length) /\ LOf (VAt C d) C r.la v.list /\ FOf (VAt C d) C r.ta v.tab
abbrev LAt (C : Mem) (d : Nat) := LOf (VAt C d) C
abbrev FAt (C : Mem) (d : Nat) := FOf (VAt C d) C
theorem TQ'.mono {C C' : Mem} (h : ∀ a v, C a = some v -> C' a = some v) {a : Addr} {cs : List Value} (hc : TQ' C a cs) : TQ' C' a cs := fun j u hu => h _ _ (hc j u hu)
theorem LOf.mono {V V' : Tv -> Rv -> Prop} (hV : ∀ x r, V x r -> V' x r) {C C' : Mem} (h : ∀ a v, C a = some v -> C' a = some v) {oa : Option Addr} {l : List Tv} (hl : LOf V C oa l) : LOf V' C' oa l :=
 ⟨hl.1, fun i x hx => by
  obtain ⟨a, r, h1, h2, h3⟩ := hl.2 i x hx
  exact ⟨a, r, h1, h2.mono h, hV _ _ h3⟩⟩
theorem FOf.mono {V V' : Tv -> Rv -> Prop} (hV : ∀ x r, V x r -> V' x r) {C C' : Mem} (h : ∀ a v, C a = some v -> C' a = some v) {oa : Option Addr} {f : Tf} (hf : FOf V C oa f) : FOf V' C' oa f :=
 ⟨hf.1, fun i nm x hx => by
  obtain ⟨a, r, h1, h2, h3⟩ := hf.2 i nm x hx
  exact ⟨a, r, h1, h2.mono h, hV _ _ h3⟩⟩
theorem VAt.mono {C C' : Mem} (h : ∀ a v, C a = some v -> C' a = some v) : ∀ {d : Nat} {v : Tv} {r : Rv}, VAt C d v r -> VAt C' d v r
 | 0, _, _, hv => hv.elim
 | d + 1, v, r, hv => ⟨hv.1, hv.2.1.mono (fun x r hx => VAt.mono h hx) h, hv.2.2.mono (fun x r hx => VAt.mono h hx) h⟩
theorem LAt.mono {C C' : Mem} (h : ∀ a v, C a = some v -> C' a = some v) {oa : Option Addr} {l : List Tv} (hl : LAt C d oa l) : LAt C' d oa l := LOf.mono (fun _ _ hx => VAt.mono h hx) h hl
theorem FAt.mono {C C' : Mem} (h : ∀ a v, C a = some v -> C' a = some v) {oa : Option Addr} {l : Tf} (hl : FAt C d oa l) : FAt C' d oa l := FOf.mono (fun _ _ hx => VAt.mono h hx) h hl
noncomputable section
def H8' (D : Nat -> Prop) (w : World) : Mem := fun a => by classical exact if D a.block then w.cell? a else none
theorem PQ' {D : Nat -> Prop} {a : Addr} (h : D a.block) : H8' D w a = w.cell? a := by unfold H8'; rw [if_pos h]
theorem KI' {D : Nat -> Prop} {a : Addr} {v : Value} (h : H8' D w a = some v) : D a.block /\ w.cell? a = some v := by
 unfold H8' at h; split at h
 ·rename_i hd; exact ⟨hd, h⟩
 ·cases h
theorem KJ' {D D' : Nat -> Prop} (h : ∀ b, D b -> D' b) : ∀ a v, H8' D w a = some v -> H8' D' w a = some v := fun a v ha => by
 obtain ⟨h1, h2⟩ := KI' ha; rw [PQ' (h _ h1)]; exact h2
theorem VM' {w' : World} {a : Addr} (h : w'.heap[a.block]? = w.heap[a.block]?) : w'.cell? a = w.cell? a := by unfold World.cell?; rw [h]
theorem S6' {D : Nat -> Prop} {w' : World} (h : ∀ b, D b -> w'.heap[b]? = w.heap[b]?) : H8' D w' = H8' D w := by
 funext a; unfold H8'; split
 ·rename_i hd; exact VM' (h _ hd)
 ·rfl
def frz (P : Mem -> Prop) : HP where
 on D w := P (H8' D w) /\ ∀ b, D b -> b < w.heap.size
 far {D w w'} hf := fun ⟨h1, h2⟩ => ⟨by rw [S6' hf]; exact h1, fun b hb => by
  have h3 := hf b hb; rw [Array.getElem?_eq_getElem (h2 b hb)] at h3
  exact (Array.getElem?_eq_some_iff.1 h3).1⟩
 lt {D w} := fun ⟨_, h2⟩ => h2
theorem QF' {W0 : World} {F : HP} {N1 : A7'} {H H' : LH} {D0 : Nat -> Prop} {D : Nat -> Nat -> Prop} (hl : A9' 1100 H = true) (hl' : A9' 1100 H' = true) (r : Rep W0 N1 F (AN' H) w)
  (h1 : F.on D0 w) (h2 : ∀ i o, getO H i = some o -> OR N1 i o (D i) w /\ ∀ b, D i b -> ¬ D0 b) (h3 : ∀ i j o o', getO H i = some o -> getO H j = some o' -> i ≠ j -> ∀ b, D i b -> ¬ D j b)
  (k : Nat) (S : Nat -> Prop) (hkS : ¬ S k) {ok : AO} (hk0 : getO H k = some ok)
  (hn : ∀ n o', n ≠ k -> getO H' n = some o' -> ¬ S n /\ ∃ o, getO H n = some o /\ OR N1 n o' (D n) w)
  (hk : ∀ o', getO H' k = some o' -> OR N1 k o' (fun x => D k x \/ ∃ j, S j /\ (∃ o, getO H j = some o) /\ D j x) w) : Rep W0 N1 F (AN' H') w := by
 classical
 have hf' : ∀ n, (AN' H').find n = getO H' n := AH' (G4' hl')
 refine ⟨r.os, r.tape, r.output, D0, fun n x => if n = k then (D k x \/ ∃ j, S j /\ (∃ o, getO H j = some o) /\ D j x) else D n x, h1, fun n o hno => ?_, fun n m o o' hno hmo hnm b hb hb' => ?_⟩
 ·rw [hf'] at hno
  by_cases e : n = k
  ·subst e; simp only [if_true]
   refine ⟨hk o hno, fun b hb => ?_⟩
   rcases hb with hb | ⟨j, _, ⟨oj, hj⟩, hb⟩
   ·exact (h2 n _ hk0).2 b hb
   ·exact (h2 j _ hj).2 b hb
  ·simp only [if_neg e]; obtain ⟨_, o0, q1, q2⟩ := hn n o e hno; exact ⟨q2, (h2 n _ q1).2⟩
 ·rw [hf'] at hno hmo
  have key : ∀ m o', getO H' m = some o' -> m ≠ k -> ∀ b, (D k b \/ ∃ j, S j /\ (∃ o, getO H j = some o) /\ D j b) -> ¬ D m b := by
   intro m o' hm hmk b hb; obtain ⟨q0, o1, q1, _⟩ := hn m o' hmk hm
   rcases hb with hb | ⟨j, hj, ⟨oj, hjo⟩, hb⟩
   ·exact h3 k m _ _ hk0 q1 (Ne.symm hmk) b hb
   ·exact h3 j m _ _ hjo q1 (fun e => q0 (e ▸ hj)) b hb
  by_cases e : n = k
  ·subst e; simp only [if_true] at hb; have e' : m ≠ n := Ne.symm hnm; simp only [if_neg e'] at hb'; exact key m o' hmo e' b hb hb'
  ·simp only [if_neg e] at hb
   by_cases e' : m = k
   ·subst e'; simp only [if_true] at hb'; exact key n o hno e b hb' hb
   ·simp only [if_neg e'] at hb'; obtain ⟨_, o1, q1, _⟩ := hn n o e hno; obtain ⟨_, o2, q2, _⟩ := hn m o' e' hmo; exact h3 n m _ _ q1 q2 hnm b hb hb'
variable (m : Md)
def ownL (d : Nat) (l : List Tv) : AO := .own m fun b _ => frz fun C => LAt C d (some ⟨b, 0, none⟩) l
variable {m}
theorem LOf.nil {V : Tv -> Rv -> Prop} {C : Mem} (oa : Option Addr) : LOf V C oa [] := ⟨Nat.zero_le _, fun i x h => by simp at h⟩
theorem FOf.nil {V : Tv -> Rv -> Prop} {C : Mem} (oa : Option Addr) : FOf V C oa [] := ⟨Nat.zero_le _, fun i nm x h => by simp at h⟩
theorem M8' {k n sz : Nat} {y : Value} (h : VR N (.slice k 0 n sz (.lo n)) y) : ∃ l x c, N k = some l /\ y = .slice (some ⟨l.blk, x, none⟩) n c /\ (0 < n -> x = l.off) := by
 simp only [VR] at h; obtain ⟨l, x, c, h1, h2, h3, h4, h5, h6⟩ := h
 refine ⟨l, x, c, h1, h2, fun hn => ?_⟩
 rcases h3 with h3 | h3
 ·rw [h3, Nat.add_zero]
 ·omega
def encF (p : Δ × Rv) : List Value := .string p.1 :: p.2.cells
def PF (d : Nat) (R : List (Δ × Rv)) (f : Tf) (C : Mem) : Prop := R.length = f.length /\ ∀ (i : Nat) (nm : Δ) (x : Tv), f[i]? = some (nm, x) -> ∃ r, R[i]? = some (nm, r) /\ VAt C d x r
def PV (d : Nat) (R : List Rv) (l : List Tv) (C : Mem) : Prop := R.length = l.length /\ ∀ (i : Nat) (x : Tv), l[i]? = some x -> ∃ r, R[i]? = some r /\ VAt C d x r
theorem PF.mono {R : List (Δ × Rv)} {f : Tf} {C C' : Mem} (h : ∀ a v, C a = some v -> C' a = some v) (hp : PF d R f C) : PF d R f C' := ⟨hp.1, fun i nm x hx => by
 obtain ⟨r, h1, h2⟩ := hp.2 i nm x hx
 exact ⟨r, h1, h2.mono h⟩⟩
theorem PV.mono {R : List Rv} {l : List Tv} {C C' : Mem} (h : ∀ a v, C a = some v -> C' a = some v) (hp : PV d R l C) : PV d R l C' := ⟨hp.1, fun i x hx => by
 obtain ⟨r, h1, h2⟩ := hp.2 i x hx
 exact ⟨r, h1, h2.mono h⟩⟩
theorem PF.add {R : List (Δ × Rv)} {f : Tf} {C : Mem} (hp : PF d R f C) {nm : Δ} {x : Tv} {r : Rv} (hx : VAt C d x r) : PF d (R ++ [(nm, r)]) (f ++ [(nm, x)]) C := by
 refine ⟨by simp [hp.1], fun i n y hy => ?_⟩
 rcases Nat.lt_or_ge i f.length with h | h
 ·rw [List.getElem?_append_left h] at hy; obtain ⟨s, h1, h2⟩ := hp.2 i n y hy
  exact ⟨s, by rw [List.getElem?_append_left (by have := hp.1; omega)]; exact h1, h2⟩
 ·rw [List.getElem?_append_right h] at hy
  have : i - f.length = 0 := by
   cases hk : i - f.length with
   | zero => rfl
   | succ n => rw [hk] at hy; simp at hy
  rw [this] at hy; simp only [List.getElem?_cons_zero, Option.some.injEq, Prod.mk.injEq] at hy; obtain ⟨rfl, rfl⟩ := hy; refine ⟨r, ?_, hx⟩
  rw [List.getElem?_append_right (by have := hp.1; omega), show i - R.length = 0 by have := hp.1; omega]
  rfl
theorem PV.add {R : List Rv} {f : List Tv} {C : Mem} (hp : PV d R f C) {x : Tv} {r : Rv} (hx : VAt C d x r) : PV d (R ++ [r]) (f ++ [x]) C := by
 refine ⟨by simp [hp.1], fun i y hy => ?_⟩
 rcases Nat.lt_or_ge i f.length with h | h
 ·rw [List.getElem?_append_left h] at hy; obtain ⟨s, h1, h2⟩ := hp.2 i y hy
  exact ⟨s, by rw [List.getElem?_append_left (by have := hp.1; omega)]; exact h1, h2⟩
 ·rw [List.getElem?_append_right h] at hy
  have : i - f.length = 0 := by
   cases hk : i - f.length with
   | zero => rfl
   | succ n => rw [hk] at hy; simp at hy
  rw [this] at hy; simp only [List.getElem?_cons_zero, Option.some.injEq] at hy; subst hy; refine ⟨r, ?_, hx⟩
  rw [List.getElem?_append_right (by have := hp.1; omega), show i - R.length = 0 by have := hp.1; omega]
  rfl
end
theorem OT' {i : Nat} {a b : List AV} {D : Nat -> Prop} (h : OR N i (.cells (a ++ b) e) D w) : ∃ yb, VRs N b yb /\ ∀ c : List AV, c.length = b.length -> VRs N c yb -> OR N i (.cells (a ++ c) e) D w := by
 obtain ⟨l, arr, fz, h1, h2, h3, h4, h5, h6, h7, h8⟩ := h; obtain ⟨ys, hys⟩ : ∃ ys, (arr.toList.drop l.off).take (a ++ b).length = ys := ⟨_, rfl⟩
 have key : ∀ (a : List AV) (ys : List Value), VRs N (a ++ b) ys -> ∃ yb, VRs N b yb /\ ∀ c : List AV, VRs N c yb -> VRs N (a ++ c) ys := by
  intro a
  induction a with
  | nil => exact fun ys hy => ⟨ys, hy, fun c hc => hc⟩
  | cons x a ih =>
   intro ys hy; obtain ⟨y, r, q1, q2, rfl⟩ := hy; obtain ⟨yb, q3, q4⟩ := ih r q2
   exact ⟨yb, q3, fun c hc => ⟨y, r, q1, q4 c hc, rfl⟩⟩
 rw [hys] at h7; obtain ⟨yb, q3, q4⟩ := key a ys h7
 refine ⟨yb, q3, fun c hc hv => ⟨l, arr, fz, h1, h2, h3, h4, ?_, h6, ?_, h8⟩⟩
 ·rw [la', hc, <- la']; exact h5
 ·rw [la', hc, <- la', hys]; exact q4 c hv
theorem st_abs {W0 : World} {F : HP} {H : LH} {vs : List AV} {ys : List Value} (hl : A9' 1100 H = true) (hs : St W0 F N H vs ys w) (i k : Nat) (S : List Nat) (hik : i ≠ k) (hiS : i ∉ S) (hkS : k ∉ S) {a b : List AV} {ok : AO}
  (hi : getO H i = some (.cells (a ++ b) e)) (hk : getO H k = some ok) (hkl : ∀ N1 D w, OR N1 k ok D w -> ∀ b, D b -> b < w.heap.size) (Q : List Value -> Mem -> Prop)
  (core : ∀ (N1 : A7') (D : Nat -> Nat -> Prop), (∀ n o, getO H n = some o -> OR N1 n o (D n) w) -> ∀ yb, VRs N1 b yb -> ∃ c : List Value, c.length = b.length /\ VRs N1 (vmap c) yb /\ Q c (H8' (fun x => D k x \/ ∃ j, j ∈ S /\ (∃ o, getO H j = some o) /\ D j x) w)) :
  ∃ c, (∃ C, Q c C) /\ ∀ (H' : LH) (Q' : Mem -> Prop), A9' 1100 H' = true -> getO H' i = some (.cells (a ++ vmap c) e) -> getO H' k = some (.any (frz Q')) -> (∀ C, Q c C -> Q' C) -> (∀ n o, n ≠ i -> n ≠ k -> getO H' n = some o -> n ∉ S /\ getO H n = some o) ->
   AV.cls (fun n => Nat.blt n 1000 || (getO H' n).isSome) vs -> (∀ x ∈ H', x.2.cl (fun n => Nat.blt n 1000 || (getO H' n).isSome)) -> St W0 F N H' vs ys w := by
 obtain ⟨N1, g1, g2, r, hvs⟩ := hs; obtain ⟨D0, D, h1, h2, h3⟩ := r.sat; have hf : ∀ n, (AN' H).find n = getO H n := AH' (G4' hl)
 have h2' : ∀ n o, getO H n = some o -> OR N1 n o (D n) w /\ ∀ b, D n b -> ¬ D0 b := fun n o hn => h2 n o (by rw [hf]; exact hn)
 obtain ⟨yb, q1, q2⟩ := OT' (h2' i _ hi).1; obtain ⟨c, c1, c2, c3⟩ := core N1 D (fun n o hn => (h2' n o hn).1) yb q1
 refine ⟨c, ⟨_, c3⟩, fun H' Q' hl' hi' hk' hQ hn hv ho => J2' hl' g1 (QF' hl hl' r h1 h2' (fun n m o o' hn hm => h3 n m o o' (by rw [hf]; exact hn) (by rw [hf]; exact hm)) k (fun n => n ∈ S) hkS hk (fun n o' hnk hno => ?_) fun o' hko => ?_) hvs hv ho⟩
 ·by_cases hni : n = i
  ·subst hni; rw [hi'] at hno; cases hno; exact ⟨hiS, _, hi, q2 _ (by rw [show (vmap c).length = c.length by simp [vmap]]; exact c1) c2⟩
  ·obtain ⟨a1, a2⟩ := hn n o' hni hnk hno; exact ⟨a1, o', a2, (h2' n o' a2).1⟩
 ·rw [hk'] at hko; cases hko
  refine ⟨hQ _ c3, fun b hb => ?_⟩
  rcases hb with hb | ⟨j, _, ⟨oj, hj⟩, hb⟩
  ·exact (h2' k _ hk).1.lt b hb
  ·exact (h2' j _ hj).1.lt b hb
theorem NF' {i : Nat} {cs : List Value} {D : Nat -> Prop} (h : OR N i (.cells (vmap cs) (2 * e)) D w) : ∃ l, N i = some l /\ l.off = 0 /\ ∀ j u, cs[j]? = some u -> H8' D w ⟨l.blk, j, none⟩ = some u := by
 obtain ⟨l, arr, fz, h1, h2, h3, h4, h5, h6, h7, h8⟩ := h; obtain ⟨z, _⟩ := h8 (Nat.mul_mod_right 2 e)
 refine ⟨l, h1, z, fun j u hj => ?_⟩
 rw [PQ' ((h2 _).2 rfl)]; have h7 := VRs.of_vmap h7
 have hlen : (vmap cs).length = cs.length := by simp [vmap]
 rw [z, List.drop_zero, hlen] at h7; unfold World.cell?; simp only [h3]; have hj' := (List.getElem?_eq_some_iff.1 hj).1
 have : (arr.toList.take cs.length)[j]? = some u := by rw [h7]; exact hj
 rw [List.getElem?_take_of_lt hj'] at this; simpa using this
theorem pieces {α : Type} {f : α -> List Value} {m : Nat} (hf : ∀ x, (f x).length = m) : ∀ (l : List α) (k j : Nat) (x : α), l[k]? = some x -> j < m -> (l.flatMap f)[k * m + j]? = (f x)[j]?
 | [], k, j, x, h, _ => by simp at h
 | y :: l, 0, j, x, h, hj => by
  simp only [List.getElem?_cons_zero, Option.some.injEq] at h; subst h; rw [List.flatMap_cons, Nat.zero_mul, Nat.zero_add, List.getElem?_append_left (by rw [hf]; exact hj)]
 | y :: l, k + 1, j, x, h, hj => by
  rw [List.getElem?_cons_succ] at h
  rw [List.flatMap_cons, List.getElem?_append_right (by rw [hf, Nat.succ_mul]; omega), hf, show (k + 1) * m + j - m = k * m + j from by rw [Nat.succ_mul]; omega]
  exact pieces hf l k j x h hj
theorem LE' (p : Δ × Rv) : (encF p).length = 6 := rfl
end Go.Proofs.YtnnojnlejlokhaaGreatDoor.Tree
namespace Go.Proofs.YtnnojnlejlokhaaGreatDoor.Wk
open Go Go.RowKit Eng Kit Tree
open Int renaming ofNat -> o'
open Go.Value renaming int -> vi'
open AV renaming v -> v'
open Go.Value renaming slice -> sl'
noncomputable section
abbrev fOv : Nat := 82
def uN (n : Nat) : AV := .v (.int .u32 (o' n))
structure LN (W : World) : Prop where
 tab : ∀ k, k < 16 -> W.cell? ((Addr.mk 0 0 none).add (k * 1)) = some (.int .u32 (o' (nb k)))
def BAt (C : Mem) (oa : Option Addr) (l : Bs) : Prop := l.length <= big /\ ∀ i b, l[i]? = some b -> ∃ a, oa = some a /\ C (a.add (i * 1)) = some (.int .u8 (b.toNat : Int))
def aOv (oa : Option Addr) (n c j s : Nat) : List (Nat × AV) := [(0, uN s), (7, slV oa n c), (8, iv (o' n)), (9, iv (o' j))]
def hOv (j s : Nat) (x : UInt8) : B9' := AE' [ht' fOv 2 0, (fOv, 3, 1, hv (byv x)), (fOv, 4, 3, hv (uN (s ^^^ x.toNat))), (fOv, 5, 3, hv (uN ((s ^^^ x.toNat) &&& 15))), (fOv, 5, 5, hv (uN (nb ((s ^^^ x.toNat) &&& 15)))), (fOv, 5, 6, hv (uN (half (s ^^^ x.toNat)))), (fOv, 6, 3, hv (uN (half (s ^^^ x.toNat) &&& 15))), (fOv, 6, 5, hv (uN (nb (half (s ^^^ x.toNat) &&& 15)))), (fOv, 6, 6, hv (uN (M6' s x))), (fOv, 7, 0, hv (iv (o' (j + 1))))]
abbrev k1' : Cnd := t'
abbrev k2' (q0 : Nat) : Cnd := (f' (Wk (z' (IntKind.i64.wrap (o' q0 + o' 1))) (i' (q0 + 1))))
abbrev h3' (q0 q1 : Nat) (z : Cnd) : Cnd := ((wb' (decide (o' q0 < o' q1)) j').a ((f' (q0.blt q1 = true)).a z))
theorem YV' (W : World) (a : Addr) (n c j s : Nat) (x : UInt8) (F : HP) : BK' [] (hOv j s x) [] W fOv (A3' fOv 2) (tms 0 33 (aOv (some a) n c j s)) [] [] [0, 7, 8, 9] F = VT.leaf (AX.normal,[v' (vi' IntKind.u32 (o' (M6' s x))),v' (sl' (some a) n c),i' n,i' (j + 1)],33) [] 1100 (h3' j n (((p' ((W.cell? (a.add (j * 1))).isSome = true)).a ((p' (v' ((W.cell? (a.add (j * 1))).getD (Value.tuple (Array.mk []))) = v' (vi' IntKind.u8 (v' ((W.cell? (a.add (j * 1))).getD (Value.tuple (Array.mk [])))).intOf))).a (f' (Wk (v' (vi' IntKind.u8 (v' ((W.cell? (a.add (j * 1))).getD (Value.tuple (Array.mk [])))).intOf)) (v' (vi' IntKind.u8 ↑x.toNat)))))).a ((f' (Wk (v' (vi' IntKind.u32 (IntKind.u32.wrap ↑(BitVec.ofInt 32 (o' s) ^^^ BitVec.ofInt 32 (IntKind.u32.wrap ↑x.toNat)).toNat))) (v' (vi' IntKind.u32 (o' (s ^^^ x.toNat)))))).a ((f' (Wk (v' (vi' IntKind.u32 (IntKind.u32.wrap ↑(BitVec.ofInt 32 (o' (s ^^^ x.toNat)) &&& BitVec.ofInt 32 (o' 15)).toNat))) (v' (vi' IntKind.u32 (o' ((s ^^^ x.toNat) &&& 15)))))).a ((f' (((s ^^^ x.toNat) &&& 15).blt 16 = true)).a (((p' ((W.cell? ((Addr.mk 0 0 none).add (((s ^^^ x.toNat) &&& 15) * 1))).isSome = true)).a ((p' (v' ((W.cell? ((Addr.mk 0 0 none).add (((s ^^^ x.toNat) &&& 15) * 1))).getD (Value.tuple (Array.mk []))) = v' (vi' IntKind.u32 (v' ((W.cell? ((Addr.mk 0 0 none).add (((s ^^^ x.toNat) &&& 15) * 1))).getD (Value.tuple (Array.mk [])))).intOf))).a (f' (Wk (v' (vi' IntKind.u32 (v' ((W.cell? ((Addr.mk 0 0 none).add (((s ^^^ x.toNat) &&& 15) * 1))).getD (Value.tuple (Array.mk [])))).intOf)) (v' (vi' IntKind.u32 (o' (nb ((s ^^^ x.toNat) &&& 15))))))))).a ((f' (Wk (v' (vi' IntKind.u32 (IntKind.u32.wrap ↑(BitVec.ofInt 32 ((o' (s ^^^ x.toNat)).fdiv (o' 16)) ^^^ BitVec.ofInt 32 (o' (nb ((s ^^^ x.toNat) &&& 15)))).toNat))) (v' (vi' IntKind.u32 (o' (half (s ^^^ x.toNat))))))).a ((f' (Wk (v' (vi' IntKind.u32 (IntKind.u32.wrap ↑(BitVec.ofInt 32 (o' (half (s ^^^ x.toNat))) &&& BitVec.ofInt 32 (o' 15)).toNat))) (v' (vi' IntKind.u32 (o' (half (s ^^^ x.toNat) &&& 15)))))).a ((f' ((half (s ^^^ x.toNat) &&& 15).blt 16 = true)).a (((p' ((W.cell? ((Addr.mk 0 0 none).add ((half (s ^^^ x.toNat) &&& 15) * 1))).isSome = true)).a ((p' (v' ((W.cell? ((Addr.mk 0 0 none).add ((half (s ^^^ x.toNat) &&& 15) * 1))).getD (Value.tuple (Array.mk []))) = v' (vi' IntKind.u32 (v' ((W.cell? ((Addr.mk 0 0 none).add ((half (s ^^^ x.toNat) &&& 15) * 1))).getD (Value.tuple (Array.mk [])))).intOf))).a (f' (Wk (v' (vi' IntKind.u32 (v' ((W.cell? ((Addr.mk 0 0 none).add ((half (s ^^^ x.toNat) &&& 15) * 1))).getD (Value.tuple (Array.mk [])))).intOf)) (v' (vi' IntKind.u32 (o' (nb (half (s ^^^ x.toNat) &&& 15))))))))).a ((f' (Wk (v' (vi' IntKind.u32 (IntKind.u32.wrap ↑(BitVec.ofInt 32 ((o' (half (s ^^^ x.toNat))).fdiv (o' 16)) ^^^ BitVec.ofInt 32 (o' (nb (half (s ^^^ x.toNat) &&& 15)))).toNat))) (v' (vi' IntKind.u32 (o' (M6' s x)))))).a ((k2' j).a k1')))))))))))) := χ
theorem YW' (W : World) (oa : Option Addr) (n c s : Nat) (F : HP) : BK' [] (AE' [hf' fOv 2 0]) [] W fOv (A3' fOv 2) (tms 0 33 (aOv oa n c n s)) [] [] [0, 7, 8, 9] F = VT.leaf (AX.exit 0,[v' (vi' IntKind.u32 (o' s)),v' (sl' oa n c),i' n,i' n],33) [] 1100 ((wb' (decide (o' n < o' n)) g').a k1') := χ
def lOv (oa : Option Addr) (n c s s' : Nat) : List AV -> AP (AX × List AV) := mkL (fun _ => .ret ()) (fun _ => True) (fun _ k => k) (fun _ => tms 0 33 (aOv oa n c 0 s)) (fun _ => []) (fun _ => .leaf (.exit 0) (tms 0 33 [(0, uN s')]) [])
abbrev k4' : Cnd := (p' True)
theorem oOv_eq (W : World) (oa : Option Addr) (n c s s' : Nat) (F : HP) : wRun [] BM' [(fOv, 2, A3' fOv 2, lOv oa n c s s')] W fOv [uN s, slV oa n c] [] [] F = VT.leaf (v' (vi' IntKind.u32 (o' s'))) [] 1100 ((p' ((fOv,2,A3' fOv 2,lOv oa n c s s').snd.snd.fst = (fOv,2,A3' fOv 2,lOv oa n c s s').snd.snd.fst)).a (k4'.a ((p' (VW (v' (vi' IntKind.u32 (o' s))::v' (sl' oa n c)::u'::u'::v' (vi' IntKind.u32 (o' 0))::u'::u'::v' (sl' oa n c)::z' ↑n::i' 0::ru16 (ru4 (u'::u'::u'::[]))) (v' (vi' IntKind.u32 (o' s))::ra4 (a'::a'::v' (sl' oa n c)::i' n::i' 0::ra16 (ra4 (a'::a'::a'::[])))))).a k1'))) := χ
end
end Go.Proofs.YtnnojnlejlokhaaGreatDoor.Wk
namespace Go.Proofs.YtnnojnlejlokhaaGreatDoor.Eng
open Go Go.RowKit
variable {H H' : LH}
theorem IU' : ∀ (H H' : LH) (i : Nat), getO (H ++ H') i = match getO H i with | some o => some o | none => getO H' i
 | [], H', i => rfl
 | x :: l, H', i => by
  rw [List.cons_append, getO, getO]
  by_cases e : i = x.1
  ·rw [if_pos e, if_pos e]
  ·rw [if_neg e, if_neg e]; exact IU' l H' i
theorem OD' {b : Nat} (h : A9' b H = true) (h' : A9' b H' = true) : A9' b (H ++ H') = true := by
 simp only [A9', List.all_append, Bool.and_eq_true] at *; exact ⟨h, h'⟩
theorem U3' {W0 w w' : World} {F : HP} {N N1 : A7'} (hl : A9' 1100 H = true) (hl' : A9' 1100 H' = true) (hd : ∀ i o, getO H' i = some o -> 1000 <= i /\ getO H i = none)
  (hNB : NB N H) (r : Rep W0 N F (AN' H) w) (g0 : ∀ i, i < 1000 -> N1 i = none) (g1 : NB N1 H') (r1 : Rep w N1 (HP.old w) (AN' H') w') :
  ∃ N2 : A7', (∀ i, i < 1000 -> N2 i = N i) /\ NB N2 (H ++ H') /\ Rep W0 N2 F (AN' (H ++ H')) w' /\ N.le N2 /\ N1.le N2 := by
 have hf : ∀ i, (AN' H).find i = getO H i := AH' (G4' hl); have hf' : ∀ i, (AN' H').find i = getO H' i := AH' (G4' hl'); have hf2 : ∀ i, (AN' (H ++ H')).find i = getO (H ++ H') i := AH' (G4' (OD' hl hl')); have hb := r1.old_below; have rb := r.below hb
 have hN : N.le (fun i => if (getO H' i).isSome then N1 i else N i) := fun i l hi => by
  cases h : getO H' i with
  | none => simpa [h] using hi
  | some o =>
   have := hNB i (hd i o h).1 (hd i o h).2; rw [this] at hi; cases hi
 have hN1 : N1.le (fun i => if (getO H' i).isSome then N1 i else N i) := fun i l hi => by
  cases h : getO H' i with
  | some o => simpa [h] using hi
  | none =>
   rcases Nat.lt_or_ge i 1000 with h2 | h2
   ·rw [g0 i h2] at hi; cases hi
   ·rw [g1 i h2 h] at hi; cases hi
 refine ⟨_, fun i hi => ?_, fun i hi hn => ?_, ?_, hN, hN1⟩
 ·have h : getO H' i = none := by
   cases h : getO H' i with
   | none => rfl
   | some o => have := (hd i o h).1; omega
  simp [h]
 ·rw [IU'] at hn
  cases h : getO H i with
  | some o => rw [h] at hn; cases hn
  | none =>
   rw [h] at hn; simp only at hn; simpa [hn] using hNB i hi h
 ·obtain ⟨D0, D, h1, h2, h3⟩ := r.sat; obtain ⟨B0, B, k1, k2, k3⟩ := r1.sat; have hB0 : ∀ b, B0 b ↔ b < w.heap.size := k1.1
  have lt : ∀ i o, getO H i = some o -> ∀ b, D i b -> b < w.heap.size := fun i o hi b hb => ((h2 i o ((hf i).trans hi)).1.lt b hb)
  have ge : ∀ i o, getO H' i = some o -> ∀ b, B i b -> w.heap.size <= b := fun i o hi b hb' => by
   have := (k2 i o ((hf' i).trans hi)).2 b hb'; rw [hB0] at this; omega
  refine ⟨hb.os.trans r.os, hb.tape.trans r.tape, hb.output.trans r.output, D0, fun i b => if (getO H' i).isSome then B i b else D i b, F.far (fun b hb' => hb.block b (F.lt h1 b hb')) h1, fun i o hi => ?_, fun i j o o' hi hj hij b hbi hbj => ?_⟩
  ·rw [hf2, IU'] at hi
   cases h : getO H' i with
   | some o1 =>
    rw [(hd i o1 h).2] at hi; simp only [h, Option.some.injEq] at hi; subst hi; show OR _ i o1 (fun b => if (getO H' i).isSome then B i b else D i b) w' /\ ∀ b, (if (getO H' i).isSome then B i b else D i b) -> ¬ D0 b; simp only [h, Option.isSome_some, if_true]
    refine ⟨((k2 i o1 ((hf' i).trans h)).1).mono hN1, fun b hb' h0 => ?_⟩
    have := ge i o1 h b hb'; have := F.lt h1 b h0; omega
   | none =>
    show OR _ i o (fun b => if (getO H' i).isSome then B i b else D i b) w' /\ ∀ b, (if (getO H' i).isSome then B i b else D i b) -> ¬ D0 b; simp only [h, Option.isSome_none, Bool.false_eq_true, if_false]
    cases hh : getO H i with
    | none => rw [hh] at hi; simp only [h] at hi; cases hi
    | some o1 =>
     rw [hh] at hi; cases hi; have hq := h2 i o ((hf i).trans hh); exact ⟨(hq.1.far (fun b hb' => hb.block b (hq.1.lt b hb'))).mono hN, hq.2⟩
  ·rw [hf2, IU'] at hi hj
   have side : ∀ i o b, (match getO H i with | some o => some o | none => getO H' i) = some o -> (if (getO H' i).isSome then B i b else D i b) -> (∃ o1, getO H' i = some o1 /\ B i b) \/ (getO H' i = none /\ getO H i = some o /\ D i b) := by
    intro i o b hi hb'
    cases h : getO H' i with
    | some o1 => rw [h] at hb'; exact .inl ⟨o1, rfl, by simpa using hb'⟩
    | none =>
     rw [h] at hb'
     cases hh : getO H i with
     | none => rw [hh] at hi; simp only [h] at hi; cases hi
     | some o2 => rw [hh] at hi; cases hi; exact .inr ⟨rfl, rfl, by simpa using hb'⟩
   rcases side i o b hi hbi with ⟨o1, q1, q2⟩ | ⟨q0, q1, q2⟩
   ·rcases side j o' b hj hbj with ⟨o2, p1, p2⟩ | ⟨p0, p1, p2⟩
    ·exact k3 i j o1 o2 ((hf' i).trans q1) ((hf' j).trans p1) hij b q2 p2
    ·have := ge i o1 q1 b q2; have := lt j o' p1 b p2; omega
   ·rcases side j o' b hj hbj with ⟨o2, p1, p2⟩ | ⟨p0, p1, p2⟩
    ·have := ge j o2 p1 b p2; have := lt i o q1 b q2; omega
    ·exact h3 i j o o' ((hf i).trans q1) ((hf j).trans p1) hij b q2 p2
theorem XO' {P : Program} {W : World} {f : FuncId} {A : List AV} {v : AV} (hl : A9' 1100 H = true) (hl' : A9' 1100 H' = true) (hd : ∀ i o, getO H' i = some o -> 1000 <= i /\ getO H i = none)
  (h : ∀ (W0 : World) (F : HP) (N : A7') (w : World) (vargs : Array Value), AK' W F -> NB N H -> Rep W0 N F (AN' H) w -> VRs N A vargs.toList -> ∃ A1, vargs.toList = A1 /\ Tri P w f (vmap A1) [] v H') : Tri P W f A H v (H ++ H') := by
 intro W0 F N w vargs hF hNB r ha; obtain ⟨A1, hA, ht⟩ := h W0 F N w vargs hF hNB r ha; have hold : AK' w (HP.old w) := AK'.self w; refine (ht w (HP.old w) (fun _ => none) w vargs hold (fun _ _ _ => rfl) (L0' w) (by rw [hA]; exact VRs.vmap _)).mono ?_; rintro e w' ⟨y, rfl, N1, g0, g1, r1, hv⟩; obtain ⟨N2, q0, q1, q2, q3, q4⟩ := U3' hl hl' hd hNB r g0 g1 r1; exact ⟨y, rfl, N2, q0, q1, q2, VRs.mono q4 hv⟩
end Go.Proofs.YtnnojnlejlokhaaGreatDoor.Eng
namespace Go.Proofs.YtnnojnlejlokhaaGreatDoor.Wk
open Go Go.RowKit Eng Kit Tree
open Int renaming ofNat -> o'
open Go.Value renaming int -> vi'
open AO renaming cells -> ce'
open AV renaming v -> v'
open AV renaming ptr -> pt'
open Go.IntKind renaming u8 -> u8'
open Cnd renaming holds -> ch'
open Nat renaming blt_eq -> bl'
open List renaming length_append -> la'
variable {n s : Nat} {W : World} {pre : List Value} {f : FuncId} {v : AV} {H' : LH}
theorem B1' {α : Type} {l : List α} {i : Nat} (h : i < l.length) : ∃ x, l[i]? = some x := ⟨_, List.getElem?_eq_getElem h⟩
theorem BAt.mono {C C' : Mem} (h : ∀ a v, C a = some v -> C' a = some v) {oa : Option Addr} {l : Bs} (hl : BAt C oa l) : BAt C' oa l := ⟨hl.1, fun i b hb => by
 obtain ⟨a, h1, h2⟩ := hl.2 i b hb
 exact ⟨a, h1, h _ _ h2⟩⟩
theorem LN.mono {W' : World} (h : ∀ a v, W.cell? a = some v -> W'.cell? a = some v) (hN : LN W) : LN W' := ⟨fun k hk => h _ _ (hN.tab k hk)⟩
theorem BR' {α : Type} {l : List α} {j : Nat} {x : α} (h : l[j]? = some x) : l.take (j + 1) = l.take j ++ [x] := by rw [List.take_add_one, h]; rfl
theorem M2' {a b : Int} (h : a = b) : Wk (.v (.int .u32 a)) (.v (.int .u32 b)) := by subst h; exact Ya
theorem u32_in (h : n < 4294967296) : IntKind.u32.wrap (n : Int) = (n : Int) := IntWalk.u32_in _ ω
theorem Q2' (h : n < 4294967296) : (BitVec.ofInt 32 (o' n)).toNat = n := by
 rw [show (o' n : Int) = ((n : Nat) : Int) from rfl, BitVec.ofInt_natCast, BitVec.toNat_ofNat, Nat.mod_eq_of_lt h]
theorem x_eq {a b : Nat} (ha : a < 4294967296) (hb : b < 4294967296) : IntKind.u32.wrap ((BitVec.ofInt 32 (o' a) ^^^ BitVec.ofInt 32 (o' b)).toNat : Int) = o' (a ^^^ b) := by
 rw [BitVec.toNat_xor, Q2' ha, Q2' hb, u32_in (Nat.xor_lt_two_pow (n := 32) ha hb)]; rfl
theorem c_eq {x : UInt8} (hs : s < 4294967296) : IntKind.u32.wrap ((BitVec.ofInt 32 (o' s) ^^^ BitVec.ofInt 32 (IntKind.u32.wrap (x.toNat : Int))).toNat : Int) = o' (s ^^^ x.toNat) := by
 have hx : x.toNat < 4294967296 := by have := x.toNat_lt; omega
 rw [u32_in hx]; exact x_eq hs hx
theorem a_eq (hs : s < 4294967296) : IntKind.u32.wrap ((BitVec.ofInt 32 (o' s) &&& BitVec.ofInt 32 (o' 15)).toNat : Int) = o' (s &&& 15) := by
 rw [BitVec.toNat_and, Q2' hs, Q2' δ, u32_in (Nat.lt_of_le_of_lt Nat.and_le_right δ)]; rfl
theorem h_eq (hs : s < 4294967296) : IntKind.u32.wrap ((BitVec.ofInt 32 ((o' s).fdiv (o' 16)) ^^^ BitVec.ofInt 32 (o' (nb (s &&& 15)))).toNat : Int) = o' (half s) := by
 have e : (o' s).fdiv (o' 16) = o' (s >>> 4) := by
  rw [Nat.shiftRight_eq_div_pow, Int.fdiv_eq_ediv_of_nonneg _ δ]; rfl
 rw [e, x_eq (by rw [Nat.shiftRight_eq_div_pow]; omega) (WL' _)]; rfl
theorem st_eq {x : UInt8} (hs : half (s ^^^ x.toNat) < 4294967296) : IntKind.u32.wrap ((BitVec.ofInt 32 ((o' (half (s ^^^ x.toNat))).fdiv (o' 16)) ^^^ BitVec.ofInt 32 (o' (nb (half (s ^^^ x.toNat) &&& 15)))).toNat : Int) = o' (M6' s x) := h_eq hs
theorem U9' (s : Nat) (l : Bs) (x : UInt8) : ovr s (l ++ [x]) = M6' (ovr s l) x := by rw [ovr, List.foldl_append]; rfl
theorem WF' (W : World) (hN : LN W) (s : Nat) (hs : s < 4294967296) (oa : Option Addr) (c : Nat) (l : Bs) (h : BAt W.cell? oa l) : Tri Θ W fOv [uN s, slV oa l.length c] [] (uN (ovr s l)) [] := by
 have hlen : l.length <= 140737488351232 := h.1
 have hloop : LTri Θ W (A3' fOv 2) (tms 0 33 (aOv oa l.length c 0 s)) [] (.exit 0) (tms 0 33 [(0, uN (ovr s l))]) [] := by
  refine BG' (W := W) (g := fOv) (b := A3' fOv 2) (σ := {j : Nat // j <= l.length}) 33 (fun j => aOv oa l.length c j.1 (ovr s (l.take j.1))) (fun j => []) (.exit 0) [(0, uN (ovr s l))] [] (fun j => l.length - j.1) [] [0, 7, 8, 9] (by intro h; cases h) (fun _ => rfl) rfl ?_ ⟨0, Nat.zero_le _⟩; rintro ⟨j, hj⟩; simp only
  by_cases h1 : j < l.length
  ·obtain ⟨x, hx⟩ := B1' h1; obtain ⟨a, rfl, q1⟩ := h.2 j x hx; have hw := BB' j ω; have e1 : decide (o' j < o' l.length) = true := ltTN h1; have hsj := JD' (l.take j) hs
   have enx : ovr s (l.take (j + 1)) = M6' (ovr s (l.take j)) x := by rw [BR' hx, U9']
   obtain ⟨t, ht⟩ : ∃ t, ovr s (l.take j) = t := ⟨_, rfl⟩; rw [ht] at hsj enx ⊢
   have hx8 : x.toNat < 4294967296 := by have := x.toNat_lt; omega
   have hu : t ^^^ x.toNat < 4294967296 := Nat.xor_lt_two_pow (n := 32) hsj hx8; have hh := OL' hu; have k1 : (t ^^^ x.toNat) &&& 15 < 16 := Nat.lt_of_le_of_lt Nat.and_le_right δ; have k2 : half (t ^^^ x.toNat) &&& 15 < 16 := Nat.lt_of_le_of_lt Nat.and_le_right δ; have t1 := hN.tab _ k1; have t2 := hN.tab _ k2
   refine ⟨[], hOv j t x, [], fun F hF => noC, fun _ _ => noL, fun F => ?_⟩
   refine Yj (YV' W a l.length c j t x F) ⟨⟨?_, rfl, .inl ⟨rfl, ⟨j + 1, h1⟩, B7' h1, [], by kernel_rfl, by kernel_rfl, ⟨by rw [enx]; exact Ya, Ya, Ya, Ya, Ye⟩, Ye⟩⟩⟩
   simp only [ch', e1, h1, q1, t1, t2, k1, k2, Option.getD_some, Option.isSome_some, bl', true_and, and_true]; and_intros; all_goals first | (with_reducible exact C8' hw) | (with_reducible exact A4' e1) | (with_reducible exact M2' (c_eq hsj)) | (with_reducible exact M2' (a_eq hu)) | (with_reducible exact M2' (a_eq hh)) | (with_reducible exact M2' (h_eq hu)) | (with_reducible exact M2' (st_eq hh)) | (with_reducible exact Ye) | (with_reducible exact rfl) | (with_reducible exact Ya) | exact rfl | exact Ya
  ·have hje : j = l.length := ω
   subst hje; rw [List.take_length]
   refine ⟨[], AE' [hf' fOv 2 0], [], fun _ _ => noC, fun _ _ => noL, fun F => ?_⟩
   refine Yj (YW' W oa l.length c (ovr s l) F) ⟨⟨?_, rfl, .inr ⟨rfl, [], by kernel_rfl, by kernel_rfl, ⟨Ya, Ye⟩, Ye⟩⟩⟩
   simp only [ch', and_true]; exact A4' (ltFN (Yd))
 have hl : ∀ F, AK' W F -> L1OK Θ F (A3' fOv 2) (lOv oa l.length c s (ovr s l)) := fun F hF =>
  CE' hF (fun _ => RO.ret _) (fun _ _ => hloop) fun _ => by
   simp only [RT.pick]; exact BQ' rfl rfl (A0' Ye (A0' Ye (A0' Ye (A0' Ye A1')))) A1' (A0' Ye A1') A1'
 refine AM' (con := []) (hints := BM') (lc := [(fOv, 2, A3' fOv 2, lOv oa l.length c s (ovr s l))]) [] rfl (fun F _ => noC) (fun F hF => CJ' (hl F hF)) fun F => ?_
 refine Yj (oOv_eq W oa l.length c s (ovr s l) F) ⟨⟨?_, (AJ' (vs' := [uN (ovr s l)]) (H' := []) [] rfl rfl (Yb) trivial).fits rfl⟩⟩
 simp only [ch', bl', true_and, and_true]; and_intros; all_goals first | (with_reducible exact Ye) | (with_reducible exact rfl) | (with_reducible exact Yb) | exact rfl | exact Yb | ((repeat (first | exact VW.nil | refine VW.cons Ya ?_ | refine VW.cons (Wk.any _) ?_)); done)
theorem TT' {N : A7'} {xs : List AV} {ys : List Value} (h : VRs N (vmap pre ++ xs) ys) : ∃ zs, ys = pre ++ zs /\ VRs N xs zs := by
 induction pre generalizing ys with
 | nil => exact ⟨ys, rfl, h⟩
 | cons p pre ih =>
  obtain ⟨y, r, q1, q2, rfl⟩ := h; obtain ⟨zs, rfl, h2⟩ := ih q2; have : y = p := VR_v.1 q1; subst this; exact ⟨zs, rfl, h2⟩
theorem rB_raw {N : A7'} {k : Nat} {D : Nat -> Prop} {w : World} {l : Bs} {y : Value} (hb : l.length <= big) (hp : 0 < l.length) (ho : OR N k (rB l) D w) (h : VR N (sB k l.length) y) : ∃ a c, y = .slice (some a) l.length c /\ BAt w.cell? (some a) l /\ l.length <= c := by
 have h0c := h; obtain ⟨lo, x, c, h1, rfl, h3⟩ := M8' h
 have hcap : l.length <= c := by
  simp only [sB, VR] at h0c; obtain ⟨l', x', c', _, e2, _, _, _, e6⟩ := h0c; simp only [Value.slice.injEq] at e2; rw [e2.2.2]; exact e6
 rw [show rB l = .cells (vmap (l.map fun b => .int .u8 b.toNat)) (2 * 5) by rw [rB, D7']] at ho
 obtain ⟨lo', h1', h0, h2⟩ := NF' ho; rw [h1] at h1'; cases h1'
 refine ⟨_, _, rfl, ⟨hb, fun i b hi => ⟨_, rfl, ?_⟩⟩, hcap⟩
 rw [h3 hp, h0, Nat.mul_one]; have hq := h2 i (.int .u8 b.toNat) (by rw [List.getElem?_map, hi]; rfl)
 have e : ((Addr.mk lo.blk 0 none).add i) = Addr.mk lo.blk i none := by
  unfold Addr.add; split
  ·rename_i hi; subst hi; rfl
  ·show Addr.mk lo.blk (0 + i) none = _; rw [Nat.zero_add]
 rw [e]; exact (KI' hq).2
theorem RS' (K : World -> Prop) (hm : ∀ W W' : World, (∀ a v, W.cell? a = some v -> W'.cell? a = some v) -> K W -> K W') (W : World) (hN : K W) {l : Bs} (hb : l.length <= big) (hp : 0 < l.length) (hl : A9' 1100 H' = true) (hd : ∀ i o, getO H' i = some o -> 1000 <= i /\ getO [(0, rB l)] i = none)
  (h : ∀ W', K W' -> ∀ oa c, BAt W'.cell? oa l -> l.length <= c -> Tri Θ W' f (vmap pre ++ [slV oa l.length c]) [] v H') : Tri Θ W f (vmap pre ++ [sB 0 l.length]) [(0, rB l)] v ([(0, rB l)] ++ H') := by
 refine XO' (H := [(0, rB l)]) (H' := H') rfl hl hd fun W0 F N w vargs hF hNB r ha => ?_
 obtain ⟨zs, e, hz⟩ := TT' ha; obtain ⟨y, r1, q1, q2, rfl⟩ := hz; have q2 : r1 = [] := q2; subst q2
 have hfo : (AN' [(0, rB l)]).find 0 = some (rB l) := by rw [AH' χ]; rfl
 obtain ⟨D, hO⟩ := r.obj hfo; obtain ⟨a, c, rfl, hB, hC⟩ := rB_raw hb hp hO q1; have r0 := r; obtain ⟨_, _, _, D0, _, hD0, _, _⟩ := r0; have hold : ∀ a v, W.cell? a = some v -> w.cell? a = some v := HH' (hF D0 w hD0); have := h w (hm W w hold hN) (some a) c hB hC; refine ⟨pre ++ [.slice (some a) l.length c], e, ?_⟩
 have e2 : vmap (pre ++ [.slice (some a) l.length c]) = vmap pre ++ [slV (some a) l.length c] := by simp [vmap, slV]
 rw [e2]; exact this
theorem W8' (W : World) (hN : LN W) {l : Bs} (hb : l.length <= big) (hp : 0 < l.length) (hl : A9' 1100 H' = true) (hd : ∀ i o, getO H' i = some o -> 1000 <= i /\ getO [(0, rB l)] i = none)
  (h : ∀ W', LN W' -> ∀ oa c, BAt W'.cell? oa l -> l.length <= c -> Tri Θ W' f (vmap pre ++ [slV oa l.length c]) [] v H') : Tri Θ W f (vmap pre ++ [sB 0 l.length]) [(0, rB l)] v ([(0, rB l)] ++ H') :=
 RS' LN (fun _ _ h k => k.mono h) W hN hb hp hl hd h
noncomputable section
abbrev fNw : Nat := 44
abbrev fNu : Nat := 68
abbrev fLo : Nat := 81
abbrev fRw : Nat := 83
abbrev fBy : Nat := 47
abbrev fCl : Nat := 32
abbrev tWr : TypeId := 2 * 131
abbrev nilS : AV := .v (.slice none 0 0)
abbrev k5' : Cnd := (f' (Wk (b' false) g'))
theorem ZR' (W : World) (a : Addr) (n c : Nat) (F : HP) : wRun [] (AE' [hf' fCl 1 1]) [] W fCl [slV (some a) n c] [] [1100, 1101, 1102, 1103] F = VT.leaf (AV.slice 1101 0 (0 + n) 1 (Cp.lo (0 + n))) [some (ce' (rep [v' (vi' u8' (o' 0))] 0) 10),some (ce' ([] ++ vmap (AL' W a (n * 1))) 10),none,none] 1102 (k5'.a (((p' (n.ble n = true)).a ((p' (((List.range (n * 1)).all fun j => (W.cell? (a.add j)).isSome) = true)).a ((p' ((vmap (AL' W a (n * 1))).all AV.one = true)).a ((p' (Nat.blt 0 n = true)).a (tt'.a ((p' (((0 + n) * 1).ble 140737488355328 = true)).a ((p' ((0 + n).ble 9223372036854775807 = true)).a (tt'.a (f' (Nat.blt 0 (0 + n) = true)))))))))).a k1')) := χ
def wZ : AO := .cells [nilS, iv 0] tWr
def wC (p : Nat) : AO := .cells [sB 1001 p, iv 0] tWr
def wH (p : Nat) (l : Bs) : LH := [(0, wC p), (1001, rB l)]
theorem oNw_eq (F : HP) : wRun [] BM' [] default fNw [] [] [1100, 1101] F = VT.leaf (pt' 1100 0) [some (ce' [e',i' 0] 262),none] 1101 k1' := χ
def aNu (n : Nat) (i : Int) : List (Nat × AV) := [(0, .ptr 0 0), (2, iv (o' n)), (6, iv i)]
def kNu : List Nat := [0, 1001, 1100, 1101, 1102, 1103]
abbrev k6' : Cnd := (f' (Wk (i' 2) (i' 2)))
abbrev k7' : Cnd := (fe' true)
abbrev k8' : Cnd := (tt'.a (tt'.a (tt'.a (tt'.a (ee' true)))))
abbrev k9' (q0 : Nat) (q1 : UInt8) : Cnd := (f' (Wk (v' (vi' u8' (IntKind.u8.wrap ((o' q0).fdiv (o' 16777216))))) (v' (vi' u8' ↑q1.toNat))))
abbrev h10' (z : Cnd) : Cnd := ((f' (Wk (b' true) j')).a ((fe' true).a z))
theorem Z1' (n : Nat) (b : UInt8) (F : HP) : BK' [] (AE' [ht' fNu 2 1, (fNu, 4, 9, hv (byv b)), (fNu, 3, 1, hv (iv 2))]) [] default fNu (A3' fNu 2) (tms 0 30 (aNu n 3)) [(0, wZ)] kNu [0, 2, 6] F = VT.leaf (AX.normal,[pt' 0 0,i' n,i' 2],30) [some (ce' [AV.slice 1101 0 1 1 (Cp.lo 1),i' 0] 262),none,some (ce' [v' (vi' u8' ↑b.toNat)] 10),some (ce' [v' (vi' u8' ↑b.toNat)] 10),none,none] 1102 (h10' ((k9' n b).a (k8'.a (k7'.a (k6'.a k1'))))) := χ
abbrev h11' (q0 : Nat) (q1 : Bs) (z : Cnd) : Cnd := ((tt'.a (tt'.a (tt'.a (tt'.a ((p' ((0 + q0 * 1).ble (rowV encB q1).length = true)).a ((p' (((q0 + 1) * 1).ble 140737488355328 = true)).a ((p' ((q0 + 1).ble 9223372036854775807 = true)).a (f' ((List.take (q0 * 1) (List.drop 0 (rowV encB q1))).length.beq (q0 * 1) = true))))))))).a ((fe' true).a z))
theorem Z3' (n p : Nat) (l : Bs) (b : UInt8) (F : HP) : BK' [] (AE' [ht' fNu 2 1, (fNu, 4, 9, hv (byv b)), (fNu, 3, 1, hv (iv 2))]) [] default fNu (A3' fNu 2) (tms 0 30 (aNu n 3)) (wH p l) kNu [0, 2, 6] F = VT.leaf (AX.normal,[pt' 0 0,i' n,i' 2],30) [some (ce' [AV.slice 1101 0 (p + 1) 1 (Cp.lo (p + 1)),i' 0] 262),none,some (ce' [v' (vi' u8' ↑b.toNat)] 10),some (ce' (List.take (p * 1) (List.drop 0 (rowV encB l)) ++ [v' (vi' u8' ↑b.toNat)]) 10),none,none] 1102 (h10' ((k9' n b).a (h11' p l (k6'.a k1')))) := χ
abbrev k12' : Cnd := (f' (Wk (i' 1) (i' 1)))
theorem Z4' (n p : Nat) (l : Bs) (b : UInt8) (F : HP) : BK' [] (AE' [ht' fNu 2 1, (fNu, 4, 9, hv (byv b)), (fNu, 3, 1, hv (iv 1))]) [] default fNu (A3' fNu 2) (tms 0 30 (aNu n 2)) (wH p l) kNu [0, 2, 6] F = VT.leaf (AX.normal,[pt' 0 0,i' n,i' 1],30) [some (ce' [AV.slice 1101 0 (p + 1) 1 (Cp.lo (p + 1)),i' 0] 262),none,some (ce' [v' (vi' u8' ↑b.toNat)] 10),some (ce' (List.take (p * 1) (List.drop 0 (rowV encB l)) ++ [v' (vi' u8' ↑b.toNat)]) 10),none,none] 1102 (h10' ((f' (Wk (v' (vi' u8' (IntKind.u8.wrap ((o' n).fdiv (o' 65536))))) (v' (vi' u8' ↑b.toNat)))).a (h11' p l (k12'.a k1')))) := χ
abbrev k13' : Cnd := (f' (Wk (i' 0) (i' 0)))
theorem Z5' (n p : Nat) (l : Bs) (b : UInt8) (F : HP) : BK' [] (AE' [ht' fNu 2 1, (fNu, 4, 9, hv (byv b)), (fNu, 3, 1, hv (iv 0))]) [] default fNu (A3' fNu 2) (tms 0 30 (aNu n 1)) (wH p l) kNu [0, 2, 6] F = VT.leaf (AX.normal,[pt' 0 0,i' n,i' 0],30) [some (ce' [AV.slice 1101 0 (p + 1) 1 (Cp.lo (p + 1)),i' 0] 262),none,some (ce' [v' (vi' u8' ↑b.toNat)] 10),some (ce' (List.take (p * 1) (List.drop 0 (rowV encB l)) ++ [v' (vi' u8' ↑b.toNat)]) 10),none,none] 1102 (h10' ((f' (Wk (v' (vi' u8' (IntKind.u8.wrap ((o' n).fdiv (o' 256))))) (v' (vi' u8' ↑b.toNat)))).a (h11' p l (k13'.a k1')))) := χ
theorem Z6' (n p : Nat) (l : Bs) (b : UInt8) (F : HP) : BK' [] (AE' [ht' fNu 2 1, (fNu, 4, 9, hv (byv b)), (fNu, 3, 1, hv (iv (-1)))]) [] default fNu (A3' fNu 2) (tms 0 30 (aNu n 0)) (wH p l) kNu [0, 2, 6] F = VT.leaf (AX.normal,[pt' 0 0,i' n,z' (Int.negSucc 0)],30) [some (ce' [AV.slice 1101 0 (p + 1) 1 (Cp.lo (p + 1)),i' 0] 262),none,some (ce' [v' (vi' u8' ↑b.toNat)] 10),some (ce' (List.take (p * 1) (List.drop 0 (rowV encB l)) ++ [v' (vi' u8' ↑b.toNat)]) 10),none,none] 1102 (h10' ((f' (Wk (v' (vi' u8' (IntKind.u8.wrap ((o' n).fdiv (o' 1))))) (v' (vi' u8' ↑b.toNat)))).a (h11' p l ((f' (Wk (z' (Int.negSucc 0)) (z' (Int.negSucc 0)))).a k1')))) := χ
theorem Z2' (n p : Nat) (l : Bs) (F : HP) : BK' [] (AE' [hf' fNu 2 1]) [] default fNu (A3' fNu 2) (tms 0 30 (aNu n (-1))) (wH p l) kNu [0, 2, 6] F = VT.leaf (AX.exit 0,[pt' 0 0,i' n,z' (Int.negSucc 0)],30) [some (ce' [AV.slice 1001 0 p 1 (Cp.lo p),i' 0] 262),some (ce' (rowV encB l) 10),none,none,none,none] 1100 (k5'.a k1') := χ
def lNu (H : LH) (n : Nat) (H' : LH) : List AV -> AP (AX × List AV) := mkL (fun _ => .ret ()) (fun _ => True) (fun _ k => k) (fun _ => tms 0 30 (aNu n 3)) (fun _ => H) (fun _ => .leaf (.exit 0) (tms 0 30 []) H')
theorem ZE' (n : Nat) (q : Nat) (l : Bs) (F : HP) : wRun [] (AE' [(fNu, 1, 1, hv (iv 3))]) [(fNu, 2, A3' fNu 2, lNu [(0, wZ)] n (wH q l))] default fLo [.ptr 0 0, iv (o' n)] [(0, wZ)] kNu F = VT.leaf (AV.tuple []) [some (ce' [AV.slice 1100 0 q 1 (Cp.lo q),i' 0] 262),none,some (ce' (AV.rens (sgN (fun k => k) [1001] 1100) (rowV encB l)) 10),none,none,none] 1101 (((fe' true).a ((f' (Wk (i' 3) (i' 3))).a ((p' ((fNu,2,A3' fNu 2,lNu [(0,wZ)] n (wH q l)).snd.snd.fst = (fNu,2,A3' fNu 2,lNu [(0,wZ)] n (wH q l)).snd.snd.fst)).a ((Cnd.p True).a ((p' (VW (pt' 0 0::i' 4::i' n::u'::u'::u'::i' 3::pt' 0 0::pt' 0 0::pt' 0 1::i' 4::i' 3::ru16 (u'::u'::[])) (pt' 0 0::a'::i' n::a'::a'::a'::i' 3::ra16 (ra4 (a'::a'::a'::[]))))).a (f' (OW (ce' [e',i' 0] 262) (ce' [e',i' 0] 262)))))))).a k1') := χ
theorem ZD' (n p q : Nat) (k l : Bs) (F : HP) : wRun [] (AE' [(fNu, 1, 1, hv (iv 3))]) [(fNu, 2, A3' fNu 2, lNu (wH p k) n (wH q l))] default fLo [.ptr 0 0, iv (o' n)] (wH p k) kNu F = VT.leaf (AV.tuple []) [some (ce' [AV.slice 1100 0 q 1 (Cp.lo q),i' 0] 262),none,some (ce' (AV.rens (sgN (fun k => k) [1001] 1100) (rowV encB l)) 10),none,none,none] 1101 (((fe' true).a ((f' (Wk (i' 3) (i' 3))).a ((p' ((fNu,2,A3' fNu 2,lNu (wH p k) n (wH q l)).snd.snd.fst = (fNu,2,A3' fNu 2,lNu (wH p k) n (wH q l)).snd.snd.fst)).a ((Cnd.p True).a ((p' (VW (pt' 0 0::i' 4::i' n::u'::u'::u'::i' 3::pt' 0 0::pt' 0 0::pt' 0 1::i' 4::i' 3::ru16 (u'::u'::[])) (pt' 0 0::a'::i' n::a'::a'::a'::i' 3::ra16 (ra4 (a'::a'::a'::[]))))).a ((ow' (ce' [AV.slice 1001 0 p 1 (Cp.lo p),i' 0] 262)).a (f' (OW (ce' (rowV encB k) 10) (ce' (AV.rens (fun k => k) (rowV encB k)) 10))))))))).a k1') := χ
def cClB (p : Nat) (l : Bs) : List AV -> Option (AP AV) := mkC (fun args => match args with | [.slice i _ _ _ _] => .ret i | _ => .fail "clone") (fun _ => True) (fun i k => match k with | 0 => i | k => k) (fun _ => [sB 0 p]) (fun _ => [(0, rB l)]) (fun _ => .leaf .ret [sB 1000 p] [(0, rB l), (1000, rB l)])
theorem oBy_eq (p : Nat) (l : Bs) (F : HP) : wRun [(fCl, cClB p l)] BM' [] default fBy [.ptr 0 0] (wH p l) kNu F = VT.leaf (AV.slice 1100 0 p 1 (Cp.lo p)) [some (ce' [AV.slice 1001 0 p 1 (Cp.lo p),i' 0] 262),some (ce' (AV.rens (sgN (fun k => match k with | 0 => 1001 | k => k) [1000] 1100) (rowV encB l)) 10),some (ce' (AV.rens (sgN (fun k => match k with | 0 => 1001 | k => k) [1000] 1100) (rowV encB l)) 10),none,none,none] 1101 (k7'.a (((Cnd.p True).a ((vw' [AV.slice 1001 0 p 1 (Cp.lo p)]).a (f' (OW (ce' (rowV encB l) 10) (ce' (AV.rens (fun k => match k with | 0 => 1001 | k => k) (rowV encB l)) 10))))).a k1')) := χ
abbrev h14' (z : Cnd) : Cnd := ((fe' true).a ((fe' true).a z))
theorem oRw_eq (W : World) (a : Addr) (p n c : Nat) (l : Bs) (F : HP) : wRun [] BM' [] W fRw [.ptr 0 0, slV (some a) n c] (wH p l) kNu F = VT.leaf (AV.tuple []) [some (ce' [AV.slice 1100 0 (p + n) 1 (Cp.lo (p + n)),i' 0] 262),none,some (ce' (List.take (p * 1) (List.drop 0 (rowV encB l)) ++ vmap (AL' W a (n * 1))) 10),none,none,none] 1101 (h14' (((p' (n.ble n = true)).a ((p' (((List.range (n * 1)).all fun j => (W.cell? (a.add j)).isSome) = true)).a ((p' ((vmap (AL' W a (n * 1))).all AV.one = true)).a ((p' (Nat.blt 0 n = true)).a ((p' ((0 + p * 1).ble (rowV encB l).length = true)).a ((p' (((p + n) * 1).ble 140737488355328 = true)).a ((p' ((p + n).ble 9223372036854775807 = true)).a (f' ((List.take (p * 1) (List.drop 0 (rowV encB l))).length.beq (p * 1) = true))))))))).a (k7'.a k1'))) := χ
theorem YO' (W : World) (a : Addr) (p c : Nat) (l : Bs) (F : HP) : wRun [] (AE' [(fRw, 1, 6, h0)]) [] W fRw [.ptr 0 0, slV (some a) 0 c] (wH p l) kNu F = VT.leaf (AV.tuple []) [some (ce' [AV.slice 1001 0 p 1 (Cp.lo p),i' 0] 262),some (ce' (rowV encB l) 10),none,none,none,none] 1100 (h14' ((fe' 0).a (k7'.a k1'))) := χ
theorem YN' (W : World) (p c : Nat) (l : Bs) (F : HP) : wRun [] (AE' [(fRw, 1, 6, h0)]) [] W fRw [.ptr 0 0, slV none 0 c] (wH p l) kNu F = VT.leaf (AV.tuple []) [some (ce' [AV.slice 1001 0 p 1 (Cp.lo p),i' 0] 262),some (ce' (rowV encB l) 10),none,none,none,none] 1100 (h14' ((fe' 0).a (k7'.a k1'))) := χ
end
theorem MO' {a : Addr} {l : Bs} (h : BAt W.cell? (some a) l) : ((List.range (l.length * 1)).all fun j => (W.cell? (a.add j)).isSome) = true /\ vmap (AL' W a (l.length * 1)) = rowV encB l := by
 have hc : ∀ i b, l[i]? = some b -> W.cell? (a.add i) = some (.int .u8 (b.toNat : Int)) := fun i b hb => by
  obtain ⟨a', e, q⟩ := h.2 i b hb; obtain rfl := Option.some.inj e
  rwa [Nat.mul_one] at q
 rw [Nat.mul_one, D7']
 refine ⟨List.all_eq_true.2 fun j hj => ?_, congrArg vmap ?_⟩
 ·obtain ⟨b, hb⟩ := B1' (l := l) (List.mem_range.1 hj); rw [hc j b hb]; rfl
 ·unfold AL'
  refine List.ext_getElem (by simp) fun j h1 h2 => ?_
  have hj : j < l.length := by simpa using h1
  simp only [List.getElem_map, List.getElem_range]; rw [hc j l[j] (List.getElem?_eq_getElem hj)]; rfl
theorem S1' (l : Bs) : (rowV encB l).all AV.one = true := by
 rw [D7']
 induction l with
 | nil => rfl
 | cons a l ih => exact ih
theorem cl_tri (W : World) (oa : Option Addr) (c : Nat) (l : Bs) (h : BAt W.cell? oa l) (hp : 0 < l.length) : Tri Θ W fCl [slV oa l.length c] [] (sB 1000 l.length) [(1000, rB l)] := by
 obtain ⟨x, hx⟩ := B1' (l := l) hp; obtain ⟨a, rfl, _⟩ := h.2 0 x hx; have hb : l.length <= 140737488351232 := h.1; have b1 : l.length.ble l.length = true := AW' (Yd); obtain ⟨b2, b3⟩ := MO' h
 have b4 : (vmap (AL' W a (l.length * 1))).all AV.one = true := by rw [b3]; exact S1' l
 have b5 : ((0 + l.length) * 1).ble 140737488355328 = true := AW' ω; have b6 : (0 + l.length).ble 9223372036854775807 = true := AW' ω
 have b8 : 0 < 0 + l.length := ω
 refine AM' (con := []) (hints := AE' [hf' fCl 1 1]) (lc := []) [1100, 1101, 1102, 1103] rfl (fun _ _ => noC) (fun F _ => noL) fun F => ?_
 refine Yj (ZR' W a l.length c F) ⟨⟨?_, (AJ' (vs' := [sB 1000 l.length]) (H' := [(1000, rB l)]) [(1000, 1101)] rfl rfl (by rw [Nat.zero_add]; exact Yb) ⟨⟨_, rfl, by rw [List.nil_append]; exact BO' b3 rfl⟩, Ye⟩).fits rfl⟩⟩; simp only [ch', bl', true_and, and_true]; exact ⟨B0' _, b1, b2, b4, hp, b5, b6, b8⟩
theorem aQ' (W : World) (l : Bs) (hb : l.length <= big) (hp : 0 < l.length) : Tri Θ W fCl [sB 0 l.length] [(0, rB l)] (sB 1000 l.length) [(0, rB l), (1000, rB l)] :=
 RS' (fun _ => True) (fun _ _ _ _ => trivial) W trivial (pre := []) (H' := [(1000, rB l)]) hb hp rfl (fun i o h => by
  simp only [getO] at h ⊢
  by_cases e : i = 1000
  ·subst e; exact ⟨δ, by simp⟩
  ·rw [if_neg e] at h; cases h) fun W' _ oa c h _ => cl_tri W' oa c l h hp
def wL : Bs -> LH
 | [] => [(0, wZ)]
 | b :: l => wH (l.length + 1) (b :: l)
def wHP (l : Bs) : Nat -> Nat -> HP := exHP (fun _ : Unit => True) (fun _ => wL l)
def wM (m : Md) (l : Bs) : AO := .own m (wHP l)
theorem DT' {l : Bs} (h : l ≠ []) : wL l = wH l.length l := by
 cases l with
 | nil => exact absurd rfl h
 | cons b l => rfl
theorem wL_cl : ∀ l : Bs, ∀ x ∈ wL l, x.2.cl (kH (wL l))
 | [] => A0' ⟨Ye, Ye, Ye⟩ A1'
 | b :: l => A0' ⟨rfl, Ye, Ye⟩ (A0' (C5' _ _) A1')
theorem O3' : ∀ l : Bs, ∃ cs e, getO (wL l) 0 = some (.cells cs e) /\ e % 2 = 0
 | [] => ⟨_, _, rfl, by kernel_rfl⟩
 | b :: l => ⟨_, _, rfl, by kernel_rfl⟩
theorem W4' : ∀ l : Bs, ownL [] (wL l) = true
 | [] => rfl
 | b :: l => rfl
theorem MN' {m : Md} {l : Bs} {Ar : List AV} (h : Tri Θ W f Ar (wL l) v H') : Tri Θ W f Ar [(0, wM m l)] v H' :=
 Tri.open (R := fun _ : Unit => True) (L := fun _ => wL l) (H0 := []) (fun _ => W4' l) (fun _ => wL_cl l) (fun _ => by obtain ⟨cs, e, h, _⟩ := O3' l; exact ⟨_, h⟩) fun _ _ => by rw [List.append_nil]; exact h
theorem M9' {m : Md} {l : Bs} {vs : List AV} (hv : AV.cls (fun i => Nat.blt i 1000) vs) : Goes vs (wL l) vs [(0, wM m l)] := by
 have := Goes.shut (R := fun _ : Unit => True) (L := fun _ => wL l) (m := m) (H0 := []) (vs := vs) () trivial (W4' l) (O3' l) (by
  have e : (fun i => Nat.blt i 1000 || (getO ([] : LH) i).isSome) = fun i => Nat.blt i 1000 := by funext i; simp only [getO, Option.isSome_none, Bool.or_false]
  rw [e]; exact hv) (fun x hx => by cases hx)
 rwa [List.append_nil] at this
theorem WK' (m : Md) : Tri Θ default fNw [] [] (.ptr 1000 0) [(1000, wM m [])] := by
 refine AM' (con := []) (hints := BM') (lc := []) [1100, 1101] rfl (fun _ _ => noC) (fun F _ => noL) fun F => ?_
 refine Yj (oNw_eq F) ⟨⟨Ye, [.ptr 1000 0], [(1000, wZ)], [(1000, 1100)], rfl, AJ' (vs' := [.ptr 1000 0]) (H' := [(1000, wZ)]) _ χ χ (Yb) ⟨⟨_, rfl, Yc⟩, Ye⟩, ?_⟩⟩
 exact Goes.shutNew (R := fun _ : Unit => True) (L := fun _ => wL []) (m := m) 1000 δ () trivial χ χ ⟨_, _, rfl, by kernel_rfl⟩ ⟨rfl, Ye⟩
theorem T4' {d : Nat} (hd : 0 < d) : IntKind.u8.wrap ((o' n).fdiv (o' d)) = ((UInt8.ofNat (n / d)).toNat : Int) := by
 have e : (o' n).fdiv (o' d) = ((n / d : Nat) : Int) := by
  show ((n : Int)).fdiv (d : Int) = _; rw [Int.fdiv_eq_ediv_of_nonneg _ ω]; rfl
 rw [e, UInt8.toNat_ofNat', IntKind.wrap_u8]; omega
theorem by_eq1 : IntKind.u8.wrap ((o' n).fdiv (o' 1)) = ((UInt8.ofNat n).toNat : Int) := by
 have h := T4' (n := n) (d := 1) δ
 rwa [Nat.div_one] at h
theorem wk_b {a b : Int} (h : a = b) : Wk (.v (.int .u8 a)) (.v (.int .u8 b)) := by subst h; exact Ya
theorem VS' (n : Nat) : (be4 n).take 0 = [] /\ (be4 n).take 1 = [UInt8.ofNat (n / 16777216)] /\ (be4 n).take 2 = [UInt8.ofNat (n / 16777216)] ++ [UInt8.ofNat (n / 65536)] /\ (be4 n).take 3 = [UInt8.ofNat (n / 16777216), UInt8.ofNat (n / 65536)] ++ [UInt8.ofNat (n / 256)] /\ (be4 n).take 4 = [UInt8.ofNat (n / 16777216), UInt8.ofNat (n / 65536), UInt8.ofNat (n / 256)] ++ [UInt8.ofNat n] := ⟨rfl, rfl, rfl, rfl, rfl⟩
theorem nu_tri (n : Nat) (l : Bs) (hb : l.length + 4 <= 140737488351232) : LTri Θ default (A3' fNu 2) (tms 0 30 (aNu n 3)) (wL l) (.exit 0) (tms 0 30 []) (wL (l ++ be4 n)) := by
 suffices h : LTri Θ default (A3' fNu 2) (tms 0 30 (aNu n 3)) (wL (l ++ (be4 n).take 0)) (.exit 0) (tms 0 30 []) (wL (l ++ be4 n)) by rwa [List.take_zero, List.append_nil] at h
 refine BG' (W := default) (g := fNu) (b := A3' fNu 2) (σ := {j : Nat // j <= 4}) 30 (fun j => aNu n (3 - (j.1 : Int))) (fun j => wL (l ++ (be4 n).take j.1)) (.exit 0) [] (wL (l ++ be4 n)) (fun j => 4 - j.1) kNu [0, 2, 6] (by intro h; cases h) (fun j => by
  cases (l ++ (be4 n).take j.1) with
  | nil => rfl
  | cons b l => rfl) (by
  cases (l ++ be4 n) with
  | nil => rfl
  | cons b l => rfl) ?_ ⟨0, Nat.zero_le _⟩
 rintro ⟨j, hj⟩; simp only; obtain ⟨t0, t1, t2, t3, t4⟩ := VS' n
 rcases j with _|_|_|_|_|j
 ·cases l with
  | nil =>
   refine ⟨[], AE' [ht' fNu 2 1, (fNu, 4, 9, hv (byv (UInt8.ofNat (n / 16777216)))), (fNu, 3, 1, hv (iv 2))], [], fun F hF => noC, fun _ _ => noL, fun F => ?_⟩
   refine Yj (Z1' n (UInt8.ofNat (n / 16777216)) F) ⟨⟨?_, rfl, .inl ⟨rfl, ⟨1, by omega⟩, by simp only; omega, [(1001, 1101)], by kernel_rfl, by kernel_rfl, ⟨Ya, Ya, Ya, Ye⟩, ⟨_, rfl, Yc⟩, ⟨_, rfl, BO' rfl rfl⟩, Ye⟩⟩⟩
   simp only [ch', bl', true_and, and_true]; and_intros; all_goals exact Kc3'
  | cons x l =>
   rw [t0, List.append_nil]
   have hne : x :: l ≠ [] := by simp
   have hne2 : (x :: l) ++ [UInt8.ofNat (n / 16777216)] ≠ [] := by simp
   have hl1 : ((x :: l) ++ [UInt8.ofNat (n / 16777216)]).length = (x :: l).length + 1 := la'; rw [DT' hne]; have k1 : (0 + (x :: l).length * 1).ble (rowV encB (x :: l)).length = true := O9' rfl; have k2 : (((x :: l).length + 1) * 1).ble 140737488355328 = true := AW' (by have := hb; simp only [List.length_cons] at *; omega); have k3 : ((x :: l).length + 1).ble 9223372036854775807 = true := AW' (by have := hb; simp only [List.length_cons] at *; omega); have k4 := GI' (P := x :: l) rfl
   refine ⟨[], AE' [ht' fNu 2 1, (fNu, 4, 9, hv (byv (UInt8.ofNat (n / 16777216)))), (fNu, 3, 1, hv (iv 2))], [], fun F hF => noC, fun _ _ => noL, fun F => ?_⟩
   refine Yj (Z3' n (x :: l).length (x :: l) (UInt8.ofNat (n / 16777216)) F) ⟨⟨?_, rfl, .inl ⟨rfl, ⟨1, by omega⟩, by simp only; omega, [(1001, 1101)], ?_⟩⟩⟩
   ·exact Cc0'
   ·show FitT _ _ _ _ _ (wL ((x :: l) ++ (be4 n).take 1)) _
    rw [show (x :: l) ++ (be4 n).take 1 = (x :: l) ++ [UInt8.ofNat (n / 16777216)] by simp [be4], DT' hne2, hl1]
    exact ⟨χ, by kernel_rfl, ⟨Ya, Ya, Ya, Ye⟩, ⟨_, rfl, Yc⟩, ⟨_, rfl, BO' (GJ' rfl [UInt8.ofNat (n / 16777216)]) rfl⟩, Ye⟩
 ·rw [show l ++ (be4 n).take 1 = l ++ [UInt8.ofNat (n / 16777216)] by simp [be4]]
  have hne : l ++ [UInt8.ofNat (n / 16777216)] ≠ [] := by simp
  have hlen : (l ++ [UInt8.ofNat (n / 16777216)]).length = l.length + 1 := by simp
  have hne2 : l ++ [UInt8.ofNat (n / 16777216)] ++ [UInt8.ofNat (n / 65536)] ≠ [] := by simp
  have hl1 : (l ++ [UInt8.ofNat (n / 16777216)] ++ [UInt8.ofNat (n / 65536)]).length = (l ++ [UInt8.ofNat (n / 16777216)]).length + 1 := la'; rw [DT' hne]; have k1 : (0 + (l ++ [UInt8.ofNat (n / 16777216)]).length * 1).ble (rowV encB (l ++ [UInt8.ofNat (n / 16777216)])).length = true := O9' rfl; have k2 : (((l ++ [UInt8.ofNat (n / 16777216)]).length + 1) * 1).ble 140737488355328 = true := AW' (by rw [hlen]; omega); have k3 : ((l ++ [UInt8.ofNat (n / 16777216)]).length + 1).ble 9223372036854775807 = true := AW' (by rw [hlen]; omega); have k4 := GI' (P := l ++ [UInt8.ofNat (n / 16777216)]) rfl
  refine ⟨[], AE' [ht' fNu 2 1, (fNu, 4, 9, hv (byv (UInt8.ofNat (n / 65536)))), (fNu, 3, 1, hv (iv 1))], [], fun F hF => noC, fun _ _ => noL, fun F => ?_⟩
  refine Yj (Z4' n (l ++ [UInt8.ofNat (n / 16777216)]).length (l ++ [UInt8.ofNat (n / 16777216)]) (UInt8.ofNat (n / 65536)) F) ⟨⟨?_, rfl, .inl ⟨rfl, ⟨2, by omega⟩, by simp only; omega, [(1001, 1101)], ?_⟩⟩⟩
  ·exact Cc0'
  ·show FitT _ _ _ _ _ (wL (l ++ (be4 n).take 2)) _
   rw [show l ++ (be4 n).take 2 = l ++ [UInt8.ofNat (n / 16777216)] ++ [UInt8.ofNat (n / 65536)] by simp [be4], DT' hne2, hl1]
   exact ⟨χ, by kernel_rfl, ⟨Ya, Ya, Ya, Ye⟩, ⟨_, rfl, Yc⟩, ⟨_, rfl, BO' (GJ' rfl [UInt8.ofNat (n / 65536)]) rfl⟩, Ye⟩
 ·rw [show l ++ (be4 n).take 2 = l ++ [UInt8.ofNat (n / 16777216), UInt8.ofNat (n / 65536)] by simp [be4]]
  have hne : l ++ [UInt8.ofNat (n / 16777216), UInt8.ofNat (n / 65536)] ≠ [] := by simp
  have hlen : (l ++ [UInt8.ofNat (n / 16777216), UInt8.ofNat (n / 65536)]).length = l.length + 2 := by simp
  have hne2 : l ++ [UInt8.ofNat (n / 16777216), UInt8.ofNat (n / 65536)] ++ [UInt8.ofNat (n / 256)] ≠ [] := by simp
  have hl1 : (l ++ [UInt8.ofNat (n / 16777216), UInt8.ofNat (n / 65536)] ++ [UInt8.ofNat (n / 256)]).length = (l ++ [UInt8.ofNat (n / 16777216), UInt8.ofNat (n / 65536)]).length + 1 := la'; rw [DT' hne]; have k1 : (0 + (l ++ [UInt8.ofNat (n / 16777216), UInt8.ofNat (n / 65536)]).length * 1).ble (rowV encB (l ++ [UInt8.ofNat (n / 16777216), UInt8.ofNat (n / 65536)])).length = true := O9' rfl; have k2 : (((l ++ [UInt8.ofNat (n / 16777216), UInt8.ofNat (n / 65536)]).length + 1) * 1).ble 140737488355328 = true := AW' (by rw [hlen]; omega); have k3 : ((l ++ [UInt8.ofNat (n / 16777216), UInt8.ofNat (n / 65536)]).length + 1).ble 9223372036854775807 = true := AW' (by rw [hlen]; omega); have k4 := GI' (P := l ++ [UInt8.ofNat (n / 16777216), UInt8.ofNat (n / 65536)]) rfl
  refine ⟨[], AE' [ht' fNu 2 1, (fNu, 4, 9, hv (byv (UInt8.ofNat (n / 256)))), (fNu, 3, 1, hv (iv 0))], [], fun F hF => noC, fun _ _ => noL, fun F => ?_⟩
  refine Yj (Z5' n (l ++ [UInt8.ofNat (n / 16777216), UInt8.ofNat (n / 65536)]).length (l ++ [UInt8.ofNat (n / 16777216), UInt8.ofNat (n / 65536)]) (UInt8.ofNat (n / 256)) F) ⟨⟨?_, rfl, .inl ⟨rfl, ⟨3, by omega⟩, by simp only; omega, [(1001, 1101)], ?_⟩⟩⟩
  ·exact Cc0'
  ·show FitT _ _ _ _ _ (wL (l ++ (be4 n).take 3)) _
   rw [show l ++ (be4 n).take 3 = l ++ [UInt8.ofNat (n / 16777216), UInt8.ofNat (n / 65536)] ++ [UInt8.ofNat (n / 256)] by simp [be4], DT' hne2, hl1]
   exact ⟨χ, by kernel_rfl, ⟨Ya, Ya, Ya, Ye⟩, ⟨_, rfl, Yc⟩, ⟨_, rfl, BO' (GJ' rfl [UInt8.ofNat (n / 256)]) rfl⟩, Ye⟩
 ·rw [show l ++ (be4 n).take 3 = l ++ [UInt8.ofNat (n / 16777216), UInt8.ofNat (n / 65536), UInt8.ofNat (n / 256)] by simp [be4]]
  have hne : l ++ [UInt8.ofNat (n / 16777216), UInt8.ofNat (n / 65536), UInt8.ofNat (n / 256)] ≠ [] := by simp
  have hlen : (l ++ [UInt8.ofNat (n / 16777216), UInt8.ofNat (n / 65536), UInt8.ofNat (n / 256)]).length = l.length + 3 := by simp
  have hne2 : l ++ [UInt8.ofNat (n / 16777216), UInt8.ofNat (n / 65536), UInt8.ofNat (n / 256)] ++ [UInt8.ofNat n] ≠ [] := by simp
  have hl1 : (l ++ [UInt8.ofNat (n / 16777216), UInt8.ofNat (n / 65536), UInt8.ofNat (n / 256)] ++ [UInt8.ofNat n]).length = (l ++ [UInt8.ofNat (n / 16777216), UInt8.ofNat (n / 65536), UInt8.ofNat (n / 256)]).length + 1 := la'; rw [DT' hne]; have k1 : (0 + (l ++ [UInt8.ofNat (n / 16777216), UInt8.ofNat (n / 65536), UInt8.ofNat (n / 256)]).length * 1).ble (rowV encB (l ++ [UInt8.ofNat (n / 16777216), UInt8.ofNat (n / 65536), UInt8.ofNat (n / 256)])).length = true := O9' rfl; have k2 : (((l ++ [UInt8.ofNat (n / 16777216), UInt8.ofNat (n / 65536), UInt8.ofNat (n / 256)]).length + 1) * 1).ble 140737488355328 = true := AW' (by rw [hlen]; omega); have k3 : ((l ++ [UInt8.ofNat (n / 16777216), UInt8.ofNat (n / 65536), UInt8.ofNat (n / 256)]).length + 1).ble 9223372036854775807 = true := AW' (by rw [hlen]; omega); have k4 := GI' (P := l ++ [UInt8.ofNat (n / 16777216), UInt8.ofNat (n / 65536), UInt8.ofNat (n / 256)]) rfl
  refine ⟨[], AE' [ht' fNu 2 1, (fNu, 4, 9, hv (byv (UInt8.ofNat n))), (fNu, 3, 1, hv (iv (-1)))], [], fun F hF => noC, fun _ _ => noL, fun F => ?_⟩
  refine Yj (Z6' n (l ++ [UInt8.ofNat (n / 16777216), UInt8.ofNat (n / 65536), UInt8.ofNat (n / 256)]).length (l ++ [UInt8.ofNat (n / 16777216), UInt8.ofNat (n / 65536), UInt8.ofNat (n / 256)]) (UInt8.ofNat n) F) ⟨⟨?_, rfl, .inl ⟨rfl, ⟨4, by omega⟩, by simp only; omega, [(1001, 1101)], ?_⟩⟩⟩
  ·simp only [ch', bl', true_and, and_true, k1, k2, k3, k4]; and_intros; all_goals first | (with_reducible exact Ye) | (with_reducible exact rfl) | (with_reducible exact Ya) | (with_reducible exact Yb) | (with_reducible exact Yc) | (with_reducible exact B0' _) | (with_reducible assumption) | exact wk_b by_eq1 | exact Kc1'
  ·show FitT _ _ _ _ _ (wL (l ++ (be4 n).take 4)) _
   rw [show l ++ (be4 n).take 4 = l ++ [UInt8.ofNat (n / 16777216), UInt8.ofNat (n / 65536), UInt8.ofNat (n / 256)] ++ [UInt8.ofNat n] by simp [be4], DT' hne2, hl1]
   exact ⟨χ, by kernel_rfl, ⟨Ya, Ya, Ya, Ye⟩, ⟨_, rfl, Yc⟩, ⟨_, rfl, BO' (GJ' rfl [UInt8.ofNat n]) rfl⟩, Ye⟩
 ·rw [show (be4 n).take 4 = be4 n from rfl]
  have hne : l ++ be4 n ≠ [] := by simp [be4]
  rw [DT' hne]
  refine ⟨[], AE' [hf' fNu 2 1], [], fun F hF => noC, fun _ _ => noL, fun F => ?_⟩
  refine Yj (Z2' n (l ++ be4 n).length (l ++ be4 n) F) ⟨⟨?_, rfl, .inr ⟨rfl, [(1001, 1001)], by kernel_rfl, by kernel_rfl, Ye, ⟨_, rfl, Yc⟩, ⟨_, rfl, OW.of_eq (WB' _ _).symm⟩, Ye⟩⟩⟩
  exact Cc1'
 ·omega
theorem T5' (l : Bs) (n : Nat) : l ++ be4 n ≠ [] := by simp [be4]
theorem WT' {k : Bs} (hb : k.length + 4 <= 140737488351232) (F : HP) : L1OK Θ F (A3' fNu 2) (lNu (wL k) n (wL (k ++ be4 n))) :=
 CE' (W := default) BC' (fun _ => RO.ret _) (fun _ _ => nu_tri n k hb) fun _ => by
  simp only [RT.pick]; rw [DT' (T5' k n)]
  cases k with
  | nil => exact BQ' rfl rfl (A0' rfl (A0' Ye (A0' Ye A1'))) (A0' ⟨Ye, Ye, Ye⟩ A1') A1' (A0' ⟨rfl, Ye, Ye⟩ (A0' (C5' _ _) A1'))
  | cons b k => exact BQ' rfl rfl (A0' rfl (A0' Ye (A0' Ye A1'))) (A0' ⟨rfl, Ye, Ye⟩ (A0' (C5' _ _) A1')) A1' (A0' ⟨rfl, Ye, Ye⟩ (A0' (C5' _ _) A1'))
theorem WP' (m m' : Md) (n : Nat) (k : Bs) (hb : k.length + 4 <= 140737488351232) : Tri Θ default fLo [.ptr 0 0, iv (o' n)] [(0, wM m k)] (.tuple []) [(0, wM m' (k ++ be4 n))] := by
 refine MN' ?_
 have hl := fun F => WT' (n := n) hb F
 have e2 := DT' (T5' k n)
 cases k with
 | nil =>
  refine Tri.post (v := .tuple []) (H' := wL ([] ++ be4 n)) ?_ (M9' ⟨Ye, Ye⟩)
  refine AM' (con := []) (hints := AE' [(fNu, 1, 1, hv (iv 3))]) (lc := [(fNu, 2, A3' fNu 2, lNu [(0, wZ)] n (wH 4 (be4 n)))]) kNu rfl (fun _ _ => noC) (fun F _ => CJ' (hl F)) fun F => ?_
  refine Yj (ZE' n 4 (be4 n) F) ⟨⟨?_, (AJ' (vs' := [.tuple []]) (H' := wH 4 (be4 n)) [(1001, 1100)] χ χ (Yb) ⟨⟨_, rfl, Yc⟩, ⟨_, rfl, BO' (AD' _ _) rfl⟩, Ye⟩).fits rfl⟩⟩; exact Cc1'
 | cons b k =>
  refine Tri.post (v := .tuple []) (H' := wL ((b :: k) ++ be4 n)) ?_ (M9' ⟨Ye, Ye⟩); rw [e2]
  have hl' := fun F => hl F
  rw [e2] at hl'
  refine AM' (con := []) (hints := AE' [(fNu, 1, 1, hv (iv 3))]) (lc := [(fNu, 2, A3' fNu 2, lNu (wH (k.length + 1) (b :: k)) n (wH ((b :: k) ++ be4 n).length ((b :: k) ++ be4 n)))]) kNu rfl (fun _ _ => noC) (fun F _ => CJ' (hl' F)) fun F => ?_
  refine Yj (ZD' n (k.length + 1) ((b :: k) ++ be4 n).length (b :: k) ((b :: k) ++ be4 n) F) ⟨⟨?_, (AJ' (vs' := [.tuple []]) (H' := wH ((b :: k) ++ be4 n).length ((b :: k) ++ be4 n)) [(1001, 1100)] χ χ (Yb) ⟨⟨_, rfl, Yc⟩, ⟨_, rfl, BO' (AD' _ _) rfl⟩, Ye⟩).fits rfl⟩⟩; exact Cc2'
theorem LI' {l : Bs} (hb : l.length <= big) (hp : 0 < l.length) (F : HP) : C1OK Θ F fCl (cClB l.length l) :=
 B4' (W := default) BC' (fun _ => sB 1000 l.length) (fun args => by split <;> first | exact RO.ret _ | exact RO.fail _) (fun _ => rfl) (fun _ _ => aQ' default l hb hp) fun _ => ⟨rfl, rfl, ⟨rfl, Ye⟩, A0' (C5' _ _) A1', ⟨rfl, Ye⟩, A0' (C5' _ _) (A0' (C5' _ _) A1')⟩
theorem T3' (m : Md) (k : Bs) (hb : k.length <= big) (hne : k ≠ []) : Tri Θ default fBy [.ptr 0 0] [(0, wM m k)] (sB 1000 k.length) [(0, wM m k), (1000, rB k)] := by
 refine MN' ?_; have hp : 0 < k.length := List.length_pos_iff.2 hne; have e := DT' hne; rw [e]
 refine AM' (con := [(fCl, cClB k.length k)]) (hints := BM') (lc := []) kNu rfl (fun F _ => DG' (LI' hb hp F)) (fun F _ => noL) fun F => ?_
 refine Yj (oBy_eq k.length k F) ⟨⟨?_, [sB 1000 k.length], wH k.length k ++ [(1000, rB k)], [(1001, 1001), (1000, 1100)], rfl, AJ' (vs' := [sB 1000 k.length]) (H' := [(0, wC k.length), (1001, rB k), (1000, rB k)]) [(1001, 1001), (1000, 1100)] χ χ (Yb) ⟨⟨_, rfl, Yc⟩, ⟨_, rfl, BO' (AD' _ _) rfl⟩, ⟨_, rfl, BO' (AD' _ _) rfl⟩, Ye⟩, ?_⟩⟩
 ·exact Cc2'
 ·rw [<- e]; exact Goes.shut (R := fun _ : Unit => True) (L := fun _ => wL k) (m := m) (H0 := [(1000, rB k)]) (vs := [sB 1000 k.length]) () trivial (by rw [e]; rfl) (O3' k) ⟨rfl, Ye⟩ (A0' (C5' _ _) A1')
theorem rw_tri (m m' : Md) (W : World) (oa : Option Addr) (c : Nat) (r k : Bs) (h : BAt W.cell? oa r) (hne : k ≠ []) (hb : k.length + r.length <= 140737488351232) : Tri Θ W fRw [.ptr 0 0, slV oa r.length c] [(0, wM m k)] (.tuple []) [(0, wM m' (k ++ r))] := by
 refine MN' ?_
 have hkr : k ++ r ≠ [] := fun e => hne (List.append_eq_nil_iff.1 e).1
 refine Tri.post (v := .tuple []) (H' := wL (k ++ r)) ?_ (M9' ⟨Ye, Ye⟩); rw [DT' hne, DT' hkr]
 cases r with
 | nil =>
  rw [List.append_nil]
  cases oa with
  | none =>
   refine AM' (con := []) (hints := AE' [(fRw, 1, 6, h0)]) (lc := []) kNu rfl (fun _ _ => noC) (fun F _ => noL) fun F => ?_
   refine Yj (YN' W k.length c k F) ⟨⟨?_, (AJ' (vs' := [.tuple []]) (H' := wH k.length k) [(1001, 1001)] χ χ (Yb) ⟨⟨_, rfl, Yc⟩, ⟨_, rfl, BO' rfl rfl⟩, Ye⟩).fits rfl⟩⟩; exact Cc1'
  | some a =>
   refine AM' (con := []) (hints := AE' [(fRw, 1, 6, h0)]) (lc := []) kNu rfl (fun _ _ => noC) (fun F _ => noL) fun F => ?_
   refine Yj (YO' W a k.length c k F) ⟨⟨?_, (AJ' (vs' := [.tuple []]) (H' := wH k.length k) [(1001, 1001)] χ χ (Yb) ⟨⟨_, rfl, Yc⟩, ⟨_, rfl, BO' rfl rfl⟩, Ye⟩).fits rfl⟩⟩; exact Cc1'
 | cons x r =>
  obtain ⟨a, rfl, _⟩ := h.2 0 x rfl
  generalize hr : x :: r = l at *
  have hp : 0 < l.length := by rw [<- hr]; simp
  have b1 : l.length.ble l.length = true := AW' (Yd); obtain ⟨b2, b3⟩ := MO' h
  have b4 : (vmap (AL' W a (l.length * 1))).all AV.one = true := by rw [b3]; exact S1' l
  have k1 : (0 + k.length * 1).ble (rowV encB k).length = true := O9' rfl; have k2 : ((k.length + l.length) * 1).ble 140737488355328 = true := AW' ω; have k3 : (k.length + l.length).ble 9223372036854775807 = true := AW' ω; have k4 := GI' (P := k) rfl
  refine AM' (con := []) (hints := BM') (lc := []) kNu rfl (fun _ _ => noC) (fun F _ => noL) fun F => ?_
  refine Yj (oRw_eq W a k.length l.length c k F) ⟨⟨?_, (AJ' (vs' := [.tuple []]) (H' := wH (k ++ l).length (k ++ l)) [(1001, 1100)] χ χ (Yb) ⟨⟨_, rfl, by rw [la']; exact Yc⟩, ⟨_, rfl, BO' (by rw [b3]; exact GJ' rfl l) rfl⟩, Ye⟩).fits rfl⟩⟩; simp only [ch', bl', true_and, and_true]; exact ⟨b1, b2, b4, hp, k1, k2, k3, k4⟩
end Go.Proofs.YtnnojnlejlokhaaGreatDoor.Wk
namespace Go.Proofs.YtnnojnlejlokhaaGreatDoor.Co
open Go Eng
variable {c : Nat} {k : Δ}
structure Chg where
 k : Δ
 v : Δ
 d : Bool
abbrev KM := KMap Δ Δ
structure St where
 m : KM
 c : Nat
 b : Nat
def kvB (e : Δ × Δ × Nat) : Nat := e.1.size + e.2.1.size
def byB (m : KM) : Nat := (m.map kvB).sum
def s0 : St := ⟨[], 0, 0⟩
def off (s : St) (x : Chg) : St := match AU' x.k s.m with
 | some v => ⟨kdel s.m x.k, s.c, s.b - (x.k.size + v.size)⟩
 | none => s
def onn (s : St) (x : Chg) : St := ⟨kset s.m s.c x.k x.v, GN' s.m s.c x.k, s.b + (x.k.size + x.v.size)⟩
def ap1 (s : St) (x : Chg) : St := match x.d with
 | true => off s x
 | false => onn (off s x) x
def apL (s : St) (xs : List Chg) : St := xs.foldl ap1 s
structure St.OK (s : St) : Prop where
 ki : KI s.m s.c
 by_ : s.b = byB s.m
theorem GH' : s0.OK := ⟨KI.nil, rfl⟩
theorem b2' : byB [] = 0 := rfl
theorem HK' (e : Δ × Δ × Nat) (m : KM) : byB (e :: m) = kvB e + byB m := by simp [byB]
theorem b3' (a b : KM) : byB (a ++ b) = byB a + byB b := by simp [byB]
theorem NH' : ∀ {m : KM} {i : Nat} {k : Δ} {j : Nat} {v : Δ}, CB' k m i = some (j, v) -> byB (m.eraseIdx (j - i)) + (k.size + v.size) = byB m
 | [], i, k, j, v, h => by cases h
 | e :: l, i, k, j, v, h => by
  rw [CB'] at h; split at h
  ·rename_i hk; cases h; rw [Nat.sub_self, List.eraseIdx_cons_zero, HK', kvB, hk]; omega
  ·obtain ⟨hle, _⟩ := D8' h
   rw [show j - i = (j - (i + 1)) + 1 from ω, List.eraseIdx_cons_succ, HK', HK']
   have := NH' h; omega
theorem Q1' {m : KM} {v : Δ} (h : AU' k m = some v) : byB (kdel m k) + (k.size + v.size) = byB m := by
 rw [<- BW' k m 0] at h; rw [kdel]
 cases hf : CB' k m 0 with
 | none => rw [hf] at h; cases h
 | some p =>
  obtain ⟨j, y⟩ := p; rw [hf] at h; cases h; exact NH' (i := 0) hf
theorem MR' {m : KM} {v : Δ} (h : AU' k m = none) : kset m c k v = m ++ [(k, v, c)] := by
 rw [<- BW' k m 0] at h; rw [kset]
 cases hf : CB' k m 0 with
 | none => rfl
 | some p => rw [hf] at h; cases h
theorem SE' {m : KM} (h : AU' k m = none) : kdel m k = m := by
 rw [<- BW' k m 0] at h; rw [kdel]
 cases hf : CB' k m 0 with
 | none => rfl
 | some p => rw [hf] at h; cases h
theorem YC' (s : St) (x : Chg) : (off s x).m = kdel s.m x.k := by
 rw [off]
 cases h : AU' x.k s.m with
 | none => exact (SE' h).symm
 | some v => rfl
theorem off_c (s : St) (x : Chg) : (off s x).c = s.c := by
 rw [off]
 cases h : AU' x.k s.m <;> rfl
theorem IS' {s : St} (h : s.OK) (x : Chg) (k : Δ) : AU' k (off s x).m = if k = x.k then none else AU' k s.m := by
 rw [YC']; exact QN' h.ki _ _
theorem WI' {s : St} (h : s.OK) (x : Chg) : (off s x).OK := by
 refine ⟨?_, ?_⟩
 ·rw [YC', off_c]; exact h.ki.kdel _
 ·rw [off]
  cases hl : AU' x.k s.m with
  | none => exact h.by_
  | some v =>
   have := Q1' hl; have := h.by_; show s.b - (x.k.size + v.size) = byB (kdel s.m x.k); omega
theorem onn_ok {s : St} (h : s.OK) (x : Chg) (hl : AU' x.k s.m = none) : (onn s x).OK := by
 refine ⟨h.ki.kset _ _, ?_⟩; show s.b + (x.k.size + x.v.size) = byB (kset s.m s.c x.k x.v); rw [MR' hl, b3', HK', b2', h.by_]; rfl
theorem T9' {s : St} (h : s.OK) (x : Chg) : (ap1 s x).OK := by
 rw [ap1]
 cases x.d with
 | true => exact WI' h x
 | false => exact onn_ok (WI' h x) x (by rw [IS' h, if_pos rfl])
theorem Q4' {s : St} (h : s.OK) (xs : List Chg) : (apL s xs).OK := by
 induction xs generalizing s with
 | nil => exact h
 | cons x xs ih => exact ih (T9' h x)
theorem VV' {s : St} (h : s.OK) (x : Chg) (k : Δ) : AU' k (ap1 s x).m = if k = x.k then (if x.d then none else some x.v) else AU' k s.m := by
 rw [ap1]
 cases x.d with
 | true =>
  simp only [if_true]; exact IS' h x k
 | false =>
  show AU' k (kset (off s x).m (off s x).c x.k x.v) = _; rw [QM', IS' h]
  by_cases e : k = x.k
  ·rw [if_pos e, if_pos e]; rfl
  ·rw [if_neg e, if_neg e, if_neg e]
def szC (x : Chg) : Nat := x.k.size + x.v.size
def szL (xs : List Chg) : Nat := (xs.map szC).sum
theorem CS' (x : Chg) (xs : List Chg) : szL (x :: xs) = szC x + szL xs := by simp [szL]
theorem GF' (a b : List Chg) : szL (a ++ b) = szL a + szL b := by simp [szL]
theorem off_le (s : St) (x : Chg) : (off s x).b <= s.b /\ (off s x).m.length <= s.m.length := by
 refine ⟨?_, ?_⟩
 ·rw [off]
  cases h : AU' x.k s.m with
  | none => exact Yd
  | some v => exact Nat.sub_le _ _
 ·rw [YC']; exact (IT' _ _).length_le
theorem ap1_le {s : St} (h : s.OK) (x : Chg) : (ap1 s x).b <= s.b + szC x /\ (ap1 s x).m.length <= s.m.length + 1 := by
 obtain ⟨h1, h2⟩ := off_le s x; rw [ap1, szC]
 cases x.d with
 | true => exact ⟨by simp only; omega, by simp only; omega⟩
 | false =>
  refine ⟨?_, ?_⟩
  ·show (off s x).b + (x.k.size + x.v.size) <= _; omega
  ·show (kset (off s x).m (off s x).c x.k x.v).length <= _; rw [MR' (by rw [IS' h, if_pos rfl]), List.length_append, List.length_cons, List.length_nil]; omega
theorem T8' {s : St} (h : s.OK) (xs : List Chg) : (apL s xs).b <= s.b + szL xs /\ (apL s xs).m.length <= s.m.length + xs.length := by
 induction xs generalizing s with
 | nil => exact ⟨Yd, Yd⟩
 | cons x xs ih =>
  obtain ⟨h1, h2⟩ := ap1_le h x; obtain ⟨h3, h4⟩ := ih (T9' h x); rw [CS', List.length_cons]
  exact ⟨by simp only [apL, List.foldl_cons] at h3 ⊢; omega, by simp only [apL, List.foldl_cons] at h4 ⊢; omega⟩
def H9' (k : Δ) : List Chg -> Option (Option Δ)
 | [] => none
 | x :: xs => match H9' k xs with
  | some r => some r
  | none => if k = x.k then some (if x.d then none else some x.v) else none
theorem IW' {s : St} (h : s.OK) (xs : List Chg) (k : Δ) : AU' k (apL s xs).m = (H9' k xs).getD (AU' k s.m) := by
 induction xs generalizing s with
 | nil => rfl
 | cons x xs ih =>
  show AU' k (apL (ap1 s x) xs).m = _; rw [ih (T9' h x), H9']
  cases hl : H9' k xs with
  | some r => rfl
  | none =>
   simp only [Option.getD_none]; rw [VV' h]
   by_cases e : k = x.k
   ·rw [if_pos e, if_pos e]; rfl
   ·rw [if_neg e, if_neg e]; rfl
theorem GL' {k : Δ} : ∀ {xs : List Chg} {r}, H9' k xs = some r -> ∃ x ∈ xs, x.k = k
 | [], r, h => by cases h
 | x :: xs, r, h => by
  rw [H9'] at h
  cases hl : H9' k xs with
  | some r' =>
   obtain ⟨y, hy, e⟩ := GL' hl; exact ⟨y, List.mem_cons_of_mem _ hy, e⟩
  | none =>
   rw [hl] at h
   by_cases e : k = x.k
   ·exact ⟨x, List.mem_cons_self, e.symm⟩
   ·simp only [if_neg e] at h; cases h
theorem QI' {s : St} (h : s.OK) {xs ys : List Chg} (hd : ∀ x ∈ xs, ∀ y ∈ ys, x.k ≠ y.k) (k : Δ) : AU' k (apL (apL s xs) ys).m = AU' k (apL (apL s ys) xs).m := by
 rw [IW' (Q4' h xs), IW' h, IW' (Q4' h ys), IW' h]
 cases hx : H9' k xs with
 | none => rfl
 | some r =>
  cases hy : H9' k ys with
  | none => rfl
  | some q =>
   obtain ⟨x, h1, e1⟩ := GL' hx; obtain ⟨y, h2, e2⟩ := GL' hy; exact absurd (e1.trans e2.symm) (hd x h1 y h2)
def DJ' (m : KM) : List Γ := G1' leS (m.map fun e => e.1.data.toList)
def bsOf (l : Γ) : Δ := ⟨⟨l⟩⟩
def BZ' (m : KM) : List (Δ × Δ) := (DJ' m).map fun k => (bsOf k, (AU' (bsOf k) m).getD ⟨#[]⟩)
theorem WR' (a b c : Γ) (h1 : leS a b = true) (h2 : leS b c = true) : leS a c = true := by
 rw [IE'] at *; simp only [decide_eq_true_eq] at *; exact List.le_trans h1 h2
theorem WS' (a b : Γ) : (leS a b || leS b a) = true := by
 rw [IE', IE']; simp only [Bool.or_eq_true, decide_eq_true_eq]; exact List.le_total a b
theorem XU' {a b : List Γ} (h : a.Perm b) : G1' leS a = G1' leS b := by
 refine List.Perm.eq_of_pairwise (le := fun x y => leS x y = true) (fun x y _ _ h1 h2 => ?_) (C9' WR' WS' a) (C9' WR' WS' b) (((CF' a).trans h).trans (CF' b).symm); rw [IE'] at h1 h2; simp only [decide_eq_true_eq] at h1 h2; exact List.le_antisymm h1 h2
theorem HX' {m : KM} (h : KI m c) : (m.map fun e => e.1.data.toList).Nodup := by
 have : (m.map fun e => e.1.data.toList) = (m.map (·.1)).map fun s => s.data.toList := by rw [List.map_map]; rfl
 rw [this, List.nodup_iff_pairwise_ne, List.pairwise_map]
 refine (List.nodup_iff_pairwise_ne.1 h.keys).imp fun {a b} hne e => hne ?_
 have := congrArg bsOf e; exact this
theorem L9' {m : KM} (l : Γ) : l ∈ (m.map fun e => e.1.data.toList) ↔ AU' (bsOf l) m ≠ none := by
 rw [Ne, HW', Classical.not_not, List.mem_map, List.mem_map]
 constructor
 ·rintro ⟨e, he, rfl⟩; exact ⟨e, he, rfl⟩
 ·rintro ⟨e, he, hq⟩; exact ⟨e, he, by rw [hq]; rfl⟩
theorem SC' {m m' : KM} {c' : Nat} (h : KI m c) (h' : KI m' c') (hl : ∀ k, AU' k m = AU' k m') : (m.map fun e => e.1.data.toList).Perm (m'.map fun e => e.1.data.toList) :=
 (List.perm_ext_iff_of_nodup (HX' h) (HX' h')).2 fun l => by rw [L9', L9', hl]
theorem U7' {m m' : KM} {c' : Nat} (h : KI m c) (h' : KI m' c') (hl : ∀ k, AU' k m = AU' k m') : BZ' m = BZ' m' := by
 rw [BZ', BZ', DJ', DJ', XU' (SC' h h' hl)]
 exact List.map_congr_left fun k _ => by rw [hl]
def LC' (k : Δ) : Bool := !(k.size == 0) && decide (k.size <= 255)
def okL (xs : List Chg) : Bool := xs.all fun x => LC' x.k
def comm (s : St) (xs : List Chg) : St := if okL xs then apL s xs else s
theorem CI' {s : St} (h : s.OK) (xs : List Chg) : (comm s xs).OK := by
 rw [comm]; split
 ·exact Q4' h xs
 ·exact h
theorem QS' {s : St} (h : s.OK) {xs ys : List Chg} (hd : ∀ x ∈ xs, ∀ y ∈ ys, x.k ≠ y.k) : BZ' (comm (comm s xs) ys).m = BZ' (comm (comm s ys) xs).m := by
 refine U7' (CI' (CI' h xs) ys).ki (CI' (CI' h ys) xs).ki fun k => ?_
 simp only [comm]
 cases okL xs <;> cases okL ys
 ·rfl
 ·rfl
 ·rfl
 ·exact QI' h hd k
def BP' (x : Chg) : Chg := match x.d with
 | true => ⟨x.k, ⟨#[]⟩, true⟩
 | false => x
theorem VU' (s : St) (x : Chg) : ap1 s (BP' x) = ap1 s x := by
 obtain ⟨k, v, d⟩ := x
 cases d <;> rfl
theorem VT' (s : St) (xs : List Chg) : apL s (xs.map BP') = apL s xs := by
 rw [apL, List.foldl_map]; exact congrArg (fun f => List.foldl f s xs) (by funext s x; exact VU' s x)
theorem TY' (x : Chg) : szC (BP' x) <= szC x := by
 obtain ⟨k, v, d⟩ := x; cases d
 ·exact Yd
 ·exact Nat.le_add_right _ _
theorem PG' (xs : List Chg) : szL (xs.map BP') <= szL xs := by
 induction xs with
 | nil => exact Yd
 | cons x xs ih => rw [List.map_cons, CS', CS']; have := TY' x; omega
end Go.Proofs.YtnnojnlejlokhaaGreatDoor.Co
namespace Go.Proofs.YtnnojnlejlokhaaGreatDoor.Wk
open Go Go.RowKit Eng Kit Tree Co
open Int renaming ofNat -> o'
open Go.Value renaming string -> vs'
open Go.Value renaming bool -> vb'
open AO renaming cells -> ce'
open AV renaming v -> v'
open Go.Value renaming slice -> sl'
abbrev tCh : TypeId := 2 * 29
abbrev tCt : TypeId := 2 * 71
abbrev fCk : Nat := 24
abbrev fAy : Nat := 27
abbrev fCC : Nat := 25
abbrev fMC : Nat := 26
abbrev fEc : Nat := 29
abbrev fCm : Nat := 9
abbrev fKs : Nat := 18
abbrev fPs : Nat := 11
abbrev fSm : Nat := 10
abbrev fCo : Nat := 15
abbrev fOd : Nat := 8
abbrev fLaw : Nat := 4
def chV (x : Chg) : List Value := [.string x.k, .string x.v, .bool x.d]
def chA (x : Chg) : AV := .agg [sv x.k, sv x.v, bv x.d]
def rC (l : List Chg) : AO := .cells (rowV chV l) tCh
def sC (k n : Nat) : AV := .slice k 0 n 3 (.lo n)
theorem chV_len (x : Chg) : (chV x).length = 3 := rfl
structure CAt (W : World) (oa : Option Addr) (l : List Chg) : Prop where
 len : l.length <= 1048576
 at' : ∀ (i : Nat) (x : Chg), l[i]? = some x -> ∃ a, oa = some a /\ ∀ (j : Nat) (v : Value), (chV x)[j]? = some v -> W.cell? (a.add (i * 3 + j)) = some v
def enV (x : Δ) : AV := .agg [sv x]
def kM (m : KM) : List (AV × AV × Nat) := kE vs' enV m
def mO (m : KM) (c : Nat) : AO := .map (kM m) c
def ctO (lg : AV) (k : Nat) (b : Int) : AO := .cells [lg, .map k, iv b] tCt
def nilP : AV := .v (.pointer none)
noncomputable section
def oAy (b : Int) (m : KM) (c : Nat) : LH := [(0, ctO nilP 1 b), (1, mO m c)]
def kAy : List Nat := [0, 1, 1100, 1101, 1102]
def hAyY (old : Δ) (b1 : Int) (m1 : KM) (c : Nat) : List (FuncId × Nat × Nat × Hint) := [(fAy, 1, 6, hv (.tuple [.agg [sv old], .lit true])), (fAy, 3, 11, hv (iv b1)), (fAy, 4, 6, ho 1 (mO m1 c))]
def hAyN : List (FuncId × Nat × Nat × Hint) := [(fAy, 1, 6, hv (.tuple [.agg [sv ⟨#[]⟩], .lit false]))]
def hAyS (b2 : Int) (m2 : KM) (c2 : Nat) : List (FuncId × Nat × Nat × Hint) := [(fAy, 6, 9, ho 1 (mO m2 c2)), (fAy, 7, 11, hv (iv b2))]
abbrev y0' : Δ := ByteArray.mk (Array.mk [])
abbrev k15' : Cnd := (ee' (some true))
abbrev h16' (q0 : Δ) (z : Cnd) : Cnd := ((fe' true).a ((ee' (s' q0)).a z))
abbrev k17' (q0 : Int) (q1 q2 : Δ) (q3 : Int) : Cnd := (f' (Wk (z' (IntKind.i64.wrap (q0 - IntKind.i64.wrap (↑q1.size + ↑q2.size)))) (z' q3)))
abbrev h18' (q0 : Int) (q1 q2 : Δ) (z : Cnd) : Cnd := ((ee' (z' q0)).a ((ee' (s' q1)).a ((ee' (s' q2)).a z)))
theorem UV' (m m1 : KM) (c : Nat) (b b1 : Int) (k v old : Δ) (F : HP) : wRun [] (AE' (hf' fAy 5 2 :: hAyY old b1 m1 c)) [] default fAy [.ptr 0 0, .agg [sv k, sv v, bv true]] (oAy b m c) kAy F = VT.leaf (AV.tuple []) [some (ce' [v' (Value.pointer none),AV.map 1,z' b1] 142),some (AO.map (kM m1) c),some (ce' [s' k,s' v,b' true] 58),some (ce' [s' old] 136),none] 1102 (h16' k (((p' (findKey Tryz.prog (envW [] (AE' [(27,5,2,hv g'),(27,1,6,hv (AV.tuple [AV.agg [s' old],j'])),(27,3,11,hv (z' b1)),(27,4,6,ho 1 (AO.map (kM m1) c))]) [] default F) 9 (s' k) (kM m) 0 = AP.ret (AV' (s' k) (kM m) 0))).a (f' (Wk (AV.tuple [CZ' (AV' (s' k) (kM m) 0) (Value.agg (Array.mk [vs' y0'])),v' (vb' (AV' (s' k) (kM m) 0).isSome)]) (AV.tuple [AV.agg [s' old],j'])))).a (k7'.a (h18' b k old ((k17' b k old b1).a (k7'.a (h16' k (((p' (findKey Tryz.prog (envW [] (AE' [(27,5,2,hv g'),(27,1,6,hv (AV.tuple [AV.agg [s' old],j'])),(27,3,11,hv (z' b1)),(27,4,6,ho 1 (AO.map (kM m1) c))]) [] default F) 9 (s' k) (kM m) 0 = AP.ret (AV' (s' k) (kM m) 0))).a (f' (OW (AO.map (delE (s' k) (kM m)) c) (AO.map (kM m1) c)))).a (k15'.a (k5'.a k1')))))))))) := χ
abbrev k19' (q0 : Int) (q1 q2 : Δ) (q3 : Int) : Cnd := (f' (Wk (z' (IntKind.i64.wrap (q0 + IntKind.i64.wrap (↑q1.size + ↑q2.size)))) (z' q3)))
abbrev h20' (q0 q1 : Δ) (z : Cnd) : Cnd := ((fe' true).a ((ee' (s' q0)).a ((ee' (s' q1)).a z)))
abbrev k21' : Cnd := (f' (Wk (b' true) j'))
abbrev k22' : Cnd := (ee' (some false))
theorem UW' (m m1 m2 : KM) (c c2 : Nat) (b b1 b2 : Int) (k v old : Δ) (F : HP) : wRun [] (AE' (ht' fAy 5 2 :: (hAyY old b1 m1 c ++ hAyS b2 m2 c2))) [] default fAy [.ptr 0 0, .agg [sv k, sv v, bv false]] (oAy b m c) kAy F = VT.leaf (AV.tuple []) [some (ce' [v' (Value.pointer none),AV.map 1,z' b2] 142),some (AO.map (kM m2) c2),some (ce' [s' k,s' v,b' false] 58),some (ce' [s' old] 136),none] 1102 (h16' k (((p' (findKey Tryz.prog (envW [] (AE' [(27,5,2,hv j'),(27,1,6,hv (AV.tuple [AV.agg [s' old],j'])),(27,3,11,hv (z' b1)),(27,4,6,ho 1 (AO.map (kM m1) c)),(27,6,9,ho 1 (AO.map (kM m2) c2)),(27,7,11,hv (z' b2))]) [] default F) 9 (s' k) (kM m) 0 = AP.ret (AV' (s' k) (kM m) 0))).a (f' (Wk (AV.tuple [CZ' (AV' (s' k) (kM m) 0) (Value.agg (Array.mk [vs' y0'])),v' (vb' (AV' (s' k) (kM m) 0).isSome)]) (AV.tuple [AV.agg [s' old],j'])))).a (k7'.a (h18' b k old ((k17' b k old b1).a (k7'.a (h16' k (((p' (findKey Tryz.prog (envW [] (AE' [(27,5,2,hv j'),(27,1,6,hv (AV.tuple [AV.agg [s' old],j'])),(27,3,11,hv (z' b1)),(27,4,6,ho 1 (AO.map (kM m1) c)),(27,6,9,ho 1 (AO.map (kM m2) c2)),(27,7,11,hv (z' b2))]) [] default F) 9 (s' k) (kM m) 0 = AP.ret (AV' (s' k) (kM m) 0))).a (f' (OW (AO.map (delE (s' k) (kM m)) c) (AO.map (kM m1) c)))).a (k22'.a (k21'.a (h20' k v (((p' (findKey Tryz.prog (envW [] (AE' [(27,5,2,hv j'),(27,1,6,hv (AV.tuple [AV.agg [s' old],j'])),(27,3,11,hv (z' b1)),(27,4,6,ho 1 (AO.map (kM m1) c)),(27,6,9,ho 1 (AO.map (kM m2) c2)),(27,7,11,hv (z' b2))]) [] default F) 9 (s' k) (kM m1) 0 = AP.ret (AV' (s' k) (kM m1) 0))).a ((p' (G2' (s' k) (kM m1))).a (f' (OW (AO.map (setE (s' k) (AV.agg [s' v]) (kM m1) c) (EP' (s' k) (kM m1) c)) (AO.map (kM m2) c2))))).a (h18' b1 k v ((k19' b1 k v b2).a (k7'.a k1'))))))))))))))) := χ
theorem UX' (m : KM) (c : Nat) (b : Int) (k v : Δ) (F : HP) : wRun [] (AE' (hf' fAy 5 2 :: hAyN)) [] default fAy [.ptr 0 0, .agg [sv k, sv v, bv true]] (oAy b m c) kAy F = VT.leaf (AV.tuple []) [some (ce' [v' (Value.pointer none),AV.map 1,z' b] 142),some (AO.map (kM m) c),some (ce' [s' k,s' v,b' true] 58),some (ce' [s' y0'] 136),none] 1102 (h16' k (((p' (findKey Tryz.prog (envW [] (AE' [(27,5,2,hv g'),(27,1,6,hv (AV.tuple [AV.agg [s' y0'],g']))]) [] default F) 9 (s' k) (kM m) 0 = AP.ret (AV' (s' k) (kM m) 0))).a (f' (Wk (AV.tuple [CZ' (AV' (s' k) (kM m) 0) (Value.agg (Array.mk [vs' y0'])),v' (vb' (AV' (s' k) (kM m) 0).isSome)]) (AV.tuple [AV.agg [s' y0'],g'])))).a (k7'.a (k15'.a (k5'.a k1'))))) := χ
theorem UY' (m m2 : KM) (c c2 : Nat) (b b2 : Int) (k v : Δ) (F : HP) : wRun [] (AE' (ht' fAy 5 2 :: (hAyN ++ hAyS b2 m2 c2))) [] default fAy [.ptr 0 0, .agg [sv k, sv v, bv false]] (oAy b m c) kAy F = VT.leaf (AV.tuple []) [some (ce' [v' (Value.pointer none),AV.map 1,z' b2] 142),some (AO.map (kM m2) c2),some (ce' [s' k,s' v,b' false] 58),some (ce' [s' y0'] 136),none] 1102 (h16' k (((p' (findKey Tryz.prog (envW [] (AE' [(27,5,2,hv j'),(27,1,6,hv (AV.tuple [AV.agg [s' y0'],g'])),(27,6,9,ho 1 (AO.map (kM m2) c2)),(27,7,11,hv (z' b2))]) [] default F) 9 (s' k) (kM m) 0 = AP.ret (AV' (s' k) (kM m) 0))).a (f' (Wk (AV.tuple [CZ' (AV' (s' k) (kM m) 0) (Value.agg (Array.mk [vs' y0'])),v' (vb' (AV' (s' k) (kM m) 0).isSome)]) (AV.tuple [AV.agg [s' y0'],g'])))).a (k7'.a (k22'.a (k21'.a (h20' k v (((p' (findKey Tryz.prog (envW [] (AE' [(27,5,2,hv j'),(27,1,6,hv (AV.tuple [AV.agg [s' y0'],g'])),(27,6,9,ho 1 (AO.map (kM m2) c2)),(27,7,11,hv (z' b2))]) [] default F) 9 (s' k) (kM m) 0 = AP.ret (AV' (s' k) (kM m) 0))).a ((p' (G2' (s' k) (kM m))).a (f' (OW (AO.map (setE (s' k) (AV.agg [s' v]) (kM m) c) (EP' (s' k) (kM m) c)) (AO.map (kM m2) c2))))).a (h18' b k v ((k19' b k v b2).a (k7'.a k1')))))))))) := χ
def aCk1 (oa : Option Addr) (n c : Nat) (s : Int) (i : Nat) : List (Nat × AV) := [(0, slV oa n c), (2, iv 0), (3, iv s), (8, slV oa n c), (9, iv (o' n)), (10, iv (o' i))]
def V8' : List Nat := [0, 2, 3, 8, 9, 10]
def hCk1 (k v : Δ) (d : Bool) (s1 s2 : Int) (i : Nat) : B9' := AE' [ht' fCk 3 0, (fCk, 4, 1, hv (.agg [sv k, sv v, bv d])), (fCk, 5, 4, hv (iv s1)), (fCk, 6, 2, hv (.lit (!d))), (fCk, 7, 4, hv (iv s2)), (fCk, 8, 0, hv (iv (o' (i + 1))))]
abbrev k23' (q0 : Int) (q1 : Δ) (q2 : Int) : Cnd := (f' (Wk (z' (IntKind.i64.wrap (q0 + ↑q1.size))) (z' q2)))
theorem UQ' (W : World) (a : Addr) (n c i : Nat) (s s1 : Int) (k v : Δ) (F : HP) : BK' [] (hCk1 k v true s1 s1 i) [] W fCk (A3' fCk 3) (tms 0 51 (aCk1 (some a) n c s i)) [] [] V8' F = VT.leaf (AX.normal,[v' (sl' (some a) n c),i' 0,z' s1,v' (sl' (some a) n c),i' n,i' (i + 1)],51) [] 1101 (h3' i n (((p' (([0,1,2].all fun j => (W.cell? ((a.add (i * 3)).add j)).isSome) = true)).a ((p' ([v' ((W.cell? ((a.add (i * 3)).add 0)).getD (Value.tuple (Array.mk []))),v' ((W.cell? (Addr.mk (a.add (i * 3)).block ((a.add (i * 3)).off + 1) none)).getD (Value.tuple (Array.mk []))),v' ((W.cell? (Addr.mk (a.add (i * 3)).block ((a.add (i * 3)).off + 2) none)).getD (Value.tuple (Array.mk [])))] = [v' (vs' (v' ((W.cell? ((a.add (i * 3)).add 0)).getD (Value.tuple (Array.mk [])))).strOf),v' (vs' (v' ((W.cell? (Addr.mk (a.add (i * 3)).block ((a.add (i * 3)).off + 1) none)).getD (Value.tuple (Array.mk [])))).strOf),v' (vb' (v' ((W.cell? (Addr.mk (a.add (i * 3)).block ((a.add (i * 3)).off + 2) none)).getD (Value.tuple (Array.mk [])))).boolOf)])).a (f' (Wk (AV.agg [v' (vs' (v' ((W.cell? ((a.add (i * 3)).add 0)).getD (Value.tuple (Array.mk [])))).strOf),v' (vs' (v' ((W.cell? (Addr.mk (a.add (i * 3)).block ((a.add (i * 3)).off + 1) none)).getD (Value.tuple (Array.mk [])))).strOf),v' (vb' (v' ((W.cell? (Addr.mk (a.add (i * 3)).block ((a.add (i * 3)).off + 2) none)).getD (Value.tuple (Array.mk [])))).boolOf)]) (AV.agg [s' k,s' v,b' true]))))).a (h16' k ((k23' s k s1).a (k15'.a (k5'.a ((k2' i).a k1'))))))) := χ
abbrev k24' (q0 : Δ) : Cnd := (ee' (s' q0))
theorem UO' (W : World) (a : Addr) (n c i : Nat) (s s1 s2 : Int) (k v : Δ) (F : HP) : BK' [] (hCk1 k v false s1 s2 i) [] W fCk (A3' fCk 3) (tms 0 51 (aCk1 (some a) n c s i)) [] [] V8' F = VT.leaf (AX.normal,[v' (sl' (some a) n c),i' 0,z' s2,v' (sl' (some a) n c),i' n,i' (i + 1)],51) [] 1101 (h3' i n (((p' (([0,1,2].all fun j => (W.cell? ((a.add (i * 3)).add j)).isSome) = true)).a ((p' ([v' ((W.cell? ((a.add (i * 3)).add 0)).getD (Value.tuple (Array.mk []))),v' ((W.cell? (Addr.mk (a.add (i * 3)).block ((a.add (i * 3)).off + 1) none)).getD (Value.tuple (Array.mk []))),v' ((W.cell? (Addr.mk (a.add (i * 3)).block ((a.add (i * 3)).off + 2) none)).getD (Value.tuple (Array.mk [])))] = [v' (vs' (v' ((W.cell? ((a.add (i * 3)).add 0)).getD (Value.tuple (Array.mk [])))).strOf),v' (vs' (v' ((W.cell? (Addr.mk (a.add (i * 3)).block ((a.add (i * 3)).off + 1) none)).getD (Value.tuple (Array.mk [])))).strOf),v' (vb' (v' ((W.cell? (Addr.mk (a.add (i * 3)).block ((a.add (i * 3)).off + 2) none)).getD (Value.tuple (Array.mk [])))).boolOf)])).a (f' (Wk (AV.agg [v' (vs' (v' ((W.cell? ((a.add (i * 3)).add 0)).getD (Value.tuple (Array.mk [])))).strOf),v' (vs' (v' ((W.cell? (Addr.mk (a.add (i * 3)).block ((a.add (i * 3)).off + 1) none)).getD (Value.tuple (Array.mk [])))).strOf),v' (vb' (v' ((W.cell? (Addr.mk (a.add (i * 3)).block ((a.add (i * 3)).off + 2) none)).getD (Value.tuple (Array.mk [])))).boolOf)]) (AV.agg [s' k,s' v,b' false]))))).a (h16' k ((k23' s k s1).a (k22'.a (k21'.a ((k24' v).a ((k23' s1 v s2).a ((k2' i).a k1'))))))))) := χ
abbrev k25' (q0 q1 : Nat) : Cnd := (wb' (decide (o' q0 < o' q1)) g')
theorem UP' (W : World) (oa : Option Addr) (n c i : Nat) (s : Int) (F : HP) : BK' [] (AE' [hf' fCk 3 0]) [] W fCk (A3' fCk 3) (tms 0 51 (aCk1 oa n c s i)) [] [] V8' F = VT.leaf (AX.exit 0,[v' (sl' oa n c),i' 0,z' s,v' (sl' oa n c),i' n,i' i],51) [] 1100 ((k25' i n).a k1') := χ
def aCk2 (oa : Option Addr) (n c : Nat) (i : Nat) : List (Nat × AV) := [(2, iv 0), (35, slV oa n c), (36, iv (o' n)), (37, iv (o' i))]
def QP' : List Nat := [2, 35, 36, 37]
def hCk2 (k v : Δ) (d : Bool) (b1 b2 : Bool) (i : Nat) : B9' := AE' [ht' fCk 12 0, (fCk, 13, 1, hv (.agg [sv k, sv v, bv d])), (fCk, 14, 2, hv (.lit b1)), (fCk, 14, 7, hv (.lit b2)), (fCk, 16, 0, hv (iv (o' (i + 1))))]
abbrev h26' (q0 q1 : Nat) (q2 : World) (q3 : Addr) (q4 q5 : Δ) (q6 : Bool) (z : Cnd) : Cnd := ((wb' (decide (o' q0 < o' q1)) j').a ((f' (q0.blt q1 = true)).a (((p' (([0,1,2].all fun j => (q2.cell? ((q3.add (q0 * 3)).add j)).isSome) = true)).a ((p' ([v' ((q2.cell? ((q3.add (q0 * 3)).add 0)).getD (Value.tuple (Array.mk []))),v' ((q2.cell? (Addr.mk (q3.add (q0 * 3)).block ((q3.add (q0 * 3)).off + 1) none)).getD (Value.tuple (Array.mk []))),v' ((q2.cell? (Addr.mk (q3.add (q0 * 3)).block ((q3.add (q0 * 3)).off + 2) none)).getD (Value.tuple (Array.mk [])))] = [v' (vs' (v' ((q2.cell? ((q3.add (q0 * 3)).add 0)).getD (Value.tuple (Array.mk [])))).strOf),v' (vs' (v' ((q2.cell? (Addr.mk (q3.add (q0 * 3)).block ((q3.add (q0 * 3)).off + 1) none)).getD (Value.tuple (Array.mk [])))).strOf),v' (vb' (v' ((q2.cell? (Addr.mk (q3.add (q0 * 3)).block ((q3.add (q0 * 3)).off + 2) none)).getD (Value.tuple (Array.mk [])))).boolOf)])).a (f' (Wk (AV.agg [v' (vs' (v' ((q2.cell? ((q3.add (q0 * 3)).add 0)).getD (Value.tuple (Array.mk [])))).strOf),v' (vs' (v' ((q2.cell? (Addr.mk (q3.add (q0 * 3)).block ((q3.add (q0 * 3)).off + 1) none)).getD (Value.tuple (Array.mk [])))).strOf),v' (vb' (v' ((q2.cell? (Addr.mk (q3.add (q0 * 3)).block ((q3.add (q0 * 3)).off + 2) none)).getD (Value.tuple (Array.mk [])))).boolOf)]) (AV.agg [s' q4,s' q5,b' q6]))))).a ((fe' true).a ((ee' (s' q4)).a z)))))
theorem PO' (W : World) (a : Addr) (n c i : Nat) (k v : Δ) (d : Bool) (F : HP) : BK' [] (hCk2 k v d false false i) [] W fCk (A3' fCk 12) (tms 0 51 (aCk2 (some a) n c i)) [] [] QP' F = VT.leaf (AX.normal,[i' 0,v' (sl' (some a) n c),i' n,i' (i + 1)],51) [] 1101 (h26' i n W a k v d ((wb' (k.toList == []) g').a ((k24' k).a ((wb' (decide (↑k.size > o' 255)) g').a ((k2' i).a k1'))))) := χ
theorem UL' (W : World) (a : Addr) (n c i : Nat) (k v : Δ) (d : Bool) (F : HP) : BK' [] (hCk2 k v d true false i) [] W fCk (A3' fCk 12) (tms 0 51 (aCk2 (some a) n c i)) [] [] QP' F = VT.leaf (AX.ret,[i' 130,v' (sl' (some a) n c),i' n,i' i],51) [] 1101 (h26' i n W a k v d ((wb' (k.toList == []) j').a k1')) := χ
theorem UM' (W : World) (a : Addr) (n c i : Nat) (k v : Δ) (d : Bool) (F : HP) : BK' [] (hCk2 k v d false true i) [] W fCk (A3' fCk 12) (tms 0 51 (aCk2 (some a) n c i)) [] [] QP' F = VT.leaf (AX.ret,[i' 130,v' (sl' (some a) n c),i' n,i' i],51) [] 1101 (h26' i n W a k v d ((wb' (k.toList == []) g').a ((k24' k).a ((wb' (decide (↑k.size > o' 255)) j').a k1')))) := χ
theorem UN' (W : World) (oa : Option Addr) (n c i : Nat) (F : HP) : BK' [] (AE' [hf' fCk 12 0]) [] W fCk (A3' fCk 12) (tms 0 51 (aCk2 oa n c i)) [] [] QP' F = VT.leaf (AX.exit 2,[i' 0,v' (sl' oa n c),i' n,i' i],51) [] 1100 ((k25' i n).a k1') := χ
def lCk1 (oa : Option Addr) (n c : Nat) (s : Int) : List AV -> AP (AX × List AV) := mkL (fun _ => .ret ()) (fun _ => True) (fun _ k => k) (fun _ => tms 0 51 (aCk1 oa n c 0 0)) (fun _ => []) (fun _ => .leaf (.exit 0) (tms 0 51 [(0, slV oa n c), (2, iv 0), (3, iv s)]) [])
def lCk2 (oa : Option Addr) (n c : Nat) : List AV -> AP (AX × List AV) := mkL (fun _ => .ret ()) (fun _ => True) (fun _ k => k) (fun _ => tms 0 51 (aCk2 oa n c 0)) (fun _ => []) (fun _ => .leaf (.exit 2) (tms 0 51 []) [])
def SA' (oa : Option Addr) (n c : Nat) : List AV -> AP (AX × List AV) := mkL (fun _ => .ret ()) (fun _ => True) (fun _ k => k) (fun _ => tms 0 51 (aCk2 oa n c 0)) (fun _ => []) (fun _ => .leaf .ret (tms 0 51 [(2, iv 130)]) [])
def hCk (b1 b2 : Bool) : B9' := AE' [(fCk, 9, 2, hv (.lit b1)), (fCk, 9, 5, hv (.lit b2))]
abbrev k27' (q0 : Option Addr) (q1 q2 : Nat) (q3 : Int) : Cnd := (p' (VW (v' (sl' q0 q1 q2)::a'::i' 0::z' q3::ra16 (ra8 (v' (sl' q0 q1 q2)::z' ↑q1::g'::g'::z' q3::g'::g'::v' (sl' q0 q1 q2)::z' ↑q1::i' 0::ra8 (ra4 (a'::[]))))) (a'::a'::i' 0::ra16 (ra16 (v' (sl' q0 q1 q2)::i' q1::i' 0::ra8 (ra4 (a'::[])))))))
abbrev k28' (q0 : Int) : Cnd := (wb' (decide (q0 > o' 500000)) g')
abbrev k29' (q0 : Nat) : Cnd := (wb' (decide (↑q0 > o' 10000)) g')
abbrev k30' (q0 : Option Addr) (q1 q2 : Nat) : Cnd := (p' (VW (v' (sl' q0 q1 q2)::u'::i' 0::i' 0::ru4 (v' (sl' q0 q1 q2)::z' ↑q1::i' 0::ru16 (ru16 (ru8 ([]))))) (v' (sl' q0 q1 q2)::a'::i' 0::i' 0::ra4 (v' (sl' q0 q1 q2)::i' q1::i' 0::ra16 (ra16 (ra8 ([])))))))
theorem ZS' (W : World) (oa : Option Addr) (n c : Nat) (s : Int) (F : HP) : wRun [] (hCk false false) [(fCk, 3, A3' fCk 3, lCk1 oa n c s), (fCk, 12, A3' fCk 12, lCk2 oa n c)] W fCk [slV oa n c] [] [] F = VT.leaf (i' 0) [] 1100 ((p' ((fCk,3,A3' fCk 3,lCk1 oa n c s).snd.snd.fst = (fCk,3,A3' fCk 3,lCk1 oa n c s).snd.snd.fst)).a (k4'.a ((k30' oa n c).a ((k29' n).a ((k28' s).a ((p' ((fCk,12,A3' fCk 12,lCk2 oa n c).snd.snd.fst = (fCk,12,A3' fCk 12,lCk2 oa n c).snd.snd.fst)).a (k4'.a ((k27' oa n c s).a k1')))))))) := χ
theorem ZT' (W : World) (oa : Option Addr) (n c : Nat) (s : Int) (F : HP) : wRun [] (hCk false false) [(fCk, 3, A3' fCk 3, lCk1 oa n c s), (fCk, 12, A3' fCk 12, SA' oa n c)] W fCk [slV oa n c] [] [] F = VT.leaf (i' 130) [] 1100 ((p' ((fCk,3,A3' fCk 3,lCk1 oa n c s).snd.snd.fst = (fCk,3,A3' fCk 3,lCk1 oa n c s).snd.snd.fst)).a (k4'.a ((k30' oa n c).a ((k29' n).a ((k28' s).a ((p' ((fCk,12,A3' fCk 12,SA' oa n c).snd.snd.fst = (fCk,12,A3' fCk 12,SA' oa n c).snd.snd.fst)).a (k4'.a ((k27' oa n c s).a k1')))))))) := χ
end
end Go.Proofs.YtnnojnlejlokhaaGreatDoor.Wk
namespace Go.Proofs.YtnnojnlejlokhaaGreatDoor.Eng
open Go Go.RowKit
section
variable {P : Program} {w : World} {α : Type}
theorem XB' (a b : Δ) : (a == b) = decide (a = b) := by
 cases a with | mk a => cases b with | mk b =>
 show (a == b) = _
 by_cases h : a = b
 ·subst h; simp
 ·have : ByteArray.mk a ≠ ByteArray.mk b := fun e => h (ByteArray.mk.inj e)
  simp [h]
end
end Go.Proofs.YtnnojnlejlokhaaGreatDoor.Eng
namespace Go.Proofs.YtnnojnlejlokhaaGreatDoor.Wk
open Go Go.RowKit Eng Kit Tree Co
theorem GM' : KOK Value.string where
 inj a b := by simp [valQ]
 same k := by simp [Instr.sameBits, XB']
theorem aC' : KTy Θ 9 Value.string := by
 intro E a b
 have hu : Θ.underlying 9 = some .string := χ
 show (match Instr.sameNow ((Θ.underlying 9).getD .invalid) (.string a) (.string b) with
  | some r => pure r
  | none => AP.opt "key " (C0' Θ (Op.equal 9 (.string a) (.string b)))) = AP.ret (decide (a = b))
 rw [hu]; show (AP.ret (a == b) : AP Bool) = _; rw [XB']
theorem fk_m (E : Env) (k : Δ) (m : KM) : findKey Θ E 9 (.v (.string k)) (kM m) 0 = .ret (AV' (.v (.string k)) (kM m) 0) := KO' GM' aC' k m 0
theorem st_m (k : Δ) (m : KM) : G2' (.v (.string k)) (kM m) := RL' GM' k m
theorem fx_m (k : Δ) (m : KM) (z : Value) : CZ' (AV' (.v (.string k)) (kM m) 0) z = ((AU' k m).map enV).getD (.v z) := VA' GM' k m z
theorem fs_m (k : Δ) (m : KM) : (AV' (.v (.string k)) (kM m) 0).isSome = (AU' k m).isSome := L8' GM' k m
theorem set_m (k v : Δ) (m : KM) (c : Nat) : setE (.v (.string k)) (.agg [.v (.string v)]) (kM m) c = kM (kset m c k v) := XZ' GM' k v m c
theorem bump_m (k : Δ) (m : KM) (c : Nat) : EP' (.v (.string k)) (kM m) c = GN' m c k := VR' GM' k m c
theorem del_m (k : Δ) (m : KM) : delE (.v (.string k)) (kM m) = kM (kdel m k) := aO' GM' k m
theorem XL' {s : Value} : Wk (.v (.agg #[s])) (.agg [.v s]) := fun N y h => by
 have := VR_v.1 h; subst this; simp only [VR, VRs]; exact ⟨[s], ⟨s, [], rfl, rfl, rfl⟩, rfl⟩
theorem R9' {a b : List AV} (h : VW a b) : Wk (.tuple a) (.tuple b) := fun N y hy => by
 simp only [VR] at hy ⊢; obtain ⟨cs, h1, rfl⟩ := hy; exact ⟨cs, h _ _ h1, rfl⟩
theorem S8' {k old : Δ} {m : KM} {z : Value} (h : AU' k m = some old) : Wk (.tuple [CZ' (AV' (.v (.string k)) (kM m) 0) z, .v (.bool (AV' (.v (.string k)) (kM m) 0).isSome)]) (.tuple [.agg [.v (.string old)], .lit true]) := by
 rw [fx_m, fs_m, h]; exact R9' (VW.cons Ya (VW.cons (B0' _) VW.nil))
theorem S9' {k : Δ} {m : KM} (h : AU' k m = none) : Wk (.tuple [CZ' (AV' (.v (.string k)) (kM m) 0) (.agg #[.string ⟨#[]⟩]), .v (.bool (AV' (.v (.string k)) (kM m) 0).isSome)]) (.tuple [.agg [.v (.string ⟨#[]⟩)], .lit false]) := by
 rw [fx_m, fs_m, h]; exact R9' (VW.cons XL' (VW.cons (B0' _) VW.nil))
def CA' : Nat := 1000000000000
theorem w_sub {b k v : Nat} (hb : b <= CA') (h : k + v <= b) : Wk (.v (.int .i64 (IntKind.i64.wrap (Int.ofNat b - IntKind.i64.wrap ((k : Int) + (v : Int)))))) (.v (.int .i64 (Int.ofNat (b - (k + v))))) := by
 unfold CA' at hb; rw [IntWalk.i64_in ((k : Int) + (v : Int)) ω, IntWalk.i64_in _ (by simp only [Z0]; omega)]; exact C8' (by simp only [Z0]; omega)
theorem w_add {b k v : Nat} (hb : b + (k + v) <= CA') : Wk (.v (.int .i64 (IntKind.i64.wrap (Int.ofNat b + IntKind.i64.wrap ((k : Int) + (v : Int)))))) (.v (.int .i64 (Int.ofNat (b + (k + v))))) := by
 unfold CA' at hb; rw [IntWalk.i64_in ((k : Int) + (v : Int)) ω, IntWalk.i64_in _ (by simp only [Z0]; omega)]; exact C8' (by simp only [Z0]; omega)
def oSt (s : St) : LH := [(0, ctO nilP 1 (Int.ofNat s.b)), (1, mO s.m s.c)]
theorem RQ' {κ α : Type} (σ : Nat -> Nat) (kv : κ -> Value) (ev : α -> AV) (hev : ∀ x, (ev x).ren σ = ev x) : ∀ m : KMap κ α, renE σ (kE kv ev m) = kE kv ev m
 | [] => rfl
 | e :: m => by
  show (_, _, _) :: renE σ (kE kv ev m) = _; rw [RQ' σ kv ev hev m, hev]; rfl
theorem X7' {κ α : Type} (K : Nat -> Bool) (kv : κ -> Value) (ev : α -> AV) (hev : ∀ x, AV.cl K (ev x)) : ∀ m : KMap κ α, clE K (kE kv ev m)
 | [] => trivial
 | e :: m => ⟨Ye, hev _, X7' K kv ev hev m⟩
theorem IC' (σ : Nat -> Nat) (m : KM) : renE σ (kM m) = kM m := RQ' σ Value.string enV (fun _ => rfl) m
theorem mO_ren (σ : Nat -> Nat) (m : KM) (c : Nat) : (mO m c).ren σ = mO m c := by rw [mO, AO.ren, IC']
theorem GK' (K : Nat -> Bool) (m : KM) (c : Nat) : (mO m c).cl K := X7' (α := Δ) K Value.string enV (fun _ => ⟨Ye, Ye⟩) m
theorem D2' {es : List (AV × AV × Nat)} {c c' : Nat} {m : KM} {σ : Nat -> Nat} (h : es = kM m) (hc : c = c') : OW (.map es c) ((mO m c').ren σ) := by rw [mO_ren]; subst h hc; exact Yc
theorem WE' (k : Δ) (m : KM) (c : Nat) : OW (.map (delE (.v (.string k)) (kM m)) c) (.map (kM (kdel m k)) c) := by rw [del_m]; exact Yc
theorem WD' (k v : Δ) (m : KM) (c : Nat) : OW (.map (setE (.v (.string k)) (.agg [.v (.string v)]) (kM m) c) (EP' (.v (.string k)) (kM m) c)) (.map (kM (kset m c k v)) (GN' m c k)) := by rw [set_m, bump_m]; exact Yc
theorem ay_tri {s : St} (h : s.OK) (x : Chg) (hb : s.b + szC x <= CA') : Tri Θ default fAy [.ptr 0 0, chA x] (oSt s) (.tuple []) (oSt (ap1 s x)) := by
 obtain ⟨k, v, d⟩ := x; obtain ⟨m, c, b⟩ := s; have hb : b + (k.size + v.size) <= CA' := hb; have hby : b = byB m := h.by_
 cases hl : AU' k m with
 | some old =>
  have hle : k.size + old.size <= b := by have := Q1' hl; omega
  have hw1 : Wk (.v (.int .i64 (IntKind.i64.wrap (Int.ofNat b - IntKind.i64.wrap ((k.size : Int) + (old.size : Int)))))) (.v (.int .i64 (Int.ofNat (b - (k.size + old.size))))) := w_sub ω hle; have hlk := S8' (z := .agg #[.string ⟨#[]⟩]) hl
  cases d with
  | true =>
   have e : ap1 ⟨m, c, b⟩ ⟨k, v, true⟩ = ⟨kdel m k, c, b - (k.size + old.size)⟩ := by show off _ _ = _; rw [off]; simp only [hl]
   rw [e]
   refine AM' (con := []) (hints := AE' (hf' fAy 5 2 :: hAyY old (Int.ofNat (b - (k.size + old.size))) (kdel m k) c)) (lc := []) kAy rfl (fun _ _ => noC) (fun F _ => noL) fun F => ?_
   refine Yj (UV' m (kdel m k) c (Int.ofNat b) (Int.ofNat (b - (k.size + old.size))) k v old F) ⟨⟨?_, (AJ' (vs' := [.tuple []]) (H' := oSt ⟨kdel m k, c, b - (k.size + old.size)⟩) [] χ χ (Yb) ⟨⟨_, rfl, Yc⟩, ⟨_, rfl, D2' rfl rfl⟩, Ye⟩).fits rfl⟩⟩
   simp only [Cnd.holds, Nat.blt_eq, true_and, and_true]; and_intros; all_goals first | (with_reducible exact Ye) | (with_reducible exact rfl) | (with_reducible exact Ya) | (with_reducible exact Yb) | (with_reducible exact Yc) | (with_reducible exact B0' _) | (with_reducible assumption) | exact fk_m _ _ _ | exact hlk | exact hw1 | exact WE' _ _ _ | exact Kc1'
  | false =>
   have e : ap1 ⟨m, c, b⟩ ⟨k, v, false⟩ = ⟨kset (kdel m k) c k v, GN' (kdel m k) c k, b - (k.size + old.size) + (k.size + v.size)⟩ := by show onn (off _ _) _ = _; rw [off]; simp only [hl]; rfl
   have hw2 : Wk (.v (.int .i64 (IntKind.i64.wrap (Int.ofNat (b - (k.size + old.size)) + IntKind.i64.wrap ((k.size : Int) + (v.size : Int)))))) (.v (.int .i64 (Int.ofNat (b - (k.size + old.size) + (k.size + v.size))))) := w_add ω; rw [e]
   refine AM' (con := []) (hints := AE' (ht' fAy 5 2 :: (hAyY old (Int.ofNat (b - (k.size + old.size))) (kdel m k) c ++ hAyS (Int.ofNat (b - (k.size + old.size) + (k.size + v.size))) (kset (kdel m k) c k v) (GN' (kdel m k) c k)))) (lc := []) kAy rfl (fun _ _ => noC) (fun F _ => noL) fun F => ?_
   refine Yj (UW' m (kdel m k) (kset (kdel m k) c k v) c (GN' (kdel m k) c k) (Int.ofNat b) (Int.ofNat (b - (k.size + old.size))) (Int.ofNat (b - (k.size + old.size) + (k.size + v.size))) k v old F) ⟨⟨?_, (AJ' (vs' := [.tuple []]) (H' := oSt ⟨kset (kdel m k) c k v, GN' (kdel m k) c k, b - (k.size + old.size) + (k.size + v.size)⟩) [] χ χ (Yb) ⟨⟨_, rfl, Yc⟩, ⟨_, rfl, D2' rfl rfl⟩, Ye⟩).fits rfl⟩⟩
   simp only [Cnd.holds, Nat.blt_eq, true_and, and_true]; and_intros; all_goals first | (with_reducible exact Ye) | (with_reducible exact rfl) | (with_reducible exact Ya) | (with_reducible exact Yb) | (with_reducible exact Yc) | (with_reducible exact B0' _) | (with_reducible assumption) | exact fk_m _ _ _ | exact st_m _ _ | exact hlk | exact hw1 | exact hw2 | exact WE' _ _ _ | exact WD' _ _ _ _ | exact Kc1'
 | none =>
  have hlk := S9' hl
  cases d with
  | true =>
   have e : ap1 ⟨m, c, b⟩ ⟨k, v, true⟩ = ⟨m, c, b⟩ := by show off _ _ = _; rw [off]; simp only [hl]
   rw [e]
   refine AM' (con := []) (hints := AE' (hf' fAy 5 2 :: hAyN)) (lc := []) kAy rfl (fun _ _ => noC) (fun F _ => noL) fun F => ?_
   refine Yj (UX' m c (Int.ofNat b) k v F) ⟨⟨?_, (AJ' (vs' := [.tuple []]) (H' := oSt ⟨m, c, b⟩) [] χ χ (Yb) ⟨⟨_, rfl, Yc⟩, ⟨_, rfl, D2' rfl rfl⟩, Ye⟩).fits rfl⟩⟩
   simp only [Cnd.holds, Nat.blt_eq, true_and, and_true]; and_intros; all_goals first | (with_reducible exact Ye) | (with_reducible exact rfl) | (with_reducible exact Ya) | (with_reducible exact Yb) | (with_reducible exact Yc) | (with_reducible exact B0' _) | (with_reducible assumption) | exact fk_m _ _ _ | exact hlk | exact Kc1'
  | false =>
   have e : ap1 ⟨m, c, b⟩ ⟨k, v, false⟩ = ⟨kset m c k v, GN' m c k, b + (k.size + v.size)⟩ := by show onn (off _ _) _ = _; rw [off]; simp only [hl]; rfl
   have hw2 : Wk (.v (.int .i64 (IntKind.i64.wrap (Int.ofNat b + IntKind.i64.wrap ((k.size : Int) + (v.size : Int)))))) (.v (.int .i64 (Int.ofNat (b + (k.size + v.size))))) := w_add hb; rw [e]
   refine AM' (con := []) (hints := AE' (ht' fAy 5 2 :: (hAyN ++ hAyS (Int.ofNat (b + (k.size + v.size))) (kset m c k v) (GN' m c k)))) (lc := []) kAy rfl (fun _ _ => noC) (fun F _ => noL) fun F => ?_
   refine Yj (UY' m (kset m c k v) c (GN' m c k) (Int.ofNat b) (Int.ofNat (b + (k.size + v.size))) k v F) ⟨⟨?_, (AJ' (vs' := [.tuple []]) (H' := oSt ⟨kset m c k v, GN' m c k, b + (k.size + v.size)⟩) [] χ χ (Yb) ⟨⟨_, rfl, Yc⟩, ⟨_, rfl, D2' rfl rfl⟩, Ye⟩).fits rfl⟩⟩
   simp only [Cnd.holds, Nat.blt_eq, true_and, and_true]; and_intros; all_goals first | (with_reducible exact Ye) | (with_reducible exact rfl) | (with_reducible exact Ya) | (with_reducible exact Yb) | (with_reducible exact Yc) | (with_reducible exact B0' _) | (with_reducible assumption) | exact fk_m _ _ _ | exact st_m _ _ | exact hlk | exact hw2 | exact WD' _ _ _ _ | exact Kc1'
open Go.Maps Go.MapKept
open Int renaming ofNat -> o'
open Go.Value renaming string -> vs'
open Go.Value renaming bool -> vb'
open AO renaming cells -> ce'
open AV renaming v -> v'
open AV renaming ptr -> pt'
open Go.Value renaming slice -> sl'
variable {c : Nat}
noncomputable section
open Go.WideElems (rd rg rd_mk rg_of rd_key)
def keyL (o : KM) : List Γ := o.map fun e => e.1.data.toList
theorem KL' (o : KM) : (DJ' o).Perm (keyL o) := CF' _
theorem CK' (o : KM) : (DJ' o).length = o.length := by rw [(KL' o).length_eq, keyL, List.length_map]
theorem lessI {W0 w : World} {N : A7'} {F : HP} {h h' : Eng.T} (r : Rep W0 N F h w) (hh : ∀ i o, h'.find i = some o -> h.find i = some o) : Rep W0 N F h' w := by
 obtain ⟨D0, D, h1, h2, h3⟩ := r.sat
 exact ⟨r.os, r.tape, r.output, D0, D, h1, fun i o hi => h2 i o (hh i o hi), fun i j o o' hi hj => h3 i j o o' (hh i o hi) (hh j o' hj)⟩
section
variable {P : Program} {fS g : FuncId} {e : TypeId} {W : World} {o : KM} {ck : Nat} {tb : TypeId}
def oSk (tb : TypeId) (o : KM) (ck : Nat) : LH := [(0, .cells [.map 1] (2 * tb)), (1, mO o ck)]
theorem GZ' (hu : P.underlying e = some .string) (hS : DA' P fS g e) (hm : KI o ck) (hb : o.length * 16 <= 140737488355328) (hwf : ∀ k ∈ keyL o, k.length <= maxLen) {W0 : World} {F : HP} {N : A7'} {w : World} {vargs : Array Value}
  (r : Rep W0 N F (AN' (oSk tb o ck)) w) (ha : VRs N [.func (.func g) [] [.ptr 0 0]] vargs.toList) :
  Calls P fS vargs w fun en w' => ∃ v, en = .returned v /\ w'.ownsRow w.heap.size e 1 v o.length ((DJ' o).map encStr) /\ (v = .slice none 0 0 ↔ o = []) /\ Below w.heap.size w w' := by
 obtain ⟨y1, h1, rfl⟩ : ∃ y, VR N (.func (.func g) [] [.ptr 0 0]) y /\ vargs = #[y] := by
  simp only [VRs] at ha; obtain ⟨y, r', h1, rfl, hl⟩ := ha
  exact ⟨y, h1, by cases vargs; simp_all⟩
 have hf : ∀ i, (AN' (oSk tb o ck)).find i = getO (oSk tb o ck) i := AH' rfl; obtain ⟨D, hO⟩ := r.obj ((hf 0).trans rfl); obtain ⟨lb, arr, fz, k1, k2, k3, k4, k5, k6, k7, k8⟩ := hO; obtain ⟨k8, -⟩ := k8 (Nat.mul_mod_right _ _); simp only [VR, VRs] at h1; obtain ⟨f', c', rfl, ⟨y, r', ⟨l, hl, rfl⟩, rfl, rfl⟩, rfl⟩ := h1; obtain rfl : lb = l := Option.some.inj (k1.symm.trans hl)
 have hk7 : ∃ lm, N 1 = some lm /\ arr[0]? = some (.map (some lm.blk)) := by
  simp only [VRs, VR] at k7; obtain ⟨y, r', ⟨l2, hl2, rfl⟩, rfl, hk⟩ := k7; rw [k8, List.drop_zero] at hk; refine ⟨l2, hl2, ?_⟩; have := congrArg (fun z : List Value => z[0]?) hk; simpa [List.getElem?_take] using this
 obtain ⟨lm, hlm, h0⟩ := hk7
 have hcell : w.cell? ⟨lb.blk, 0, none⟩ = some (.map (some lm.blk)) := by simp [World.cell?, k3, h0]
 obtain ⟨es', hbm, hes⟩ := C1' r ((hf 1).trans rfl) hlm
 have hkeys : es'.toList.map (·.key) = (keyL o).map encStr := by
  refine DE' (es := kM o) ?_ hes; clear hm hb hwf r hf hbm hes
  induction o with
  | nil => rfl
  | cons x l ih =>
   show (match ES' (kM l) with | some r => some (x.1.data.toList :: r) | none => none) = _; rw [ih]; rfl
 have hsz : es'.size = o.length := by
  have := congrArg List.length hkeys; simpa [keyL] using this
 have hmax : (140737488355328 : Nat) <= maxLen := by unfold maxLen; omega
 have hborn : es'.toList.map (·.born) = o.map (·.2.2) := (ERs.borns hes).trans (SF' o)
 have hst : Stamped es' ck := by
  refine ⟨fun x hx => ?_, ?_, ?_⟩
  ·have : x.born ∈ o.map (·.2.2) := by rw [<- hborn]; exact List.mem_map_of_mem hx
   obtain ⟨z, hz, hq⟩ := List.mem_map.1 this; rw [<- hq]; exact hm.low z hz
  ·rw [hborn]; exact hm.stamps
  ·rw [hkeys, List.nodup_iff_pairwise_ne, List.pairwise_map]
   exact (List.nodup_iff_pairwise_ne.1 (HX' hm)).imp fun h e => h (encStr_inj e)
 have hkey : ∀ x ∈ es'.toList, ∃ k ∈ keyL o, x.key = encStr k := fun x hx => by
  have : x.key ∈ (keyL o).map encStr := by rw [<- hkeys]; exact List.mem_map_of_mem hx
  obtain ⟨k, hk, hq⟩ := List.mem_map.1 this; exact ⟨k, hk, hq.symm⟩
 have hrd : ∀ x ∈ es'.toList, ∀ k, k ∈ keyL o -> x.key = encStr k -> rd P e (fun _ => some ((.nil : DataW Unit), [])) x = some (.string k, .nil) := fun x hx k hk hq => by
  have hkk := hwf k hk; obtain ⟨kx, vx, bx⟩ := x; simp only at hq; subst hq; refine Go.WideElems.rd_mk (kl := .string k) (yv := (.nil, [])) ?_ rfl; simp only [keyOf, hu, mapKey, encStr]; simp; exact hkk
 have hfit : Go.WideElems.Fit P e (fun _ => some ((.nil : DataW Unit), [])) es' ck := ⟨ω, hst, fun x hx => by
  obtain ⟨k, hk, hq⟩ := hkey x hx
  exact ⟨_, hrd x hx k hk hq⟩⟩
 have hown : w.ownsMap P e (fun _ => some ((.nil : DataW Unit), [])) lm.blk es'.size (.map ((es'.toList.map (rg P e (fun _ => some (.nil, [])))).foldr DataW.insert [])) := ⟨es', ck, hbm, hfit, Yd, rfl⟩
 have hsize : Maps.size (.map ((es'.toList.map (rg P e (fun _ => some ((.nil : DataW Unit), [])))).foldr DataW.insert []) : DataW Unit) = es'.size := by
  rw [Maps.size_eq, length_sorted]; simp
 have hlt : lb.blk < w.heap.size := (Array.getElem?_eq_some_iff.1 k3).1; have hcall := hS lb.blk lm.blk _ _ _ w hlt hcell hown (by rw [hsize]; omega) (by rw [hsize]; omega); rw [k8]
 refine hcall.mono fun en w' ⟨v, ss, hen, hperm, hrow, hnil, hbel⟩ => ?_
 subst hen
 have hpk : (strKeys (.map ((es'.toList.map (rg P e (fun _ => some ((.nil : DataW Unit), [])))).foldr DataW.insert []) : DataW Unit)).Perm (keyL o) := by
  refine ((Go.WideShapes.sorted_perm _).map _).trans ?_
  have : (es'.toList.map (rg P e (fun _ => some ((.nil : DataW Unit), [])))).map (fun p => strOf p.1) = keyL o := by
   rw [List.map_map]
   have h2 : es'.toList.map ((fun p : Lit × DataW Unit => strOf p.1) ∘ rg P e (fun _ => some ((.nil : DataW Unit), []))) = (es'.toList.map (·.key)).map (fun v => match v with | .string s => s.data.toList | _ => []) := by
    rw [List.map_map]
    refine List.map_congr_left fun x hx => ?_
    obtain ⟨k, hk, hq⟩ := hkey x hx; simp only [Function.comp, Go.WideElems.rg_of (hrd x hx k hk hq), hq, strOf, encStr]
   rw [h2, hkeys, List.map_map]; exact (List.map_congr_left fun x _ => by simp [encStr]).trans (List.map_id _)
  rw [this]
 have hsort : ss.mergeSort (fun x y => decide (x <= y)) = DJ' o := by
  have h1 : ss.mergeSort (fun x y => decide (x <= y)) = (keyL o).mergeSort Go.leB := mergeSort_of_perm (hperm.trans hpk); rw [h1]
  have he : leS = Go.leB := by funext a b; exact IE' a b
  have tr : ∀ a b c : Γ, Go.leB a b = true -> Go.leB b c = true -> Go.leB a c = true := fun a b c h1 h2 => by simp only [Go.leB, decide_eq_true_eq] at *; exact List.le_trans h1 h2
  have to : ∀ a b : Γ, (Go.leB a b || Go.leB b a) = true := fun a b => by simp only [Go.leB, Bool.or_eq_true, decide_eq_true_eq]; exact List.le_total a b
  rw [DJ', he]; show _ = G1' Go.leB (keyL o); refine List.Perm.eq_of_pairwise (le := fun a b => Go.leB a b = true) (fun a b _ _ h1 h2 => ?_) (List.pairwise_mergeSort tr to _) (C9' tr to _) ((List.mergeSort_perm _ Go.leB).trans (CF' _).symm); simp only [Go.leB, decide_eq_true_eq] at h1 h2; exact List.le_antisymm h1 h2
 rw [hsort] at hrow
 have hlen : ss.length = o.length := by rw [<- CK' o, <- hsort]; simp
 rw [hlen] at hrow; refine ⟨v, rfl, hrow, ?_, hbel⟩; rw [hnil, <- List.length_eq_zero_iff, hlen, List.length_eq_zero_iff]
theorem KI.nil0 (ck : Nat) : KI ([] : KM) ck := ⟨List.nodup_nil, List.nodup_nil, fun e he => by cases he⟩
theorem O6' (hu : P.underlying e = some .string) (hS : DA' P fS g e) {ck : Nat} : Tri P W fS [.func (.func g) [] [.ptr 0 0]] (oSk tb [] ck) (.v (.slice none 0 0)) (oSk tb [] ck) := by
 intro W0 F N w vargs hF hNB r ha; refine (GZ' hu hS (KI.nil0 ck) (by show 0 * 16 <= _; omega) (fun k hk => by cases hk) r ha).mono ?_; rintro en w' ⟨v, rfl, hrow, hnil, hb⟩; rw [hnil.2 rfl]
 exact ⟨_, rfl, N, fun _ _ => rfl, hNB, r.below hb, AA'.2 ⟨VR_v.2 rfl, AQ'⟩⟩
theorem O5' (hu : P.underlying e = some .string) (hS : DA' P fS g e) (hm : KI o ck) (hb : o.length * 16 <= 140737488355328) (hwf : ∀ k ∈ keyL o, k.length <= maxLen) (hne : o ≠ []) :
  Tri P W fS [.func (.func g) [] [.ptr 0 0]] (oSk tb o ck) (.slice 1000 0 o.length 1 (.lo o.length)) (oSk tb o ck ++ [(1000, .cells (vmap ((DJ' o).map encStr)) (2 * e))]) := by
 intro W0 F N w vargs hF hNB r ha; refine (GZ' hu hS hm hb hwf r ha).mono ?_; rintro en w' ⟨v, rfl, hrow, hnil, hb⟩; have hN0 : N 1000 = none := hNB 1000 (Yd) rfl; have r' := r.below hb; obtain ⟨_, hv | ⟨g, cap, cur, rfl, hg, hc, h1, h2, h3, h4⟩⟩ := hrow
 ·have hx := hv.2; rw [List.length_eq_zero_iff] at hx; exact absurd hx hne
 ·have hle := A7'.put_le (l := ⟨g, 0, cur.size⟩) hN0; rw [Nat.mul_one] at h3 h4
  have key : Rep W0 (N.put 1000 ⟨g, 0, cur.size⟩) F (Eng.T.set Eng.T.depth (AN' (oSk tb o ck)) 1000 (.leaf (.cells (vmap ((DJ' o).map encStr)) (2 * e)))) w' := by
   refine r.new (n := 1000) δ hle hb ⟨fun b => b = g, ?_, fun b hb => by subst hb; exact hg⟩
   refine ⟨⟨g, 0, cur.size⟩, cur, (0, 0), A7'.put_same, fun _ => Iff.rfl, (by rw [Nat.mul_div_cancel_left _ (by decide : 0 < 2)]; exact hc), by simp, by simp only [vmap, List.length_map, CK']; omega, .inl rfl, ?_, fun _ => ⟨rfl, rfl⟩⟩
   have : ((cur.toList.drop 0).take (vmap ((DJ' o).map encStr)).length) = (DJ' o).map encStr := by rw [List.drop_zero]; simp only [vmap, List.length_map, CK']; exact h4
   rw [this]; exact VRs.vmap _
  refine ⟨_, rfl, N.put 1000 ⟨g, 0, cur.size⟩, fun i hi => A7'.put_ne ω, fun i hi hg => ?_, lessI key (h' := AN' (oSk tb o ck ++ [(1000, .cells (vmap ((DJ' o).map encStr)) (2 * e))])) ?_, ?_⟩
  ·have h1 : i ≠ 1000 := fun e => by subst e; cases hg
   rw [A7'.put_ne h1]; exact hNB i hi (by simp only [oSk, getO]; rw [if_neg ω, if_neg ω])
  ·intro i x hi; rw [AH' rfl] at hi; rw [Eng.T.find_set δ, AH' rfl]
   by_cases h1 : i = 1000
   ·subst h1; rw [if_pos rfl]; exact hi
   ·rw [if_neg h1]; simp only [oSk, List.cons_append, List.nil_append, getO, if_neg h1] at hi ⊢; exact hi
  ·refine AA'.2 ⟨?_, AQ'⟩; simp only [VR]
   exact ⟨_, 0, cap, A7'.put_same, rfl, .inl rfl, by simp only; omega, by simp only [Cp.fits]; omega, by omega⟩
end
end
theorem ad_blk (a : Addr) (n : Nat) : (a.add n).block = a.block := by unfold Addr.add; split <;> rfl
theorem ad_off (a : Addr) (n : Nat) : (a.add n).off = a.off + n := by
 unfold Addr.add; split
 ·rename_i h; subst h; rfl
 ·rfl
theorem XF' (a : Addr) (m n : Nat) (h : 0 < n) : Addr.mk (a.add m).block ((a.add m).off + n) none = a.add (m + n) := by
 rw [ad_blk, ad_off]
 conv => rhs; unfold Addr.add
 rw [if_neg ω, Nat.add_assoc]
structure LdC (W : World) (a : Addr) (i : Nat) (x : Chg) : Prop where
 c0 : W.cell? ((a.add (i * 3)).add 0) = some (.string x.k)
 c1 : W.cell? (Addr.mk (a.add (i * 3)).block ((a.add (i * 3)).off + 1) none) = some (.string x.v)
 c2 : W.cell? (Addr.mk (a.add (i * 3)).block ((a.add (i * 3)).off + 2) none) = some (.bool x.d)
theorem CAt.ld {W : World} {oa : Option Addr} {l : List Chg} (h : CAt W oa l) {i : Nat} {x : Chg} (hx : l[i]? = some x) : ∃ a, oa = some a /\ LdC W a i x := by
 obtain ⟨a, ha, hc⟩ := h.at' i x hx; refine ⟨a, ha, ?_, ?_, ?_⟩
 ·have := hc 0 (.string x.k) rfl; exact this
 ·rw [XF' _ _ _ ω]; exact hc 1 (.string x.v) rfl
 ·rw [XF' _ _ _ ω]; exact hc 2 (.bool x.d) rfl
theorem LdC.all {W : World} {a : Addr} {i : Nat} {x : Chg} (h : LdC W a i x) : ([0, 1, 2].all fun j => (W.cell? ((a.add (i * 3)).add j)).isSome) = true := by
 have e1 : (a.add (i * 3)).add 1 = Addr.mk (a.add (i * 3)).block ((a.add (i * 3)).off + 1) none := rfl; have e2 : (a.add (i * 3)).add 2 = Addr.mk (a.add (i * 3)).block ((a.add (i * 3)).off + 2) none := rfl; simp only [List.all_cons, List.all_nil, e1, e2, h.c0, h.c1, h.c2, Option.isSome_some, Bool.and_true]
def ckS : List Chg -> Nat
 | [] => 0
 | x :: l => (match x.d with | true => x.k.size | false => x.k.size + x.v.size) + ckS l
theorem T1' : ∀ l : List Chg, ckS l <= szL l
 | [] => Yd
 | x :: l => by
  have := T1' l; rw [ckS, CS', szC]
  cases x.d <;> simp only <;> omega
theorem Q0' : ∀ (l : List Chg) (x : Chg), ckS (l ++ [x]) = ckS l + (match x.d with | true => x.k.size | false => x.k.size + x.v.size)
 | [], x => by simp [ckS]
 | y :: l, x => by rw [List.cons_append, ckS, ckS, Q0' l x, Nat.add_assoc]
theorem IQ' (l : List Chg) (i : Nat) : szL (l.take i) <= szL l := by
 have := congrArg szL (List.take_append_drop i l); rw [GF'] at this; omega
theorem O0' {s k : Nat} (h : s + k <= CA') : Wk (.v (.int .i64 (IntKind.i64.wrap (o' s + (k : Int))))) (.v (.int .i64 (o' (s + k)))) := by
 unfold CA' at h; rw [IntWalk.i64_in _ (by simp only [Z0]; omega)]; exact C8' (by simp only [Z0]; omega)
theorem VK' (W : World) (oa : Option Addr) (c : Nat) (l : List Chg) (h : CAt W oa l) (hs : szL l <= CA') :
  LTri Θ W (A3' fCk 3) (tms 0 51 (aCk1 oa l.length c 0 0)) [] (.exit 0) (tms 0 51 [(0, slV oa l.length c), (2, iv 0), (3, iv (o' (ckS l)))]) [] := by
 refine BG' (W := W) (g := fCk) (b := A3' fCk 3) (σ := {i : Nat // i <= l.length}) 51 (fun i => aCk1 oa l.length c (o' (ckS (l.take i.1))) i.1) (fun _ => []) (.exit 0) [(0, slV oa l.length c), (2, iv 0), (3, iv (o' (ckS l)))] [] (fun i => l.length - i.1) [] V8' (by intro h; cases h) (fun i => rfl) rfl ?_ ⟨0, Nat.zero_le _⟩
 rintro ⟨i, hi⟩; simp only; have hlen := h.len
 by_cases h1 : i < l.length
 ·obtain ⟨x, hx⟩ := B1' h1; obtain ⟨a, rfl, hL⟩ := h.ld hx; have hsn := BR' hx
  have hck : ckS (l.take (i + 1)) = ckS (l.take i) + (match x.d with | true => x.k.size | false => x.k.size + x.v.size) := by rw [hsn, Q0']
  have hle : ckS (l.take (i + 1)) <= CA' := Nat.le_trans (Nat.le_trans (T1' _) (IQ' _ _)) hs; have hall := hL.all; have c0 := hL.c0; have c1 := hL.c1; have c2 := hL.c2; clear hL hx hsn; obtain ⟨k, v, d⟩ := x; simp only at c0 c1 c2 hck; have e1 : Wk (.v (.bool (decide (o' i < o' l.length)))) (.lit true) := A4' (ltTN h1); have e3 : Wk (.v (.int .i64 (IntKind.i64.wrap (o' i + o' 1)))) (.v (.int .i64 (o' (i + 1)))) := C8' (BB' i ω)
  generalize hs0 : ckS (l.take i) = s at *
  cases d with
  | true =>
   simp only at hck; have e2 := O0' (s := s) (k := k.size) ω
   refine ⟨[], hCk1 k v true (o' (s + k.size)) (o' (s + k.size)) i, [], fun _ _ => noC, fun _ _ => noL, fun F => ?_⟩
   refine Yj (UQ' W a l.length c i (o' s) (o' (s + k.size)) k v F) ⟨⟨?_, rfl, .inl ⟨rfl, ⟨i + 1, h1⟩, B7' h1, [], by simp only [hck]; exact ⟨χ, by kernel_rfl, ⟨Ya, Ya, Ya, Ya, Ya, Ya, Ye⟩, Ye⟩⟩⟩⟩
   exact Cc3'
  | false =>
   simp only at hck; have e2 := O0' (s := s) (k := k.size) ω; have e4 := O0' (s := s + k.size) (k := v.size) ω
   refine ⟨[], hCk1 k v false (o' (s + k.size)) (o' (s + k.size + v.size)) i, [], fun _ _ => noC, fun _ _ => noL, fun F => ?_⟩
   refine Yj (UO' W a l.length c i (o' s) (o' (s + k.size)) (o' (s + k.size + v.size)) k v F) ⟨⟨?_, rfl, .inl ⟨rfl, ⟨i + 1, h1⟩, B7' h1, [], by simp only [hck, <- Nat.add_assoc]; exact ⟨χ, by kernel_rfl, ⟨Ya, Ya, Ya, Ya, Ya, Ya, Ye⟩, Ye⟩⟩⟩⟩
   exact Cc3'
 ·have hie : i = l.length := ω
  subst hie; rw [List.take_of_length_le (Yd)]
  refine ⟨[], AE' [hf' fCk 3 0], [], fun _ _ => noC, fun _ _ => noL, fun F => ?_⟩
  refine Yj (UP' W oa l.length c l.length (o' (ckS l)) F) ⟨⟨?_, rfl, .inr ⟨rfl, [], by kernel_rfl, by kernel_rfl, ⟨Ya, Ya, Ya, Ye⟩, Ye⟩⟩⟩
  simp only [Cnd.holds, and_true]; exact A4' (ltFN (Yd))
theorem bl_eq (a b : Δ) : (a.toList == b.toList) = decide (a = b) := by
 by_cases h : a = b
 ·subst h; rw [decide_eq_true rfl]; exact beq_self_eq_true _
 ·rw [decide_eq_false h, beq_eq_false_iff_ne]; intro e; rw [Lib.toList_data, Lib.toList_data] at e; exact h (congrArg bsOf e)
theorem RA' (k : Δ) : Wk (.v (.bool (k.toList == []))) (.lit (k.size == 0)) := by
 have e : (k.toList == (ByteArray.mk #[]).toList) = (k.size == 0) := by
  rw [bl_eq]
  by_cases h : k.size = 0
  ·have : k = ByteArray.mk #[] := ByteArray.ext (Array.eq_empty_of_size_eq_zero h); rw [decide_eq_true this, h]; rfl
  ·have : k ≠ ByteArray.mk #[] := fun e => h (by rw [e]; rfl)
   rw [decide_eq_false this]; exact (by simpa using h : (k.size == 0) = false).symm
 have z : Wk (.v (.bool (k.toList == (ByteArray.mk #[]).toList))) (.lit (k.size == 0)) := A4' e
 have e2 : (ByteArray.mk #[]).toList = [] := by rw [Lib.toList_data]
 rw [e2] at z; exact z
theorem O1' (k : Δ) : Wk (.v (.bool (decide ((k.size : Int) > o' 255)))) (.lit (!(decide (k.size <= 255)))) := by
 refine A4' ?_
 by_cases h : k.size <= 255
 ·rw [decide_eq_true h, decide_eq_false (by simp only [Z0]; omega)]; rfl
 ·rw [decide_eq_false h, decide_eq_true (by simp only [Z0]; omega)]; rfl
theorem JN' {k : Δ} (h : LC' k = true) : (k.size == 0) = false /\ (!(decide (k.size <= 255))) = false := by
 rw [LC', Bool.and_eq_true] at h
 exact ⟨by simpa using h.1, by rw [h.2]; rfl⟩
theorem VJ' (W : World) (oa : Option Addr) (c : Nat) (l : List Chg) (h : CAt W oa l) (hk : okL l = true) :
  LTri Θ W (A3' fCk 12) (tms 0 51 (aCk2 oa l.length c 0)) [] (.exit 2) (tms 0 51 []) [] := by
 refine BG' (W := W) (g := fCk) (b := A3' fCk 12) (σ := {i : Nat // i <= l.length}) 51 (fun i => aCk2 oa l.length c i.1) (fun _ => []) (.exit 2) [] [] (fun i => l.length - i.1) [] QP' (by intro h; cases h) (fun i => rfl) rfl ?_ ⟨0, Nat.zero_le _⟩; rintro ⟨i, hi⟩; simp only; have hlen := h.len
 by_cases h1 : i < l.length
 ·obtain ⟨x, hx⟩ := B1' h1; obtain ⟨a, rfl, hL⟩ := h.ld hx; have hall := hL.all; have c0 := hL.c0; have c1 := hL.c1; have c2 := hL.c2; have hg : LC' x.k = true := List.all_eq_true.1 hk x (List.mem_of_getElem? hx); clear hL hx; obtain ⟨k, v, d⟩ := x; simp only at c0 c1 c2 hg; obtain ⟨g1, g2⟩ := JN' hg; have e1 : Wk (.v (.bool (decide (o' i < o' l.length)))) (.lit true) := A4' (ltTN h1); have e3 : Wk (.v (.int .i64 (IntKind.i64.wrap (o' i + o' 1)))) (.v (.int .i64 (o' (i + 1)))) := C8' (BB' i ω); have w1 := RA' k; have w2 := O1' k; rw [g1] at w1; rw [g2] at w2
  refine ⟨[], hCk2 k v d false false i, [], fun _ _ => noC, fun _ _ => noL, fun F => ?_⟩
  refine Yj (PO' W a l.length c i k v d F) ⟨⟨?_, rfl, .inl ⟨rfl, ⟨i + 1, h1⟩, B7' h1, [], by kernel_rfl, by kernel_rfl, ⟨Ya, Ya, Ya, Ya, Ye⟩, Ye⟩⟩⟩
  exact Cc4'
 ·have hie : i = l.length := ω
  subst hie
  refine ⟨[], AE' [hf' fCk 12 0], [], fun _ _ => noC, fun _ _ => noL, fun F => ?_⟩
  refine Yj (UN' W oa l.length c l.length F) ⟨⟨?_, rfl, .inr ⟨rfl, [], by kernel_rfl, by kernel_rfl, Ye, Ye⟩⟩⟩
  simp only [Cnd.holds, and_true]; exact A4' (ltFN (Yd))
theorem N6' : ∀ {l : List Chg}, okL l = false -> ∃ (j : Nat) (x : Chg), l[j]? = some x /\ LC' x.k = false /\ ∀ (i : Nat) (y : Chg), i < j -> l[i]? = some y -> LC' y.k = true
 | [], h => by cases h
 | x :: l, h => by
  cases hx : LC' x.k with
  | false => exact ⟨0, x, rfl, hx, fun i y hi => absurd hi (Nat.not_lt_zero _)⟩
  | true =>
   have h2 : okL l = false := by
    rw [okL, List.all_cons, hx, Bool.true_and] at h; exact h
   obtain ⟨j, y, h3, h4, h5⟩ := N6' h2
   refine ⟨j + 1, y, h3, h4, fun i z hi hz => ?_⟩
   cases i with
   | zero => cases hz; exact hx
   | succ i => exact h5 i z ω hz
theorem aR' (W : World) (oa : Option Addr) (c : Nat) (l : List Chg) (h : CAt W oa l) (hk : okL l = false) :
  LTri Θ W (A3' fCk 12) (tms 0 51 (aCk2 oa l.length c 0)) [] .ret (tms 0 51 [(2, iv 130)]) [] := by
 obtain ⟨j, xj, hj, hbad, hgood⟩ := N6' hk; have hjl : j < l.length := (List.getElem?_eq_some_iff.1 hj).1; refine BG' (W := W) (g := fCk) (b := A3' fCk 12) (σ := {i : Nat // i <= j}) 51 (fun i => aCk2 oa l.length c i.1) (fun _ => []) .ret [(2, iv 130)] [] (fun i => l.length - i.1) [] QP' (by intro h; cases h) (fun i => rfl) rfl ?_ ⟨0, Nat.zero_le _⟩; rintro ⟨i, hi⟩; simp only; have hlen := h.len
 have h1 : i < l.length := ω
 obtain ⟨x, hx⟩ := B1' h1; obtain ⟨a, rfl, hL⟩ := h.ld hx; have hall := hL.all; have c0 := hL.c0; have c1 := hL.c1; have c2 := hL.c2; have e1 : Wk (.v (.bool (decide (o' i < o' l.length)))) (.lit true) := A4' (ltTN h1); have e3 : Wk (.v (.int .i64 (IntKind.i64.wrap (o' i + o' 1)))) (.v (.int .i64 (o' (i + 1)))) := C8' (BB' i ω)
 by_cases hij : i < j
 ·have hg : LC' x.k = true := hgood i x hij hx; clear hL hx; obtain ⟨k, v, d⟩ := x; simp only at c0 c1 c2 hg; obtain ⟨g1, g2⟩ := JN' hg; have w1 := RA' k; have w2 := O1' k; rw [g1] at w1; rw [g2] at w2
  refine ⟨[], hCk2 k v d false false i, [], fun _ _ => noC, fun _ _ => noL, fun F => ?_⟩
  refine Yj (PO' W a l.length c i k v d F) ⟨⟨?_, rfl, .inl ⟨rfl, ⟨i + 1, hij⟩, B7' h1, [], by kernel_rfl, by kernel_rfl, ⟨Ya, Ya, Ya, Ya, Ye⟩, Ye⟩⟩⟩
  exact Cc4'
 ·have hie : i = j := ω
  subst hie; have hxx : xj = x := Option.some.inj (hj.symm.trans hx); subst hxx; clear hL hx hj; obtain ⟨k, v, d⟩ := xj; simp only at c0 c1 c2 hbad; have w1 := RA' k; have w2 := O1' k
  cases hz : (k.size == 0) with
  | true =>
   rw [hz] at w1
   refine ⟨[], hCk2 k v d true false i, [], fun _ _ => noC, fun _ _ => noL, fun F => ?_⟩
   refine Yj (UL' W a l.length c i k v d F) ⟨⟨?_, rfl, .inr ⟨rfl, [], by kernel_rfl, by kernel_rfl, ⟨Ya, Ye⟩, Ye⟩⟩⟩
   exact Cc5'
  | false =>
   rw [hz] at w1
   have hl2 : (!(decide (k.size <= 255))) = true := by
    rw [LC', hz] at hbad; simpa using hbad
   rw [hl2] at w2
   refine ⟨[], hCk2 k v d false true i, [], fun _ _ => noC, fun _ _ => noL, fun F => ?_⟩
   refine Yj (UM' W a l.length c i k v d F) ⟨⟨?_, rfl, .inr ⟨rfl, [], by kernel_rfl, by kernel_rfl, ⟨Ya, Ye⟩, Ye⟩⟩⟩
   exact Cc5'
theorem aA' {W : World} {oa : Option Addr} {l : List Chg} (h : CAt W oa l) (hs : szL l <= CA') (F : HP) (hF : AK' W F) : L1OK Θ F (A3' fCk 3) (lCk1 oa l.length c (o' (ckS l))) :=
 CE' hF (fun _ => RO.ret _) (fun _ _ => VK' W oa c l h hs) fun _ => by
  simp only [RT.pick]; exact BQ' rfl rfl (A0' Ye (A0' Ye (A0' Ye (A0' Ye (A0' Ye (A0' Ye A1')))))) A1' (A0' Ye (A0' Ye (A0' Ye A1'))) A1'
theorem a9' {W : World} {oa : Option Addr} {l : List Chg} (h : CAt W oa l) (hk : okL l = true) (F : HP) (hF : AK' W F) : L1OK Θ F (A3' fCk 12) (lCk2 oa l.length c) :=
 CE' hF (fun _ => RO.ret _) (fun _ _ => VJ' W oa c l h hk) fun _ => by
  simp only [RT.pick]; exact BQ' rfl rfl (A0' Ye (A0' Ye (A0' Ye (A0' Ye A1')))) A1' A1' A1'
theorem V7' {W : World} {oa : Option Addr} {l : List Chg} (h : CAt W oa l) (hk : okL l = false) (F : HP) (hF : AK' W F) : L1OK Θ F (A3' fCk 12) (SA' oa l.length c) :=
 CE' hF (fun _ => RO.ret _) (fun _ _ => aR' W oa c l h hk) fun _ => by
  simp only [RT.pick]; exact BQ' rfl rfl (A0' Ye (A0' Ye (A0' Ye (A0' Ye A1')))) A1' (A0' Ye A1') A1'
def ckV (l : List Chg) : AV := match okL l with | true => iv 0 | false => iv 130
theorem ck_tri (W : World) (oa : Option Addr) (c : Nat) (l : List Chg) (h : CAt W oa l) (hs : szL l <= 500000) (hn : l.length <= 10000) : Tri Θ W fCk [slV oa l.length c] [] (ckV l) [] := by
 have hs' : szL l <= CA' := Nat.le_trans hs δ; have hck : ckS l <= 500000 := Nat.le_trans (T1' l) hs
 have q1 := fun F hF => aA' h hs' (c := c) F hF
 have d1 : Wk (.v (.bool (decide ((l.length : Int) > o' 10000)))) (.lit false) := A4' (decide_eq_false (by simp only [Z0]; omega)); have d2 : Wk (.v (.bool (decide (o' (ckS l) > o' 500000)))) (.lit false) := A4' (decide_eq_false (by simp only [Z0]; omega))
 cases hk : okL l with
 | true =>
  rw [ckV, hk]
  refine AM' (con := []) (hints := hCk false false) (lc := [(fCk, 3, A3' fCk 3, lCk1 oa l.length c (o' (ckS l))), (fCk, 12, A3' fCk 12, lCk2 oa l.length c)]) [] rfl (fun _ _ => noC) (fun F hF => DI' (q1 F hF) (CJ' (a9' h hk F hF))) fun F => ?_
  refine Yj (ZS' W oa l.length c (o' (ckS l)) F) ⟨⟨?_, (AJ' (vs' := [iv 0]) (H' := []) [] rfl rfl (Yb) trivial).fits rfl⟩⟩; exact Cc6'
 | false =>
  rw [ckV, hk]
  refine AM' (con := []) (hints := hCk false false) (lc := [(fCk, 3, A3' fCk 3, lCk1 oa l.length c (o' (ckS l))), (fCk, 12, A3' fCk 12, SA' oa l.length c)]) [] rfl (fun _ _ => noC) (fun F hF => DI' (q1 F hF) (CJ' (V7' h hk F hF))) fun F => ?_
  refine Yj (ZT' W oa l.length c (o' (ckS l)) F) ⟨⟨?_, (AJ' (vs' := [iv 130]) (H' := []) [] rfl rfl (Yb) trivial).fits rfl⟩⟩; exact Cc6'
noncomputable section
def aLw (o1 o2 : Option Addr) (n1 c1 n2 c2 : Nat) : List (Nat × AV) := [(0, slV o1 n1 c1), (1, slV o2 n2 c2), (6, .ptr 1052 0), (8, .ptr 1053 0)]
def oLw (O O3 : AO) : LH := [(1052, O), (1053, O3)]
def aBy (o1 o2 : Option Addr) (n1 c1 n2 c2 : Nat) (s : Int) (n i : Nat) : List (Nat × AV) := aLw o1 o2 n1 c1 n2 c2 ++ [(9, iv s), (40, sC 1050 n), (41, iv (o' n)), (42, iv (o' i))]
def ixBy : List Nat := [0, 1, 6, 8, 9, 40, 41, 42]
def kBy : List Nat := [1050, 1052, 1053, 1100]
abbrev h31' (q0 q1 : Nat) (q2 : List Chg) (q3 q4 : Δ) (q5 : Bool) (z : Cnd) : Cnd := ((wb' (decide (o' q0 < o' q1)) j').a ((f' (q0.blt q1 = true)).a (((p' ((List.take 3 (List.drop (0 + q0 * 3) (rowV chV q2))).length.beq 3 = true)).a ((p' (List.take 3 (List.drop (0 + q0 * 3) (rowV chV q2)) = [v' (vs' ((List.take 3 (List.drop (0 + q0 * 3) (rowV chV q2))).getD 0 (u')).strOf),v' (vs' ((List.take 3 (List.drop (0 + q0 * 3) (rowV chV q2))).getD 1 (u')).strOf),v' (vb' ((List.take 3 (List.drop (0 + q0 * 3) (rowV chV q2))).getD 2 (u')).boolOf)])).a (f' (Wk (AV.agg [v' (vs' ((List.take 3 (List.drop (0 + q0 * 3) (rowV chV q2))).getD 0 (u')).strOf),v' (vs' ((List.take 3 (List.drop (0 + q0 * 3) (rowV chV q2))).getD 1 (u')).strOf),v' (vb' ((List.take 3 (List.drop (0 + q0 * 3) (rowV chV q2))).getD 2 (u')).boolOf)]) (AV.agg [s' q3,s' q4,b' q5]))))).a z)))
theorem ZU' (o1 o2 : Option Addr) (n1 c1 n2 c2 : Nat) (s t : Int) (n i : Nat) (l : List Chg) (k v : Δ) (d : Bool) (O O3 : AO) (F : HP) : BK' [] (AE' [ht' fLaw 9 0, (fLaw, 10, 1, hv (.agg [sv k, sv v, bv d])), (fLaw, 11, 8, hv (iv t)), (fLaw, 12, 0, hv (iv (o' (i + 1))))]) [] default fLaw (A3' fLaw 9) (tms 0 112 (aBy o1 o2 n1 c1 n2 c2 s n i)) ((1050, rC l) :: oLw O O3) kBy ixBy F = VT.leaf (AX.normal,[v' (sl' o1 n1 c1),v' (sl' o2 n2 c2),pt' 1052 0,pt' 1053 0,z' t,AV.slice 1050 0 n 3 (Cp.lo n),i' n,i' (i + 1)],112) [some (ce' (rowV chV l) 58),some O,some O3,some (ce' [s' k,s' v,b' d] 58)] 1101 (h31' i n l k v d (h20' k v ((k19' s k v t).a ((k2' i).a k1')))) := χ
theorem ZV' (o1 o2 : Option Addr) (n1 c1 n2 c2 : Nat) (s : Int) (n i : Nat) (l : List Chg) (O O3 : AO) (F : HP) : BK' [] (AE' [hf' fLaw 9 0]) [] default fLaw (A3' fLaw 9) (tms 0 112 (aBy o1 o2 n1 c1 n2 c2 s n i)) ((1050, rC l) :: oLw O O3) kBy ixBy F = VT.leaf (AX.exit 0,[v' (sl' o1 n1 c1),v' (sl' o2 n2 c2),pt' 1052 0,pt' 1053 0,z' s,AV.slice 1050 0 n 3 (Cp.lo n),i' n,i' i],112) [some (ce' (rowV chV l) 58),some O,some O3,none] 1100 ((k25' i n).a k1') := χ
def gLw (tms : List AV) : AP (Nat × Nat × Nat) := match tms.getD 6 AV.undef, tms.getD 8 AV.undef, tms.getD 40 AV.undef with
 | .ptr a 0, .ptr b 0, .slice i _ _ _ _ => .ret (a, b, i)
 | .ptr a 0, .ptr b 0, _ => .ret (a, b, 0)
 | _, _, _ => .fail "catalogs"
def nmLw (p : Nat × Nat × Nat) (k : Nat) : Nat := match Nat.beq k 1052 with
 | true => p.1
 | false => match Nat.beq k 1053 with
  | true => p.2.1
  | false => match Nat.beq k 1050 with
   | true => p.2.2
   | false => k
def lBy (o1 o2 : Option Addr) (n1 c1 n2 c2 : Nat) (t : Int) (n : Nat) (l : List Chg) (O O3 : AO) : List AV -> AP (AX × List AV) := mkL gLw (fun _ => True) nmLw (fun _ => tms 0 112 (aBy o1 o2 n1 c1 n2 c2 0 n 0)) (fun _ => (1050, rC l) :: oLw O O3) (fun _ => .leaf (.exit 0) (tms 0 112 (aLw o1 o2 n1 c1 n2 c2 ++ [(9, iv t)])) (oLw O O3))
def aOu (o1 o2 : Option Addr) (n1 c1 n2 c2 : Nat) (s : Int) (i : Nat) : List (Nat × AV) := aLw o1 o2 n1 c1 n2 c2 ++ [(9, iv s), (56, slV o1 n1 c1), (57, iv (o' n1)), (58, iv (o' i))]
def ixOu : List Nat := [0, 1, 4, 6, 8, 9, 56, 57, 58]
def aIn (o1 o2 : Option Addr) (n1 c1 n2 c2 : Nat) (s : Int) (i j : Nat) : List (Nat × AV) := aOu o1 o2 n1 c1 n2 c2 s i ++ [(13, .ptr 1054 0), (62, slV o2 n2 c2), (63, iv (o' n2)), (64, iv (o' j))]
def ixIn : List Nat := [0, 1, 4, 6, 8, 9, 13, 56, 57, 58, 62, 63, 64]
def oIn (k v : Δ) (d : Bool) (O O3 : AO) : LH := oLw O O3 ++ [(1054, .cells [sv k, sv v, bv d] (2 * 29))]
def kIn : List Nat := [1052, 1053, 1054, 1100]
def hIn (k v : Δ) (d : Bool) (b : Bool) (j : Nat) : B9' := AE' [ht' fLaw 17 0, (fLaw, 18, 1, hv (.agg [sv k, sv v, bv d])), (fLaw, 19, 4, hv (.lit b)), (fLaw, 21, 0, hv (iv (o' (j + 1))))]
abbrev k32' (q0 : World) (q1 : Addr) (q2 : Nat) (q3 q4 : Δ) (q5 : Bool) : Cnd := ((p' (([0,1,2].all fun j_1 => (q0.cell? ((q1.add (q2 * 3)).add j_1)).isSome) = true)).a ((p' ([v' ((q0.cell? ((q1.add (q2 * 3)).add 0)).getD (Value.tuple (Array.mk []))),v' ((q0.cell? (Addr.mk (q1.add (q2 * 3)).block ((q1.add (q2 * 3)).off + 1) none)).getD (Value.tuple (Array.mk []))),v' ((q0.cell? (Addr.mk (q1.add (q2 * 3)).block ((q1.add (q2 * 3)).off + 2) none)).getD (Value.tuple (Array.mk [])))] = [v' (vs' (v' ((q0.cell? ((q1.add (q2 * 3)).add 0)).getD (Value.tuple (Array.mk [])))).strOf),v' (vs' (v' ((q0.cell? (Addr.mk (q1.add (q2 * 3)).block ((q1.add (q2 * 3)).off + 1) none)).getD (Value.tuple (Array.mk [])))).strOf),v' (vb' (v' ((q0.cell? (Addr.mk (q1.add (q2 * 3)).block ((q1.add (q2 * 3)).off + 2) none)).getD (Value.tuple (Array.mk [])))).boolOf)])).a (f' (Wk (AV.agg [v' (vs' (v' ((q0.cell? ((q1.add (q2 * 3)).add 0)).getD (Value.tuple (Array.mk [])))).strOf),v' (vs' (v' ((q0.cell? (Addr.mk (q1.add (q2 * 3)).block ((q1.add (q2 * 3)).off + 1) none)).getD (Value.tuple (Array.mk [])))).strOf),v' (vb' (v' ((q0.cell? (Addr.mk (q1.add (q2 * 3)).block ((q1.add (q2 * 3)).off + 2) none)).getD (Value.tuple (Array.mk [])))).boolOf)]) (AV.agg [s' q3,s' q4,b' q5])))))
theorem S4' (W : World) (o1 : Option Addr) (a2 : Addr) (n1 c1 n2 c2 : Nat) (s : Int) (i j : Nat) (k v k2 v2 : Δ) (d d2 : Bool) (O O3 : AO) (F : HP) : BK' [] (hIn k2 v2 d2 false j) [] W fLaw (A3' fLaw 17) (tms 0 112 (aIn o1 (some a2) n1 c1 n2 c2 s i j)) (oIn k v d O O3) kIn ixIn F = VT.leaf (AX.normal,[v' (sl' o1 n1 c1),v' (sl' (some a2) n2 c2),a',pt' 1052 0,pt' 1053 0,z' s,pt' 1054 0,v' (sl' o1 n1 c1),i' n1,i' i,v' (sl' (some a2) n2 c2),i' n2,i' (j + 1)],112) [some O,some O3,some (ce' [s' k,s' v,b' d] 58),some (ce' [s' k2,s' v2,b' d2] 58)] 1101 (h3' j n2 ((k32' W a2 j k2 v2 d2).a (h20' k k2 ((wb' (k.toList == k2.toList) g').a ((k2' j).a k1'))))) := χ
theorem ZI' (W : World) (o1 : Option Addr) (a2 : Addr) (n1 c1 n2 c2 : Nat) (s : Int) (i j : Nat) (k v k2 v2 : Δ) (d d2 : Bool) (O O3 : AO) (F : HP) : BK' [] (hIn k2 v2 d2 true j) [] W fLaw (A3' fLaw 17) (tms 0 112 (aIn o1 (some a2) n1 c1 n2 c2 s i j)) (oIn k v d O O3) kIn ixIn F = VT.leaf (AX.ret,[v' (sl' o1 n1 c1),v' (sl' (some a2) n2 c2),b' true,pt' 1052 0,pt' 1053 0,z' s,pt' 1054 0,v' (sl' o1 n1 c1),i' n1,i' i,v' (sl' (some a2) n2 c2),i' n2,i' j],112) [some O,some O3,some (ce' [s' k,s' v,b' d] 58),some (ce' [s' k2,s' v2,b' d2] 58)] 1101 (h3' j n2 ((k32' W a2 j k2 v2 d2).a (h20' k k2 ((wb' (k.toList == k2.toList) j').a k1')))) := χ
theorem ZJ' (W : World) (o1 o2 : Option Addr) (n1 c1 n2 c2 : Nat) (s : Int) (i j : Nat) (k v : Δ) (d : Bool) (O O3 : AO) (F : HP) : BK' [] (AE' [hf' fLaw 17 0]) [] W fLaw (A3' fLaw 17) (tms 0 112 (aIn o1 o2 n1 c1 n2 c2 s i j)) (oIn k v d O O3) kIn ixIn F = VT.leaf (AX.exit 4,[v' (sl' o1 n1 c1),v' (sl' o2 n2 c2),a',pt' 1052 0,pt' 1053 0,z' s,pt' 1054 0,v' (sl' o1 n1 c1),i' n1,i' i,v' (sl' o2 n2 c2),i' n2,i' j],112) [some O,some O3,some (ce' [s' k,s' v,b' d] 58),none] 1100 ((k25' j n2).a k1') := χ
def gIn (tms : List AV) : AP (Nat × Nat × Nat) := match tms.getD 6 AV.undef, tms.getD 8 AV.undef, tms.getD 13 AV.undef with
 | .ptr a 0, .ptr b 0, .ptr i 0 => .ret (a, b, i)
 | _, _, _ => .fail "catalogs"
def nmIn (p : Nat × Nat × Nat) (k : Nat) : Nat := match Nat.beq k 1052 with
 | true => p.1
 | false => match Nat.beq k 1053 with
  | true => p.2.1
  | false => match Nat.beq k 1054 with
   | true => p.2.2
   | false => k
def lIn (o1 o2 : Option Addr) (n1 c1 n2 c2 : Nat) (s : Int) (i : Nat) (k v : Δ) (d : Bool) (O O3 : AO) : List AV -> AP (AX × List AV) := mkL gIn (fun _ => True) nmIn (fun _ => tms 0 112 (aIn o1 o2 n1 c1 n2 c2 s i 0)) (fun _ => oIn k v d O O3) (fun _ => .leaf (.exit 4) (tms 0 112 (aOu o1 o2 n1 c1 n2 c2 s i)) (oLw O O3))
def lInT (o1 o2 : Option Addr) (n1 c1 n2 c2 : Nat) (s : Int) (i : Nat) (k v : Δ) (d : Bool) (O O3 : AO) : List AV -> AP (AX × List AV) := mkL gIn (fun _ => True) nmIn (fun _ => tms 0 112 (aIn o1 o2 n1 c1 n2 c2 s i 0)) (fun _ => oIn k v d O O3) (fun _ => .leaf .ret (tms 0 112 [(4, bv true)]) [])
def hOu (k v : Δ) (d : Bool) (i : Nat) : B9' := AE' [ht' fLaw 14 0, (fLaw, 15, 1, hv (.agg [sv k, sv v, bv d])), (fLaw, 22, 0, hv (iv (o' (i + 1))))]
def kOu : List Nat := [1052, 1053, 1100, 1101, 1102, 1103]
abbrev k33' (q0 q1 : Δ) (q2 : Bool) : Cnd := (ow' (ce' [s' q0,s' q1,b' q2] 58))
abbrev k34' (q0 : Addr) (q1 q2 : Nat) (q3 : Option Addr) (q4 q5 q6 q7 : Nat) (q8 : Int) (q9 q10 : Nat) (q11 q12 : Δ) (q13 : Bool) : Cnd := (p' (VW (v' (sl' (some q0) q1 q2)::v' (sl' q3 q4 q5)::ra4 (pt' q6 0::a'::pt' q7 0::z' q8::a'::a'::a'::pt' q9 0::ra16 (ra16 (ra8 (a'::a'::v' (sl' (some q0) q1 q2)::i' q1::i' q10::j'::v' (Value.pointer (some (q0.add (q10 * 3))))::AV.agg [s' q11,s' q12,b' q13]::v' (sl' q3 q4 q5)::z' ↑q4::i' 0::ra16 (ra16 (ra8 (ra4 (a'::a'::a'::[]))))))))) (v' (sl' (some q0) q1 q2)::v' (sl' q3 q4 q5)::ra4 (pt' q6 0::a'::pt' q7 0::z' q8::a'::a'::a'::pt' q9 0::ra16 (ra16 (ra8 (a'::a'::v' (sl' (some q0) q1 q2)::i' q1::i' q10::a'::a'::a'::v' (sl' q3 q4 q5)::i' q4::i' 0::ra16 (ra16 (ra8 (ra4 (a'::a'::a'::[])))))))))))
abbrev h35' (q0 q1 : Nat) (q2 : World) (q3 : Addr) (q4 q5 : Δ) (q6 : Bool) (z : Cnd) : Cnd := ((wb' (decide (o' q0 < o' q1)) j').a ((f' (q0.blt q1 = true)).a (((p' (([0,1,2].all fun j => (q2.cell? ((q3.add (q0 * 3)).add j)).isSome) = true)).a ((p' ([v' ((q2.cell? ((q3.add (q0 * 3)).add 0)).getD (Value.tuple (Array.mk []))),v' ((q2.cell? (Addr.mk (q3.add (q0 * 3)).block ((q3.add (q0 * 3)).off + 1) none)).getD (Value.tuple (Array.mk []))),v' ((q2.cell? (Addr.mk (q3.add (q0 * 3)).block ((q3.add (q0 * 3)).off + 2) none)).getD (Value.tuple (Array.mk [])))] = [v' (vs' (v' ((q2.cell? ((q3.add (q0 * 3)).add 0)).getD (Value.tuple (Array.mk [])))).strOf),v' (vs' (v' ((q2.cell? (Addr.mk (q3.add (q0 * 3)).block ((q3.add (q0 * 3)).off + 1) none)).getD (Value.tuple (Array.mk [])))).strOf),v' (vb' (v' ((q2.cell? (Addr.mk (q3.add (q0 * 3)).block ((q3.add (q0 * 3)).off + 2) none)).getD (Value.tuple (Array.mk [])))).boolOf)])).a (f' (Wk (AV.agg [v' (vs' (v' ((q2.cell? ((q3.add (q0 * 3)).add 0)).getD (Value.tuple (Array.mk [])))).strOf),v' (vs' (v' ((q2.cell? (Addr.mk (q3.add (q0 * 3)).block ((q3.add (q0 * 3)).off + 1) none)).getD (Value.tuple (Array.mk [])))).strOf),v' (vb' (v' ((q2.cell? (Addr.mk (q3.add (q0 * 3)).block ((q3.add (q0 * 3)).off + 2) none)).getD (Value.tuple (Array.mk [])))).boolOf)]) (AV.agg [s' q4,s' q5,b' q6]))))).a z)))
theorem S3' (W : World) (a1 : Addr) (o2 : Option Addr) (n1 c1 n2 c2 : Nat) (s : Int) (i : Nat) (k v : Δ) (d : Bool) (O O3 : AO) (F : HP) : BK' [] (hOu k v d i) [(fLaw, 17, A3' fLaw 17, lIn (some a1) o2 n1 c1 n2 c2 s i k v d O O3)] W fLaw (A3' fLaw 14) (tms 0 112 (aOu (some a1) o2 n1 c1 n2 c2 s i)) (oLw O O3) kOu ixOu F = VT.leaf (AX.normal,[v' (sl' (some a1) n1 c1),v' (sl' o2 n2 c2),a',pt' 1101 0,pt' 1102 0,z' s,v' (sl' (some a1) n1 c1),i' n1,i' (i + 1)],112) [none,none,none,some (AO.ren (sgN (nmIn (1052,1053,1100)) [1052,1053] 1101) O),some (AO.ren (sgN (nmIn (1052,1053,1100)) [1052,1053] 1101) O3),none] 1103 (h35' i n1 W a1 k v d (k7'.a ((p' ((fLaw,17,A3' fLaw 17,lIn (some a1) o2 n1 c1 n2 c2 s i k v d O O3).snd.snd.fst = (fLaw,17,A3' fLaw 17,lIn (some a1) o2 n1 c1 n2 c2 s i k v d O O3).snd.snd.fst)).a (k4'.a ((k34' a1 n1 c1 o2 n2 c2 1052 1053 s 1100 i k v d).a ((p' (OW O (AO.ren (nmIn (1052,1053,1100)) O))).a ((p' (OW O3 (AO.ren (nmIn (1052,1053,1100)) O3))).a ((k33' k v d).a ((k2' i).a k1'))))))))) := χ
theorem YX' (W : World) (a1 : Addr) (o2 : Option Addr) (n1 c1 n2 c2 : Nat) (s : Int) (i : Nat) (k v : Δ) (d : Bool) (O O3 : AO) (F : HP) : BK' [] (hOu k v d i) [(fLaw, 17, A3' fLaw 17, lInT (some a1) o2 n1 c1 n2 c2 s i k v d O O3)] W fLaw (A3' fLaw 14) (tms 0 112 (aOu (some a1) o2 n1 c1 n2 c2 s i)) (oLw O O3) kOu ixOu F = VT.leaf (AX.ret,[a',a',b' true,a',a',a',a',a',a'],112) [none,none,none,none,none,none] 1101 (h35' i n1 W a1 k v d (k7'.a ((p' ((fLaw,17,A3' fLaw 17,lInT (some a1) o2 n1 c1 n2 c2 s i k v d O O3).snd.snd.fst = (fLaw,17,A3' fLaw 17,lInT (some a1) o2 n1 c1 n2 c2 s i k v d O O3).snd.snd.fst)).a (k4'.a ((k34' a1 n1 c1 o2 n2 c2 1052 1053 s 1100 i k v d).a ((p' (OW O (AO.ren (nmIn (1052,1053,1100)) O))).a ((p' (OW O3 (AO.ren (nmIn (1052,1053,1100)) O3))).a ((k33' k v d).a k1')))))))) := χ
theorem YY' (W : World) (o1 o2 : Option Addr) (n1 c1 n2 c2 : Nat) (s : Int) (i : Nat) (O O3 : AO) (F : HP) : BK' [] (AE' [hf' fLaw 14 0]) [] W fLaw (A3' fLaw 14) (tms 0 112 (aOu o1 o2 n1 c1 n2 c2 s i)) (oLw O O3) kOu ixOu F = VT.leaf (AX.exit 2,[v' (sl' o1 n1 c1),v' (sl' o2 n2 c2),a',pt' 1052 0,pt' 1053 0,z' s,v' (sl' o1 n1 c1),i' n1,i' i],112) [some O,some O3,none,none,none,none] 1100 ((k25' i n1).a k1') := χ
def lOu (o1 o2 : Option Addr) (n1 c1 n2 c2 : Nat) (s : Int) (O O3 O4 : AO) : List AV -> AP (AX × List AV) := mkL gLw (fun _ => True) nmLw (fun _ => tms 0 112 (aOu o1 o2 n1 c1 n2 c2 s 0)) (fun _ => oLw O O3) (fun _ => .leaf (.exit 2) (tms 0 112 (aLw o1 o2 n1 c1 n2 c2 ++ [(9, iv s)])) (oLw O O4))
def lOuT (o1 o2 : Option Addr) (n1 c1 n2 c2 : Nat) (s : Int) (O O3 : AO) : List AV -> AP (AX × List AV) := mkL gLw (fun _ => True) nmLw (fun _ => tms 0 112 (aOu o1 o2 n1 c1 n2 c2 s 0)) (fun _ => oLw O O3) (fun _ => .leaf .ret (tms 0 112 [(4, bv true)]) [])
inductive Six where
 | a0
 | a1
 | a2
 | b0
 | b1
 | b2
def mkS : Six -> List Int
 | .a0 => []
 | .a1 => [0]
 | .a2 => [0, 0]
 | .b0 => [0, 0, 0]
 | .b1 => [0, 0, 0, 0]
 | .b2 => [0, 0, 0, 0, 0]
def nxS : Six -> Six
 | .a0 => .a1
 | .a1 => .a2
 | .b0 => .b1
 | .b1 => .b2
 | p => p
structure Hs where
 a0 : Nat -> Nat -> HP
 a1 : Nat -> Nat -> HP
 a2 : Nat -> Nat -> HP
 b0 : Nat -> Nat -> HP
 b1 : Nat -> Nat -> HP
 b2 : Nat -> Nat -> HP
def hS (h : Hs) : Six -> Nat -> Nat -> HP
 | .a0 => h.a0
 | .a1 => h.a1
 | .a2 => h.a2
 | .b0 => h.b0
 | .b1 => h.b1
 | .b2 => h.b2
def cT (h : Hs) (p : Six) : AO := .own (.turns (mkS p)) (hS h p)
def gTg : List AV -> AP (Nat × Six) := fun args => match args with
 | .ptr i 0 :: _ => .read i fun o => match o with
  | .own (.turns t) _ => match t with
   | [] => .ret (i, .a0)
   | [_] => .ret (i, .a1)
   | [_, _] => .ret (i, .a2)
   | [_, _, _] => .ret (i, .b0)
   | [_, _, _, _] => .ret (i, .b1)
   | _ => .ret (i, .b2)
  | _ => .fail "catalog"
 | _ => .fail "catalog"
def arS (o1 o2 : Option Addr) (n1 c1 n2 c2 : Nat) : Six -> AV
 | .a0 => slV o1 n1 c1
 | .a1 => slV o2 n2 c2
 | .b0 => slV o2 n2 c2
 | _ => slV o1 n1 c1
def erS (e1 e2 : Int) : Six -> Int
 | .a0 => e1
 | .a1 => e2
 | .b0 => e2
 | _ => e1
def preC : Six -> Prop
 | .a0 => True
 | .a1 => True
 | .b0 => True
 | .b1 => True
 | _ => False
def preP : Six -> Prop
 | .a2 => True
 | .b2 => True
 | _ => False
def nmTg (p : Nat × Six) (k : Nat) : Nat := match k with
 | 0 => p.1
 | k => k
def cOd (h : Hs) : List AV -> Option (AP AV) := mkC (fun _ => .ret ()) (fun _ => True) (fun _ i => i) (fun _ => []) (fun _ => []) (fun _ => .leaf .ret [.tuple [.any, .ptr 1000 0]] [(1000, cT h .a0)])
def cCm (o1 o2 : Option Addr) (n1 c1 n2 c2 : Nat) (e1 e2 : Int) (B : Prop) (h : Hs) : List AV -> Option (AP AV) := mkC gTg (fun p => preC p.2 /\ B) nmTg (fun p => [.ptr 0 0, arS o1 o2 n1 c1 n2 c2 p.2]) (fun p => [(0, cT h p.2)]) (fun p => .leaf .ret [iv (erS e1 e2 p.2)] [(0, cT h (nxS p.2))])
def cPs (B : Prop) (h : Hs) (px : AV) (po : AO) : List AV -> Option (AP AV) := mkC gTg (fun p => preP p.2 /\ B) nmTg (fun p => [.ptr 0 0]) (fun p => [(0, cT h p.2)]) (fun p => .leaf .ret [px] [(0, cT h p.2), (1000, po)])
def nm23 (i j k : Nat) : Nat := match k with
 | 2 => i
 | 3 => j
 | k => k
def cSm (i j : Nat) (q1 q2 : AV) (po : AO) : List AV -> Option (AP AV) := mkC (fun _ => .ret ()) (fun _ => True) (fun _ => nm23 i j) (fun _ => [q1, q2]) (fun _ => [(2, po), (3, po)]) (fun _ => .leaf .ret [bv true] [])
def hLw (x : List (FuncId × Nat × Nat × Eng.Hint)) : B9' := AE' (hf' fLaw 1 1 :: hf' fLaw 5 1 :: hf' fLaw 5 4 :: hf' fLaw 5 5 :: ht' fLaw 27 2 :: ht' fLaw 27 6 :: ht' fLaw 27 7 :: ht' fLaw 27 13 :: ht' fLaw 27 14 :: x)
end
end Go.Proofs.YtnnojnlejlokhaaGreatDoor.Wk
namespace Go.Proofs.YtnnojnlejlokhaaGreatDoor.Eng
open Go Go.RowKit
variable {P : Program} {claim : B9'} {lcon : IP'}
theorem QE' {f : FuncId} {fn : Func} (hf : P.funcs[f]? = some fn) (hname : (fn.name == "runtime.NumGoroutine") = false)
  (hb : fn.body.isNone = true) (hn : (Extern.findNext fn).isNone = true) (he : Extern.find fn = some Extern.MapsClone.clone) (t b : Nat) (es : Array MapEntry) (k : Nat) (w : World) (h : w.heap[b]? = some (.map es k)) :
  (callFunc f #[.iface t (.map (some b))]).run P w = .ok (.value (.iface t (.map (some w.heap.size)))) (w.alloc (.map es k)) := by
 rw [run_callFunc_extern hf hname hb (by simpa using hn) he]
 have e : Extern.MapsClone.clone #[.iface t (.map (some b))] = (getObj b >>= fun o => match o with
   | .map entries clock => newObj (.map entries clock) >>= fun r => pure (.iface t (.map (some r)))
   | _ => stuck "maps.clone: a map expected") := rfl
 rw [e]; simp [Sem.run_bind, AY' h]
def envC (P : Program) (k : FuncId) (F : HP) (con : ConT) (claim : B9') (lcon : IP') (W : World) : Env := { envO P F con claim lcon W with clone := fun f => Nat.beq f k }
def PB' (P : Program) (k : FuncId) : Prop := ∀ t b es q w, w.heap[b]? = some (.map es q) -> (callFunc k #[.iface t (.map (some b))]).run P w = .ok (.value (.iface t (.map (some w.heap.size)))) (w.alloc (.map es q))
theorem AK'.envC {k : FuncId} {W : World} {F : HP} {con : ConT} (h : AK' W F) (hk : PB' P k) : EnvOk P (Eng.envC P k F con claim lcon W) :=
 have q : EnvOk P (envO P F con claim lcon W) := h.env
 ⟨q.wk, q.ow, q.gd, q.fc, q.info, q.fn, q.old, q.laid, fun f hf => (by
  obtain rfl := Nat.eq_of_beq_eq_true hf
  exact hk), q.same⟩
theorem tri_C {k : FuncId} {con : ConT} {W : World} {f : FuncId} {A : List AV} {H H' : LH} {v : AV} (ks : List Nat) (fuel : Nat) (hm : P.follows .mixedOrders = true) (hk : PB' P k) (hH : A9' 1100 H = true)
  (hcon : ∀ F, AK' W F -> HO' P (Eng.envC P k F con claim lcon W)) (hl : ∀ F, AK' W F -> DB' P (Eng.envC P k F con claim lcon W))
  (hrun : ∀ F, AK' W F -> VAll (fun u os _ => Fits ks [u] os [v] H') (((CO' P (Eng.envC P k F con claim lcon W) fuel f A).run2 (AN' H) 1100 []).view ks)) : Tri P W f A H v H' := by
 intro W0 F N w vargs hF hN r ha; obtain ⟨u, h', n', lg', c, he, hc, hfit⟩ := VT.all_pick (hrun F hF).out; rw [EG'] at he; refine (CU' (hF.envC hk) hm (hcon F hF) (hl F hF) he hc r ha (fun i h1 h2 => hN.nothing hH h1)).mono ?_; rintro e w' ⟨y, N1, rfl, r1, hv, hx⟩; exact ⟨y, rfl, hfit.state r1 hx (EE' _ he δ) (fun i hi => hN.nothing hH hi) (AA'.2 ⟨hv, AQ'⟩)⟩
end Go.Proofs.YtnnojnlejlokhaaGreatDoor.Eng
namespace Go.Proofs.YtnnojnlejlokhaaGreatDoor.Kit
open Go Go.RowKit Eng Kit
abbrev fMc : FuncId := 42
theorem PY' : PB' Θ fMc := fun t b es q w h => QE' Tryz.func42 χ χ χ χ t b es q w h
def wRunC (con : HN') (hints : B9') (lc : LcL) (W : World) (f : FuncId) (A : List AV) (H : LH) (ks : List Nat) (F : HP) : VT AV := ((CO' Θ (envC Θ fMc F (conL con) hints (QL' lc) W) 1000 f A).run2 (AN' H) 1100 []).view ks
theorem TW' {con : HN'} {hints : B9'} {lc : LcL} {W : World} {f : FuncId} {A : List AV} {H H' : LH} {v : AV} (ks : List Nat) (hH : A9' 1100 H = true)
  (hcon : ∀ F, AK' W F -> ∀ x ∈ con, C1OK Θ F x.1 x.2) (hl : ∀ F, AK' W F -> ∀ x ∈ lc, L1OK Θ F x.2.2.1 x.2.2.2) (h : ∀ F, VAll (fun u os _ => Fits ks [u] os [v] H') (wRunC con hints lc W f A H ks F)) : Tri Θ W f A H v H' :=
 tri_C ks 1000 ZY' PY' hH (fun F hF => OP' rfl (hcon F hF)) (fun F hF => L7' rfl (hl F hF)) fun F _ => h F
end Go.Proofs.YtnnojnlejlokhaaGreatDoor.Kit
namespace Go.Proofs.YtnnojnlejlokhaaGreatDoor.Wk
open Go Go.RowKit Eng Kit Tree
open Int renaming ofNat -> o'
abbrev fWp : Nat := 66
abbrev wT (t : List Int) (l : Bs) : AO := wM (.turns t) l
def by3 {α : Type} (a b c : α) : List Int -> α
 | [] => a
 | [_] => b
 | _ :: _ :: _ => c
def by3O (a b c : AO) : List Int -> AO
 | [] => a
 | [_] => b
 | _ :: _ :: _ => c
def gMk : List AV -> AP (Nat × List Int) := fun args => match args with
 | .ptr i _ :: _ => .read i fun o => match o with
  | .own m _ => match m with
   | .turns l => .ret (i, l)
   | _ => .fail "mark"
  | _ => .fail "mark"
 | _ => .fail "writer"
def nmW (i : Nat) : Nat -> Nat := fun k => match k with | 0 => i | k => k
def cNw : List AV -> Option (AP AV) := mkC (fun _ => .ret ()) (fun _ => True) (fun _ k => k) (fun _ => []) (fun _ => []) (fun _ => .leaf .ret [.ptr 1000 0] [(1000, wT [] [])])
def cLo (n sm : Nat) (l1 l2 : Bs) : List AV -> Option (AP AV) := mkC gMk (fun _ => True) (fun q => nmW q.1) (fun q => [.ptr 0 0, by3 (iv (o' n)) (iv (o' sm)) (iv (o' sm)) q.2]) (fun q => [(0, by3O (wT [] []) (wT [1] l1) (wT [1] l1) q.2)]) (fun q => .leaf .ret [.tuple []] [(0, by3O (wT [1] l1) (wT [1, 2] l2) (wT [1, 2] l2) q.2)])
def cBy (p1 p3 : Nat) (l1 l3 : Bs) : List AV -> Option (AP AV) := mkC gMk (fun _ => True) (fun q => nmW q.1) (fun q => [.ptr 0 0]) (fun q => [(0, by3O (wT [1] l1) (wT [1] l1) (wT [1, 2] l3) q.2)]) (fun q => .leaf .ret [by3 (sB 1000 p1) (sB 1000 p1) (sB 1000 p3) q.2] [(0, by3O (wT [1] l1) (wT [1] l1) (wT [1, 2] l3) q.2), (1000, by3O (rB l1) (rB l1) (rB l3) q.2)])
def cRw (oa : Option Addr) (n c : Nat) (l2 l3 : Bs) : List AV -> Option (AP AV) := mkC (fun args => match args with | .ptr i _ :: _ => .ret i | _ => .fail "writer") (fun _ => True) nmW (fun _ => [.ptr 0 0, slV oa n c]) (fun _ => [(0, wT [1, 2] l2)]) (fun _ => .leaf .ret [.tuple []] [(0, wT [1, 2] l3)])
def cOvO (s s' p : Nat) (l : Bs) : List AV -> Option (AP AV) := mkC (fun args => match args with | _ :: .slice i _ _ _ _ :: _ => .ret i | _ => .fail "over") (fun _ => True) nmW (fun _ => [uN s, sB 0 p]) (fun _ => [(0, rB l)]) (fun _ => .leaf .ret [uN s'] [(0, rB l)])
def cOvR (s s' : Nat) (oa : Option Addr) (n c : Nat) : List AV -> Option (AP AV) := mkC (fun _ => .ret ()) (fun _ => True) (fun _ k => k) (fun _ => [uN s, slV oa n c]) (fun _ => []) (fun _ => .leaf .ret [uN s'] [])
def cOvW (s1 s2 p1 : Nat) (l1 : Bs) (oa : Option Addr) (n c : Nat) : List AV -> Option (AP AV) := fun args => match args with
 | _ :: .slice _ _ _ _ _ :: _ => cOvO 4294967295 s1 p1 l1 args
 | _ => cOvR s1 s2 oa n c args
def hWp (n sm : Nat) : B9' := AE' [hf' fWp 1 2, (fWp, 4, 2, hv (iv (o' n))), (fWp, 5, 7, hv (iv (o' sm)))]
def conWp (oa : Option Addr) (n c sm p1 p3 s1 s2 : Nat) (l1 l2 l3 : Bs) : HN' := [(fNw, cNw), (fLo, cLo n sm l1 l2), (fBy, cBy p1 p3 l1 l3), (fOv, cOvW s1 s2 p1 l1 oa n c), (fRw, cRw oa n c l2 l3)]
theorem oWp_eq (W : World) (oa : Option Addr) (n c sm p1 p3 s1 s2 : Nat) (l1 l2 l3 : Bs) (F : HP) : wRun (conWp oa n c sm p1 p3 s1 s2 l1 l2 l3) (hWp n sm) [] W fWp [slV oa n c] [] [1100, 1101, 1102, 1103, 1104, 1105] F = VT.leaf (AV.tuple [AV.slice 1102 0 p3 1 (Cp.lo p3),i' 0]) [some (AO.own (Md.turns [o' 1,o' 2]) (wHP l3)),some (AO.cells (AV.rens (sgN (nmW 1101) [] 0) (rowV encB l1)) 10),some (AO.cells (AV.rens (sgN (nmW 1100) [1000] 1102) (rowV encB l3)) 10),none,none,none] 1103 ((wb' (decide (↑n > o' 1048576)) g').a (((Cnd.p True).a (f' (VW [] []))).a ((f' (Wk (z' ↑n) (i' n))).a (((Cnd.p True).a ((vw' [AV.ptr 1100 0,i' n]).a (f' (OW (AO.own (Md.turns []) (wHP [])) (AO.own (Md.turns []) (wHP [])))))).a (((Cnd.p True).a ((vw' [AV.ptr 1100 0]).a (f' (OW (AO.own (Md.turns [o' 1]) (wHP l1)) (AO.own (Md.turns [o' 1]) (wHP l1)))))).a (((Cnd.p True).a ((vw' [AV.v (Value.int IntKind.u32 (o' 4294967295)),AV.slice 1101 0 p1 1 (Cp.lo p1)]).a (f' (OW (AO.cells (AV.rens (sgN (nmW 1100) [1000] 1101) (rowV encB l1)) 10) (AO.cells (AV.rens (nmW 1101) (rowV encB l1)) 10))))).a (((Cnd.p True).a (f' (VW [AV.v (Value.int IntKind.u32 (o' s1)),AV.v (Value.slice oa n c)] [AV.v (Value.int IntKind.u32 (o' s1)),AV.v (Value.slice oa n c)]))).a ((f' (Wk (z' (IntKind.i64.wrap (IntKind.u32.wrap ↑(BitVec.ofInt 32 (o' s2) ^^^ BitVec.ofInt 32 (o' 4294967295)).toNat))) (i' sm))).a (((Cnd.p True).a ((vw' [AV.ptr 1100 0,i' sm]).a (f' (OW (AO.own (Md.turns [o' 1]) (wHP l1)) (AO.own (Md.turns [o' 1]) (wHP l1)))))).a (((Cnd.p True).a ((vw' [AV.ptr 1100 0,AV.v (Value.slice oa n c)]).a (f' (OW (AO.own (Md.turns [o' 1,o' 2]) (wHP l2)) (AO.own (Md.turns [o' 1,o' 2]) (wHP l2)))))).a (((Cnd.p True).a ((vw' [AV.ptr 1100 0]).a (f' (OW (AO.own (Md.turns [o' 1,o' 2]) (wHP l3)) (AO.own (Md.turns [o' 1,o' 2]) (wHP l3)))))).a k1'))))))))))) := χ
theorem X2' : ∀ args, RO (gMk args) := by
 intro args; unfold gMk; split
 ·refine RO.read _ _ fun o => ?_
  repeat' split
  all_goals first | exact RO.ret _ | exact RO.fail _
 ·exact RO.fail _
theorem cNw_ok (F : HP) : C1OK Θ F fNw cNw :=
 B4' (W := default) BC' (fun _ => .ptr 1000 0) (fun _ => RO.ret _) (fun _ => rfl) (fun _ _ => WK' _) fun _ => ⟨rfl, rfl, Ye, A1', ⟨rfl, Ye⟩, A0' Ye A1'⟩
theorem cLo_ok {n sm : Nat} {l1 l2 : Bs} (h1 : l1 = be4 n) (h2 : l2 = l1 ++ be4 sm) (F : HP) : C1OK Θ F fLo (cLo n sm l1 l2) := by
 have a1 : Tri Θ default fLo [.ptr 0 0, iv (o' n)] [(0, wT [] [])] (.tuple []) [(0, wT [1] l1)] := by rw [h1]; exact WP' _ _ n [] δ
 have a2 : Tri Θ default fLo [.ptr 0 0, iv (o' sm)] [(0, wT [1] l1)] (.tuple []) [(0, wT [1, 2] l2)] := by
  rw [h2]; exact WP' _ _ sm l1 (by rw [h1, D1']; decide)
 refine B4' (W := default) BC' (fun _ => .tuple []) X2' (fun _ => rfl) (fun q _ => ?_) fun q => ?_
 ·obtain ⟨i, t⟩ := q
  rcases t with _ | ⟨x, _ | ⟨y, t⟩⟩
  ·exact a1
  ·exact a2
  ·exact a2
 ·obtain ⟨i, t⟩ := q
  rcases t with _ | ⟨x, _ | ⟨y, t⟩⟩
  ·exact ⟨rfl, rfl, ⟨rfl, Ye, Ye⟩, A0' Ye A1', ⟨Ye, Ye⟩, A0' Ye A1'⟩
  ·exact ⟨rfl, rfl, ⟨rfl, Ye, Ye⟩, A0' Ye A1', ⟨Ye, Ye⟩, A0' Ye A1'⟩
  ·exact ⟨rfl, rfl, ⟨rfl, Ye, Ye⟩, A0' Ye A1', ⟨Ye, Ye⟩, A0' Ye A1'⟩
theorem cBy_ok {p1 p3 : Nat} {l1 l3 : Bs} (h1 : p1 = l1.length) (h3 : p3 = l3.length) (b1 : l1.length <= big) (b3 : l3.length <= big) (n1 : l1 ≠ []) (n3 : l3 ≠ []) (F : HP) : C1OK Θ F fBy (cBy p1 p3 l1 l3) := by
 subst h1 h3; have a1 := T3' (.turns [1]) l1 b1 n1; have a3 := T3' (.turns [1, 2]) l3 b3 n3
 refine B4' (W := default) BC' (fun q => by3 (sB 1000 l1.length) (sB 1000 l1.length) (sB 1000 l3.length) q.2) X2' (fun _ => rfl) (fun q _ => ?_) fun q => ?_
 ·obtain ⟨i, t⟩ := q
  rcases t with _ | ⟨x, _ | ⟨y, t⟩⟩
  ·exact a1
  ·exact a1
  ·exact a3
 ·obtain ⟨i, t⟩ := q
  rcases t with _ | ⟨x, _ | ⟨y, t⟩⟩
  ·exact ⟨rfl, rfl, ⟨rfl, Ye⟩, A0' Ye A1', ⟨rfl, Ye⟩, A0' Ye (A0' (C5' _ _) A1')⟩
  ·exact ⟨rfl, rfl, ⟨rfl, Ye⟩, A0' Ye A1', ⟨rfl, Ye⟩, A0' Ye (A0' (C5' _ _) A1')⟩
  ·exact ⟨rfl, rfl, ⟨rfl, Ye⟩, A0' Ye A1', ⟨rfl, Ye⟩, A0' Ye (A0' (C5' _ _) A1')⟩
theorem cRw_ok {W : World} {oa : Option Addr} {c : Nat} {r l2 l3 : Bs} (h : BAt W.cell? oa r) (h3 : l3 = l2 ++ r) (n2 : l2 ≠ []) (hb : l2.length + r.length <= 140737488351232) (F : HP) (hF : AK' W F) : C1OK Θ F fRw (cRw oa r.length c l2 l3) := by
 subst h3
 exact B4' hF (fun _ => .tuple []) (fun args => by split <;> first | exact RO.ret _ | exact RO.fail _) (fun _ => rfl) (fun _ _ => rw_tri _ _ W oa c r l2 h n2 hb) fun _ => ⟨rfl, rfl, ⟨rfl, Ye, Ye⟩, A0' Ye A1', ⟨Ye, Ye⟩, A0' Ye A1'⟩
theorem aX' {W : World} (hN : LN W) {s1 s2 p1 : Nat} {l1 r : Bs} {oa : Option Addr} {c : Nat} (h : BAt W.cell? oa r) (hp : p1 = l1.length) (hb : l1.length <= big) (h0 : 0 < l1.length) (e1 : s1 = ovr ones l1) (e2 : s2 = ovr s1 r) (F : HP) (hF : AK' W F) : C1OK Θ F fOv (cOvW s1 s2 p1 l1 oa r.length c) := by
 have hs1 : s1 < 4294967296 := by rw [e1]; exact JD' _ δ
 have c1 : C1OK Θ F fOv (cOvO 4294967295 s1 p1 l1) := by
  subst hp e1
  refine B4' hF (fun _ => uN (ovr ones l1)) (fun args => by split <;> first | exact RO.ret _ | exact RO.fail _) (fun _ => rfl) (fun _ _ => ?_) fun _ => ⟨rfl, rfl, ⟨Ye, rfl, Ye⟩, A0' (C5' _ _) A1', ⟨Ye, Ye⟩, A0' (C5' _ _) A1'⟩
  exact W8' W hN (pre := [.int .u32 (o' 4294967295)]) (H' := []) hb h0 rfl (fun i o h => by cases h) fun W' hN' oa c h _ => WF' W' hN' ones δ oa c l1 h
 have c2 : C1OK Θ F fOv (cOvR s1 s2 oa r.length c) := by
  subst e2
  exact B4' hF (fun _ => uN (ovr s1 r)) (fun _ => RO.ret _) (fun _ => rfl) (fun _ _ => WF' W hN s1 hs1 oa c r h) fun _ => ⟨rfl, rfl, ⟨Ye, Ye, Ye⟩, A1', ⟨Ye, Ye⟩, A1'⟩
 intro st W0 N hh w args vargs v h' n n' lg lg' cc p q1 q2 q3 q4 q5 q6; unfold cOvW at q1; split at q1
 ·exact c1 st W0 N hh w _ vargs v h' n n' lg lg' cc p q1 q2 q3 q4 q5 q6
 ·exact c2 st W0 N hh w _ vargs v h' n n' lg lg' cc p q1 q2 q3 q4 q5 q6
theorem IY' {a b : Int} (h : a = b) : Wk (.v (.int .i64 a)) (.v (.int .i64 b)) := by subst h; exact Ya
theorem sm_eq {s : Nat} (h : s < 4294967296) : IntKind.i64.wrap (IntKind.u32.wrap ((BitVec.ofInt 32 (o' s) ^^^ BitVec.ofInt 32 (o' 4294967295)).toNat : Int)) = o' (s ^^^ ones) := by
 have e := x_eq h (show 4294967295 < 4294967296 by decide); have hlt : s ^^^ ones < 4294967296 := Nat.xor_lt_two_pow (n := 32) h δ; rw [e]; exact IntWalk.i64_in _ (by show (-9223372036854775808 : Int) <= ((s ^^^ ones : Nat) : Int) /\ ((s ^^^ ones : Nat) : Int) <= 9223372036854775807; omega)
theorem PC' (W : World) (hN : LN W) (oa : Option Addr) (c : Nat) (r : Bs) (h : BAt W.cell? oa r) (hm : r.length <= most) : Tri Θ W fWp [slV oa r.length c] [] (.tuple [sB 1000 (B2' r).length, iv 0]) [(1000, rB (B2' r))] := by
 have hm' : r.length <= 1048576 := hm; have hs1 : ovr ones (be4 r.length) < 4294967296 := JD' _ δ; have hs2 : ovr (ovr ones (be4 r.length)) r < 4294967296 := JD' _ hs1
 have d1 := fun F => cLo_ok (n := r.length) (sm := sumB r) (l1 := be4 r.length) (l2 := be4 r.length ++ be4 (sumB r)) rfl rfl F
 have hl3 : (be4 r.length ++ be4 (sumB r) ++ r).length = 8 + r.length := C2' r
 have d2 := fun F => cBy_ok (p1 := 4) (p3 := (B2' r).length) (l1 := be4 r.length) (l3 := be4 r.length ++ be4 (sumB r) ++ r) rfl rfl (by rw [D1']; decide) (by rw [hl3]; show _ <= 140737488351232; omega) (by simp [be4]) (by simp [be4]) F
 have d3 := fun F hF => cRw_ok (W := W) (oa := oa) (c := c) (r := r) (l2 := be4 r.length ++ be4 (sumB r)) (l3 := be4 r.length ++ be4 (sumB r) ++ r) h rfl (by simp [be4]) (by show (be4 r.length ++ be4 (sumB r)).length + _ <= _; rw [List.length_append, D1', D1']; omega) F hF
 have d4 := fun F hF => aX' (W := W) hN (s1 := ovr ones (be4 r.length)) (s2 := ovr (ovr ones (be4 r.length)) r) (p1 := 4) (l1 := be4 r.length) (r := r) (oa := oa) (c := c) h rfl (by rw [D1']; decide) (by rw [D1']; decide) rfl rfl F hF
 refine AM' (con := conWp oa r.length c (sumB r) 4 (B2' r).length (ovr ones (be4 r.length)) (ovr (ovr ones (be4 r.length)) r) (be4 r.length) (be4 r.length ++ be4 (sumB r)) (be4 r.length ++ be4 (sumB r) ++ r)) (hints := hWp r.length (sumB r)) (lc := []) [1100, 1101, 1102, 1103, 1104, 1105] rfl (fun F hF => AO' (cNw_ok F) (AO' (d1 F) (AO' (d2 F) (AO' (d4 F hF) (DG' (d3 F hF)))))) (fun F _ => noL) fun F => ?_
 clear d1 d2 d3 d4; have e0 : decide ((r.length : Int) > o' 1048576) = false := decide_eq_false (by simp only [Z0]; omega); refine Yj (oWp_eq W oa r.length c (sumB r) 4 (B2' r).length (ovr ones (be4 r.length)) (ovr (ovr ones (be4 r.length)) r) (be4 r.length) (be4 r.length ++ be4 (sumB r)) (be4 r.length ++ be4 (sumB r) ++ r) F) ⟨⟨?_, (AJ' (vs' := [.tuple [sB 1000 (B2' r).length, iv 0]]) (H' := [(1000, rB (B2' r))]) [(1000, 1102)] χ χ (Yb) ⟨⟨_, rfl, BO' (AD' _ _) rfl⟩, Ye⟩).fits rfl⟩⟩
 simp only [Cnd.holds, Nat.blt_eq, true_and, and_true]; and_intros; all_goals first | (with_reducible exact A4' e0) | (with_reducible exact IY' (sm_eq hs2)) | (with_reducible exact Ye) | (with_reducible exact rfl) | (with_reducible exact Ya) | (with_reducible exact Yb) | (with_reducible exact Yc) | exact IY' (sm_eq hs2) | exact Ya | exact Yb | exact Yc | (refine OW.of_eq ?_; simp only [AO.ren, AD']; done)
end Go.Proofs.YtnnojnlejlokhaaGreatDoor.Wk
