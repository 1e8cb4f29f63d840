/- Parts of the proof, merged. -/
import Derived.Test.YtgahllbgipdchaaGreatDoorMem
import Derived.Deep.Slices
import Derived.SizedLaws
import Derived.Test.YtgahllbgipdchaaGreatDoorRows
import Derived.Deep.DeepHandedRow
import Derived.Lay
import Derived.Test.YtgahllbgipdchaaGreatDoorShelf
import Derived.Test.YtgahllbgipdchaaGreatDoorEngSorted
import Derived.Test.YtgahllbgipdchaaGreatDoorMd
import Derived.Test.YtgahllbgipdchaaGreatDoorEngCon
import Derived.Test.YtgahllbgipdchaaGreatDoorEngRow
import Derived.Test.YtgahllbgipdchaaGreatDoorEngXWrn
import Derived.Test.YtgahllbgipdchaaGreatDoorEngKit
import Derived.Test.YtgahllbgipdchaaGreatDoorEngFam
import Derived.Test.YtgahllbgipdchaaGreatDoorEngShut
noncomputable section
set_option linter.unusedVariables false
set_option linter.unusedSimpArgs false
set_option maxRecDepth 100000
set_option linter.unusedSectionVars false
namespace Go.Proofs.YtgahllbgipdchaaGreatDoor
open Go
theorem HT' {α : Type} {f : α -> List Value} {m : Nat} (hf : ∀ x, (f x).length = m) : ∀ (l : List α) (k j : Nat) (h : k < l.length), j < m -> (l.flatMap f)[k * m + j]? = (f l[k])[j]?
 | [], _, _, h, _ => by simp at h
 | x :: l, 0, j, _, hj => by
  rw [List.flatMap_cons, Nat.zero_mul, Nat.zero_add, List.getElem?_append_left (by rw [hf]; exact hj)]; rfl
 | x :: l, k + 1, j, h, hj => by
  rw [List.flatMap_cons, List.getElem?_append_right (by rw [hf, Nat.add_mul]; omega), hf, show (k + 1) * m + j - m = k * m + j from by rw [Nat.add_mul]; omega]
  exact HT' hf l k j (by simpa using h) hj
theorem H8' {α : Type} {f : α -> List Value} {m : Nat} (hf : ∀ x, (f x).length = m) (l : List α) : (l.flatMap f).length = l.length * m := by
 induction l with
 | nil => simp
 | cons p l ih => simp only [List.flatMap_cons, List.length_append, hf, List.length_cons, ih, Nat.add_mul]; omega
open Go.ChangeShapes Go.WideShapes Go.RowKit Go.Deep
section
variable {H : Type} {enc : TypeId × Value -> H} {P : Program} {w : World} {base : Nat} {spare : Nat -> Bool} {held : Bool}
def T7' (P : Program) (t : TypeId) (d : DataW H) : Prop := ∀ n ∈ d.weights P t, n <= reachBytes
theorem T7'.len {t e : TypeId} {elems sp : List (DataW H)} (hu : P.underlying t = some (.slice e)) (h : T7' P t (.slice elems sp)) : (elems.length + sp.length) * P.bytesOf e <= reachBytes :=
 h _ (by simp only [DataW.weights, hu, List.mem_cons, true_or])
theorem T7'.field {t : TypeId} {fs : Array Field} {parts : List (DataW H)} (hu : P.underlying t = some (.struct fs)) (h : T7' P t (.agg parts)) {i : Nat} {f : Field} {d : DataW H} (hf : fs[i]? = some f) (hp : parts[i]? = some d) : T7' P f.type d := fun n hn => by
 refine h n ?_; simp only [DataW.weights, hu]; exact DataW.weights_mem_each (j := i) (by simp [hf]) hp n hn
end
end Go.Proofs.YtgahllbgipdchaaGreatDoor
namespace Go.Proofs.YtgahllbgipdchaaGreatDoor.Upto
open Go.ChangeShapes Go.WideShapes Go.RowKit Go.Deep
theorem one_le {H : Type} (d : DataW H) : 1 <= Rows.uptoBulk d := by
 cases d with
 | lit l => cases l <;> simp [Rows.uptoBulk]
 | nil => simp [Rows.uptoBulk]
 | ptr d => simp [Rows.uptoBulk]
 | slice elems spare => simp [Rows.uptoBulk]
 | agg parts => simp [Rows.uptoBulk]
 | iface t d => simp [Rows.uptoBulk]
 | map entries => simp [Rows.uptoBulk]
 | held h => simp [Rows.uptoBulk]
theorem XG' {H : Type} {d : DataW H} {l : List (DataW H)} (h : d ∈ l) : Rows.uptoBulk d <= Rows.uptoBulkAll l := by
 induction l with
 | nil => cases h
 | cons x r ih =>
  simp only [Rows.uptoBulkAll]
  cases List.mem_cons.1 h with
  | inl e => subst e; omega
  | inr e => have := ih e; omega
theorem length_le {H : Type} (l : List (DataW H)) : l.length <= Rows.uptoBulkAll l := by
 induction l with
 | nil => simp [Rows.uptoBulkAll]
 | cons x r ih => have := one_le x; simp only [Rows.uptoBulkAll, List.length_cons]; omega
theorem slice_elems {H : Type} (elems spare : List (DataW H)) : Rows.uptoBulkAll elems + 1 <= Rows.uptoBulk (.slice elems spare) := by
 simp only [Rows.uptoBulk]; omega
theorem agg_part {H : Type} {parts : List (DataW H)} {d : DataW H} (h : d ∈ parts) : Rows.uptoBulk d + 1 <= Rows.uptoBulk (.agg parts) := by
 have := XG' h; simp only [Rows.uptoBulk]; omega
theorem bound {H : Type} {l : List (DataW H)} (hk : Rows.uptoSmall H l = true) : Rows.uptoBulkAll l <= 1048576 := of_decide_eq_true hk
theorem P4' {H α : Type} (wt : α -> Nat) : ∀ (l : List α) (ds : List (DataW H)), l.length = ds.length -> (∀ (i : Nat) (p : α) (d : DataW H), l[i]? = some p -> ds[i]? = some d -> wt p <= Rows.uptoBulk d) -> (l.map wt).sum <= Rows.uptoBulkAll ds
 | [], [], _, _ => Nat.zero_le _
 | [], _ :: _, h, _ => by cases h
 | _ :: _, [], h, _ => by cases h
 | p :: l, d :: ds, h, hw => by
  have h1 := hw 0 p d rfl rfl
  have h2 := P4' wt l ds (by simpa using h) fun i q e hq he => hw (i + 1) q e hq he
  simp only [List.map_cons, List.sum_cons, Rows.uptoBulkAll]; omega
theorem open_rdU {H : Type} {enc : TypeId × Value -> H} {P : Program} {w : World} {base : Nat} {spare : Nat -> Bool} {held : Bool} {α : Type} (f : α -> List Value) {size : Nat} (h0 : 0 < size) (hf : ∀ x, (f x).length = size) {t e : TypeId} (ht : P.underlying t = some (.slice e)) (hC : P.cellsOf e = size)
  {Q : α -> Prop} (wt : α -> Nat) (hopen : ∀ (n : Nat) (cs : List Value) (x : DataW H × List MemPlace), DataW.trod enc P w base spare held n e cs = some x -> ∃ p : α, cs = f p /\ Q p /\ wt p <= Rows.uptoBulk x.1)
  {fuel : Nat} {A : Option Addr} {len cap : Nat} {x : DataW H × List MemPlace} (h : DataW.trod enc P w base spare held fuel t [.slice A len cap] = some x) :
  ∃ l : List α, l.length = len /\ Rd w A len size (l.flatMap f) /\ (∀ p ∈ l, Q p) /\ (l.map wt).sum + 1 <= Rows.uptoBulk x.1 := by
 rcases open_slice ht h with ⟨hcs, _⟩ | ⟨a, len', cap', m, n, D, Pl, hcs, hb, hl, hm, hmm, hx, hi⟩
 ·simp only [List.cons.injEq, Value.slice.injEq, and_true] at hcs; obtain ⟨rfl, rfl, rfl⟩ := hcs; exact ⟨[], rfl, Rd.nil _, (fun p hp => by cases hp), one_le x.1⟩
 ·simp only [List.cons.injEq, Value.slice.injEq, and_true] at hcs; obtain ⟨rfl, rfl, rfl⟩ := hcs
  have hlm : len <= m := by rw [hmm]; split <;> omega
  have hall : ∀ i : Fin len, ∃ p : α, Q p /\ wt p <= Rows.uptoBulk (D i.1) /\ ∀ j u, (f p)[j]? = some u -> w.cell? (a.add (i.1 * size + j)) = some u := fun i => by
   obtain ⟨cs', hc, ht'⟩ := hi i.1 ω; obtain ⟨p, rfl, hq, hwt⟩ := hopen _ _ _ ht'
   refine ⟨p, hq, hwt, fun j u hu => ?_⟩
   obtain ⟨_, hcl, hat⟩ := World.cells?_some hc
   have hj : j < P.cellsOf e := by rw [hC, <- hf p]; exact (List.getElem?_eq_some_iff.1 hu).1
   rw [<- hu, <- hat j hj, hC, UP']
  obtain ⟨g, hg⟩ := Classical.axiomOfChoice hall
  refine ⟨List.ofFn g, by simp, ?_, fun p hp => ?_, ?_⟩
  rotate_left
  ·obtain ⟨i, rfl⟩ := List.mem_ofFn.1 hp; exact (hg i).1
  ·rw [hx]; refine Nat.le_trans (Nat.succ_le_succ ?_) (slice_elems _ _)
   refine P4' wt _ _ (by simp) fun i p d hp hd => ?_
   rw [List.getElem?_ofFn] at hp; split at hp
   ·rename_i hlt; rw [List.getElem?_map, List.getElem?_range hlt] at hd; cases hp; have hd := Option.some.inj hd; rw [<- hd]; exact (hg ⟨i, hlt⟩).2.1
   ·cases hp
  refine ⟨by rw [H8' hf]; simp, fun _ => ⟨a, rfl⟩, fun ad he j u hu => ?_⟩
  obtain rfl := Option.some.inj he
  have hj : j < len * size := by
   have := (List.getElem?_eq_some_iff.1 hu).1; rw [H8' hf] at this; simpa using this
  have hq : j / size < len := by rw [Nat.div_lt_iff_lt_mul h0]; exact hj
  have hd : j / size * size + j % size = j := by rw [Nat.mul_comm]; exact Nat.div_add_mod j size
  have hk : j / size < (List.ofFn g).length := by simpa using hq
  have hp := HT' hf (List.ofFn g) (j / size) (j % size) hk (Nat.mod_lt _ h0); rw [hd, hu] at hp; have := (hg ⟨j / size, hq⟩).2.2 (j % size) u (by rw [hp]; simp)
  rwa [hd] at this
end Go.Proofs.YtgahllbgipdchaaGreatDoor.Upto
namespace Go.Proofs.YtgahllbgipdchaaGreatDoor.Wit
open Go
theorem row_zip {H : Type} {enc : TypeId × Value -> H} {C : Checked} {os : Os} {f : FuncId} {fn : Func} {s : OpenSpec} {conds : List PathCond} {apart : Bool} {laid : List (String × DataW Unit)} (w0 : World) (args : Array Value) (hos : w0.os = os)
  (hv : (w0.forCall (fun _ _ => 0) ⟨#[], args, []⟩).variablesZipB C.prog = true)
  (hr : ((w0.forCall (fun _ _ => 0) ⟨#[], args, []⟩).heap.toList.drop C.prog.globals.size).take ((begin C.prog (fun _ _ => 0) default).world.heap.size - C.prog.globals.size) =
   (begin C.prog (fun _ _ => 0) default).world.heap.toList.drop C.prog.globals.size)
  (hok : Input.okWideB C.prog (w0.forCall (fun _ _ => 0) ⟨#[], args, []⟩) f ⟨#[], args, []⟩ = true)
  (hrow : s.preRow enc C.prog fn conds apart laid (w0.forCall (fun _ _ => 0) ⟨#[], args, []⟩).memory args) :
  ∃ (w : World) (tape : Tape) (i : Input), w.os = os /\ (w.forCall tape i).Shaped C.prog /\ i.vars = [] /\ Input.okWide C.prog (w.forCall tape i) .any w.heap.size f i /\
   s.preRow enc C.prog fn conds apart laid (w.forCall tape i).memory i.args /\ ({} : Assume).holds C.prog (lone (Frame.enter C.prog f i.args .normal) [] (w.forCall tape i)) :=
 ⟨w0, fun _ _ => 0, ⟨#[], args, []⟩, hos, World.shaped_of_ZipB hv hr, (Input.okWide_of_okWideB (base := 0) hok).1, (Input.okWide_of_okWideB hok).2, hrow, by
  simp [Assume.holds]⟩
end Go.Proofs.YtgahllbgipdchaaGreatDoor.Wit
namespace Go.Proofs.YtgahllbgipdchaaGreatDoor.Eng
open Go Go.RowKit Go.Maps Go.Sort Go.Shelf Go.Proofs
theorem WK' (m : Nat) : AnyZ.SortsIn Θ Tryz.sorted49_ren Fence.wide m :=
 ⟨fun blk off cap ss W hH hblk hsz => callsIn_wide.2 (AnyM.slices_Sort_string Tryz.sort65 blk off cap ss W hH hblk hsz),
  fun p cap W => callsIn_wide.2 (AnyM.slices_Sort_string_none Tryz.sort65 p cap W)⟩
set_option maxHeartbeats 1000000 in
theorem NQ' : IQ' Θ 49 66 9 := by
 intro Bm b nn D0 R w hBm hcell hown hmax hbytes; refine (callsIn_wide (n := 5)).1 ?_
 have hseq : SeqGives Fence.wide 2 Θ 66 #[.pointer (some ⟨Bm, 0, none⟩)] encStr (fun ss => ss.Perm (strKeys D0)) (Maps.size D0) w :=
  AnyZ.keys_gives (ρ := Tryz.keys50_ren) { Tryz.keys50 with } Fence.wide _ trivial rfl ω Bm b nn D0 _ hBm hcell hown
 exact AnyZ.sorted_in Tryz.sorted49 Fence.wide 5 trivial trivial trivial trivial rfl ω (WK' _) (enters_of Tryz.func65 χ rfl) 66 #[.pointer (some ⟨Bm, 0, none⟩)] trivial (enters_of Tryz.func66 χ rfl) _ _ hmax hbytes _ hseq
theorem RE' : IQ' Θ 49 66 9 := NQ'
end Go.Proofs.YtgahllbgipdchaaGreatDoor.Eng
namespace Go.Proofs.YtgahllbgipdchaaGreatDoor.Wk
open List renaming length_append -> la'
open List renaming append_assoc -> as'
variable {k : Nat}
abbrev Bs := Γ
def be4 (n : Nat) : Bs := [UInt8.ofNat (n / 16777216), UInt8.ofNat (n / 65536), UInt8.ofNat (n / 256), UInt8.ofNat n]
def val : Bs -> Nat := fun b => b.foldl (fun n c => n * 256 + c.toNat) 0
theorem R3' {n : Nat} (h : n < 4294967296) : val (be4 n) = n := by
 simp only [val, be4, List.foldl_cons, List.foldl_nil, UInt8.toNat_ofNat']; omega
theorem DG' (n : Nat) : (be4 n).length = 4 := rfl
def nib : List Nat := [0x00000000, 0x105ec76f, 0x20bd8ede, 0x30e349b1, 0x417b1dbc, 0x5125dad3, 0x61c69362, 0x7198540d, 0x82f63b78, 0x92a8fc17, 0xa24bb5a6, 0xb21572c9, 0xc38d26c4, 0xd3d3e1ab, 0xe330a81a, 0xf36e6f75]
def nb (k : Nat) : Nat := nib.getD k 0
def half (s : Nat) : Nat := (s >>> 4) ^^^ nb (s &&& 15)
def HO' (s : Nat) (c : UInt8) : Nat := half (half (s ^^^ c.toNat))
def ovr (s : Nat) (b : Bs) : Nat := b.foldl HO' s
theorem V8' (k : Nat) : nb k < 4294967296 := by
 unfold nb
 rcases k with _|_|_|_|_|_|_|_|_|_|_|_|_|_|_|_|k
 all_goals first | decide | (show (0 : Nat) < 4294967296; decide)
theorem O5' {s : Nat} (h : s < 4294967296) : half s < 4294967296 := by
 have h1 : s >>> 4 < 2 ^ 32 := by rw [Nat.shiftRight_eq_div_pow]; omega
 exact Nat.xor_lt_two_pow (n := 32) h1 (V8' _)
theorem TI' {s : Nat} (h : s < 4294967296) (c : UInt8) : HO' s c < 4294967296 := by
 have hc : c.toNat < 2 ^ 32 := by have := c.toNat_lt; omega
 exact O5' (O5' (Nat.xor_lt_two_pow (n := 32) h hc))
theorem D3' : ∀ (b : Bs) {s : Nat}, s < 4294967296 -> ovr s b < 4294967296
 | [], s, h => h
 | c :: b, s, h => D3' b (TI' h c)
def ones : Nat := 4294967295
def sumB (r : Bs) : Nat := ovr (ovr ones (be4 r.length)) r ^^^ ones
theorem R9' (r : Bs) : sumB r < 4294967296 := Nat.xor_lt_two_pow (n := 32) (D3' _ (D3' _ δ)) δ
def AH' (r : Bs) : Bs := be4 r.length ++ be4 (sumB r) ++ r
def most : Nat := 1048576
theorem B2' (r : Bs) : (AH' r).length = 8 + r.length := by rw [AH', la', la', DG', DG']
def unwB (b : Bs) : Option Bs :=
 if b.length < 8 then none
 else if val (b.take 4) > most then none
 else if val (b.take 4) > b.length - 8 then none
 else if ovr (ovr ones (b.take 4)) ((b.drop 8).take (val (b.take 4))) ^^^ ones = val ((b.drop 4).take 4) then some ((b.drop 8).take (val (b.take 4))) else none
theorem GY' {b d : Bs} (h : unwB b = some d) : 8 + d.length <= b.length := by
 unfold unwB at h
 repeat' split at h
 all_goals first | (cases h; done) | (cases h; rw [List.length_take, List.length_drop]; omega)
def AA' (b : Bs) : List Bs := match h : unwB b with
 | none => []
 | some d => d :: AA' (b.drop (8 + d.length))
termination_by b.length
decreasing_by rw [List.length_drop]; have := GY' h; omega
theorem BS' {b : Bs} (h : unwB b = none) : AA' b = [] := by
 rw [AA']; split
 ·rfl
 ·rename_i h2; rw [h] at h2; cases h2
theorem GK' {b d : Bs} (h : unwB b = some d) : AA' b = d :: AA' (b.drop (8 + d.length)) := by
 rw [AA']; split
 ·rename_i h2; rw [h] at h2; cases h2
 ·rename_i h2; rw [h] at h2; cases h2; rfl
theorem KR' {r : Bs} (h : r.length <= most) (t : Bs) : unwB (AH' r ++ t) = some r := by
 have hm : r.length < 4294967296 := by unfold most at h; omega
 have e0 : AH' r ++ t = be4 r.length ++ (be4 (sumB r) ++ (r ++ t)) := by rw [AH']; simp only [as']
 have e1 : (AH' r ++ t).take 4 = be4 r.length := by rw [e0, List.take_append_of_le_length (Nat.le_refl 4)]; rfl
 have e2 : (AH' r ++ t).drop 4 = be4 (sumB r) ++ (r ++ t) := by rw [e0]; exact List.drop_left' rfl
 have e3 : (AH' r ++ t).drop 8 = r ++ t := by
  rw [show 8 = 4 + 4 from rfl, <- List.drop_drop, e2]; exact List.drop_left' rfl
 have e4 : ((AH' r ++ t).drop 4).take 4 = be4 (sumB r) := by rw [e2, List.take_append_of_le_length (Nat.le_refl 4)]; rfl
 have hl : (AH' r ++ t).length = 8 + r.length + t.length := by rw [la', B2']
 unfold unwB; rw [e1, e3, e4, R3' hm, R3' (R9' r), hl, List.take_left' rfl]; rw [if_neg ω, if_neg ω, if_neg ω]; exact if_pos rfl
theorem TG' (t : Bs) : unwB (List.replicate 8 0 ++ t) = none := by
 have hl : (List.replicate 8 0 ++ t).length = 8 + t.length := by rw [la', List.length_replicate]
 unfold unwB; rw [hl, if_neg ω]; have e1 : (List.replicate 8 (0 : UInt8) ++ t).take 4 = [0, 0, 0, 0] := rfl; have e2 : ((List.replicate 8 (0 : UInt8) ++ t).drop 4).take 4 = [0, 0, 0, 0] := rfl; rw [e1, e2]; have v0 : val [0, 0, 0, 0] = 0 := rfl; rw [v0, if_neg δ, if_neg ω, List.take_zero, if_neg]
 decide
def cat (rs : List Bs) : Bs := rs.flatMap AH'
theorem DB' (r : Bs) (rs : List Bs) : cat (r :: rs) = AH' r ++ cat rs := by rw [cat, List.flatMap_cons]; rfl
theorem G0' (rs : List Bs) (r : Bs) : cat (rs ++ [r]) = cat rs ++ AH' r := by rw [cat, List.flatMap_append, List.flatMap_cons, List.flatMap_nil, List.append_nil]; rfl
def LR' (rs : List Bs) : Prop := ∀ r ∈ rs, r.length <= most
theorem EE' : ∀ (rs : List Bs) (t : Bs), LR' rs -> AA' (cat rs ++ t) = rs ++ AA' t
 | [], t, _ => rfl
 | r :: rs, t, h => by
  rw [DB', as', GK' (KR' (h r List.mem_cons_self) _), <- B2', List.drop_left' rfl, EE' rs t (fun x hx => h x (List.mem_cons_of_mem _ hx))]; rfl
def TP' (b : Bs) (at' : Nat) (d : Bs) : Bs := b ++ List.replicate (at' - b.length) 0 ++ d
inductive Left (S : List Bs) (rs : List Bs) : Nat -> Bs -> Prop where
 | full (k : Nat) : Left S rs k (cat (S ++ rs.take k))
 | gap (k j : Nat) (h : j < k) : Left S rs k (cat (S ++ rs.take j))
 | zero (k j : Nat) (h : j <= k) (t : Bs) : Left S rs k (cat (S ++ rs.take j) ++ (List.replicate 8 0 ++ t))
theorem N0' {S rs : List Bs} {j : Nat} (h : j < k) (hk : k <= rs.length) : (cat (S ++ rs.take j)).length + 8 <= (cat (S ++ rs.take k)).length := by
 obtain ⟨m, rfl⟩ : ∃ m, k = j + 1 + m := ⟨k - j - 1, by omega⟩
 clear h
 induction m with
 | zero =>
  have hj : j < rs.length := ω
  have e : rs.take (j + 1) = rs.take j ++ [rs[j]] := by rw [List.take_add_one, List.getElem?_eq_getElem hj]; rfl
  rw [show j + 1 + 0 = j + 1 from rfl, e, <- as', G0', la', B2']; omega
 | succ m ih =>
  have hj : j + 1 + m < rs.length := ω
  have e : rs.take (j + 1 + m + 1) = rs.take (j + 1 + m) ++ [rs[j + 1 + m]] := by rw [List.take_add_one, List.getElem?_eq_getElem hj]; rfl
  have := ih ω; rw [show j + 1 + (m + 1) = j + 1 + m + 1 from rfl, e, <- as', G0', la']; omega
theorem VY' {n : Nat} (h : 8 <= n) (t : Bs) : List.replicate n 0 ++ t = List.replicate 8 0 ++ (List.replicate (n - 8) (0 : UInt8) ++ t) := by
 rw [<- as', List.replicate_append_replicate]
 congr 2
 omega
theorem Left.keep {S rs : List Bs} {b r : Bs} (h : Left S rs k b) (hr : rs[k]? = some r) : Left S rs (k + 1) (TP' b (cat (S ++ rs.take k)).length (AH' r)) := by
 obtain ⟨hk, hke⟩ := List.getElem?_eq_some_iff.1 hr
 have e : rs.take (k + 1) = rs.take k ++ [r] := by rw [List.take_add_one, hr]; rfl
 cases h with
 | full =>
  rw [TP', Nat.sub_self, List.replicate_zero, List.append_nil, <- G0', as', <- e]; exact .full _
 | gap j hj =>
  have := N0' (S := S) hj (Nat.le_of_lt hk); rw [TP', as', VY' ω]; exact .zero _ _ ω _
 | zero j hj t =>
  rw [TP', as', as', as']; exact .zero _ _ ω _
theorem Left.drop {S rs : List Bs} {b : Bs} (h : Left S rs k b) : Left S rs (k + 1) b := by
 cases h with
 | full => exact .gap _ _ (Nat.lt_succ_self _)
 | gap j hj => exact .gap _ _ ω
 | zero j hj t => exact .zero _ _ ω _
theorem HN' {rs : List Bs} (h : LR' rs) (k : Nat) : LR' (rs.take k) := fun r hr => h r (List.mem_of_mem_take hr)
theorem JM' {S rs : List Bs} (h : LR' S) (h' : LR' rs) : LR' (S ++ rs) := fun r hr => (List.mem_append.1 hr).elim (h r) (h' r)
theorem Left.whole {S rs : List Bs} (hS : LR' S) (hR : LR' rs) {b : Bs} (h : Left S rs k b) : ∃ j, j <= k /\ AA' b = S ++ rs.take j := by
 have h0 : AA' [] = [] := BS' rfl
 cases h with
 | full =>
  have := EE' (S ++ rs.take k) [] (JM' hS (HN' hR _)); rw [List.append_nil, h0, List.append_nil] at this; exact ⟨k, Yd, this⟩
 | gap j hj =>
  have := EE' (S ++ rs.take j) [] (JM' hS (HN' hR _)); rw [List.append_nil, h0, List.append_nil] at this
  exact ⟨j, by omega, this⟩
 | zero j hj t =>
  rw [EE' _ _ (JM' hS (HN' hR _)), BS' (TG' t), List.append_nil]; exact ⟨j, hj, rfl⟩
end Go.Proofs.YtgahllbgipdchaaGreatDoor.Wk
namespace Go.Proofs.YtgahllbgipdchaaGreatDoor.Eng
open Go Go.RowKit
section
variable {α : Type} {enc : α -> List Value} {k : Nat}
theorem TK' (hk : ∀ x, (enc x).length = k) (L : List α) (d0 : α) (i : Nat) (hi : i < L.length) (j : Nat) (hj : j < k) (v : Value) (hv : (enc (L.getD i d0))[j]? = some v) (d : AV) : (rowV enc L).getD (0 + i * k + j) d = .v v := by
 have h := M3' hk L d0 i hi
 have h2 : (((rowV enc L).drop (i * k)).take k)[j]? = some (.v v) := by
  rw [h, vmap, List.getElem?_map, hv]; rfl
 rw [List.getElem?_take_of_lt hj, List.getElem?_drop] at h2; rw [Nat.zero_add, List.getD, h2]; rfl
theorem P9' (hk : ∀ x, (enc x).length = k) (L : List α) (d0 : α) (i : Nat) (hi : i < L.length) : List.take k (List.drop (0 + i * k) (rowV enc L)) = vmap (enc (L.getD i d0)) := by
 rw [Nat.zero_add]; exact M3' hk L d0 i hi
end
end Go.Proofs.YtgahllbgipdchaaGreatDoor.Eng
namespace Go.Proofs.YtgahllbgipdchaaGreatDoor.Kit
open Go Go.RowKit Eng Kit
variable {p : Nat} {P : Γ}
def byv (b : UInt8) : AV := .v (.int .u8 b.toNat)
def encB (b : UInt8) : List Value := [.int .u8 b.toNat]
abbrev tByt : TypeId := 2 * 5
def rB (l : Γ) : AO := .cells (rowV encB l) tByt
def sB (i n : Nat) : AV := .slice i 0 n 1 (.lo n)
theorem PP' (x : UInt8) : (encB x).length = 1 := rfl
theorem BJ' (M : Γ) : (rowV encB M).length = M.length := by rw [NS' (k := 1) PP', Nat.mul_one]
theorem KA' (σ : Nat -> Nat) (L : Γ) : (rB L).ren σ = rB L := by simp only [rB, AO.ren, A1']
theorem A5' {x : List AV} {L : Γ} {e : TypeId} {σ : Nat -> Nat} (h : x = rowV encB L) (he : e = tByt) : OW (.cells x e) ((rB L).ren σ) := by rw [KA']; subst h he; exact Yc
theorem AB' (K : Nat -> Bool) (L : Γ) : (rB L).cl K := UK' _ _
theorem rB_get (M : Γ) (i : Nat) (hi : i < M.length) (d : AV) : (rowV encB M).getD (0 + i * 1) d = byv (M.getD i 0) := by
 have := TK' (k := 1) PP' M 0 i hi 0 δ (.int .u8 (M.getD i 0).toNat) rfl d; simpa [byv] using this
theorem DX' (l : Γ) : rowV encB l = vmap (l.map fun b => .int .u8 b.toNat) := by
 unfold rowV
 congr 1
 induction l with
 | nil => rfl
 | cons a l ih => rw [List.flatMap_cons, List.map_cons, ih]; rfl
theorem RM' (h : P.length = p) : (0 + p * 1).ble (rowV encB P).length = true := by rw [BJ', Nat.ble_eq]; omega
theorem J2' (h : P.length = p) : (List.take (p * 1) (List.drop 0 (rowV encB P))).length.beq (p * 1) = true := by
 have : (List.take (p * 1) (List.drop 0 (rowV encB P))).length = p * 1 := by rw [List.length_take, List.drop_zero, BJ']; omega
 rw [this]; exact Nat.beq_refl _
theorem J3' (h : P.length = p) (l : Γ) : List.take (p * 1) (List.drop 0 (rowV encB P)) ++ rowV encB l = rowV encB (P ++ l) := by
 rw [List.drop_zero, List.take_of_length_le (by rw [BJ']; omega), <- D1']
theorem ltTN {j n : Nat} (h : j < n) : decide (Int.ofNat j < Int.ofNat n) = true := decide_eq_true (by simp only [Z0]; omega)
theorem ltFN {j n : Nat} (h : n <= j) : decide (Int.ofNat j < Int.ofNat n) = false := decide_eq_false (by simp only [Z0]; omega)
theorem AP' {a b : Nat} (h : a <= b) : a.ble b = true := by rw [Nat.ble_eq]; exact h
theorem VAll.ite {α : Type} {Q : α -> List (Option AO) -> Nat -> Prop} {b : Bool} {x y : VT α} (h1 : b = true -> VAll Q x) (h2 : b = false -> VAll Q y) : VAll Q (.ite b x y) := ⟨⟨fun h => (h1 h).out, fun h => (h2 h).out⟩⟩
theorem wk_u8 {a b : Int} (h : a = b) : Wk (.v (.int .u8 a)) (.v (.int .u8 b)) := by subst h; exact Ya
theorem N4' (s : Δ) : s.toList = s.data.toList := ByteArray.toList_eq s
end Go.Proofs.YtgahllbgipdchaaGreatDoor.Kit
namespace Go.Proofs.YtgahllbgipdchaaGreatDoor.Tree
open Go Go.RowKit Eng Kit
open List renaming length_append -> la'
variable {w : World} {d : Nat} {N : Names} {e : TypeId}
inductive Tv where
 | mk (kind num : Int) (text : Δ) (list : List Tv) (tab : List (Δ × Tv))
 deriving Inhabited
abbrev Tf := List (Δ × Tv)
def Tv.kind : Tv -> Int
 | .mk k _ _ _ _ => k
def Tv.num : Tv -> Int
 | .mk _ n _ _ _ => n
def Tv.text : Tv -> Δ
 | .mk _ _ t _ _ => t
def Tv.list : Tv -> List Tv
 | .mk _ _ _ l _ => l
def Tv.tab : Tv -> Tf
 | .mk _ _ _ _ f => f
structure Rv where
 k : Int
 n : Int
 t : Δ
 la : Option Addr
 ll : Nat
 lc : Nat
 ta : Option Addr
 tl : Nat
 tc : Nat
 deriving Inhabited
def Rv.cells (r : Rv) : List Value := [.int .i64 r.k, .int .i64 r.n, .string r.t, .slice r.la r.ll r.lc, .slice r.ta r.tl r.tc]
abbrev Mem := Addr -> Option Value
def TC' (C : Mem) (a : Addr) (cs : List Value) : Prop := ∀ j u, cs[j]? = some u -> C (a.add j) = some u
def big : Nat := 140737488351232
def LOf (V : Tv -> Rv -> Prop) (C : Mem) (oa : Option Addr) (l : List Tv) : Prop := l.length * 80 <= big /\ ∀ i x, l[i]? = some x -> ∃ a r, oa = some a /\ TC' C (a.add (i * 5)) r.cells /\ V x r
def FOf (V : Tv -> Rv -> Prop) (C : Mem) (oa : Option Addr) (f : Tf) : Prop := f.length * 96 <= big /\ ∀ i nm x, f[i]? = some (nm, x) -> ∃ a r, oa = some a /\ TC' C (a.add (i * 6)) (.string nm :: r.cells) /\ V x r
def VAt (C : Mem) : Nat -> Tv -> Rv -> Prop
 | 0 => fun _ _ => False
 | d + 1 => fun v r => (r.k = v.kind /\ r.n = v.num /\ r.t = v.text /\ r.ll = v.list.length /\ r.tl = v.tab.length) /\ LOf (VAt C d) C r.la v.list /\ FOf (VAt C d) C r.ta v.tab
abbrev LAt (C : Mem) (d : Nat) := LOf (VAt C d) C
abbrev FAt (C : Mem) (d : Nat) := FOf (VAt C d) C
theorem TC'.mono {C C' : Mem} (h : ∀ a v, C a = some v -> C' a = some v) {a : Addr} {cs : List Value} (hc : TC' C a cs) : TC' C' a cs := fun j u hu => h _ _ (hc j u hu)
theorem LOf.mono {V V' : Tv -> Rv -> Prop} (hV : ∀ x r, V x r -> V' x r) {C C' : Mem} (h : ∀ a v, C a = some v -> C' a = some v) {oa : Option Addr} {l : List Tv} (hl : LOf V C oa l) : LOf V' C' oa l :=
 ⟨hl.1, fun i x hx => by
  obtain ⟨a, r, h1, h2, h3⟩ := hl.2 i x hx
  exact ⟨a, r, h1, h2.mono h, hV _ _ h3⟩⟩
theorem FOf.mono {V V' : Tv -> Rv -> Prop} (hV : ∀ x r, V x r -> V' x r) {C C' : Mem} (h : ∀ a v, C a = some v -> C' a = some v) {oa : Option Addr} {f : Tf} (hf : FOf V C oa f) : FOf V' C' oa f :=
 ⟨hf.1, fun i nm x hx => by
  obtain ⟨a, r, h1, h2, h3⟩ := hf.2 i nm x hx
  exact ⟨a, r, h1, h2.mono h, hV _ _ h3⟩⟩
theorem VAt.mono {C C' : Mem} (h : ∀ a v, C a = some v -> C' a = some v) : ∀ {d : Nat} {v : Tv} {r : Rv}, VAt C d v r -> VAt C' d v r
 | 0, _, _, hv => hv.elim
 | d + 1, v, r, hv => ⟨hv.1, hv.2.1.mono (fun x r hx => VAt.mono h hx) h, hv.2.2.mono (fun x r hx => VAt.mono h hx) h⟩
theorem LAt.mono {C C' : Mem} (h : ∀ a v, C a = some v -> C' a = some v) {oa : Option Addr} {l : List Tv} (hl : LAt C d oa l) : LAt C' d oa l := LOf.mono (fun _ _ hx => VAt.mono h hx) h hl
theorem FAt.mono {C C' : Mem} (h : ∀ a v, C a = some v -> C' a = some v) {oa : Option Addr} {l : Tf} (hl : FAt C d oa l) : FAt C' d oa l := FOf.mono (fun _ _ hx => VAt.mono h hx) h hl
noncomputable section
def GN' (D : Nat -> Prop) (w : World) : Mem := fun a => by classical exact if D a.block then w.cell? a else none
theorem PJ' {D : Nat -> Prop} {a : Addr} (h : D a.block) : GN' D w a = w.cell? a := by unfold GN'; rw [if_pos h]
theorem EW' {D : Nat -> Prop} {a : Addr} {v : Value} (h : GN' D w a = some v) : D a.block /\ w.cell? a = some v := by
 unfold GN' at h; split at h
 ·rename_i hd; exact ⟨hd, h⟩
 ·cases h
theorem EX' {D D' : Nat -> Prop} (h : ∀ b, D b -> D' b) : ∀ a v, GN' D w a = some v -> GN' D' w a = some v := fun a v ha => by
 obtain ⟨h1, h2⟩ := EW' ha; rw [PJ' (h _ h1)]; exact h2
theorem PS' {w' : World} {a : Addr} (h : w'.heap[a.block]? = w.heap[a.block]?) : w'.cell? a = w.cell? a := by unfold World.cell?; rw [h]
theorem MD' {D : Nat -> Prop} {w' : World} (h : ∀ b, D b -> w'.heap[b]? = w.heap[b]?) : GN' D w' = GN' D w := by
 funext a; unfold GN'; split
 ·rename_i hd; exact PS' (h _ hd)
 ·rfl
def frz (P : Mem -> Prop) : HP where
 on D w := P (GN' D w) /\ ∀ b, D b -> b < w.heap.size
 far {D w w'} hf := fun ⟨h1, h2⟩ => ⟨by rw [MD' hf]; exact h1, fun b hb => by
  have h3 := hf b hb; rw [Array.getElem?_eq_getElem (h2 b hb)] at h3
  exact (Array.getElem?_eq_some_iff.1 h3).1⟩
 lt {D w} := fun ⟨_, h2⟩ => h2
theorem Q6' {W0 : World} {F : HP} {N1 : Names} {H H' : LH} {D0 : Nat -> Prop} {D : Nat -> Nat -> Prop} (hl : AD' 1100 H = true) (hl' : AD' 1100 H' = true) (r : Rep W0 N1 F (AQ' H) w)
  (h1 : F.on D0 w) (h2 : ∀ i o, getO H i = some o -> OR N1 i o (D i) w /\ ∀ b, D i b -> ¬ D0 b) (h3 : ∀ i j o o', getO H i = some o -> getO H j = some o' -> i ≠ j -> ∀ b, D i b -> ¬ D j b)
  (k : Nat) (S : Nat -> Prop) (hkS : ¬ S k) {ok : AO} (hk0 : getO H k = some ok)
  (hn : ∀ n o', n ≠ k -> getO H' n = some o' -> ¬ S n /\ ∃ o, getO H n = some o /\ OR N1 n o' (D n) w)
  (hk : ∀ o', getO H' k = some o' -> OR N1 k o' (fun x => D k x \/ ∃ j, S j /\ (∃ o, getO H j = some o) /\ D j x) w) : Rep W0 N1 F (AQ' H') w := by
 classical
 have hf' : ∀ n, (AQ' H').find n = getO H' n := AK' (DA' hl')
 refine ⟨r.os, r.tape, r.output, D0, fun n x => if n = k then (D k x \/ ∃ j, S j /\ (∃ o, getO H j = some o) /\ D j x) else D n x, h1, fun n o hno => ?_, fun n m o o' hno hmo hnm b hb hb' => ?_⟩
 ·rw [hf'] at hno
  by_cases e : n = k
  ·subst e; simp only [if_true]
   refine ⟨hk o hno, fun b hb => ?_⟩
   rcases hb with hb | ⟨j, _, ⟨oj, hj⟩, hb⟩
   ·exact (h2 n _ hk0).2 b hb
   ·exact (h2 j _ hj).2 b hb
  ·simp only [if_neg e]; obtain ⟨_, o0, q1, q2⟩ := hn n o e hno; exact ⟨q2, (h2 n _ q1).2⟩
 ·rw [hf'] at hno hmo
  have key : ∀ m o', getO H' m = some o' -> m ≠ k -> ∀ b, (D k b \/ ∃ j, S j /\ (∃ o, getO H j = some o) /\ D j b) -> ¬ D m b := by
   intro m o' hm hmk b hb; obtain ⟨q0, o1, q1, _⟩ := hn m o' hmk hm
   rcases hb with hb | ⟨j, hj, ⟨oj, hjo⟩, hb⟩
   ·exact h3 k m _ _ hk0 q1 (Ne.symm hmk) b hb
   ·exact h3 j m _ _ hjo q1 (fun e => q0 (e ▸ hj)) b hb
  by_cases e : n = k
  ·subst e; simp only [if_true] at hb; have e' : m ≠ n := Ne.symm hnm; simp only [if_neg e'] at hb'; exact key m o' hmo e' b hb hb'
  ·simp only [if_neg e] at hb
   by_cases e' : m = k
   ·subst e'; simp only [if_true] at hb'; exact key n o hno e b hb' hb
   ·simp only [if_neg e'] at hb'; obtain ⟨_, o1, q1, _⟩ := hn n o e hno; obtain ⟨_, o2, q2, _⟩ := hn m o' e' hmo; exact h3 n m _ _ q1 q2 hnm b hb hb'
variable (m : Md)
def ownL (d : Nat) (l : List Tv) : AO := .own m fun b _ => frz fun C => LAt C d (some ⟨b, 0, none⟩) l
variable {m}
theorem LOf.nil {V : Tv -> Rv -> Prop} {C : Mem} (oa : Option Addr) : LOf V C oa [] := ⟨Nat.zero_le _, fun i x h => by simp at h⟩
theorem FOf.nil {V : Tv -> Rv -> Prop} {C : Mem} (oa : Option Addr) : FOf V C oa [] := ⟨Nat.zero_le _, fun i nm x h => by simp at h⟩
theorem IW' {k n sz : Nat} {y : Value} (h : VR N (.slice k 0 n sz (.lo n)) y) : ∃ l x c, N k = some l /\ y = .slice (some ⟨l.blk, x, none⟩) n c /\ (0 < n -> x = l.off) := by
 simp only [VR] at h; obtain ⟨l, x, c, h1, h2, h3, h4, h5, h6⟩ := h
 refine ⟨l, x, c, h1, h2, fun hn => ?_⟩
 rcases h3 with h3 | h3
 ·rw [h3, Nat.add_zero]
 ·omega
def PF (d : Nat) (R : List (Δ × Rv)) (f : Tf) (C : Mem) : Prop := R.length = f.length /\ ∀ (i : Nat) (nm : Δ) (x : Tv), f[i]? = some (nm, x) -> ∃ r, R[i]? = some (nm, r) /\ VAt C d x r
def PV (d : Nat) (R : List Rv) (l : List Tv) (C : Mem) : Prop := R.length = l.length /\ ∀ (i : Nat) (x : Tv), l[i]? = some x -> ∃ r, R[i]? = some r /\ VAt C d x r
theorem PF.mono {R : List (Δ × Rv)} {f : Tf} {C C' : Mem} (h : ∀ a v, C a = some v -> C' a = some v) (hp : PF d R f C) : PF d R f C' := ⟨hp.1, fun i nm x hx => by
 obtain ⟨r, h1, h2⟩ := hp.2 i nm x hx
 exact ⟨r, h1, h2.mono h⟩⟩
theorem PV.mono {R : List Rv} {l : List Tv} {C C' : Mem} (h : ∀ a v, C a = some v -> C' a = some v) (hp : PV d R l C) : PV d R l C' := ⟨hp.1, fun i x hx => by
 obtain ⟨r, h1, h2⟩ := hp.2 i x hx
 exact ⟨r, h1, h2.mono h⟩⟩
theorem PF.add {R : List (Δ × Rv)} {f : Tf} {C : Mem} (hp : PF d R f C) {nm : Δ} {x : Tv} {r : Rv} (hx : VAt C d x r) : PF d (R ++ [(nm, r)]) (f ++ [(nm, x)]) C := by
 refine ⟨by simp [hp.1], fun i n y hy => ?_⟩
 rcases Nat.lt_or_ge i f.length with h | h
 ·rw [List.getElem?_append_left h] at hy; obtain ⟨s, h1, h2⟩ := hp.2 i n y hy
  exact ⟨s, by rw [List.getElem?_append_left (by have := hp.1; omega)]; exact h1, h2⟩
 ·rw [List.getElem?_append_right h] at hy
  have : i - f.length = 0 := by
   cases hk : i - f.length with
   | zero => rfl
   | succ n => rw [hk] at hy; simp at hy
  rw [this] at hy; simp only [List.getElem?_cons_zero, Option.some.injEq, Prod.mk.injEq] at hy; obtain ⟨rfl, rfl⟩ := hy; refine ⟨r, ?_, hx⟩
  rw [List.getElem?_append_right (by have := hp.1; omega), show i - R.length = 0 by have := hp.1; omega]
  rfl
theorem PV.add {R : List Rv} {f : List Tv} {C : Mem} (hp : PV d R f C) {x : Tv} {r : Rv} (hx : VAt C d x r) : PV d (R ++ [r]) (f ++ [x]) C := by
 refine ⟨by simp [hp.1], fun i y hy => ?_⟩
 rcases Nat.lt_or_ge i f.length with h | h
 ·rw [List.getElem?_append_left h] at hy; obtain ⟨s, h1, h2⟩ := hp.2 i y hy
  exact ⟨s, by rw [List.getElem?_append_left (by have := hp.1; omega)]; exact h1, h2⟩
 ·rw [List.getElem?_append_right h] at hy
  have : i - f.length = 0 := by
   cases hk : i - f.length with
   | zero => rfl
   | succ n => rw [hk] at hy; simp at hy
  rw [this] at hy; simp only [List.getElem?_cons_zero, Option.some.injEq] at hy; subst hy; refine ⟨r, ?_, hx⟩
  rw [List.getElem?_append_right (by have := hp.1; omega), show i - R.length = 0 by have := hp.1; omega]
  rfl
end
theorem OD' {i : Nat} {a b : List AV} {D : Nat -> Prop} (h : OR N i (.cells (a ++ b) e) D w) : ∃ yb, VRs N b yb /\ ∀ c : List AV, c.length = b.length -> VRs N c yb -> OR N i (.cells (a ++ c) e) D w := by
 obtain ⟨l, arr, fz, h1, h2, h3, h4, h5, h6, h7, h8⟩ := h; obtain ⟨ys, hys⟩ : ∃ ys, (arr.toList.drop l.off).take (a ++ b).length = ys := ⟨_, rfl⟩
 have key : ∀ (a : List AV) (ys : List Value), VRs N (a ++ b) ys -> ∃ yb, VRs N b yb /\ ∀ c : List AV, VRs N c yb -> VRs N (a ++ c) ys := by
  intro a
  induction a with
  | nil => exact fun ys hy => ⟨ys, hy, fun c hc => hc⟩
  | cons x a ih =>
   intro ys hy; obtain ⟨y, r, q1, q2, rfl⟩ := hy; obtain ⟨yb, q3, q4⟩ := ih r q2
   exact ⟨yb, q3, fun c hc => ⟨y, r, q1, q4 c hc, rfl⟩⟩
 rw [hys] at h7; obtain ⟨yb, q3, q4⟩ := key a ys h7
 refine ⟨yb, q3, fun c hc hv => ⟨l, arr, fz, h1, h2, h3, h4, ?_, h6, ?_, h8⟩⟩
 ·rw [la', hc, <- la']; exact h5
 ·rw [la', hc, <- la', hys]; exact q4 c hv
theorem RD' {W0 : World} {F : HP} {H : LH} {vs : List AV} {ys : List Value} (hl : AD' 1100 H = true) (hs : St W0 F N H vs ys w) (i k : Nat) (S : List Nat) (hik : i ≠ k) (hiS : i ∉ S) (hkS : k ∉ S) {a b : List AV} {ok : AO}
  (hi : getO H i = some (.cells (a ++ b) e)) (hk : getO H k = some ok) (hkl : ∀ N1 D w, OR N1 k ok D w -> ∀ b, D b -> b < w.heap.size) (Q : List Value -> Mem -> Prop)
  (core : ∀ (N1 : Names) (D : Nat -> Nat -> Prop), (∀ n o, getO H n = some o -> OR N1 n o (D n) w) -> ∀ yb, VRs N1 b yb -> ∃ c : List Value, c.length = b.length /\ VRs N1 (vmap c) yb /\ Q c (GN' (fun x => D k x \/ ∃ j, j ∈ S /\ (∃ o, getO H j = some o) /\ D j x) w)) :
  ∃ c, (∃ C, Q c C) /\ ∀ (H' : LH) (Q' : Mem -> Prop), AD' 1100 H' = true -> getO H' i = some (.cells (a ++ vmap c) e) -> getO H' k = some (.any (frz Q')) -> (∀ C, Q c C -> Q' C) -> (∀ n o, n ≠ i -> n ≠ k -> getO H' n = some o -> n ∉ S /\ getO H n = some o) ->
   AV.cls (fun n => Nat.blt n 1000 || (getO H' n).isSome) vs -> (∀ x ∈ H', x.2.cl (fun n => Nat.blt n 1000 || (getO H' n).isSome)) -> St W0 F N H' vs ys w := by
 obtain ⟨N1, g1, g2, r, hvs⟩ := hs; obtain ⟨D0, D, h1, h2, h3⟩ := r.sat; have hf : ∀ n, (AQ' H).find n = getO H n := AK' (DA' hl)
 have h2' : ∀ n o, getO H n = some o -> OR N1 n o (D n) w /\ ∀ b, D n b -> ¬ D0 b := fun n o hn => h2 n o (by rw [hf]; exact hn)
 obtain ⟨yb, q1, q2⟩ := OD' (h2' i _ hi).1; obtain ⟨c, c1, c2, c3⟩ := core N1 D (fun n o hn => (h2' n o hn).1) yb q1
 refine ⟨c, ⟨_, c3⟩, fun H' Q' hl' hi' hk' hQ hn hv ho => GM' hl' g1 (Q6' hl hl' r h1 h2' (fun n m o o' hn hm => h3 n m o o' (by rw [hf]; exact hn) (by rw [hf]; exact hm)) k (fun n => n ∈ S) hkS hk (fun n o' hnk hno => ?_) fun o' hko => ?_) hvs hv ho⟩
 ·by_cases hni : n = i
  ·subst hni; rw [hi'] at hno; cases hno; exact ⟨hiS, _, hi, q2 _ (by rw [show (vmap c).length = c.length by simp [vmap]]; exact c1) c2⟩
  ·obtain ⟨a1, a2⟩ := hn n o' hni hnk hno; exact ⟨a1, o', a2, (h2' n o' a2).1⟩
 ·rw [hk'] at hko; cases hko
  refine ⟨hQ _ c3, fun b hb => ?_⟩
  rcases hb with hb | ⟨j, _, ⟨oj, hj⟩, hb⟩
  ·exact (h2' k _ hk).1.lt b hb
  ·exact (h2' j _ hj).1.lt b hb
theorem JH' {i : Nat} {cs : List Value} {D : Nat -> Prop} (h : OR N i (.cells (vmap cs) (2 * e)) D w) : ∃ l, N i = some l /\ l.off = 0 /\ ∀ j u, cs[j]? = some u -> GN' D w ⟨l.blk, j, none⟩ = some u := by
 obtain ⟨l, arr, fz, h1, h2, h3, h4, h5, h6, h7, h8⟩ := h; obtain ⟨z, _⟩ := h8 (Nat.mul_mod_right 2 e)
 refine ⟨l, h1, z, fun j u hj => ?_⟩
 rw [PJ' ((h2 _).2 rfl)]; have h7 := VRs.of_vmap h7
 have hlen : (vmap cs).length = cs.length := by simp [vmap]
 rw [z, List.drop_zero, hlen] at h7; unfold World.cell?; simp only [h3]; have hj' := (List.getElem?_eq_some_iff.1 hj).1
 have : (arr.toList.take cs.length)[j]? = some u := by rw [h7]; exact hj
 rw [List.getElem?_take_of_lt hj'] at this; simpa using this
theorem pieces {α : Type} {f : α -> List Value} {m : Nat} (hf : ∀ x, (f x).length = m) : ∀ (l : List α) (k j : Nat) (x : α), l[k]? = some x -> j < m -> (l.flatMap f)[k * m + j]? = (f x)[j]?
 | [], k, j, x, h, _ => by simp at h
 | y :: l, 0, j, x, h, hj => by
  simp only [List.getElem?_cons_zero, Option.some.injEq] at h; subst h; rw [List.flatMap_cons, Nat.zero_mul, Nat.zero_add, List.getElem?_append_left (by rw [hf]; exact hj)]
 | y :: l, k + 1, j, x, h, hj => by
  rw [List.getElem?_cons_succ] at h
  rw [List.flatMap_cons, List.getElem?_append_right (by rw [hf, Nat.succ_mul]; omega), hf, show (k + 1) * m + j - m = k * m + j from by rw [Nat.succ_mul]; omega]
  exact pieces hf l k j x h hj
end Go.Proofs.YtgahllbgipdchaaGreatDoor.Tree
namespace Go.Proofs.YtgahllbgipdchaaGreatDoor.Wk
open Go Go.RowKit Eng Kit Tree
open Int renaming ofNat -> o'
open Go.Value renaming int -> vi'
open AV renaming v -> v'
open Go.Value renaming slice -> sl'
noncomputable section
abbrev fOv : Nat := 73
def uN (n : Nat) : AV := .v (.int .u32 (o' n))
structure LN (W : World) : Prop where
 tab : ∀ k, k < 16 -> W.cell? ((Addr.mk 1 0 none).add (k * 1)) = some (.int .u32 (o' (nb k)))
def BAt (C : Mem) (oa : Option Addr) (l : Bs) : Prop := l.length <= big /\ ∀ i b, l[i]? = some b -> ∃ a, oa = some a /\ C (a.add (i * 1)) = some (.int .u8 (b.toNat : Int))
def aOv (oa : Option Addr) (n c j s : Nat) : List (Nat × AV) := [(0, uN s), (7, slV oa n c), (8, iv (o' n)), (9, iv (o' j))]
def hOv (j s : Nat) (x : UInt8) : BD' := AC' [ht' fOv 2 0, (fOv, 3, 1, hv (byv x)), (fOv, 4, 3, hv (uN (s ^^^ x.toNat))), (fOv, 5, 3, hv (uN ((s ^^^ x.toNat) &&& 15))), (fOv, 5, 5, hv (uN (nb ((s ^^^ x.toNat) &&& 15)))), (fOv, 5, 6, hv (uN (half (s ^^^ x.toNat)))), (fOv, 6, 3, hv (uN (half (s ^^^ x.toNat) &&& 15))), (fOv, 6, 5, hv (uN (nb (half (s ^^^ x.toNat) &&& 15)))), (fOv, 6, 6, hv (uN (HO' s x))), (fOv, 7, 0, hv (iv (o' (j + 1))))]
abbrev k1' : Cnd := t'
abbrev k2' (q0 : Nat) : Cnd := (f' (Wk (z' (IntKind.i64.wrap (o' q0 + o' 1))) (i' (q0 + 1))))
abbrev k3' (q0 q1 : Nat) : Cnd := (wb' (decide (o' q0 < o' q1)) j')
theorem ZT' (W : World) (a : Addr) (n c j s : Nat) (x : UInt8) (F : HP) : AS' [] (hOv j s x) [] W fOv (A4' fOv 2) (tms 0 33 (aOv (some a) n c j s)) [] [] [0, 7, 8, 9] F = VT.leaf (AX.normal,[v' (vi' IntKind.u32 (o' (HO' s x))),v' (sl' (some a) n c),i' n,i' (j + 1)],33) [] 1100 ((k3' j n).a ((f' (j.blt n = true)).a (((p' ((W.cell? (a.add (j * 1))).isSome = true)).a ((p' (v' ((W.cell? (a.add (j * 1))).getD (Value.tuple (Array.mk []))) = v' (vi' IntKind.u8 (v' ((W.cell? (a.add (j * 1))).getD (Value.tuple (Array.mk [])))).intOf))).a (f' (Wk (v' (vi' IntKind.u8 (v' ((W.cell? (a.add (j * 1))).getD (Value.tuple (Array.mk [])))).intOf)) (v' (vi' IntKind.u8 ↑x.toNat)))))).a ((f' (Wk (v' (vi' IntKind.u32 (IntKind.u32.wrap ↑(BitVec.ofInt 32 (o' s) ^^^ BitVec.ofInt 32 (IntKind.u32.wrap ↑x.toNat)).toNat))) (v' (vi' IntKind.u32 (o' (s ^^^ x.toNat)))))).a ((f' (Wk (v' (vi' IntKind.u32 (IntKind.u32.wrap ↑(BitVec.ofInt 32 (o' (s ^^^ x.toNat)) &&& BitVec.ofInt 32 (o' 15)).toNat))) (v' (vi' IntKind.u32 (o' ((s ^^^ x.toNat) &&& 15)))))).a ((f' (((s ^^^ x.toNat) &&& 15).blt 16 = true)).a (((p' ((W.cell? ((Addr.mk 1 0 none).add (((s ^^^ x.toNat) &&& 15) * 1))).isSome = true)).a ((p' (v' ((W.cell? ((Addr.mk 1 0 none).add (((s ^^^ x.toNat) &&& 15) * 1))).getD (Value.tuple (Array.mk []))) = v' (vi' IntKind.u32 (v' ((W.cell? ((Addr.mk 1 0 none).add (((s ^^^ x.toNat) &&& 15) * 1))).getD (Value.tuple (Array.mk [])))).intOf))).a (f' (Wk (v' (vi' IntKind.u32 (v' ((W.cell? ((Addr.mk 1 0 none).add (((s ^^^ x.toNat) &&& 15) * 1))).getD (Value.tuple (Array.mk [])))).intOf)) (v' (vi' IntKind.u32 (o' (nb ((s ^^^ x.toNat) &&& 15))))))))).a ((f' (Wk (v' (vi' IntKind.u32 (IntKind.u32.wrap ↑(BitVec.ofInt 32 ((o' (s ^^^ x.toNat)).fdiv (o' 16)) ^^^ BitVec.ofInt 32 (o' (nb ((s ^^^ x.toNat) &&& 15)))).toNat))) (v' (vi' IntKind.u32 (o' (half (s ^^^ x.toNat))))))).a ((f' (Wk (v' (vi' IntKind.u32 (IntKind.u32.wrap ↑(BitVec.ofInt 32 (o' (half (s ^^^ x.toNat))) &&& BitVec.ofInt 32 (o' 15)).toNat))) (v' (vi' IntKind.u32 (o' (half (s ^^^ x.toNat) &&& 15)))))).a ((f' ((half (s ^^^ x.toNat) &&& 15).blt 16 = true)).a (((p' ((W.cell? ((Addr.mk 1 0 none).add ((half (s ^^^ x.toNat) &&& 15) * 1))).isSome = true)).a ((p' (v' ((W.cell? ((Addr.mk 1 0 none).add ((half (s ^^^ x.toNat) &&& 15) * 1))).getD (Value.tuple (Array.mk []))) = v' (vi' IntKind.u32 (v' ((W.cell? ((Addr.mk 1 0 none).add ((half (s ^^^ x.toNat) &&& 15) * 1))).getD (Value.tuple (Array.mk [])))).intOf))).a (f' (Wk (v' (vi' IntKind.u32 (v' ((W.cell? ((Addr.mk 1 0 none).add ((half (s ^^^ x.toNat) &&& 15) * 1))).getD (Value.tuple (Array.mk [])))).intOf)) (v' (vi' IntKind.u32 (o' (nb (half (s ^^^ x.toNat) &&& 15))))))))).a ((f' (Wk (v' (vi' IntKind.u32 (IntKind.u32.wrap ↑(BitVec.ofInt 32 ((o' (half (s ^^^ x.toNat))).fdiv (o' 16)) ^^^ BitVec.ofInt 32 (o' (nb (half (s ^^^ x.toNat) &&& 15)))).toNat))) (v' (vi' IntKind.u32 (o' (HO' s x)))))).a ((k2' j).a k1'))))))))))))) := χ
theorem ZU' (W : World) (oa : Option Addr) (n c s : Nat) (F : HP) : AS' [] (AC' [hf' fOv 2 0]) [] W fOv (A4' fOv 2) (tms 0 33 (aOv oa n c n s)) [] [] [0, 7, 8, 9] F = VT.leaf (AX.exit 0,[v' (vi' IntKind.u32 (o' s)),v' (sl' oa n c),i' n,i' n],33) [] 1100 ((wb' (decide (o' n < o' n)) g').a k1') := χ
def lOv (oa : Option Addr) (n c s s' : Nat) : List AV -> AP (AX × List AV) := mkL (fun _ => .ret ()) (fun _ => True) (fun _ k => k) (fun _ => tms 0 33 (aOv oa n c 0 s)) (fun _ => []) (fun _ => .leaf (.exit 0) (tms 0 33 [(0, uN s')]) [])
abbrev k4' : Cnd := (p' True)
theorem oOv_eq (W : World) (oa : Option Addr) (n c s s' : Nat) (F : HP) : wRun [] AV' [(fOv, 2, A4' fOv 2, lOv oa n c s s')] W fOv [uN s, slV oa n c] [] [] F = VT.leaf (v' (vi' IntKind.u32 (o' s'))) [] 1100 ((p' ((fOv,2,A4' fOv 2,lOv oa n c s s').snd.snd.fst = (fOv,2,A4' fOv 2,lOv oa n c s s').snd.snd.fst)).a (k4'.a ((p' (VW (v' (vi' IntKind.u32 (o' s))::v' (sl' oa n c)::u'::u'::v' (vi' IntKind.u32 (o' 0))::u'::u'::v' (sl' oa n c)::z' ↑n::i' 0::ru16 (ru4 (u'::u'::u'::[]))) (v' (vi' IntKind.u32 (o' s))::ra4 (a'::a'::v' (sl' oa n c)::i' n::i' 0::ra16 (ra4 (a'::a'::a'::[])))))).a k1'))) := χ
end
end Go.Proofs.YtgahllbgipdchaaGreatDoor.Wk
namespace Go.Proofs.YtgahllbgipdchaaGreatDoor.Eng
open Go Go.RowKit
variable {H H' : LH}
theorem IO' : ∀ (H H' : LH) (i : Nat), getO (H ++ H') i = match getO H i with | some o => some o | none => getO H' i
 | [], H', i => rfl
 | x :: l, H', i => by
  rw [List.cons_append, getO, getO]
  by_cases e : i = x.1
  ·rw [if_pos e, if_pos e]
  ·rw [if_neg e, if_neg e]; exact IO' l H' i
theorem NZ' {b : Nat} (h : AD' b H = true) (h' : AD' b H' = true) : AD' b (H ++ H') = true := by
 simp only [AD', List.all_append, Bool.and_eq_true] at *; exact ⟨h, h'⟩
theorem TM' {W0 w w' : World} {F : HP} {N N1 : Names} (hl : AD' 1100 H = true) (hl' : AD' 1100 H' = true) (hd : ∀ i o, getO H' i = some o -> 1000 <= i /\ getO H i = none)
  (hNB : NB N H) (r : Rep W0 N F (AQ' H) w) (g0 : ∀ i, i < 1000 -> N1 i = none) (g1 : NB N1 H') (r1 : Rep w N1 (HP.old w) (AQ' H') w') :
  ∃ N2 : Names, (∀ i, i < 1000 -> N2 i = N i) /\ NB N2 (H ++ H') /\ Rep W0 N2 F (AQ' (H ++ H')) w' /\ N.le N2 /\ N1.le N2 := by
 have hf : ∀ i, (AQ' H).find i = getO H i := AK' (DA' hl); have hf' : ∀ i, (AQ' H').find i = getO H' i := AK' (DA' hl'); have hf2 : ∀ i, (AQ' (H ++ H')).find i = getO (H ++ H') i := AK' (DA' (NZ' hl hl')); have hb := r1.old_below; have rb := r.below hb
 have hN : N.le (fun i => if (getO H' i).isSome then N1 i else N i) := fun i l hi => by
  cases h : getO H' i with
  | none => simpa [h] using hi
  | some o =>
   have := hNB i (hd i o h).1 (hd i o h).2; rw [this] at hi; cases hi
 have hN1 : N1.le (fun i => if (getO H' i).isSome then N1 i else N i) := fun i l hi => by
  cases h : getO H' i with
  | some o => simpa [h] using hi
  | none =>
   rcases Nat.lt_or_ge i 1000 with h2 | h2
   ·rw [g0 i h2] at hi; cases hi
   ·rw [g1 i h2 h] at hi; cases hi
 refine ⟨_, fun i hi => ?_, fun i hi hn => ?_, ?_, hN, hN1⟩
 ·have h : getO H' i = none := by
   cases h : getO H' i with
   | none => rfl
   | some o => have := (hd i o h).1; omega
  simp [h]
 ·rw [IO'] at hn
  cases h : getO H i with
  | some o => rw [h] at hn; cases hn
  | none =>
   rw [h] at hn; simp only at hn; simpa [hn] using hNB i hi h
 ·obtain ⟨D0, D, h1, h2, h3⟩ := r.sat; obtain ⟨B0, B, k1, k2, k3⟩ := r1.sat; have hB0 : ∀ b, B0 b ↔ b < w.heap.size := k1.1
  have lt : ∀ i o, getO H i = some o -> ∀ b, D i b -> b < w.heap.size := fun i o hi b hb => ((h2 i o ((hf i).trans hi)).1.lt b hb)
  have ge : ∀ i o, getO H' i = some o -> ∀ b, B i b -> w.heap.size <= b := fun i o hi b hb' => by
   have := (k2 i o ((hf' i).trans hi)).2 b hb'; rw [hB0] at this; omega
  refine ⟨hb.os.trans r.os, hb.tape.trans r.tape, hb.output.trans r.output, D0, fun i b => if (getO H' i).isSome then B i b else D i b, F.far (fun b hb' => hb.block b (F.lt h1 b hb')) h1, fun i o hi => ?_, fun i j o o' hi hj hij b hbi hbj => ?_⟩
  ·rw [hf2, IO'] at hi
   cases h : getO H' i with
   | some o1 =>
    rw [(hd i o1 h).2] at hi; simp only [h, Option.some.injEq] at hi; subst hi; show OR _ i o1 (fun b => if (getO H' i).isSome then B i b else D i b) w' /\ ∀ b, (if (getO H' i).isSome then B i b else D i b) -> ¬ D0 b; simp only [h, Option.isSome_some, if_true]
    refine ⟨((k2 i o1 ((hf' i).trans h)).1).mono hN1, fun b hb' h0 => ?_⟩
    have := ge i o1 h b hb'; have := F.lt h1 b h0; omega
   | none =>
    show OR _ i o (fun b => if (getO H' i).isSome then B i b else D i b) w' /\ ∀ b, (if (getO H' i).isSome then B i b else D i b) -> ¬ D0 b; simp only [h, Option.isSome_none, Bool.false_eq_true, if_false]
    cases hh : getO H i with
    | none => rw [hh] at hi; simp only [h] at hi; cases hi
    | some o1 =>
     rw [hh] at hi; cases hi; have hq := h2 i o ((hf i).trans hh); exact ⟨(hq.1.far (fun b hb' => hb.block b (hq.1.lt b hb'))).mono hN, hq.2⟩
  ·rw [hf2, IO'] at hi hj
   have side : ∀ i o b, (match getO H i with | some o => some o | none => getO H' i) = some o -> (if (getO H' i).isSome then B i b else D i b) -> (∃ o1, getO H' i = some o1 /\ B i b) \/ (getO H' i = none /\ getO H i = some o /\ D i b) := by
    intro i o b hi hb'
    cases h : getO H' i with
    | some o1 => rw [h] at hb'; exact .inl ⟨o1, rfl, by simpa using hb'⟩
    | none =>
     rw [h] at hb'
     cases hh : getO H i with
     | none => rw [hh] at hi; simp only [h] at hi; cases hi
     | some o2 => rw [hh] at hi; cases hi; exact .inr ⟨rfl, rfl, by simpa using hb'⟩
   rcases side i o b hi hbi with ⟨o1, q1, q2⟩ | ⟨q0, q1, q2⟩
   ·rcases side j o' b hj hbj with ⟨o2, p1, p2⟩ | ⟨p0, p1, p2⟩
    ·exact k3 i j o1 o2 ((hf' i).trans q1) ((hf' j).trans p1) hij b q2 p2
    ·have := ge i o1 q1 b q2; have := lt j o' p1 b p2; omega
   ·rcases side j o' b hj hbj with ⟨o2, p1, p2⟩ | ⟨p0, p1, p2⟩
    ·have := ge j o2 p1 b p2; have := lt i o q1 b q2; omega
    ·exact h3 i j o o' ((hf i).trans q1) ((hf j).trans p1) hij b q2 p2
theorem HM' {P : Program} {W : World} {f : FuncId} {A : List AV} {v : AV} (hl : AD' 1100 H = true) (hl' : AD' 1100 H' = true) (hd : ∀ i o, getO H' i = some o -> 1000 <= i /\ getO H i = none)
  (h : ∀ (W0 : World) (F : HP) (N : Names) (w : World) (vargs : Array Value), AF' W F -> NB N H -> Rep W0 N F (AQ' H) w -> VRs N A vargs.toList -> ∃ A1, vargs.toList = A1 /\ Tri P w f (vmap A1) [] v H') : Tri P W f A H v (H ++ H') := by
 intro W0 F N w vargs hF hNB r ha; obtain ⟨A1, hA, ht⟩ := h W0 F N w vargs hF hNB r ha; have hold : AF' w (HP.old w) := AF'.self w; refine (ht w (HP.old w) (fun _ => none) w vargs hold (fun _ _ _ => rfl) (KW' w) (by rw [hA]; exact VRs.vmap _)).mono ?_; rintro e w' ⟨y, rfl, N1, g0, g1, r1, hv⟩; obtain ⟨N2, q0, q1, q2, q3, q4⟩ := TM' hl hl' hd hNB r g0 g1 r1; exact ⟨y, rfl, N2, q0, q1, q2, VRs.mono q4 hv⟩
end Go.Proofs.YtgahllbgipdchaaGreatDoor.Eng
namespace Go.Proofs.YtgahllbgipdchaaGreatDoor.Wk
open Go Go.RowKit Eng Kit Tree
open Int renaming ofNat -> o'
open Go.Value renaming int -> vi'
open AO renaming cells -> ce'
open AV renaming v -> v'
open AV renaming ptr -> pt'
open Go.IntKind renaming u8 -> u8'
open Cnd renaming holds -> ch'
open Nat renaming blt_eq -> bl'
open List renaming length_append -> la'
open List renaming length_drop -> ld'
open Go.Value renaming slice -> sl'
variable {W : World} {n s c : Nat} {a b : Int} {pre : List Value} {f : FuncId} {v : AV} {H' : LH}
theorem BU' {α : Type} {l : List α} {i : Nat} (h : i < l.length) : ∃ x, l[i]? = some x := ⟨_, List.getElem?_eq_getElem h⟩
theorem BAt.mono {C C' : Mem} (h : ∀ a v, C a = some v -> C' a = some v) {oa : Option Addr} {l : Bs} (hl : BAt C oa l) : BAt C' oa l := ⟨hl.1, fun i b hb => by
 obtain ⟨a, h1, h2⟩ := hl.2 i b hb
 exact ⟨a, h1, h _ _ h2⟩⟩
theorem LN.mono {W' : World} (h : ∀ a v, W.cell? a = some v -> W'.cell? a = some v) (hN : LN W) : LN W' := ⟨fun k hk => h _ _ (hN.tab k hk)⟩
theorem C6' {α : Type} {l : List α} {j : Nat} {x : α} (h : l[j]? = some x) : l.take (j + 1) = l.take j ++ [x] := by rw [List.take_add_one, h]; rfl
theorem E8' (h : a = b) : Wk (.v (.int .u32 a)) (.v (.int .u32 b)) := by subst h; exact Ya
theorem u32_in (h : n < 4294967296) : IntKind.u32.wrap (n : Int) = (n : Int) := IntWalk.u32_in _ ω
theorem PU' (h : n < 4294967296) : (BitVec.ofInt 32 (o' n)).toNat = n := by
 rw [show (o' n : Int) = ((n : Nat) : Int) from rfl, BitVec.ofInt_natCast, BitVec.toNat_ofNat, Nat.mod_eq_of_lt h]
theorem x_eq {a b : Nat} (ha : a < 4294967296) (hb : b < 4294967296) : IntKind.u32.wrap ((BitVec.ofInt 32 (o' a) ^^^ BitVec.ofInt 32 (o' b)).toNat : Int) = o' (a ^^^ b) := by
 rw [BitVec.toNat_xor, PU' ha, PU' hb, u32_in (Nat.xor_lt_two_pow (n := 32) ha hb)]; rfl
theorem c_eq {x : UInt8} (hs : s < 4294967296) : IntKind.u32.wrap ((BitVec.ofInt 32 (o' s) ^^^ BitVec.ofInt 32 (IntKind.u32.wrap (x.toNat : Int))).toNat : Int) = o' (s ^^^ x.toNat) := by
 have hx : x.toNat < 4294967296 := by have := x.toNat_lt; omega
 rw [u32_in hx]; exact x_eq hs hx
theorem a_eq (hs : s < 4294967296) : IntKind.u32.wrap ((BitVec.ofInt 32 (o' s) &&& BitVec.ofInt 32 (o' 15)).toNat : Int) = o' (s &&& 15) := by
 rw [BitVec.toNat_and, PU' hs, PU' δ, u32_in (Nat.lt_of_le_of_lt Nat.and_le_right δ)]; rfl
theorem h_eq (hs : s < 4294967296) : IntKind.u32.wrap ((BitVec.ofInt 32 ((o' s).fdiv (o' 16)) ^^^ BitVec.ofInt 32 (o' (nb (s &&& 15)))).toNat : Int) = o' (half s) := by
 have e : (o' s).fdiv (o' 16) = o' (s >>> 4) := by
  rw [Nat.shiftRight_eq_div_pow, Int.fdiv_eq_ediv_of_nonneg _ δ]; rfl
 rw [e, x_eq (by rw [Nat.shiftRight_eq_div_pow]; omega) (V8' _)]; rfl
theorem st_eq {x : UInt8} (hs : half (s ^^^ x.toNat) < 4294967296) : IntKind.u32.wrap ((BitVec.ofInt 32 ((o' (half (s ^^^ x.toNat))).fdiv (o' 16)) ^^^ BitVec.ofInt 32 (o' (nb (half (s ^^^ x.toNat) &&& 15)))).toNat : Int) = o' (HO' s x) := h_eq hs
theorem PE' (s : Nat) (l : Bs) (x : UInt8) : ovr s (l ++ [x]) = HO' (ovr s l) x := by rw [ovr, List.foldl_append]; rfl
theorem RP' (W : World) (hN : LN W) (s : Nat) (hs : s < 4294967296) (oa : Option Addr) (c : Nat) (l : Bs) (h : BAt W.cell? oa l) : Tri Θ W fOv [uN s, slV oa l.length c] [] (uN (ovr s l)) [] := by
 have hlen : l.length <= 140737488351232 := h.1
 have hloop : LTri Θ W (A4' fOv 2) (tms 0 33 (aOv oa l.length c 0 s)) [] (.exit 0) (tms 0 33 [(0, uN (ovr s l))]) [] := by
  refine AT' (W := W) (g := fOv) (b := A4' fOv 2) (σ := {j : Nat // j <= l.length}) 33 (fun j => aOv oa l.length c j.1 (ovr s (l.take j.1))) (fun j => []) (.exit 0) [(0, uN (ovr s l))] [] (fun j => l.length - j.1) [] [0, 7, 8, 9] (by intro h; cases h) (fun _ => rfl) rfl ?_ ⟨0, Nat.zero_le _⟩; rintro ⟨j, hj⟩; simp only
  by_cases h1 : j < l.length
  ·obtain ⟨x, hx⟩ := BU' h1; obtain ⟨a, rfl, q1⟩ := h.2 j x hx; have hw := BR' j ω; have e1 : decide (o' j < o' l.length) = true := ltTN h1; have hsj := D3' (l.take j) hs
   have enx : ovr s (l.take (j + 1)) = HO' (ovr s (l.take j)) x := by rw [C6' hx, PE']
   obtain ⟨t, ht⟩ : ∃ t, ovr s (l.take j) = t := ⟨_, rfl⟩; rw [ht] at hsj enx ⊢
   have hx8 : x.toNat < 4294967296 := by have := x.toNat_lt; omega
   have hu : t ^^^ x.toNat < 4294967296 := Nat.xor_lt_two_pow (n := 32) hsj hx8; have hh := O5' hu; have k1 : (t ^^^ x.toNat) &&& 15 < 16 := Nat.lt_of_le_of_lt Nat.and_le_right δ; have k2 : half (t ^^^ x.toNat) &&& 15 < 16 := Nat.lt_of_le_of_lt Nat.and_le_right δ; have t1 := hN.tab _ k1; have t2 := hN.tab _ k2
   refine ⟨[], hOv j t x, [], fun F hF => noC, fun _ _ => noL, fun F => ?_⟩
   refine Yj (ZT' W a l.length c j t x F) ⟨⟨?_, rfl, .inl ⟨rfl, ⟨j + 1, h1⟩, BL' h1, [], by kernel_rfl, by kernel_rfl, ⟨by rw [enx]; exact Ya, Ya, Ya, Ya, Ye⟩, Ye⟩⟩⟩
   simp only [ch', e1, h1, q1, t1, t2, k1, k2, Option.getD_some, Option.isSome_some, bl', true_and, and_true]; and_intros; all_goals first | (with_reducible exact GW' hw) | (with_reducible exact A3' e1) | (with_reducible exact E8' (c_eq hsj)) | (with_reducible exact E8' (a_eq hu)) | (with_reducible exact E8' (a_eq hh)) | (with_reducible exact E8' (h_eq hu)) | (with_reducible exact E8' (st_eq hh)) | exact Kw36'
  ·have hje : j = l.length := ω
   subst hje; rw [List.take_length]
   refine ⟨[], AC' [hf' fOv 2 0], [], fun _ _ => noC, fun _ _ => noL, fun F => ?_⟩
   refine Yj (ZU' W oa l.length c (ovr s l) F) ⟨⟨?_, rfl, .inr ⟨rfl, [], by kernel_rfl, by kernel_rfl, ⟨Ya, Ye⟩, Ye⟩⟩⟩
   simp only [ch', and_true]; exact A3' (ltFN (Yd))
 have hl : ∀ F, AF' W F -> L1OK Θ F (A4' fOv 2) (lOv oa l.length c s (ovr s l)) := fun F hF =>
  B7' hF (fun _ => RO.ret _) (fun _ _ => hloop) fun _ => by
   simp only [RT.pick]; exact AY' rfl rfl (A0' Ye (A0' Ye (A0' Ye (A0' Ye A2')))) A2' (A0' Ye A2') A2'
 refine AJ' (con := []) (hints := AV') (lc := [(fOv, 2, A4' fOv 2, lOv oa l.length c s (ovr s l))]) [] rfl (fun F _ => noC) (fun F hF => CK' (hl F hF)) fun F => ?_
 refine Yj (oOv_eq W oa l.length c s (ovr s l) F) ⟨⟨?_, (AR' (vs' := [uN (ovr s l)]) (H' := []) [] rfl rfl (Yb) trivial).fits rfl⟩⟩
 simp only [ch', bl', true_and, and_true]; and_intros; all_goals first | (with_reducible exact Ye) | (with_reducible exact rfl) | (with_reducible exact Yb) | exact rfl | exact Yb | ((repeat (first | exact VW.nil | refine VW.cons Ya ?_ | refine VW.cons (Wk.any _) ?_)); done)
theorem TF' {N : Names} {xs : List AV} {ys : List Value} (h : VRs N (vmap pre ++ xs) ys) : ∃ zs, ys = pre ++ zs /\ VRs N xs zs := by
 induction pre generalizing ys with
 | nil => exact ⟨ys, rfl, h⟩
 | cons p pre ih =>
  obtain ⟨y, r, q1, q2, rfl⟩ := h; obtain ⟨zs, rfl, h2⟩ := ih q2; have : y = p := VR_v.1 q1; subst this; exact ⟨zs, rfl, h2⟩
theorem rB_raw {N : Names} {k : Nat} {D : Nat -> Prop} {w : World} {l : Bs} {y : Value} (hb : l.length <= big) (hp : 0 < l.length) (ho : OR N k (rB l) D w) (h : VR N (sB k l.length) y) : ∃ a c, y = .slice (some a) l.length c /\ BAt w.cell? (some a) l /\ l.length <= c := by
 have h0c := h; obtain ⟨lo, x, c, h1, rfl, h3⟩ := IW' h
 have hcap : l.length <= c := by
  simp only [sB, VR] at h0c; obtain ⟨l', x', c', _, e2, _, _, _, e6⟩ := h0c; simp only [Value.slice.injEq] at e2; rw [e2.2.2]; exact e6
 rw [show rB l = .cells (vmap (l.map fun b => .int .u8 b.toNat)) (2 * 5) by rw [rB, DX']] at ho
 obtain ⟨lo', h1', h0, h2⟩ := JH' ho; rw [h1] at h1'; cases h1'
 refine ⟨_, _, rfl, ⟨hb, fun i b hi => ⟨_, rfl, ?_⟩⟩, hcap⟩
 rw [h3 hp, h0, Nat.mul_one]; have hq := h2 i (.int .u8 b.toNat) (by rw [List.getElem?_map, hi]; rfl)
 have e : ((Addr.mk lo.blk 0 none).add i) = Addr.mk lo.blk i none := by
  unfold Addr.add; split
  ·rename_i hi; subst hi; rfl
  ·show Addr.mk lo.blk (0 + i) none = _; rw [Nat.zero_add]
 rw [e]; exact (EW' hq).2
theorem NT' (K : World -> Prop) (hm : ∀ W W' : World, (∀ a v, W.cell? a = some v -> W'.cell? a = some v) -> K W -> K W') (W : World) (hN : K W) {l : Bs} (hb : l.length <= big) (hp : 0 < l.length) (hl : AD' 1100 H' = true) (hd : ∀ i o, getO H' i = some o -> 1000 <= i /\ getO [(0, rB l)] i = none)
  (h : ∀ W', K W' -> ∀ oa c, BAt W'.cell? oa l -> l.length <= c -> Tri Θ W' f (vmap pre ++ [slV oa l.length c]) [] v H') : Tri Θ W f (vmap pre ++ [sB 0 l.length]) [(0, rB l)] v ([(0, rB l)] ++ H') := by
 refine HM' (H := [(0, rB l)]) (H' := H') rfl hl hd fun W0 F N w vargs hF hNB r ha => ?_
 obtain ⟨zs, e, hz⟩ := TF' ha; obtain ⟨y, r1, q1, q2, rfl⟩ := hz; have q2 : r1 = [] := q2; subst q2
 have hfo : (AQ' [(0, rB l)]).find 0 = some (rB l) := by rw [AK' χ]; rfl
 obtain ⟨D, hO⟩ := r.obj hfo; obtain ⟨a, c, rfl, hB, hC⟩ := rB_raw hb hp hO q1; have r0 := r; obtain ⟨_, _, _, D0, _, hD0, _, _⟩ := r0; have hold : ∀ a v, W.cell? a = some v -> w.cell? a = some v := CY' (hF D0 w hD0); have := h w (hm W w hold hN) (some a) c hB hC; refine ⟨pre ++ [.slice (some a) l.length c], e, ?_⟩
 have e2 : vmap (pre ++ [.slice (some a) l.length c]) = vmap pre ++ [slV (some a) l.length c] := by simp [vmap, slV]
 rw [e2]; exact this
theorem K9' (W : World) (hN : LN W) {l : Bs} (hb : l.length <= big) (hp : 0 < l.length) (hl : AD' 1100 H' = true) (hd : ∀ i o, getO H' i = some o -> 1000 <= i /\ getO [(0, rB l)] i = none)
  (h : ∀ W', LN W' -> ∀ oa c, BAt W'.cell? oa l -> l.length <= c -> Tri Θ W' f (vmap pre ++ [slV oa l.length c]) [] v H') : Tri Θ W f (vmap pre ++ [sB 0 l.length]) [(0, rB l)] v ([(0, rB l)] ++ H') :=
 NT' LN (fun _ _ h k => k.mono h) W hN hb hp hl hd h
noncomputable section
abbrev fNw : Nat := 78
abbrev fNu : Nat := 101
abbrev fLo : Nat := 79
abbrev fRw : Nat := 81
abbrev fBy : Nat := 80
abbrev fCl : Nat := 30
abbrev tWr : TypeId := 2 * 155
abbrev nilS : AV := .v (.slice none 0 0)
abbrev k5' : Cnd := (f' (Wk (b' true) j'))
theorem b5' (W : World) (n c : Nat) (F : HP) : wRun [] (AC' [ht' fCl 1 1]) [] W fCl [slV none n c] [] [1100, 1101, 1102] F = VT.leaf (e') [none,none,none] 1100 (k5'.a k1') := χ
abbrev k6' : Cnd := (fe' 0)
abbrev k7' : Cnd := (f' (Wk (b' false) g'))
theorem b7' (W : World) (a : Addr) (c : Nat) (F : HP) : wRun [] (AC' [hf' fCl 1 1, (fCl, 3, 2, h0)]) [] W fCl [slV (some a) 0 c] [] [1100, 1101, 1102] F = VT.leaf (AV.slice 1100 0 0 1 (Cp.ex 0)) [some (ce' (rep [v' (vi' u8' (o' 0))] 0) 10),none,none] 1101 (k7'.a (k6'.a k1')) := χ
abbrev k8' (q0 : Nat) (q1 : World) (q2 : Addr) : Cnd := ((p' (q0.ble q0 = true)).a ((p' (((List.range (q0 * 1)).all fun j => (q1.cell? (q2.add j)).isSome) = true)).a ((p' ((vmap (B4' q1 q2 (q0 * 1))).all AV.one = true)).a ((p' (Nat.blt 0 q0 = true)).a (tt'.a ((p' (((0 + q0) * 1).ble 140737488355328 = true)).a ((p' ((0 + q0).ble 9223372036854775807 = true)).a (tt'.a (f' (Nat.blt 0 (0 + q0) = true))))))))))
theorem b6' (W : World) (a : Addr) (n c : Nat) (F : HP) : wRun [] (AC' [hf' fCl 1 1]) [] W fCl [slV (some a) n c] [] [1100, 1101, 1102, 1103] F = VT.leaf (AV.slice 1101 0 (0 + n) 1 (Cp.lo (0 + n))) [some (ce' (rep [v' (vi' u8' (o' 0))] 0) 10),some (ce' ([] ++ vmap (B4' W a (n * 1))) 10),none,none] 1102 (k7'.a ((k8' n W a).a k1')) := χ
def wZ : AO := .cells [nilS, iv 0] tWr
def wC (p : Nat) : AO := .cells [sB 1001 p, iv 0] tWr
def wH (p : Nat) (l : Bs) : LH := [(0, wC p), (1001, rB l)]
theorem oNw_eq (F : HP) : wRun [] AV' [] default fNw [] [] [1100, 1101] F = VT.leaf (pt' 1100 0) [some (ce' [e',i' 0] 310),none] 1101 k1' := χ
def aNu (n : Nat) (i : Int) : List (Nat × AV) := [(0, .ptr 0 0), (2, iv (o' n)), (6, iv i)]
def kNu : List Nat := [0, 1001, 1100, 1101, 1102, 1103]
abbrev k9' : Cnd := (f' (Wk (i' 2) (i' 2)))
abbrev k10' : Cnd := (fe' true)
abbrev k11' : Cnd := (tt'.a (tt'.a (tt'.a (tt'.a (ee' true)))))
abbrev k12' (q0 : Nat) (q1 : UInt8) : Cnd := (f' (Wk (v' (vi' u8' (IntKind.u8.wrap ((o' q0).fdiv (o' 16777216))))) (v' (vi' u8' ↑q1.toNat))))
abbrev h13' (z : Cnd) : Cnd := ((f' (Wk (b' true) j')).a ((fe' true).a z))
theorem ZX' (n : Nat) (b : UInt8) (F : HP) : AS' [] (AC' [ht' fNu 2 1, (fNu, 4, 9, hv (byv b)), (fNu, 3, 1, hv (iv 2))]) [] default fNu (A4' fNu 2) (tms 0 30 (aNu n 3)) [(0, wZ)] kNu [0, 2, 6] F = VT.leaf (AX.normal,[pt' 0 0,i' n,i' 2],30) [some (ce' [AV.slice 1101 0 1 1 (Cp.lo 1),i' 0] 310),none,some (ce' [v' (vi' u8' ↑b.toNat)] 10),some (ce' [v' (vi' u8' ↑b.toNat)] 10),none,none] 1102 (h13' ((k12' n b).a (k11'.a (k10'.a (k9'.a k1'))))) := χ
abbrev h14' (q0 : Nat) (q1 : Bs) (z : Cnd) : Cnd := ((tt'.a (tt'.a (tt'.a (tt'.a ((p' ((0 + q0 * 1).ble (rowV encB q1).length = true)).a ((p' (((q0 + 1) * 1).ble 140737488355328 = true)).a ((p' ((q0 + 1).ble 9223372036854775807 = true)).a (f' ((List.take (q0 * 1) (List.drop 0 (rowV encB q1))).length.beq (q0 * 1) = true))))))))).a ((fe' true).a z))
theorem ZZ' (n p : Nat) (l : Bs) (b : UInt8) (F : HP) : AS' [] (AC' [ht' fNu 2 1, (fNu, 4, 9, hv (byv b)), (fNu, 3, 1, hv (iv 2))]) [] default fNu (A4' fNu 2) (tms 0 30 (aNu n 3)) (wH p l) kNu [0, 2, 6] F = VT.leaf (AX.normal,[pt' 0 0,i' n,i' 2],30) [some (ce' [AV.slice 1101 0 (p + 1) 1 (Cp.lo (p + 1)),i' 0] 310),none,some (ce' [v' (vi' u8' ↑b.toNat)] 10),some (ce' (List.take (p * 1) (List.drop 0 (rowV encB l)) ++ [v' (vi' u8' ↑b.toNat)]) 10),none,none] 1102 (h13' ((k12' n b).a (h14' p l (k9'.a k1')))) := χ
abbrev k15' : Cnd := (f' (Wk (i' 1) (i' 1)))
theorem a0' (n p : Nat) (l : Bs) (b : UInt8) (F : HP) : AS' [] (AC' [ht' fNu 2 1, (fNu, 4, 9, hv (byv b)), (fNu, 3, 1, hv (iv 1))]) [] default fNu (A4' fNu 2) (tms 0 30 (aNu n 2)) (wH p l) kNu [0, 2, 6] F = VT.leaf (AX.normal,[pt' 0 0,i' n,i' 1],30) [some (ce' [AV.slice 1101 0 (p + 1) 1 (Cp.lo (p + 1)),i' 0] 310),none,some (ce' [v' (vi' u8' ↑b.toNat)] 10),some (ce' (List.take (p * 1) (List.drop 0 (rowV encB l)) ++ [v' (vi' u8' ↑b.toNat)]) 10),none,none] 1102 (h13' ((f' (Wk (v' (vi' u8' (IntKind.u8.wrap ((o' n).fdiv (o' 65536))))) (v' (vi' u8' ↑b.toNat)))).a (h14' p l (k15'.a k1')))) := χ
theorem a1' (n p : Nat) (l : Bs) (b : UInt8) (F : HP) : AS' [] (AC' [ht' fNu 2 1, (fNu, 4, 9, hv (byv b)), (fNu, 3, 1, hv (iv 0))]) [] default fNu (A4' fNu 2) (tms 0 30 (aNu n 1)) (wH p l) kNu [0, 2, 6] F = VT.leaf (AX.normal,[pt' 0 0,i' n,i' 0],30) [some (ce' [AV.slice 1101 0 (p + 1) 1 (Cp.lo (p + 1)),i' 0] 310),none,some (ce' [v' (vi' u8' ↑b.toNat)] 10),some (ce' (List.take (p * 1) (List.drop 0 (rowV encB l)) ++ [v' (vi' u8' ↑b.toNat)]) 10),none,none] 1102 (h13' ((f' (Wk (v' (vi' u8' (IntKind.u8.wrap ((o' n).fdiv (o' 256))))) (v' (vi' u8' ↑b.toNat)))).a (h14' p l ((f' (Wk (i' 0) (i' 0))).a k1')))) := χ
theorem a2' (n p : Nat) (l : Bs) (b : UInt8) (F : HP) : AS' [] (AC' [ht' fNu 2 1, (fNu, 4, 9, hv (byv b)), (fNu, 3, 1, hv (iv (-1)))]) [] default fNu (A4' fNu 2) (tms 0 30 (aNu n 0)) (wH p l) kNu [0, 2, 6] F = VT.leaf (AX.normal,[pt' 0 0,i' n,z' (Int.negSucc 0)],30) [some (ce' [AV.slice 1101 0 (p + 1) 1 (Cp.lo (p + 1)),i' 0] 310),none,some (ce' [v' (vi' u8' ↑b.toNat)] 10),some (ce' (List.take (p * 1) (List.drop 0 (rowV encB l)) ++ [v' (vi' u8' ↑b.toNat)]) 10),none,none] 1102 (h13' ((f' (Wk (v' (vi' u8' (IntKind.u8.wrap ((o' n).fdiv (o' 1))))) (v' (vi' u8' ↑b.toNat)))).a (h14' p l ((f' (Wk (z' (Int.negSucc 0)) (z' (Int.negSucc 0)))).a k1')))) := χ
theorem ZY' (n p : Nat) (l : Bs) (F : HP) : AS' [] (AC' [hf' fNu 2 1]) [] default fNu (A4' fNu 2) (tms 0 30 (aNu n (-1))) (wH p l) kNu [0, 2, 6] F = VT.leaf (AX.exit 0,[pt' 0 0,i' n,z' (Int.negSucc 0)],30) [some (ce' [AV.slice 1001 0 p 1 (Cp.lo p),i' 0] 310),some (ce' (rowV encB l) 10),none,none,none,none] 1100 (k7'.a k1') := χ
def lNu (H : LH) (n : Nat) (H' : LH) : List AV -> AP (AX × List AV) := mkL (fun _ => .ret ()) (fun _ => True) (fun _ k => k) (fun _ => tms 0 30 (aNu n 3)) (fun _ => H) (fun _ => .leaf (.exit 0) (tms 0 30 []) H')
theorem aA' (n : Nat) (q : Nat) (l : Bs) (F : HP) : wRun [] (AC' [(fNu, 1, 1, hv (iv 3))]) [(fNu, 2, A4' fNu 2, lNu [(0, wZ)] n (wH q l))] default fLo [.ptr 0 0, iv (o' n)] [(0, wZ)] kNu F = VT.leaf (AV.tuple []) [some (ce' [AV.slice 1100 0 q 1 (Cp.lo q),i' 0] 310),none,some (ce' (AV.rens (sgN (fun k => k) [1001] 1100) (rowV encB l)) 10),none,none,none] 1101 (((fe' true).a ((f' (Wk (i' 3) (i' 3))).a ((p' ((fNu,2,A4' fNu 2,lNu [(0,wZ)] n (wH q l)).snd.snd.fst = (fNu,2,A4' fNu 2,lNu [(0,wZ)] n (wH q l)).snd.snd.fst)).a ((Cnd.p True).a ((p' (VW (pt' 0 0::i' 4::i' n::u'::u'::u'::i' 3::pt' 0 0::pt' 0 0::pt' 0 1::i' 4::i' 3::ru16 (u'::u'::[])) (pt' 0 0::a'::i' n::a'::a'::a'::i' 3::ra16 (ra4 (a'::a'::a'::[]))))).a (f' (OW (ce' [e',i' 0] 310) (ce' [e',i' 0] 310)))))))).a k1') := χ
theorem a9' (n p q : Nat) (k l : Bs) (F : HP) : wRun [] (AC' [(fNu, 1, 1, hv (iv 3))]) [(fNu, 2, A4' fNu 2, lNu (wH p k) n (wH q l))] default fLo [.ptr 0 0, iv (o' n)] (wH p k) kNu F = VT.leaf (AV.tuple []) [some (ce' [AV.slice 1100 0 q 1 (Cp.lo q),i' 0] 310),none,some (ce' (AV.rens (sgN (fun k => k) [1001] 1100) (rowV encB l)) 10),none,none,none] 1101 (((fe' true).a ((f' (Wk (i' 3) (i' 3))).a ((p' ((fNu,2,A4' fNu 2,lNu (wH p k) n (wH q l)).snd.snd.fst = (fNu,2,A4' fNu 2,lNu (wH p k) n (wH q l)).snd.snd.fst)).a ((Cnd.p True).a ((p' (VW (pt' 0 0::i' 4::i' n::u'::u'::u'::i' 3::pt' 0 0::pt' 0 0::pt' 0 1::i' 4::i' 3::ru16 (u'::u'::[])) (pt' 0 0::a'::i' n::a'::a'::a'::i' 3::ra16 (ra4 (a'::a'::a'::[]))))).a ((ow' (ce' [AV.slice 1001 0 p 1 (Cp.lo p),i' 0] 310)).a (f' (OW (ce' (rowV encB k) 10) (ce' (AV.rens (fun k => k) (rowV encB k)) 10))))))))).a k1') := χ
def cClB (p : Nat) (l : Bs) : List AV -> Option (AP AV) := mkC (fun args => match args with | [.slice i _ _ _ _] => .ret i | _ => .fail "clone") (fun _ => True) (fun i k => match k with | 0 => i | k => k) (fun _ => [sB 0 p]) (fun _ => [(0, rB l)]) (fun _ => .leaf .ret [sB 1000 p] [(0, rB l), (1000, rB l)])
abbrev k16' (q0 q1 : Nat) (q2 : Bs) : Cnd := ((p' True).a ((vw' [AV.slice q0 0 q1 1 (Cp.lo q1)]).a (f' (OW (ce' (rowV encB q2) 10) (ce' (AV.rens (fun k => match k with | 0 => q0 | k => k) (rowV encB q2)) 10)))))
theorem oBy_eq (p : Nat) (l : Bs) (F : HP) : wRun [(fCl, cClB p l)] AV' [] default fBy [.ptr 0 0] (wH p l) kNu F = VT.leaf (AV.slice 1100 0 p 1 (Cp.lo p)) [some (ce' [AV.slice 1001 0 p 1 (Cp.lo p),i' 0] 310),some (ce' (AV.rens (sgN (fun k => match k with | 0 => 1001 | k => k) [1000] 1100) (rowV encB l)) 10),some (ce' (AV.rens (sgN (fun k => match k with | 0 => 1001 | k => k) [1000] 1100) (rowV encB l)) 10),none,none,none] 1101 (k10'.a ((k16' 1001 p l).a k1')) := χ
abbrev h17' (z : Cnd) : Cnd := ((fe' true).a ((fe' true).a z))
theorem oRw_eq (W : World) (a : Addr) (p n c : Nat) (l : Bs) (F : HP) : wRun [] AV' [] W fRw [.ptr 0 0, slV (some a) n c] (wH p l) kNu F = VT.leaf (AV.tuple []) [some (ce' [AV.slice 1100 0 (p + n) 1 (Cp.lo (p + n)),i' 0] 310),none,some (ce' (List.take (p * 1) (List.drop 0 (rowV encB l)) ++ vmap (B4' W a (n * 1))) 10),none,none,none] 1101 (h17' (((p' (n.ble n = true)).a ((p' (((List.range (n * 1)).all fun j => (W.cell? (a.add j)).isSome) = true)).a ((p' ((vmap (B4' W a (n * 1))).all AV.one = true)).a ((p' (Nat.blt 0 n = true)).a ((p' ((0 + p * 1).ble (rowV encB l).length = true)).a ((p' (((p + n) * 1).ble 140737488355328 = true)).a ((p' ((p + n).ble 9223372036854775807 = true)).a (f' ((List.take (p * 1) (List.drop 0 (rowV encB l))).length.beq (p * 1) = true))))))))).a (k10'.a k1'))) := χ
theorem YL' (W : World) (a : Addr) (p c : Nat) (l : Bs) (F : HP) : wRun [] (AC' [(fRw, 1, 6, h0)]) [] W fRw [.ptr 0 0, slV (some a) 0 c] (wH p l) kNu F = VT.leaf (AV.tuple []) [some (ce' [AV.slice 1001 0 p 1 (Cp.lo p),i' 0] 310),some (ce' (rowV encB l) 10),none,none,none,none] 1100 (h17' (k6'.a (k10'.a k1'))) := χ
theorem YK' (W : World) (p c : Nat) (l : Bs) (F : HP) : wRun [] (AC' [(fRw, 1, 6, h0)]) [] W fRw [.ptr 0 0, slV none 0 c] (wH p l) kNu F = VT.leaf (AV.tuple []) [some (ce' [AV.slice 1001 0 p 1 (Cp.lo p),i' 0] 310),some (ce' (rowV encB l) 10),none,none,none,none] 1100 (h17' (k6'.a (k10'.a k1'))) := χ
end
theorem HA' {a : Addr} {l : Bs} (h : BAt W.cell? (some a) l) : ((List.range (l.length * 1)).all fun j => (W.cell? (a.add j)).isSome) = true /\ vmap (B4' W a (l.length * 1)) = rowV encB l := by
 have hc : ∀ i b, l[i]? = some b -> W.cell? (a.add i) = some (.int .u8 (b.toNat : Int)) := fun i b hb => by
  obtain ⟨a', e, q⟩ := h.2 i b hb; obtain rfl := Option.some.inj e
  rwa [Nat.mul_one] at q
 rw [Nat.mul_one, DX']
 refine ⟨List.all_eq_true.2 fun j hj => ?_, congrArg vmap ?_⟩
 ·obtain ⟨b, hb⟩ := BU' (l := l) (List.mem_range.1 hj); rw [hc j b hb]; rfl
 ·unfold B4'
  refine List.ext_getElem (by simp) fun j h1 h2 => ?_
  have hj : j < l.length := by simpa using h1
  simp only [List.getElem_map, List.getElem_range]; rw [hc j l[j] (List.getElem?_eq_getElem hj)]; rfl
theorem KB' (l : Bs) : (rowV encB l).all AV.one = true := by
 rw [DX']
 induction l with
 | nil => rfl
 | cons a l ih => exact ih
theorem SI' (W : World) (oa : Option Addr) (c : Nat) (l : Bs) (h : BAt W.cell? oa l) (hp : 0 < l.length) : Tri Θ W fCl [slV oa l.length c] [] (sB 1000 l.length) [(1000, rB l)] := by
 obtain ⟨x, hx⟩ := BU' (l := l) hp; obtain ⟨a, rfl, _⟩ := h.2 0 x hx; have hb : l.length <= 140737488351232 := h.1; have b1 : l.length.ble l.length = true := AP' (Yd); obtain ⟨b2, b3⟩ := HA' h
 have b4 : (vmap (B4' W a (l.length * 1))).all AV.one = true := by rw [b3]; exact KB' l
 have b5 : ((0 + l.length) * 1).ble 140737488355328 = true := AP' ω; have b6 : (0 + l.length).ble 9223372036854775807 = true := AP' ω
 have b8 : 0 < 0 + l.length := ω
 refine AJ' (con := []) (hints := AC' [hf' fCl 1 1]) (lc := []) [1100, 1101, 1102, 1103] rfl (fun _ _ => noC) (fun F _ => noL) fun F => ?_
 refine Yj (b6' W a l.length c F) ⟨⟨?_, (AR' (vs' := [sB 1000 l.length]) (H' := [(1000, rB l)]) [(1000, 1101)] rfl rfl (by rw [Nat.zero_add]; exact Yb) ⟨⟨_, rfl, by rw [List.nil_append]; exact A5' b3 rfl⟩, Ye⟩).fits rfl⟩⟩; simp only [ch', bl', true_and, and_true]; exact ⟨BQ' _, b1, b2, b4, hp, b5, b6, b8⟩
theorem d6' (W : World) (l : Bs) (hb : l.length <= big) (hp : 0 < l.length) : Tri Θ W fCl [sB 0 l.length] [(0, rB l)] (sB 1000 l.length) [(0, rB l), (1000, rB l)] :=
 NT' (fun _ => True) (fun _ _ _ _ => trivial) W trivial (pre := []) (H' := [(1000, rB l)]) hb hp rfl (fun i o h => by
  simp only [getO] at h ⊢
  by_cases e : i = 1000
  ·subst e; exact ⟨δ, by simp⟩
  ·rw [if_neg e] at h; cases h) fun W' _ oa c h _ => SI' W' oa c l h hp
def wL : Bs -> LH
 | [] => [(0, wZ)]
 | b :: l => wH (l.length + 1) (b :: l)
def wHP (l : Bs) : Nat -> Nat -> HP := exHP (fun _ : Unit => True) (fun _ => wL l)
def wM (m : Md) (l : Bs) : AO := .own m (wHP l)
theorem GX' {l : Bs} (h : l ≠ []) : wL l = wH l.length l := by
 cases l with
 | nil => exact absurd rfl h
 | cons b l => rfl
theorem wL_cl : ∀ l : Bs, ∀ x ∈ wL l, x.2.cl (kH (wL l))
 | [] => A0' ⟨Ye, Ye, Ye⟩ A2'
 | b :: l => A0' ⟨rfl, Ye, Ye⟩ (A0' (AB' _ _) A2')
theorem NN' : ∀ l : Bs, ∃ cs e, getO (wL l) 0 = some (.cells cs e) /\ e % 2 = 0
 | [] => ⟨_, _, rfl, by kernel_rfl⟩
 | b :: l => ⟨_, _, rfl, by kernel_rfl⟩
theorem UW' : ∀ l : Bs, ownL [] (wL l) = true
 | [] => rfl
 | b :: l => rfl
theorem RR' {m : Md} {l : Bs} {Ar : List AV} (h : Tri Θ W f Ar (wL l) v H') : Tri Θ W f Ar [(0, wM m l)] v H' :=
 Tri.open (R := fun _ : Unit => True) (L := fun _ => wL l) (H0 := []) (fun _ => UW' l) (fun _ => wL_cl l) (fun _ => by obtain ⟨cs, e, h, _⟩ := NN' l; exact ⟨_, h⟩) fun _ _ => by rw [List.append_nil]; exact h
theorem RG' {m : Md} {l : Bs} {vs : List AV} (hv : AV.cls (fun i => Nat.blt i 1000) vs) : Goes vs (wL l) vs [(0, wM m l)] := by
 have := Goes.shut (R := fun _ : Unit => True) (L := fun _ => wL l) (m := m) (H0 := []) (vs := vs) () trivial (UW' l) (NN' l) (by
  have e : (fun i => Nat.blt i 1000 || (getO ([] : LH) i).isSome) = fun i => Nat.blt i 1000 := by funext i; simp only [getO, Option.isSome_none, Bool.or_false]
  rw [e]; exact hv) (fun x hx => by cases hx)
 rwa [List.append_nil] at this
theorem nw_tri (m : Md) : Tri Θ default fNw [] [] (.ptr 1000 0) [(1000, wM m [])] := by
 refine AJ' (con := []) (hints := AV') (lc := []) [1100, 1101] rfl (fun _ _ => noC) (fun F _ => noL) fun F => ?_
 refine Yj (oNw_eq F) ⟨⟨Ye, [.ptr 1000 0], [(1000, wZ)], [(1000, 1100)], rfl, AR' (vs' := [.ptr 1000 0]) (H' := [(1000, wZ)]) _ χ χ (Yb) ⟨⟨_, rfl, Yc⟩, Ye⟩, ?_⟩⟩
 exact Goes.shutNew (R := fun _ : Unit => True) (L := fun _ => wL []) (m := m) 1000 δ () trivial χ χ ⟨_, _, rfl, by kernel_rfl⟩ ⟨rfl, Ye⟩
theorem u8_in (h : n < 256) : IntKind.u8.wrap (n : Int) = (n : Int) := IntWalk.u8_in _ ω
theorem SO' {d : Nat} (hd : 0 < d) : IntKind.u8.wrap ((o' n).fdiv (o' d)) = ((UInt8.ofNat (n / d)).toNat : Int) := by
 have e : (o' n).fdiv (o' d) = ((n / d : Nat) : Int) := by
  show ((n : Int)).fdiv (d : Int) = _; rw [Int.fdiv_eq_ediv_of_nonneg _ ω]; rfl
 rw [e, UInt8.toNat_ofNat', IntKind.wrap_u8]; omega
theorem by_eq1 : IntKind.u8.wrap ((o' n).fdiv (o' 1)) = ((UInt8.ofNat n).toNat : Int) := by
 have h := SO' (n := n) (d := 1) δ
 rwa [Nat.div_one] at h
theorem wk_b (h : a = b) : Wk (.v (.int .u8 a)) (.v (.int .u8 b)) := by subst h; exact Ya
theorem UO' (n : Nat) : (be4 n).take 0 = [] /\ (be4 n).take 1 = [UInt8.ofNat (n / 16777216)] /\ (be4 n).take 2 = [UInt8.ofNat (n / 16777216)] ++ [UInt8.ofNat (n / 65536)] /\ (be4 n).take 3 = [UInt8.ofNat (n / 16777216), UInt8.ofNat (n / 65536)] ++ [UInt8.ofNat (n / 256)] /\ (be4 n).take 4 = [UInt8.ofNat (n / 16777216), UInt8.ofNat (n / 65536), UInt8.ofNat (n / 256)] ++ [UInt8.ofNat n] := ⟨rfl, rfl, rfl, rfl, rfl⟩
theorem nu_tri (n : Nat) (l : Bs) (hb : l.length + 4 <= 140737488351232) : LTri Θ default (A4' fNu 2) (tms 0 30 (aNu n 3)) (wL l) (.exit 0) (tms 0 30 []) (wL (l ++ be4 n)) := by
 suffices h : LTri Θ default (A4' fNu 2) (tms 0 30 (aNu n 3)) (wL (l ++ (be4 n).take 0)) (.exit 0) (tms 0 30 []) (wL (l ++ be4 n)) by rwa [List.take_zero, List.append_nil] at h
 refine AT' (W := default) (g := fNu) (b := A4' fNu 2) (σ := {j : Nat // j <= 4}) 30 (fun j => aNu n (3 - (j.1 : Int))) (fun j => wL (l ++ (be4 n).take j.1)) (.exit 0) [] (wL (l ++ be4 n)) (fun j => 4 - j.1) kNu [0, 2, 6] (by intro h; cases h) (fun j => by
  cases (l ++ (be4 n).take j.1) with
  | nil => rfl
  | cons b l => rfl) (by
  cases (l ++ be4 n) with
  | nil => rfl
  | cons b l => rfl) ?_ ⟨0, Nat.zero_le _⟩
 rintro ⟨j, hj⟩; simp only; obtain ⟨t0, t1, t2, t3, t4⟩ := UO' n
 rcases j with _|_|_|_|_|j
 ·cases l with
  | nil =>
   refine ⟨[], AC' [ht' fNu 2 1, (fNu, 4, 9, hv (byv (UInt8.ofNat (n / 16777216)))), (fNu, 3, 1, hv (iv 2))], [], fun F hF => noC, fun _ _ => noL, fun F => ?_⟩
   refine Yj (ZX' n (UInt8.ofNat (n / 16777216)) F) ⟨⟨?_, rfl, .inl ⟨rfl, ⟨1, by omega⟩, by simp only; omega, [(1001, 1101)], by kernel_rfl, by kernel_rfl, ⟨Ya, Ya, Ya, Ye⟩, ⟨_, rfl, Yc⟩, ⟨_, rfl, A5' rfl rfl⟩, Ye⟩⟩⟩
   simp only [ch', bl', true_and, and_true]; and_intros; all_goals exact Kw9'
  | cons x l =>
   rw [t0, List.append_nil]
   have hne : x :: l ≠ [] := by simp
   have hne2 : (x :: l) ++ [UInt8.ofNat (n / 16777216)] ≠ [] := by simp
   have hl1 : ((x :: l) ++ [UInt8.ofNat (n / 16777216)]).length = (x :: l).length + 1 := la'; rw [GX' hne]; have k1 : (0 + (x :: l).length * 1).ble (rowV encB (x :: l)).length = true := RM' rfl; have k2 : (((x :: l).length + 1) * 1).ble 140737488355328 = true := AP' (by have := hb; simp only [List.length_cons] at *; omega); have k3 : ((x :: l).length + 1).ble 9223372036854775807 = true := AP' (by have := hb; simp only [List.length_cons] at *; omega); have k4 := J2' (P := x :: l) rfl
   refine ⟨[], AC' [ht' fNu 2 1, (fNu, 4, 9, hv (byv (UInt8.ofNat (n / 16777216)))), (fNu, 3, 1, hv (iv 2))], [], fun F hF => noC, fun _ _ => noL, fun F => ?_⟩
   refine Yj (ZZ' n (x :: l).length (x :: l) (UInt8.ofNat (n / 16777216)) F) ⟨⟨?_, rfl, .inl ⟨rfl, ⟨1, by omega⟩, by simp only; omega, [(1001, 1101)], ?_⟩⟩⟩
   ·exact Cw0'
   ·show FitT _ _ _ _ _ (wL ((x :: l) ++ (be4 n).take 1)) _
    rw [show (x :: l) ++ (be4 n).take 1 = (x :: l) ++ [UInt8.ofNat (n / 16777216)] by simp [be4], GX' hne2, hl1]
    exact ⟨χ, by kernel_rfl, ⟨Ya, Ya, Ya, Ye⟩, ⟨_, rfl, Yc⟩, ⟨_, rfl, A5' (J3' rfl [UInt8.ofNat (n / 16777216)]) rfl⟩, Ye⟩
 ·rw [show l ++ (be4 n).take 1 = l ++ [UInt8.ofNat (n / 16777216)] by simp [be4]]
  have hne : l ++ [UInt8.ofNat (n / 16777216)] ≠ [] := by simp
  have hlen : (l ++ [UInt8.ofNat (n / 16777216)]).length = l.length + 1 := by simp
  have hne2 : l ++ [UInt8.ofNat (n / 16777216)] ++ [UInt8.ofNat (n / 65536)] ≠ [] := by simp
  have hl1 : (l ++ [UInt8.ofNat (n / 16777216)] ++ [UInt8.ofNat (n / 65536)]).length = (l ++ [UInt8.ofNat (n / 16777216)]).length + 1 := la'; rw [GX' hne]; have k1 : (0 + (l ++ [UInt8.ofNat (n / 16777216)]).length * 1).ble (rowV encB (l ++ [UInt8.ofNat (n / 16777216)])).length = true := RM' rfl; have k2 : (((l ++ [UInt8.ofNat (n / 16777216)]).length + 1) * 1).ble 140737488355328 = true := AP' (by rw [hlen]; omega); have k3 : ((l ++ [UInt8.ofNat (n / 16777216)]).length + 1).ble 9223372036854775807 = true := AP' (by rw [hlen]; omega); have k4 := J2' (P := l ++ [UInt8.ofNat (n / 16777216)]) rfl
  refine ⟨[], AC' [ht' fNu 2 1, (fNu, 4, 9, hv (byv (UInt8.ofNat (n / 65536)))), (fNu, 3, 1, hv (iv 1))], [], fun F hF => noC, fun _ _ => noL, fun F => ?_⟩
  refine Yj (a0' n (l ++ [UInt8.ofNat (n / 16777216)]).length (l ++ [UInt8.ofNat (n / 16777216)]) (UInt8.ofNat (n / 65536)) F) ⟨⟨?_, rfl, .inl ⟨rfl, ⟨2, by omega⟩, by simp only; omega, [(1001, 1101)], ?_⟩⟩⟩
  ·exact Cw0'
  ·show FitT _ _ _ _ _ (wL (l ++ (be4 n).take 2)) _
   rw [show l ++ (be4 n).take 2 = l ++ [UInt8.ofNat (n / 16777216)] ++ [UInt8.ofNat (n / 65536)] by simp [be4], GX' hne2, hl1]
   exact ⟨χ, by kernel_rfl, ⟨Ya, Ya, Ya, Ye⟩, ⟨_, rfl, Yc⟩, ⟨_, rfl, A5' (J3' rfl [UInt8.ofNat (n / 65536)]) rfl⟩, Ye⟩
 ·rw [show l ++ (be4 n).take 2 = l ++ [UInt8.ofNat (n / 16777216), UInt8.ofNat (n / 65536)] by simp [be4]]
  have hne : l ++ [UInt8.ofNat (n / 16777216), UInt8.ofNat (n / 65536)] ≠ [] := by simp
  have hlen : (l ++ [UInt8.ofNat (n / 16777216), UInt8.ofNat (n / 65536)]).length = l.length + 2 := by simp
  have hne2 : l ++ [UInt8.ofNat (n / 16777216), UInt8.ofNat (n / 65536)] ++ [UInt8.ofNat (n / 256)] ≠ [] := by simp
  have hl1 : (l ++ [UInt8.ofNat (n / 16777216), UInt8.ofNat (n / 65536)] ++ [UInt8.ofNat (n / 256)]).length = (l ++ [UInt8.ofNat (n / 16777216), UInt8.ofNat (n / 65536)]).length + 1 := la'; rw [GX' hne]; have k1 : (0 + (l ++ [UInt8.ofNat (n / 16777216), UInt8.ofNat (n / 65536)]).length * 1).ble (rowV encB (l ++ [UInt8.ofNat (n / 16777216), UInt8.ofNat (n / 65536)])).length = true := RM' rfl; have k2 : (((l ++ [UInt8.ofNat (n / 16777216), UInt8.ofNat (n / 65536)]).length + 1) * 1).ble 140737488355328 = true := AP' (by rw [hlen]; omega); have k3 : ((l ++ [UInt8.ofNat (n / 16777216), UInt8.ofNat (n / 65536)]).length + 1).ble 9223372036854775807 = true := AP' (by rw [hlen]; omega); have k4 := J2' (P := l ++ [UInt8.ofNat (n / 16777216), UInt8.ofNat (n / 65536)]) rfl
  refine ⟨[], AC' [ht' fNu 2 1, (fNu, 4, 9, hv (byv (UInt8.ofNat (n / 256)))), (fNu, 3, 1, hv (iv 0))], [], fun F hF => noC, fun _ _ => noL, fun F => ?_⟩
  refine Yj (a1' n (l ++ [UInt8.ofNat (n / 16777216), UInt8.ofNat (n / 65536)]).length (l ++ [UInt8.ofNat (n / 16777216), UInt8.ofNat (n / 65536)]) (UInt8.ofNat (n / 256)) F) ⟨⟨?_, rfl, .inl ⟨rfl, ⟨3, by omega⟩, by simp only; omega, [(1001, 1101)], ?_⟩⟩⟩
  ·exact Cw0'
  ·show FitT _ _ _ _ _ (wL (l ++ (be4 n).take 3)) _
   rw [show l ++ (be4 n).take 3 = l ++ [UInt8.ofNat (n / 16777216), UInt8.ofNat (n / 65536)] ++ [UInt8.ofNat (n / 256)] by simp [be4], GX' hne2, hl1]
   exact ⟨χ, by kernel_rfl, ⟨Ya, Ya, Ya, Ye⟩, ⟨_, rfl, Yc⟩, ⟨_, rfl, A5' (J3' rfl [UInt8.ofNat (n / 256)]) rfl⟩, Ye⟩
 ·rw [show l ++ (be4 n).take 3 = l ++ [UInt8.ofNat (n / 16777216), UInt8.ofNat (n / 65536), UInt8.ofNat (n / 256)] by simp [be4]]
  have hne : l ++ [UInt8.ofNat (n / 16777216), UInt8.ofNat (n / 65536), UInt8.ofNat (n / 256)] ≠ [] := by simp
  have hlen : (l ++ [UInt8.ofNat (n / 16777216), UInt8.ofNat (n / 65536), UInt8.ofNat (n / 256)]).length = l.length + 3 := by simp
  have hne2 : l ++ [UInt8.ofNat (n / 16777216), UInt8.ofNat (n / 65536), UInt8.ofNat (n / 256)] ++ [UInt8.ofNat n] ≠ [] := by simp
  have hl1 : (l ++ [UInt8.ofNat (n / 16777216), UInt8.ofNat (n / 65536), UInt8.ofNat (n / 256)] ++ [UInt8.ofNat n]).length = (l ++ [UInt8.ofNat (n / 16777216), UInt8.ofNat (n / 65536), UInt8.ofNat (n / 256)]).length + 1 := la'; rw [GX' hne]; have k1 : (0 + (l ++ [UInt8.ofNat (n / 16777216), UInt8.ofNat (n / 65536), UInt8.ofNat (n / 256)]).length * 1).ble (rowV encB (l ++ [UInt8.ofNat (n / 16777216), UInt8.ofNat (n / 65536), UInt8.ofNat (n / 256)])).length = true := RM' rfl; have k2 : (((l ++ [UInt8.ofNat (n / 16777216), UInt8.ofNat (n / 65536), UInt8.ofNat (n / 256)]).length + 1) * 1).ble 140737488355328 = true := AP' (by rw [hlen]; omega); have k3 : ((l ++ [UInt8.ofNat (n / 16777216), UInt8.ofNat (n / 65536), UInt8.ofNat (n / 256)]).length + 1).ble 9223372036854775807 = true := AP' (by rw [hlen]; omega); have k4 := J2' (P := l ++ [UInt8.ofNat (n / 16777216), UInt8.ofNat (n / 65536), UInt8.ofNat (n / 256)]) rfl
  refine ⟨[], AC' [ht' fNu 2 1, (fNu, 4, 9, hv (byv (UInt8.ofNat n))), (fNu, 3, 1, hv (iv (-1)))], [], fun F hF => noC, fun _ _ => noL, fun F => ?_⟩
  refine Yj (a2' n (l ++ [UInt8.ofNat (n / 16777216), UInt8.ofNat (n / 65536), UInt8.ofNat (n / 256)]).length (l ++ [UInt8.ofNat (n / 16777216), UInt8.ofNat (n / 65536), UInt8.ofNat (n / 256)]) (UInt8.ofNat n) F) ⟨⟨?_, rfl, .inl ⟨rfl, ⟨4, by omega⟩, by simp only; omega, [(1001, 1101)], ?_⟩⟩⟩
  ·simp only [ch', bl', true_and, and_true, k1, k2, k3, k4]; and_intros; all_goals first | (with_reducible exact Ye) | (with_reducible exact rfl) | (with_reducible exact Ya) | (with_reducible exact Yb) | (with_reducible exact Yc) | (with_reducible exact BQ' _) | (with_reducible assumption) | exact wk_b by_eq1 | exact Kw3'
  ·show FitT _ _ _ _ _ (wL (l ++ (be4 n).take 4)) _
   rw [show l ++ (be4 n).take 4 = l ++ [UInt8.ofNat (n / 16777216), UInt8.ofNat (n / 65536), UInt8.ofNat (n / 256)] ++ [UInt8.ofNat n] by simp [be4], GX' hne2, hl1]
   exact ⟨χ, by kernel_rfl, ⟨Ya, Ya, Ya, Ye⟩, ⟨_, rfl, Yc⟩, ⟨_, rfl, A5' (J3' rfl [UInt8.ofNat n]) rfl⟩, Ye⟩
 ·rw [show (be4 n).take 4 = be4 n from rfl]
  have hne : l ++ be4 n ≠ [] := by simp [be4]
  rw [GX' hne]
  refine ⟨[], AC' [hf' fNu 2 1], [], fun F hF => noC, fun _ _ => noL, fun F => ?_⟩
  refine Yj (ZY' n (l ++ be4 n).length (l ++ be4 n) F) ⟨⟨?_, rfl, .inr ⟨rfl, [(1001, 1001)], by kernel_rfl, by kernel_rfl, Ye, ⟨_, rfl, Yc⟩, ⟨_, rfl, OW.of_eq (KA' _ _).symm⟩, Ye⟩⟩⟩
  exact Cw1'
 ·omega
theorem VS' (l : Bs) (n : Nat) : l ++ be4 n ≠ [] := by simp [be4]
theorem lNu_ok {k : Bs} (hb : k.length + 4 <= 140737488351232) (F : HP) : L1OK Θ F (A4' fNu 2) (lNu (wL k) n (wL (k ++ be4 n))) :=
 B7' (W := default) B8' (fun _ => RO.ret _) (fun _ _ => nu_tri n k hb) fun _ => by
  simp only [RT.pick]; rw [GX' (VS' k n)]
  cases k with
  | nil => exact AY' rfl rfl (A0' rfl (A0' Ye (A0' Ye A2'))) (A0' ⟨Ye, Ye, Ye⟩ A2') A2' (A0' ⟨rfl, Ye, Ye⟩ (A0' (AB' _ _) A2'))
  | cons b k => exact AY' rfl rfl (A0' rfl (A0' Ye (A0' Ye A2'))) (A0' ⟨rfl, Ye, Ye⟩ (A0' (AB' _ _) A2')) A2' (A0' ⟨rfl, Ye, Ye⟩ (A0' (AB' _ _) A2'))
theorem V9' (m m' : Md) (n : Nat) (k : Bs) (hb : k.length + 4 <= 140737488351232) : Tri Θ default fLo [.ptr 0 0, iv (o' n)] [(0, wM m k)] (.tuple []) [(0, wM m' (k ++ be4 n))] := by
 refine RR' ?_
 have hl := fun F => lNu_ok (n := n) hb F
 have e2 := GX' (VS' k n)
 cases k with
 | nil =>
  refine Tri.post (v := .tuple []) (H' := wL ([] ++ be4 n)) ?_ (RG' ⟨Ye, Ye⟩)
  refine AJ' (con := []) (hints := AC' [(fNu, 1, 1, hv (iv 3))]) (lc := [(fNu, 2, A4' fNu 2, lNu [(0, wZ)] n (wH 4 (be4 n)))]) kNu rfl (fun _ _ => noC) (fun F _ => CK' (hl F)) fun F => ?_
  refine Yj (aA' n 4 (be4 n) F) ⟨⟨?_, (AR' (vs' := [.tuple []]) (H' := wH 4 (be4 n)) [(1001, 1100)] χ χ (Yb) ⟨⟨_, rfl, Yc⟩, ⟨_, rfl, A5' (A1' _ _) rfl⟩, Ye⟩).fits rfl⟩⟩; exact Cw1'
 | cons b k =>
  refine Tri.post (v := .tuple []) (H' := wL ((b :: k) ++ be4 n)) ?_ (RG' ⟨Ye, Ye⟩); rw [e2]
  have hl' := fun F => hl F
  rw [e2] at hl'
  refine AJ' (con := []) (hints := AC' [(fNu, 1, 1, hv (iv 3))]) (lc := [(fNu, 2, A4' fNu 2, lNu (wH (k.length + 1) (b :: k)) n (wH ((b :: k) ++ be4 n).length ((b :: k) ++ be4 n)))]) kNu rfl (fun _ _ => noC) (fun F _ => CK' (hl' F)) fun F => ?_
  refine Yj (a9' n (k.length + 1) ((b :: k) ++ be4 n).length (b :: k) ((b :: k) ++ be4 n) F) ⟨⟨?_, (AR' (vs' := [.tuple []]) (H' := wH ((b :: k) ++ be4 n).length ((b :: k) ++ be4 n)) [(1001, 1100)] χ χ (Yb) ⟨⟨_, rfl, Yc⟩, ⟨_, rfl, A5' (A1' _ _) rfl⟩, Ye⟩).fits rfl⟩⟩; exact Cw2'
theorem BP' {l : Bs} (hb : l.length <= big) (hp : 0 < l.length) (F : HP) : C1OK Θ F fCl (cClB l.length l) :=
 AX' (W := default) B8' (fun _ => sB 1000 l.length) (fun args => by split <;> first | exact RO.ret _ | exact RO.fail _) (fun _ => rfl) (fun _ _ => d6' default l hb hp) fun _ => ⟨rfl, rfl, ⟨rfl, Ye⟩, A0' (AB' _ _) A2', ⟨rfl, Ye⟩, A0' (AB' _ _) (A0' (AB' _ _) A2')⟩
theorem VR' (m : Md) (k : Bs) (hb : k.length <= big) (hne : k ≠ []) : Tri Θ default fBy [.ptr 0 0] [(0, wM m k)] (sB 1000 k.length) [(0, wM m k), (1000, rB k)] := by
 refine RR' ?_; have hp : 0 < k.length := List.length_pos_iff.2 hne; have e := GX' hne; rw [e]
 refine AJ' (con := [(fCl, cClB k.length k)]) (hints := AV') (lc := []) kNu rfl (fun F _ => BA' (BP' hb hp F)) (fun F _ => noL) fun F => ?_
 refine Yj (oBy_eq k.length k F) ⟨⟨?_, [sB 1000 k.length], wH k.length k ++ [(1000, rB k)], [(1001, 1001), (1000, 1100)], rfl, AR' (vs' := [sB 1000 k.length]) (H' := [(0, wC k.length), (1001, rB k), (1000, rB k)]) [(1001, 1001), (1000, 1100)] χ χ (Yb) ⟨⟨_, rfl, Yc⟩, ⟨_, rfl, A5' (A1' _ _) rfl⟩, ⟨_, rfl, A5' (A1' _ _) rfl⟩, Ye⟩, ?_⟩⟩
 ·exact Cw2'
 ·rw [<- e]; exact Goes.shut (R := fun _ : Unit => True) (L := fun _ => wL k) (m := m) (H0 := [(1000, rB k)]) (vs := [sB 1000 k.length]) () trivial (by rw [e]; rfl) (NN' k) ⟨rfl, Ye⟩ (A0' (AB' _ _) A2')
theorem rw_tri (m m' : Md) (W : World) (oa : Option Addr) (c : Nat) (r k : Bs) (h : BAt W.cell? oa r) (hne : k ≠ []) (hb : k.length + r.length <= 140737488351232) : Tri Θ W fRw [.ptr 0 0, slV oa r.length c] [(0, wM m k)] (.tuple []) [(0, wM m' (k ++ r))] := by
 refine RR' ?_
 have hkr : k ++ r ≠ [] := fun e => hne (List.append_eq_nil_iff.1 e).1
 refine Tri.post (v := .tuple []) (H' := wL (k ++ r)) ?_ (RG' ⟨Ye, Ye⟩); rw [GX' hne, GX' hkr]
 cases r with
 | nil =>
  rw [List.append_nil]
  cases oa with
  | none =>
   refine AJ' (con := []) (hints := AC' [(fRw, 1, 6, h0)]) (lc := []) kNu rfl (fun _ _ => noC) (fun F _ => noL) fun F => ?_
   refine Yj (YK' W k.length c k F) ⟨⟨?_, (AR' (vs' := [.tuple []]) (H' := wH k.length k) [(1001, 1001)] χ χ (Yb) ⟨⟨_, rfl, Yc⟩, ⟨_, rfl, A5' rfl rfl⟩, Ye⟩).fits rfl⟩⟩; exact Cw1'
  | some a =>
   refine AJ' (con := []) (hints := AC' [(fRw, 1, 6, h0)]) (lc := []) kNu rfl (fun _ _ => noC) (fun F _ => noL) fun F => ?_
   refine Yj (YL' W a k.length c k F) ⟨⟨?_, (AR' (vs' := [.tuple []]) (H' := wH k.length k) [(1001, 1001)] χ χ (Yb) ⟨⟨_, rfl, Yc⟩, ⟨_, rfl, A5' rfl rfl⟩, Ye⟩).fits rfl⟩⟩; exact Cw1'
 | cons x r =>
  obtain ⟨a, rfl, _⟩ := h.2 0 x rfl
  generalize hr : x :: r = l at *
  have hp : 0 < l.length := by rw [<- hr]; simp
  have b1 : l.length.ble l.length = true := AP' (Yd); obtain ⟨b2, b3⟩ := HA' h
  have b4 : (vmap (B4' W a (l.length * 1))).all AV.one = true := by rw [b3]; exact KB' l
  have k1 : (0 + k.length * 1).ble (rowV encB k).length = true := RM' rfl; have k2 : ((k.length + l.length) * 1).ble 140737488355328 = true := AP' ω; have k3 : (k.length + l.length).ble 9223372036854775807 = true := AP' ω; have k4 := J2' (P := k) rfl
  refine AJ' (con := []) (hints := AV') (lc := []) kNu rfl (fun _ _ => noC) (fun F _ => noL) fun F => ?_
  refine Yj (oRw_eq W a k.length l.length c k F) ⟨⟨?_, (AR' (vs' := [.tuple []]) (H' := wH (k ++ l).length (k ++ l)) [(1001, 1100)] χ χ (Yb) ⟨⟨_, rfl, by rw [la']; exact Yc⟩, ⟨_, rfl, A5' (by rw [b3]; exact J3' rfl l) rfl⟩, Ye⟩).fits rfl⟩⟩; simp only [ch', bl', true_and, and_true]; exact ⟨b1, b2, b4, hp, k1, k2, k3, k4⟩
noncomputable section
abbrev fWp : Nat := 60
abbrev wT (t : List Int) (l : Bs) : AO := wM (.turns t) l
def by3 {α : Type} (a b c : α) : List Int -> α
 | [] => a
 | [_] => b
 | _ :: _ :: _ => c
def by3O (a b c : AO) : List Int -> AO
 | [] => a
 | [_] => b
 | _ :: _ :: _ => c
def gMk : List AV -> AP (Nat × List Int) := fun args => match args with
 | .ptr i _ :: _ => .read i fun o => match o with
  | .own m _ => match m with
   | .turns l => .ret (i, l)
   | _ => .fail "mark"
  | _ => .fail "mark"
 | _ => .fail "writer"
def nmW (i : Nat) : Nat -> Nat := fun k => match k with | 0 => i | k => k
def cNw : List AV -> Option (AP AV) := mkC (fun _ => .ret ()) (fun _ => True) (fun _ k => k) (fun _ => []) (fun _ => []) (fun _ => .leaf .ret [.ptr 1000 0] [(1000, wT [] [])])
def cLo (n sm : Nat) (l1 l2 : Bs) : List AV -> Option (AP AV) := mkC gMk (fun _ => True) (fun q => nmW q.1) (fun q => [.ptr 0 0, by3 (iv (o' n)) (iv (o' sm)) (iv (o' sm)) q.2]) (fun q => [(0, by3O (wT [] []) (wT [1] l1) (wT [1] l1) q.2)]) (fun q => .leaf .ret [.tuple []] [(0, by3O (wT [1] l1) (wT [1, 2] l2) (wT [1, 2] l2) q.2)])
def cBy (p1 p3 : Nat) (l1 l3 : Bs) : List AV -> Option (AP AV) := mkC gMk (fun _ => True) (fun q => nmW q.1) (fun q => [.ptr 0 0]) (fun q => [(0, by3O (wT [1] l1) (wT [1] l1) (wT [1, 2] l3) q.2)]) (fun q => .leaf .ret [by3 (sB 1000 p1) (sB 1000 p1) (sB 1000 p3) q.2] [(0, by3O (wT [1] l1) (wT [1] l1) (wT [1, 2] l3) q.2), (1000, by3O (rB l1) (rB l1) (rB l3) q.2)])
def cRw (oa : Option Addr) (n c : Nat) (l2 l3 : Bs) : List AV -> Option (AP AV) := mkC (fun args => match args with | .ptr i _ :: _ => .ret i | _ => .fail "writer") (fun _ => True) nmW (fun _ => [.ptr 0 0, slV oa n c]) (fun _ => [(0, wT [1, 2] l2)]) (fun _ => .leaf .ret [.tuple []] [(0, wT [1, 2] l3)])
def cOvO (s s' p : Nat) (l : Bs) : List AV -> Option (AP AV) := mkC (fun args => match args with | _ :: .slice i _ _ _ _ :: _ => .ret i | _ => .fail "over") (fun _ => True) nmW (fun _ => [uN s, sB 0 p]) (fun _ => [(0, rB l)]) (fun _ => .leaf .ret [uN s'] [(0, rB l)])
def cOvR (s s' : Nat) (oa : Option Addr) (n c : Nat) : List AV -> Option (AP AV) := mkC (fun _ => .ret ()) (fun _ => True) (fun _ k => k) (fun _ => [uN s, slV oa n c]) (fun _ => []) (fun _ => .leaf .ret [uN s'] [])
def cOvW (s1 s2 p1 : Nat) (l1 : Bs) (oa : Option Addr) (n c : Nat) : List AV -> Option (AP AV) := fun args => match args with
 | _ :: .slice _ _ _ _ _ :: _ => cOvO 4294967295 s1 p1 l1 args
 | _ => cOvR s1 s2 oa n c args
def hWp (n sm : Nat) : BD' := AC' [hf' fWp 1 2, (fWp, 4, 2, hv (iv (o' n))), (fWp, 5, 7, hv (iv (o' sm)))]
def conWp (oa : Option Addr) (n c sm p1 p3 s1 s2 : Nat) (l1 l2 l3 : Bs) : E7' := [(fNw, cNw), (fLo, cLo n sm l1 l2), (fBy, cBy p1 p3 l1 l3), (fOv, cOvW s1 s2 p1 l1 oa n c), (fRw, cRw oa n c l2 l3)]
abbrev k18' (q0 : Nat) : Cnd := (wb' (decide (↑q0 > o' 1048576)) g')
theorem oWp_eq (W : World) (oa : Option Addr) (n c sm p1 p3 s1 s2 : Nat) (l1 l2 l3 : Bs) (F : HP) : wRun (conWp oa n c sm p1 p3 s1 s2 l1 l2 l3) (hWp n sm) [] W fWp [slV oa n c] [] [1100, 1101, 1102, 1103, 1104, 1105] F = VT.leaf (AV.tuple [AV.slice 1102 0 p3 1 (Cp.lo p3),i' 0]) [some (AO.own (Md.turns [o' 1,o' 2]) (wHP l3)),some (ce' (AV.rens (sgN (nmW 1101) [] 0) (rowV encB l1)) 10),some (ce' (AV.rens (sgN (nmW 1100) [1000] 1102) (rowV encB l3)) 10),none,none,none] 1103 ((k18' n).a (((Cnd.p True).a (f' (VW [] []))).a ((f' (Wk (z' ↑n) (i' n))).a (((Cnd.p True).a ((vw' [pt' 1100 0,i' n]).a (f' (OW (AO.own (Md.turns []) (wHP [])) (AO.own (Md.turns []) (wHP [])))))).a (((Cnd.p True).a ((vw' [pt' 1100 0]).a (f' (OW (AO.own (Md.turns [o' 1]) (wHP l1)) (AO.own (Md.turns [o' 1]) (wHP l1)))))).a (((Cnd.p True).a ((vw' [v' (vi' IntKind.u32 (o' 4294967295)),AV.slice 1101 0 p1 1 (Cp.lo p1)]).a (f' (OW (ce' (AV.rens (sgN (nmW 1100) [1000] 1101) (rowV encB l1)) 10) (ce' (AV.rens (nmW 1101) (rowV encB l1)) 10))))).a (((Cnd.p True).a (f' (VW [v' (vi' IntKind.u32 (o' s1)),v' (sl' oa n c)] [v' (vi' IntKind.u32 (o' s1)),v' (sl' oa n c)]))).a ((f' (Wk (z' (IntKind.i64.wrap (IntKind.u32.wrap ↑(BitVec.ofInt 32 (o' s2) ^^^ BitVec.ofInt 32 (o' 4294967295)).toNat))) (i' sm))).a (((Cnd.p True).a ((vw' [pt' 1100 0,i' sm]).a (f' (OW (AO.own (Md.turns [o' 1]) (wHP l1)) (AO.own (Md.turns [o' 1]) (wHP l1)))))).a (((Cnd.p True).a ((vw' [pt' 1100 0,v' (sl' oa n c)]).a (f' (OW (AO.own (Md.turns [o' 1,o' 2]) (wHP l2)) (AO.own (Md.turns [o' 1,o' 2]) (wHP l2)))))).a (((Cnd.p True).a ((vw' [pt' 1100 0]).a (f' (OW (AO.own (Md.turns [o' 1,o' 2]) (wHP l3)) (AO.own (Md.turns [o' 1,o' 2]) (wHP l3)))))).a k1'))))))))))) := χ
end
theorem VI' : ∀ args, RO (gMk args) := by
 intro args; unfold gMk; split
 ·refine RO.read _ _ fun o => ?_
  repeat' split
  all_goals first | exact RO.ret _ | exact RO.fail _
 ·exact RO.fail _
theorem cNw_ok (F : HP) : C1OK Θ F fNw cNw :=
 AX' (W := default) B8' (fun _ => .ptr 1000 0) (fun _ => RO.ret _) (fun _ => rfl) (fun _ _ => nw_tri _) fun _ => ⟨rfl, rfl, Ye, A2', ⟨rfl, Ye⟩, A0' Ye A2'⟩
theorem cLo_ok {sm : Nat} {l1 l2 : Bs} (h1 : l1 = be4 n) (h2 : l2 = l1 ++ be4 sm) (F : HP) : C1OK Θ F fLo (cLo n sm l1 l2) := by
 have a1 : Tri Θ default fLo [.ptr 0 0, iv (o' n)] [(0, wT [] [])] (.tuple []) [(0, wT [1] l1)] := by rw [h1]; exact V9' _ _ n [] δ
 have a2 : Tri Θ default fLo [.ptr 0 0, iv (o' sm)] [(0, wT [1] l1)] (.tuple []) [(0, wT [1, 2] l2)] := by
  rw [h2]; exact V9' _ _ sm l1 (by rw [h1, DG']; decide)
 refine AX' (W := default) B8' (fun _ => .tuple []) VI' (fun _ => rfl) (fun q _ => ?_) fun q => ?_
 ·obtain ⟨i, t⟩ := q
  rcases t with _ | ⟨x, _ | ⟨y, t⟩⟩
  ·exact a1
  ·exact a2
  ·exact a2
 ·obtain ⟨i, t⟩ := q
  rcases t with _ | ⟨x, _ | ⟨y, t⟩⟩
  ·exact ⟨rfl, rfl, ⟨rfl, Ye, Ye⟩, A0' Ye A2', ⟨Ye, Ye⟩, A0' Ye A2'⟩
  ·exact ⟨rfl, rfl, ⟨rfl, Ye, Ye⟩, A0' Ye A2', ⟨Ye, Ye⟩, A0' Ye A2'⟩
  ·exact ⟨rfl, rfl, ⟨rfl, Ye, Ye⟩, A0' Ye A2', ⟨Ye, Ye⟩, A0' Ye A2'⟩
theorem cBy_ok {p1 p3 : Nat} {l1 l3 : Bs} (h1 : p1 = l1.length) (h3 : p3 = l3.length) (b1 : l1.length <= big) (b3 : l3.length <= big) (n1 : l1 ≠ []) (n3 : l3 ≠ []) (F : HP) : C1OK Θ F fBy (cBy p1 p3 l1 l3) := by
 subst h1 h3; have a1 := VR' (.turns [1]) l1 b1 n1; have a3 := VR' (.turns [1, 2]) l3 b3 n3
 refine AX' (W := default) B8' (fun q => by3 (sB 1000 l1.length) (sB 1000 l1.length) (sB 1000 l3.length) q.2) VI' (fun _ => rfl) (fun q _ => ?_) fun q => ?_
 ·obtain ⟨i, t⟩ := q
  rcases t with _ | ⟨x, _ | ⟨y, t⟩⟩
  ·exact a1
  ·exact a1
  ·exact a3
 ·obtain ⟨i, t⟩ := q
  rcases t with _ | ⟨x, _ | ⟨y, t⟩⟩
  ·exact ⟨rfl, rfl, ⟨rfl, Ye⟩, A0' Ye A2', ⟨rfl, Ye⟩, A0' Ye (A0' (AB' _ _) A2')⟩
  ·exact ⟨rfl, rfl, ⟨rfl, Ye⟩, A0' Ye A2', ⟨rfl, Ye⟩, A0' Ye (A0' (AB' _ _) A2')⟩
  ·exact ⟨rfl, rfl, ⟨rfl, Ye⟩, A0' Ye A2', ⟨rfl, Ye⟩, A0' Ye (A0' (AB' _ _) A2')⟩
theorem cRw_ok {oa : Option Addr} {r l2 l3 : Bs} (h : BAt W.cell? oa r) (h3 : l3 = l2 ++ r) (n2 : l2 ≠ []) (hb : l2.length + r.length <= 140737488351232) (F : HP) (hF : AF' W F) : C1OK Θ F fRw (cRw oa r.length c l2 l3) := by
 subst h3
 exact AX' hF (fun _ => .tuple []) (fun args => by split <;> first | exact RO.ret _ | exact RO.fail _) (fun _ => rfl) (fun _ _ => rw_tri _ _ W oa c r l2 h n2 hb) fun _ => ⟨rfl, rfl, ⟨rfl, Ye, Ye⟩, A0' Ye A2', ⟨Ye, Ye⟩, A0' Ye A2'⟩
theorem dD' (hN : LN W) {s1 s2 p1 : Nat} {l1 r : Bs} {oa : Option Addr} (h : BAt W.cell? oa r) (hp : p1 = l1.length) (hb : l1.length <= big) (h0 : 0 < l1.length) (e1 : s1 = ovr ones l1) (e2 : s2 = ovr s1 r) (F : HP) (hF : AF' W F) : C1OK Θ F fOv (cOvW s1 s2 p1 l1 oa r.length c) := by
 have hs1 : s1 < 4294967296 := by rw [e1]; exact D3' _ δ
 have c1 : C1OK Θ F fOv (cOvO 4294967295 s1 p1 l1) := by
  subst hp e1
  refine AX' hF (fun _ => uN (ovr ones l1)) (fun args => by split <;> first | exact RO.ret _ | exact RO.fail _) (fun _ => rfl) (fun _ _ => ?_) fun _ => ⟨rfl, rfl, ⟨Ye, rfl, Ye⟩, A0' (AB' _ _) A2', ⟨Ye, Ye⟩, A0' (AB' _ _) A2'⟩
  exact K9' W hN (pre := [.int .u32 (o' 4294967295)]) (H' := []) hb h0 rfl (fun i o h => by cases h) fun W' hN' oa c h _ => RP' W' hN' ones δ oa c l1 h
 have c2 : C1OK Θ F fOv (cOvR s1 s2 oa r.length c) := by
  subst e2
  exact AX' hF (fun _ => uN (ovr s1 r)) (fun _ => RO.ret _) (fun _ => rfl) (fun _ _ => RP' W hN s1 hs1 oa c r h) fun _ => ⟨rfl, rfl, ⟨Ye, Ye, Ye⟩, A2', ⟨Ye, Ye⟩, A2'⟩
 intro st W0 N hh w args vargs v h' n n' lg lg' cc p q1 q2 q3 q4 q5 q6; unfold cOvW at q1; split at q1
 ·exact c1 st W0 N hh w _ vargs v h' n n' lg lg' cc p q1 q2 q3 q4 q5 q6
 ·exact c2 st W0 N hh w _ vargs v h' n n' lg lg' cc p q1 q2 q3 q4 q5 q6
theorem AL' (h : a = b) : Wk (.v (.int .i64 a)) (.v (.int .i64 b)) := by subst h; exact Ya
theorem RF' (h : s < 4294967296) : IntKind.i64.wrap (IntKind.u32.wrap ((BitVec.ofInt 32 (o' s) ^^^ BitVec.ofInt 32 (o' 4294967295)).toNat : Int)) = o' (s ^^^ ones) := by
 have e := x_eq h (show 4294967295 < 4294967296 by decide); have hlt : s ^^^ ones < 4294967296 := Nat.xor_lt_two_pow (n := 32) h δ; rw [e]; exact IntWalk.i64_in _ (by show (-9223372036854775808 : Int) <= ((s ^^^ ones : Nat) : Int) /\ ((s ^^^ ones : Nat) : Int) <= 9223372036854775807; omega)
theorem KO' (W : World) (hN : LN W) (oa : Option Addr) (c : Nat) (r : Bs) (h : BAt W.cell? oa r) (hm : r.length <= most) : Tri Θ W fWp [slV oa r.length c] [] (.tuple [sB 1000 (AH' r).length, iv 0]) [(1000, rB (AH' r))] := by
 have hm' : r.length <= 1048576 := hm; have hs1 : ovr ones (be4 r.length) < 4294967296 := D3' _ δ; have hs2 : ovr (ovr ones (be4 r.length)) r < 4294967296 := D3' _ hs1
 have d1 := fun F => cLo_ok (n := r.length) (sm := sumB r) (l1 := be4 r.length) (l2 := be4 r.length ++ be4 (sumB r)) rfl rfl F
 have hl3 : (be4 r.length ++ be4 (sumB r) ++ r).length = 8 + r.length := B2' r
 have d2 := fun F => cBy_ok (p1 := 4) (p3 := (AH' r).length) (l1 := be4 r.length) (l3 := be4 r.length ++ be4 (sumB r) ++ r) rfl rfl (by rw [DG']; decide) (by rw [hl3]; show _ <= 140737488351232; omega) (by simp [be4]) (by simp [be4]) F
 have d3 := fun F hF => cRw_ok (W := W) (oa := oa) (c := c) (r := r) (l2 := be4 r.length ++ be4 (sumB r)) (l3 := be4 r.length ++ be4 (sumB r) ++ r) h rfl (by simp [be4]) (by show (be4 r.length ++ be4 (sumB r)).length + _ <= _; rw [la', DG', DG']; omega) F hF
 have d4 := fun F hF => dD' (W := W) hN (s1 := ovr ones (be4 r.length)) (s2 := ovr (ovr ones (be4 r.length)) r) (p1 := 4) (l1 := be4 r.length) (r := r) (oa := oa) (c := c) h rfl (by rw [DG']; decide) (by rw [DG']; decide) rfl rfl F hF
 refine AJ' (con := conWp oa r.length c (sumB r) 4 (AH' r).length (ovr ones (be4 r.length)) (ovr (ovr ones (be4 r.length)) r) (be4 r.length) (be4 r.length ++ be4 (sumB r)) (be4 r.length ++ be4 (sumB r) ++ r)) (hints := hWp r.length (sumB r)) (lc := []) [1100, 1101, 1102, 1103, 1104, 1105] rfl (fun F hF => A7' (cNw_ok F) (A7' (d1 F) (A7' (d2 F) (A7' (d4 F hF) (BA' (d3 F hF)))))) (fun F _ => noL) fun F => ?_
 clear d1 d2 d3 d4; have e0 : decide ((r.length : Int) > o' 1048576) = false := decide_eq_false (by simp only [Z0]; omega); refine Yj (oWp_eq W oa r.length c (sumB r) 4 (AH' r).length (ovr ones (be4 r.length)) (ovr (ovr ones (be4 r.length)) r) (be4 r.length) (be4 r.length ++ be4 (sumB r)) (be4 r.length ++ be4 (sumB r) ++ r) F) ⟨⟨?_, (AR' (vs' := [.tuple [sB 1000 (AH' r).length, iv 0]]) (H' := [(1000, rB (AH' r))]) [(1000, 1102)] χ χ (Yb) ⟨⟨_, rfl, A5' (A1' _ _) rfl⟩, Ye⟩).fits rfl⟩⟩
 simp only [ch', bl', true_and, and_true]; and_intros; all_goals first | (with_reducible exact A3' e0) | (with_reducible exact AL' (RF' hs2)) | (with_reducible exact Ye) | (with_reducible exact rfl) | (with_reducible exact Ya) | (with_reducible exact Yb) | (with_reducible exact Yc) | exact AL' (RF' hs2) | exact Ya | exact Yb | exact Yc | (refine OW.of_eq ?_; simp only [AO.ren, A1']; done)
noncomputable section
abbrev fUn : Nat := 54
abbrev fTk : Nat := 118
abbrev fRn : Nat := 97
def aRn (o : Nat) (cp : Cp) (j m : Nat) : List (Nat × AV) := [(4, iv (o' m)), (9, .slice 0 o 4 1 cp), (10, iv 4), (11, iv (o' j))]
def hRn (j m' : Nat) (b : UInt8) : BD' := AC' [ht' fRn 2 0, (fRn, 3, 1, hv (byv b)), (fRn, 4, 4, hv (iv (o' m'))), (fRn, 5, 0, hv (iv (o' (j + 1))))]
abbrev k19' (q0 : Nat) : Cnd := (wb' (decide (o' q0 < o' 4)) j')
theorem YQ' (o j m m' : Nat) (cp : Cp) (l : Bs) (b : UInt8) (F : HP) : AS' [] (hRn j m' b) [] default fRn (A4' fRn 2) (tms 0 22 (aRn o cp j m)) [(0, rB l)] [0] [4, 9, 10, 11] F = VT.leaf (AX.normal,[i' m',AV.slice 0 o 4 1 cp,i' 4,i' (j + 1)],22) [some (ce' (rowV encB l) 10)] 1100 ((k19' j).a ((f' (j.blt 4 = true)).a (((p' ((o + j * 1).blt (rowV encB l).length = true)).a ((p' ((rowV encB l).getD (o + j * 1) (u') = v' (vi' u8' ((rowV encB l).getD (o + j * 1) (u')).intOf))).a (f' (Wk (v' (vi' u8' ((rowV encB l).getD (o + j * 1) (u')).intOf)) (v' (vi' u8' ↑b.toNat)))))).a ((f' (Wk (z' (IntKind.i64.wrap ↑(BitVec.ofInt 64 (IntKind.i64.wrap (o' m * o' 256)) ||| BitVec.ofInt 64 (IntKind.i64.wrap ↑b.toNat)).toNat)) (i' m'))).a ((k2' j).a k1'))))) := χ
theorem YT' (o m : Nat) (cp : Cp) (l : Bs) (F : HP) : AS' [] (AC' [hf' fRn 2 0]) [] default fRn (A4' fRn 2) (tms 0 22 (aRn o cp 4 m)) [(0, rB l)] [0] [4, 9, 10, 11] F = VT.leaf (AX.exit 0,[i' m,AV.slice 0 o 4 1 cp,i' 4,i' 4],22) [some (ce' (rowV encB l) 10)] 1100 (k7'.a k1') := χ
def gRn : List AV -> AP (Nat × Nat × Cp) := fun tmps => match getL tmps 9 with
 | .slice k o _ _ cp => .ret (k, o, cp)
 | _ => .fail "octets"
def nmR (i : Nat) : Nat -> Nat := fun k => match k with | 0 => i | k => k
def by04 (a b : Nat) : Nat -> Nat
 | 0 => a
 | _ => b
def lRn (l : Bs) (n1 n2 : Nat) : List AV -> AP (AX × List AV) := mkL gRn (fun q => q.2.1 = 0 \/ q.2.1 = 4) (fun q => nmR q.1) (fun q => tms 0 22 (aRn q.2.1 q.2.2 0 0)) (fun _ => [(0, rB l)]) (fun q => .leaf (.exit 0) (tms 0 22 [(4, iv (o' (by04 n1 n2 q.2.1)))]) [(0, rB l)])
def cCl8 (a : Addr) (c : Nat) (l : Bs) : List AV -> Option (AP AV) := mkC (fun _ => .ret ()) (fun _ => True) (fun _ k => k) (fun _ => [slV (some a) 8 c]) (fun _ => []) (fun _ => .leaf .ret [sB 1000 8] [(1000, rB l)])
def RX' : AV -> AP Nat := fun x => match x with
 | .v v => match v with
  | .int _ m => match m with
   | .ofNat n => .ret n
   | _ => .fail "number"
  | _ => .fail "number"
 | _ => .fail "number"
def slOf : AV -> AP (Option Addr × Nat × Nat) := fun x => match x with
 | .v v => match v with
  | .slice a n c => .ret (a, n, c)
  | _ => .fail "slice"
 | _ => .fail "slice"
def gOvR : List AV -> AP (Nat × Option Addr × Nat × Nat) := fun args => match args with
 | x :: y :: _ => (RX' x).bind fun s => (slOf y).bind fun z => .ret (s, z.1, z.2.1, z.2.2)
 | _ => .fail "over"
structure OvP (W : World) (f : Nat -> Option Addr -> Nat -> Nat) (q : Nat × Option Addr × Nat × Nat) : Prop where
 lt : q.1 < 4294967296
 at' : ∃ r : Bs, r.length = q.2.2.1 /\ BAt W.cell? q.2.1 r /\ f q.1 q.2.1 q.2.2.1 = ovr q.1 r
def cOvF (W : World) (f : Nat -> Option Addr -> Nat -> Nat) : List AV -> Option (AP AV) := mkC gOvR (OvP W f) (fun _ k => k) (fun q => [uN q.1, slV q.2.1 q.2.2.1 q.2.2.2]) (fun q => []) (fun q => .leaf .ret [uN (f q.1 q.2.1 q.2.2.1)] [])
def hUn : List (Nat × Nat × Nat × Hint) := [hf' fUn 1 2, (fUn, 3, 1, h0), ht' fTk 2 4, hf' fTk 2 7, hf' fTk 2 15, hf' fTk 4 4]
abbrev k20' (q0 : Nat) : Cnd := (wb' (decide (↑q0 < o' 8)) j')
theorem Y0' (W : World) (oa : Option Addr) (n c : Nat) (F : HP) : wRun [] (AC' [ht' fUn 1 2]) [] W fUn [slV oa n c] [] [] F = VT.leaf (AV.tuple [e',i' 0,i' 3]) [] 1100 ((k20' n).a k1') := χ
abbrev k21' (q0 : Nat) : Cnd := (wb' (decide (o' q0 > o' 1048576)) j')
theorem XZ' (W : World) (a : Addr) (n c n1 n2 : Nat) (l : Bs) (F : HP) : wRun [(fCl, cCl8 a c l)] (AC' (hUn ++ [ht' fUn 5 1])) [(fRn, 2, A4' fRn 2, lRn l n1 n2)] W fUn [slV (some a) n c] [] [] F = VT.leaf (AV.tuple [e',i' 0,i' 1]) [] 1102 ((wb' (decide (↑n < o' 8)) g').a (((p' (0 <= 8)).a (f' (8 <= c))).a ((((Cnd.p True).a (f' (VW [v' (sl' (some a) 8 c)] [v' (sl' (some a) 8 c)]))).a t').a (((((fe' true).a ((ee' (i' 0)).a ((f' (Wk (b' true) j')).a ((f' (Wk (b' false) g')).a ((fe' true).a ((f' (Wk (b' false) g')).a ((ee' (i' 0)).a ((f' (Wk (b' false) g')).a ((fe' true).a ((tt'.a (ee' true)).a ((fe' true).a ((tt'.a (ee' true)).a ((fe' true).a t'))))))))))))).a ((p' ((fRn,2,A4' fRn 2,lRn l n1 n2).snd.snd.fst = (fRn,2,A4' fRn 2,lRn l n1 n2).snd.snd.fst)).a ((p' (0 = 0 \/ 0 = 4)).a ((p' (VW (pt' 1101 0::i' 4::u'::u'::i' 0::u'::u'::pt' 1101 0::i' 4::AV.slice 1100 0 4 1 (Cp.ex 4)::i' 4::i' 0::ru8 (u'::u'::[])) (ra4 (i' 0::ra4 (AV.slice 1100 0 4 1 (Cp.ex 4)::i' 4::i' 0::ra8 (a'::a'::[])))))).a (f' (OW (ce' (AV.rens (sgN (fun k => k) [1000] 1100) (rowV encB l)) 10) (ce' (AV.rens (nmR 1100) (rowV encB l)) 10))))))).a t').a (((((fe' true).a ((ee' (i' 0)).a ((f' (Wk (b' true) j')).a ((f' (Wk (b' false) g')).a ((fe' true).a ((f' (Wk (b' false) g')).a ((ee' (i' 0)).a ((f' (Wk (b' false) g')).a ((fe' true).a ((tt'.a (ee' true)).a ((fe' true).a ((tt'.a (ee' true)).a ((fe' true).a t'))))))))))))).a ((p' ((fRn,2,A4' fRn 2,lRn l n1 n2).snd.snd.fst = (fRn,2,A4' fRn 2,lRn l n1 n2).snd.snd.fst)).a ((p' (4 = 0 \/ 4 = 4)).a ((p' (VW (pt' 1101 0::i' 4::u'::u'::i' 0::u'::u'::pt' 1101 0::i' 4::AV.slice 1100 4 4 1 (Cp.ex 4)::i' 4::i' 0::ru8 (u'::u'::[])) (ra4 (i' 0::ra4 (AV.slice 1100 4 4 1 (Cp.ex 4)::i' 4::i' 0::ra8 (a'::a'::[])))))).a (f' (OW (ce' (AV.rens (sgN (nmR 1100) [] 0) (rowV encB l)) 10) (ce' (AV.rens (nmR 1100) (rowV encB l)) 10))))))).a t').a ((k21' n1).a k1')))))) := χ
abbrev h22' (q0 q1 : Nat) (q2 : Addr) (q3 : Bs) (q4 q5 q6 q7 q8 : Nat) (z : Cnd) : Cnd := ((wb' (decide (↑q0 < o' 8)) g').a (((p' (0 <= 8)).a (f' (8 <= q1))).a ((((p' True).a (f' (VW [v' (sl' (some q2) 8 q1)] [v' (sl' (some q2) 8 q1)]))).a t').a (((((fe' true).a ((ee' (i' 0)).a ((f' (Wk (b' true) j')).a ((f' (Wk (b' false) g')).a ((fe' true).a ((f' (Wk (b' false) g')).a ((ee' (i' 0)).a ((f' (Wk (b' false) g')).a ((fe' true).a ((tt'.a (ee' true)).a ((fe' true).a ((tt'.a (ee' true)).a ((fe' true).a t'))))))))))))).a ((p' ((fRn,2,A4' fRn 2,lRn q3 q4 q5).snd.snd.fst = (fRn,2,A4' fRn 2,lRn q3 q4 q5).snd.snd.fst)).a ((p' (0 = 0 \/ 0 = 4)).a ((p' (VW (pt' q6 0::i' 4::u'::u'::i' 0::u'::u'::pt' q6 0::i' 4::AV.slice q7 0 4 1 (Cp.ex 4)::i' 4::i' 0::ru8 (u'::u'::[])) (ra4 (i' 0::ra4 (AV.slice q7 0 4 1 (Cp.ex 4)::i' 4::i' 0::ra8 (a'::a'::[])))))).a (f' (OW (ce' (AV.rens (sgN (fun k => k) [q8] q7) (rowV encB q3)) 10) (ce' (AV.rens (nmR q7) (rowV encB q3)) 10))))))).a t').a (((((fe' true).a ((ee' (i' 0)).a ((f' (Wk (b' true) j')).a ((f' (Wk (b' false) g')).a ((fe' true).a ((f' (Wk (b' false) g')).a ((ee' (i' 0)).a ((f' (Wk (b' false) g')).a ((fe' true).a ((tt'.a (ee' true)).a ((fe' true).a ((tt'.a (ee' true)).a ((fe' true).a t'))))))))))))).a ((p' ((fRn,2,A4' fRn 2,lRn q3 q4 q5).snd.snd.fst = (fRn,2,A4' fRn 2,lRn q3 q4 q5).snd.snd.fst)).a ((p' (4 = 0 \/ 4 = 4)).a ((p' (VW (pt' q6 0::i' 4::u'::u'::i' 0::u'::u'::pt' q6 0::i' 4::AV.slice q7 4 4 1 (Cp.ex 4)::i' 4::i' 0::ru8 (u'::u'::[])) (ra4 (i' 0::ra4 (AV.slice q7 4 4 1 (Cp.ex 4)::i' 4::i' 0::ra8 (a'::a'::[])))))).a (f' (OW (ce' (AV.rens (sgN (nmR q7) [] 0) (rowV encB q3)) 10) (ce' (AV.rens (nmR q7) (rowV encB q3)) 10))))))).a t').a ((wb' (decide (o' q4 > o' 1048576)) g').a z))))))
theorem XY' (W : World) (a : Addr) (n c n1 n2 : Nat) (l : Bs) (F : HP) : wRun [(fCl, cCl8 a c l)] (AC' (hUn ++ [hf' fUn 5 1, ht' fUn 7 4])) [(fRn, 2, A4' fRn 2, lRn l n1 n2)] W fUn [slV (some a) n c] [] [] F = VT.leaf (AV.tuple [e',i' 0,i' 3]) [] 1102 (h22' n c a l n1 n2 1101 1100 1000 ((wb' (decide (o' n1 > IntKind.i64.wrap (↑n - o' 8))) j').a k1')) := χ
def hU4 (b : Addr) (n1 : Nat) (x : Bool) : List (Nat × Nat × Nat × Hint) := [hf' fUn 5 1, hf' fUn 7 4, (fUn, 9, 1, hv (iv (o' (8 + n1)))), (fUn, 11, 1, h0), (fUn, 11, 8, hv (.lit x))]
abbrev k23' (q0 : World) (q1 : Nat -> Option Addr -> Nat -> Nat) (q2 : Addr) (q3 : Nat) (q4 : Addr) (q5 : Nat) : Cnd := ((p' (OvP q0 q1 (q1 (4294967295,(some q2,4,q3).fst,(some q2,4,q3).snd.fst,(some q2,4,q3).snd.snd).fst (4294967295,(some q2,4,q3).fst,(some q2,4,q3).snd.fst,(some q2,4,q3).snd.snd).snd.fst (4294967295,(some q2,4,q3).fst,(some q2,4,q3).snd.fst,(some q2,4,q3).snd.snd).snd.snd.fst,some q4,q5,q5))).a (f' (VW [v' (vi' IntKind.u32 (o' (q1 (4294967295,(some q2,4,q3).fst,(some q2,4,q3).snd.fst,(some q2,4,q3).snd.snd).fst (4294967295,(some q2,4,q3).fst,(some q2,4,q3).snd.fst,(some q2,4,q3).snd.snd).snd.fst (4294967295,(some q2,4,q3).fst,(some q2,4,q3).snd.fst,(some q2,4,q3).snd.snd).snd.snd.fst))),v' (sl' (some q4) q5 q5)] [v' (vi' IntKind.u32 (o' (q1 (4294967295,(some q2,4,q3).fst,(some q2,4,q3).snd.fst,(some q2,4,q3).snd.snd).fst (4294967295,(some q2,4,q3).fst,(some q2,4,q3).snd.fst,(some q2,4,q3).snd.snd).snd.fst (4294967295,(some q2,4,q3).fst,(some q2,4,q3).snd.fst,(some q2,4,q3).snd.snd).snd.snd.fst))),v' (sl' (some q4) q5 q5)])))
abbrev h24' (q0 : Nat) (q1 : World) (q2 : Nat -> Option Addr -> Nat -> Nat) (q3 : Addr) (z : Cnd) : Cnd := (((p' (0 <= 4)).a (f' (4 <= q0))).a (((p' (OvP q1 q2 (4294967295,some q3,4,q0))).a (f' (VW [v' (vi' IntKind.u32 (o' 4294967295)),v' (sl' (some q3) 4 q0)] [v' (vi' IntKind.u32 (o' 4294967295)),v' (sl' (some q3) 4 q0)]))).a z))
abbrev k25' (q0 q1 : Nat) (q2 q3 : Addr) : Cnd := ((p' (8 <= 8 + q0)).a ((p' (8 + q0 <= 8 + q0)).a ((p' (8 + q0 <= q1)).a (f' (Wk (v' (sl' (if 8 + q0 = 8 then some q2 else some (Addr.mk q2.block (q2.off + 8) none)) (8 + q0 - 8) (8 + q0 - 8))) (v' (sl' (some q3) q0 q0)))))))
abbrev k26' (q0 : Nat) : Cnd := (f' (Wk (z' (IntKind.i64.wrap (o' 8 + o' q0))) (i' (8 + q0))))
abbrev k27' (q0 q1 : Nat) : Cnd := (wb' (decide (o' q0 > IntKind.i64.wrap (↑q1 - o' 8))) g')
theorem XX' (W : World) (a b : Addr) (n c n1 n2 : Nat) (l : Bs) (f : Nat -> Option Addr -> Nat -> Nat) (F : HP) : wRun [(fCl, cCl8 a c l), (fOv, cOvF W f)] (AC' (hUn ++ hU4 b n1 true ++ [(fUn, 10, 3, h0v (.v (.slice (some b) n1 n1)))])) [(fRn, 2, A4' fRn 2, lRn l n1 n2)] W fUn [slV (some a) n c] [] [] F = VT.leaf (AV.tuple [e',i' 0,i' 9]) [] 1102 (h22' n c a l n1 n2 1101 1100 1000 ((k27' n1 n).a ((k26' n1).a ((k25' n1 c a b).a (h24' c W f a ((k23' W f a c b n1).a ((wb' (IntKind.i64.wrap (IntKind.u32.wrap ↑(BitVec.ofInt 32 (o' (f (f (4294967295,(some a,4,c).fst,(some a,4,c).snd.fst,(some a,4,c).snd.snd).fst (4294967295,(some a,4,c).fst,(some a,4,c).snd.fst,(some a,4,c).snd.snd).snd.fst (4294967295,(some a,4,c).fst,(some a,4,c).snd.fst,(some a,4,c).snd.snd).snd.snd.fst,(some b,n1,n1).fst,(some b,n1,n1).snd.fst,(some b,n1,n1).snd.snd).fst (f (4294967295,(some a,4,c).fst,(some a,4,c).snd.fst,(some a,4,c).snd.snd).fst (4294967295,(some a,4,c).fst,(some a,4,c).snd.fst,(some a,4,c).snd.snd).snd.fst (4294967295,(some a,4,c).fst,(some a,4,c).snd.fst,(some a,4,c).snd.snd).snd.snd.fst,(some b,n1,n1).fst,(some b,n1,n1).snd.fst,(some b,n1,n1).snd.snd).snd.fst (f (4294967295,(some a,4,c).fst,(some a,4,c).snd.fst,(some a,4,c).snd.snd).fst (4294967295,(some a,4,c).fst,(some a,4,c).snd.fst,(some a,4,c).snd.snd).snd.fst (4294967295,(some a,4,c).fst,(some a,4,c).snd.fst,(some a,4,c).snd.snd).snd.snd.fst,(some b,n1,n1).fst,(some b,n1,n1).snd.fst,(some b,n1,n1).snd.snd).snd.snd.fst)) ^^^ BitVec.ofInt 32 (o' 4294967295)).toNat) != o' n2) j').a k1'))))))) := χ
theorem XW' (W : World) (a b : Addr) (n c n1 n2 : Nat) (l : Bs) (f : Nat -> Option Addr -> Nat -> Nat) (F : HP) : wRun [(fCl, cCl8 a c l), (fOv, cOvF W f)] (AC' (hUn ++ hU4 b n1 false ++ [(fUn, 10, 3, h0v (.v (.slice (some b) n1 n1)))])) [(fRn, 2, A4' fRn 2, lRn l n1 n2)] W fUn [slV (some a) n c] [] [1100, 1101, 1102, 1103, 1104] F = VT.leaf (AV.tuple [AV.slice 1102 0 n1 1 (Cp.lo n1),i' (8 + n1),i' 0]) [some (ce' (AV.rens (sgN (nmR 1100) [] 0) (rowV encB l)) 10),some (ce' [AV.slice 1100 8 0 1 (Cp.lo 0),v' (vi' u8' (o' 0)),i' 0,i' 0] 298),some (ce' (vmap (B4' W b (n1 * 1))) 10),none,none] 1103 (h22' n c a l n1 n2 1101 1100 1000 ((k27' n1 n).a ((k26' n1).a ((k25' n1 c a b).a (h24' c W f a ((k23' W f a c b n1).a ((wb' (IntKind.i64.wrap (IntKind.u32.wrap ↑(BitVec.ofInt 32 (o' (f (f (4294967295,(some a,4,c).fst,(some a,4,c).snd.fst,(some a,4,c).snd.snd).fst (4294967295,(some a,4,c).fst,(some a,4,c).snd.fst,(some a,4,c).snd.snd).snd.fst (4294967295,(some a,4,c).fst,(some a,4,c).snd.fst,(some a,4,c).snd.snd).snd.snd.fst,(some b,n1,n1).fst,(some b,n1,n1).snd.fst,(some b,n1,n1).snd.snd).fst (f (4294967295,(some a,4,c).fst,(some a,4,c).snd.fst,(some a,4,c).snd.snd).fst (4294967295,(some a,4,c).fst,(some a,4,c).snd.fst,(some a,4,c).snd.snd).snd.fst (4294967295,(some a,4,c).fst,(some a,4,c).snd.fst,(some a,4,c).snd.snd).snd.snd.fst,(some b,n1,n1).fst,(some b,n1,n1).snd.fst,(some b,n1,n1).snd.snd).snd.fst (f (4294967295,(some a,4,c).fst,(some a,4,c).snd.fst,(some a,4,c).snd.snd).fst (4294967295,(some a,4,c).fst,(some a,4,c).snd.fst,(some a,4,c).snd.snd).snd.fst (4294967295,(some a,4,c).fst,(some a,4,c).snd.fst,(some a,4,c).snd.snd).snd.snd.fst,(some b,n1,n1).fst,(some b,n1,n1).snd.fst,(some b,n1,n1).snd.snd).snd.snd.fst)) ^^^ BitVec.ofInt 32 (o' 4294967295)).toNat) != o' n2) g').a (((p' (n1.ble n1 = true)).a ((p' (((List.range (n1 * 1)).all fun j => (W.cell? (b.add j)).isSome) = true)).a ((p' ((vmap (B4' W b (n1 * 1))).all AV.one = true)).a ((p' (Nat.blt 0 n1 = true)).a ((p' ((n1 * 1).ble 140737488355328 = true)).a (f' (n1.ble 9223372036854775807 = true))))))).a k1')))))))) := χ
theorem XV' (W : World) (a b : Addr) (n c n2 : Nat) (l : Bs) (f : Nat -> Option Addr -> Nat -> Nat) (F : HP) : wRun [(fCl, cCl8 a c l), (fOv, cOvF W f)] (AC' (hUn ++ hU4 b 0 false ++ [(fUn, 10, 3, h0v (.v (.slice (some b) 0 0))), (fUn, 13, 1, h0)])) [(fRn, 2, A4' fRn 2, lRn l 0 n2)] W fUn [slV (some a) n c] [] [] F = VT.leaf (AV.tuple [e',i' 8,i' 0]) [] 1102 ((wb' (decide (↑n < o' 8)) g').a (((p' (0 <= 8)).a (f' (8 <= c))).a ((((Cnd.p True).a (f' (VW [v' (sl' (some a) 8 c)] [v' (sl' (some a) 8 c)]))).a t').a (((((fe' true).a ((ee' (i' 0)).a ((f' (Wk (b' true) j')).a ((f' (Wk (b' false) g')).a ((fe' true).a ((f' (Wk (b' false) g')).a ((ee' (i' 0)).a ((f' (Wk (b' false) g')).a ((fe' true).a ((tt'.a (ee' true)).a ((fe' true).a ((tt'.a (ee' true)).a ((fe' true).a t'))))))))))))).a ((p' ((fRn,2,A4' fRn 2,lRn l 0 n2).snd.snd.fst = (fRn,2,A4' fRn 2,lRn l 0 n2).snd.snd.fst)).a ((p' (0 = 0 \/ 0 = 4)).a ((p' (VW (pt' 1101 0::i' 4::u'::u'::i' 0::u'::u'::pt' 1101 0::i' 4::AV.slice 1100 0 4 1 (Cp.ex 4)::i' 4::i' 0::ru8 (u'::u'::[])) (ra4 (i' 0::ra4 (AV.slice 1100 0 4 1 (Cp.ex 4)::i' 4::i' 0::ra8 (a'::a'::[])))))).a (f' (OW (ce' (AV.rens (sgN (fun k => k) [1000] 1100) (rowV encB l)) 10) (ce' (AV.rens (nmR 1100) (rowV encB l)) 10))))))).a t').a (((((fe' true).a ((ee' (i' 0)).a ((f' (Wk (b' true) j')).a ((f' (Wk (b' false) g')).a ((fe' true).a ((f' (Wk (b' false) g')).a ((ee' (i' 0)).a ((f' (Wk (b' false) g')).a ((fe' true).a ((tt'.a (ee' true)).a ((fe' true).a ((tt'.a (ee' true)).a ((fe' true).a t'))))))))))))).a ((p' ((fRn,2,A4' fRn 2,lRn l 0 n2).snd.snd.fst = (fRn,2,A4' fRn 2,lRn l 0 n2).snd.snd.fst)).a ((p' (4 = 0 \/ 4 = 4)).a ((p' (VW (pt' 1101 0::i' 4::u'::u'::i' 0::u'::u'::pt' 1101 0::i' 4::AV.slice 1100 4 4 1 (Cp.ex 4)::i' 4::i' 0::ru8 (u'::u'::[])) (ra4 (i' 0::ra4 (AV.slice 1100 4 4 1 (Cp.ex 4)::i' 4::i' 0::ra8 (a'::a'::[])))))).a (f' (OW (ce' (AV.rens (sgN (nmR 1100) [] 0) (rowV encB l)) 10) (ce' (AV.rens (nmR 1100) (rowV encB l)) 10))))))).a t').a (k7'.a ((wb' (decide (o' 0 > IntKind.i64.wrap (↑n - o' 8))) g').a ((f' (Wk (i' 8) (i' 8))).a (((p' (8 <= 8)).a ((p' (8 <= 8)).a ((p' (8 <= c)).a (f' (Wk (v' (sl' (some a) 0 0)) (v' (sl' (some b) 0 0))))))).a (h24' c W f a (((p' (OvP W f (f (4294967295,(some a,4,c).fst,(some a,4,c).snd.fst,(some a,4,c).snd.snd).fst (4294967295,(some a,4,c).fst,(some a,4,c).snd.fst,(some a,4,c).snd.snd).snd.fst (4294967295,(some a,4,c).fst,(some a,4,c).snd.fst,(some a,4,c).snd.snd).snd.snd.fst,some b,0,0))).a (f' (VW [v' (vi' IntKind.u32 (o' (f (4294967295,(some a,4,c).fst,(some a,4,c).snd.fst,(some a,4,c).snd.snd).fst (4294967295,(some a,4,c).fst,(some a,4,c).snd.fst,(some a,4,c).snd.snd).snd.fst (4294967295,(some a,4,c).fst,(some a,4,c).snd.fst,(some a,4,c).snd.snd).snd.snd.fst))),v' (sl' (some b) 0 0)] [v' (vi' IntKind.u32 (o' (f (4294967295,(some a,4,c).fst,(some a,4,c).snd.fst,(some a,4,c).snd.snd).fst (4294967295,(some a,4,c).fst,(some a,4,c).snd.fst,(some a,4,c).snd.snd).snd.fst (4294967295,(some a,4,c).fst,(some a,4,c).snd.fst,(some a,4,c).snd.snd).snd.snd.fst))),v' (sl' (some b) 0 0)]))).a ((wb' (IntKind.i64.wrap (IntKind.u32.wrap ↑(BitVec.ofInt 32 (o' (f (f (4294967295,(some a,4,c).fst,(some a,4,c).snd.fst,(some a,4,c).snd.snd).fst (4294967295,(some a,4,c).fst,(some a,4,c).snd.fst,(some a,4,c).snd.snd).snd.fst (4294967295,(some a,4,c).fst,(some a,4,c).snd.fst,(some a,4,c).snd.snd).snd.snd.fst,(some b,0,0).fst,(some b,0,0).snd.fst,(some b,0,0).snd.snd).fst (f (4294967295,(some a,4,c).fst,(some a,4,c).snd.fst,(some a,4,c).snd.snd).fst (4294967295,(some a,4,c).fst,(some a,4,c).snd.fst,(some a,4,c).snd.snd).snd.fst (4294967295,(some a,4,c).fst,(some a,4,c).snd.fst,(some a,4,c).snd.snd).snd.snd.fst,(some b,0,0).fst,(some b,0,0).snd.fst,(some b,0,0).snd.snd).snd.fst (f (4294967295,(some a,4,c).fst,(some a,4,c).snd.fst,(some a,4,c).snd.snd).fst (4294967295,(some a,4,c).fst,(some a,4,c).snd.fst,(some a,4,c).snd.snd).snd.fst (4294967295,(some a,4,c).fst,(some a,4,c).snd.fst,(some a,4,c).snd.snd).snd.snd.fst,(some b,0,0).fst,(some b,0,0).snd.fst,(some b,0,0).snd.snd).snd.snd.fst)) ^^^ BitVec.ofInt 32 (o' 4294967295)).toNat) != o' n2) g').a (k6'.a k1'))))))))))))) := χ
end
theorem KQ' (b : Bs) (c : UInt8) : val (b ++ [c]) = val b * 256 + c.toNat := by rw [val, List.foldl_append]; rfl
theorem UX' : ∀ {k : Nat} (b : Bs), b.length = k -> val b < 256 ^ k := by
 intro k
 induction k with
 | zero => intro b hb; rw [List.length_eq_zero_iff.1 hb]; decide
 | succ k ih =>
  intro b hb
  obtain ⟨l, c, rfl⟩ : ∃ l c, b = l ++ [c] := by
   rcases List.eq_nil_or_concat b with h | ⟨l, c, h⟩
   ·rw [h] at hb; cases hb
   ·exact ⟨l, c, by simpa using h⟩
  rw [KQ']; have := ih l (by simpa using hb); have := c.toNat_lt; rw [Nat.pow_succ]; omega
theorem D5' (h : n < 9223372036854775808) : IntKind.i64.wrap (n : Int) = (n : Int) := IntWalk.i64_in _ ω
theorem bv64 (h : n < 18446744073709551616) : (BitVec.ofInt 64 (n : Int)).toNat = n := by
 rw [BitVec.ofInt_natCast, BitVec.toNat_ofNat, Nat.mod_eq_of_lt h]
theorem or_eq {m : Nat} {b : UInt8} (h : m < 1099511627776) : IntKind.i64.wrap ((BitVec.ofInt 64 (IntKind.i64.wrap (o' m * o' 256)) ||| BitVec.ofInt 64 (IntKind.i64.wrap (b.toNat : Int))).toNat : Int) = o' (m * 256 + b.toNat) := by
 have hb := b.toNat_lt
 have e1 : (o' m * o' 256 : Int) = ((m * 256 : Nat) : Int) := by simp
 have w1 := D5' (n := m * 256) ω; have w2 := D5' (n := b.toNat) ω; rw [e1, w1, w2, BitVec.toNat_or, bv64 (n := m * 256) ω, bv64 (n := b.toNat) ω]
 have e2 : m * 256 ||| b.toNat = m * 256 + b.toNat := by
  have := Nat.shiftLeft_add_eq_or_of_lt (i := 8) (b := b.toNat) ω m; rw [Nat.shiftLeft_eq] at this; exact this.symm
 rw [e2, D5' ω]; rfl
theorem rn_tri (l : Bs) (o : Nat) (cp : Cp) (hl : l.length = 8) (ho : o = 0 \/ o = 4) : LTri Θ default (A4' fRn 2) (tms 0 22 (aRn o cp 0 0)) [(0, rB l)] (.exit 0) (tms 0 22 [(4, iv (o' (val ((l.drop o).take 4))))]) [(0, rB l)] := by
 have ho8 : o + 4 <= 8 := ω
 refine AT' (W := default) (g := fRn) (b := A4' fRn 2) (σ := {j : Nat // j <= 4}) 22 (fun j => aRn o cp j.1 (val ((l.drop o).take j.1))) (fun j => [(0, rB l)]) (.exit 0) [(4, iv (o' (val ((l.drop o).take 4))))] [(0, rB l)] (fun j => 4 - j.1) [0] [4, 9, 10, 11] (by intro h; cases h) (fun _ => rfl) rfl ?_ ⟨0, Nat.zero_le _⟩
 rintro ⟨j, hj⟩; simp only
 by_cases h1 : j < 4
 ·obtain ⟨b, hb⟩ := BU' (l := l.drop o) (i := j) (by rw [ld']; omega)
  have hbl : l.getD (o + j) 0 = b := by
   rw [List.getElem?_drop] at hb; rw [List.getD, hb]; rfl
  have hw := BR' j ω; have e1 : decide (o' j < o' 4) = true := ltTN h1; have hvl : val ((l.drop o).take j) < 256 ^ j := UX' _ (by rw [List.length_take, ld']; omega)
  have hv2 : val ((l.drop o).take j) < 1099511627776 := Nat.lt_of_lt_of_le hvl (by
   have : (256 : Nat) ^ j <= 256 ^ 4 := Nat.pow_le_pow_right δ ω
   exact Nat.le_trans this δ)
  have hnx : val ((l.drop o).take (j + 1)) = val ((l.drop o).take j) * 256 + b.toNat := by rw [C6' hb, KQ']
  have g1 : (o + j * 1) < (rowV encB l).length := by rw [BJ', hl]; omega
  have g2 : (rowV encB l).getD (o + j * 1) AV.undef = byv b := by
   have := rB_get l (o + j) ω AV.undef
   rw [show 0 + (o + j) * 1 = o + j * 1 by omega] at this
   rw [this, hbl]
  have g3 : (rowV encB l).getD (o + j * 1) AV.undef = v' (vi' u8' (b.toNat : Int)) := g2
  refine ⟨[], hRn j (val ((l.drop o).take j) * 256 + b.toNat) b, [], fun F hF => noC, fun _ _ => noL, fun F => ?_⟩
  refine Yj (YQ' o j (val ((l.drop o).take j)) (val ((l.drop o).take j) * 256 + b.toNat) cp l b F) ⟨⟨?_, rfl, .inl ⟨rfl, ⟨j + 1, h1⟩, by simp only; omega, [], by kernel_rfl, by kernel_rfl, ⟨by rw [hnx]; exact Ya, Ya, Ya, Ya, Ye⟩, ⟨_, rfl, OW.of_eq (KA' _ _).symm⟩, Ye⟩⟩⟩
  simp only [ch', bl', true_and, and_true, e1, h1, g1, g3]; and_intros; all_goals first | (with_reducible exact GW' hw) | (with_reducible exact A3' e1) | (with_reducible exact AL' (or_eq hv2)) | exact Kw36'
 ·have hje : j = 4 := ω
  subst hje
  refine ⟨[], AC' [hf' fRn 2 0], [], fun _ _ => noC, fun _ _ => noL, fun F => ?_⟩
  refine Yj (YT' o (val ((l.drop o).take 4)) cp l F) ⟨⟨?_, rfl, .inr ⟨rfl, [], by kernel_rfl, by kernel_rfl, ⟨Ya, Ye⟩, ⟨_, rfl, OW.of_eq (KA' _ _).symm⟩, Ye⟩⟩⟩
  simp only [ch', and_true]; exact A3' rfl
theorem gRn_ro : ∀ args, RO (gRn args) := by
 intro args; unfold gRn; split
 ·exact RO.ret _
 ·exact RO.fail _
theorem MG' {l : Bs} {n1 n2 : Nat} (hl : l.length = 8) (h1 : n1 = val (l.take 4)) (h2 : n2 = val ((l.drop 4).take 4)) (F : HP) (W : World) (hF : AF' W F) : L1OK Θ F (A4' fRn 2) (lRn l n1 n2) :=
 B7' (W := default) B8' gRn_ro (fun q hq => by
  obtain ⟨k, o, cp⟩ := q; have hq : o = 0 \/ o = 4 := hq; have := rn_tri l o cp hl hq
  rcases hq with rfl | rfl
  ·rw [List.drop_zero, <- h1] at this; exact this
  ·rw [<- h2] at this; exact this) fun q => by
   simp only [RT.pick]; exact AY' rfl rfl (A0' Ye (A0' rfl (A0' Ye (A0' Ye A2')))) (A0' (AB' _ _) A2') (A0' Ye A2') (A0' (AB' _ _) A2')
def TO' (W : World) (oa : Option Addr) (n : Nat) : Bs := (List.range n).map fun i => match oa with
 | some a => match W.cell? (a.add (i * 1)) with
  | some (.int _ k) => UInt8.ofNat k.toNat
  | _ => 0
 | none => 0
theorem TN' {oa : Option Addr} {r : Bs} (h : BAt W.cell? oa r) : TO' W oa r.length = r := by
 refine List.ext_getElem (by simp [TO']) fun i h1 h2 => ?_
 obtain ⟨a, rfl, q⟩ := h.2 i r[i] (List.getElem?_eq_getElem h2); simp only [TO', List.getElem_map, List.getElem_range, q]; simp
def fOvr (W : World) (s : Nat) (oa : Option Addr) (n : Nat) : Nat := ovr s (TO' W oa n)
theorem ovp {oa : Option Addr} {r : Bs} (h : BAt W.cell? oa r) (hs : s < 4294967296) (hn : n = r.length) : OvP W (fOvr W) (s, oa, n, c) /\ fOvr W s oa n = ovr s r := by
 subst hn
 have e : fOvr W s oa r.length = ovr s r := by rw [fOvr, TN' h]
 exact ⟨⟨hs, r, rfl, h, e⟩, e⟩
theorem U3' (x : AV) : RO (RX' x) := by
 unfold RX'
 repeat' split
 all_goals first | exact RO.ret _ | exact RO.fail _
theorem WM' (x : AV) : RO (slOf x) := by
 unfold slOf
 repeat' split
 all_goals first | exact RO.ret _ | exact RO.fail _
theorem T5' {α β : Type} {p : AP α} {f : α -> AP β} (h : RO p) (hf : ∀ a, RO (f a)) : RO (p.bind f) := by
 induction h with
 | ret a => exact hf a
 | fail why => exact RO.fail _
 | read i k h ih => exact RO.read _ _ fun o => ih o
theorem bS' : ∀ args, RO (gOvR args) := by
 intro args; unfold gOvR; split
 ·exact T5' (U3' _) fun s => T5' (WM' _) fun z => RO.ret _
 ·exact RO.fail _
theorem OG' (hN : LN W) (f : Nat -> Option Addr -> Nat -> Nat) (F : HP) (hF : AF' W F) : C1OK Θ F fOv (cOvF W f) :=
 AX' hF (fun q => uN (f q.1 q.2.1 q.2.2.1)) bS' (fun _ => rfl) (fun q hq => by
  obtain ⟨s, oa, n, c⟩ := q; obtain ⟨hs, r, hr, hB, e⟩ := hq; have hr : r.length = n := hr; subst hr; have e : f s oa r.length = ovr s r := e; show Tri Θ W fOv [uN s, slV oa r.length c] [] (uN (f s oa r.length)) []; rw [e]
  exact RP' W hN s hs oa c r hB) fun _ => ⟨rfl, rfl, ⟨Ye, Ye, Ye⟩, A2', ⟨Ye, Ye⟩, A2'⟩
theorem dO' (a : Addr) (m n : Nat) : (a.add m).add n = a.add (m + n) := by
 unfold Addr.add
 by_cases hm : m = 0
 ·subst hm; simp
 ·by_cases hn : n = 0
  ·subst hn; simp
  ·simp [hm, hn, Nat.add_assoc]
theorem BAt.take {C : Mem} {oa : Option Addr} {l : Bs} (h : BAt C oa l) (k : Nat) : BAt C oa (l.take k) := ⟨Nat.le_trans (by rw [List.length_take]; omega) h.1, fun i b hb => by
 rw [List.getElem?_take] at hb; split at hb
 ·exact h.2 i b hb
 ·cases hb⟩
theorem BAt.drop {C : Mem} {a : Addr} {l : Bs} (h : BAt C (some a) l) (k : Nat) : BAt C (some (a.add k)) (l.drop k) := ⟨Nat.le_trans (by rw [ld']; omega) h.1, fun i b hb => by
 rw [List.getElem?_drop] at hb; obtain ⟨a', e, q⟩ := h.2 _ b hb; obtain rfl := Option.some.inj e; refine ⟨_, rfl, ?_⟩; rw [dO', Nat.mul_one]
 rwa [Nat.mul_one] at q⟩
theorem JJ' {a : Addr} {l : Bs} (h : BAt W.cell? (some a) l) (hl : l.length = 8) (F : HP) (hF : AF' W F) : C1OK Θ F fCl (cCl8 a c l) :=
 AX' hF (fun _ => sB 1000 8) (fun _ => RO.ret _) (fun _ => rfl) (fun _ _ => by have := SI' W (some a) c l h ω; rw [hl] at this; exact this) fun _ => ⟨rfl, rfl, ⟨Ye, Ye⟩, A2', ⟨rfl, Ye⟩, A0' (AB' _ _) A2'⟩
theorem gtT {a b : Nat} (h : b < a) : decide ((a : Int) > (b : Int)) = true := decide_eq_true ω
theorem gtF {a b : Nat} (h : a <= b) : decide ((a : Int) > (b : Int)) = false := decide_eq_false ω
theorem IV' {oa : Option Addr} {l : Bs} (h : BAt W.cell? oa l) (h8 : 8 <= l.length) : ∃ a, oa = some a := by
 obtain ⟨x, hx⟩ := BU' (l := l) (i := 0) ω; obtain ⟨a, rfl, _⟩ := h.2 0 x hx; exact ⟨a, rfl⟩
theorem G7' {l : Bs} : (l.take 8).take 4 = l.take 4 /\ ((l.take 8).drop 4).take 4 = (l.drop 4).take 4 := by
 refine ⟨by rw [List.take_take]; rfl, ?_⟩; rw [List.drop_take, List.take_take]; rfl
theorem wk_v {a b : Value} (h : a = b) : Wk (.v a) (.v b) := by subst h; exact Ya
def ER' (a : Addr) (n : Nat) : Addr := if n = 0 then a else a.add 8
theorem KJ' (a : Addr) (n : Nat) : sl' (if 8 + n = 7 + 1 then some a else Option.map (fun x => x.add ((7 + 1) * 1)) (some a)) (8 + n - (7 + 1)) (8 + n - (7 + 1)) = sl' (some (ER' a n)) n n := by
 have e : 8 + n - (7 + 1) = n := ω
 rw [e]; unfold ER'
 by_cases h : n = 0
 ·subst h; rfl
 ·rw [if_neg ω, if_neg h]; rfl
theorem VM' {C : Mem} {a : Addr} {l : Bs} (h : BAt C (some a) l) (n : Nat) (hn : n <= l.length - 8) : BAt C (some (ER' a n)) ((l.drop 8).take n) := by
 unfold ER'; split
 ·rename_i h0; subst h0; rw [List.take_zero]; exact ⟨Nat.zero_le _, fun i b hb => by simp at hb⟩
 ·exact (h.drop 8).take n
theorem un1 (W : World) (oa : Option Addr) (c n : Nat) (h : n < 8) : Tri Θ W fUn [slV oa n c] [] (.tuple [nilS, iv 0, iv 3]) [] := by
 have e8 : decide ((n : Int) < o' 8) = true := decide_eq_true (by simp only [Z0]; omega)
 refine AJ' (con := []) (hints := AC' [ht' fUn 1 2]) (lc := []) [] rfl (fun F hF => noC) (fun F hF => noL) fun F => ?_
 refine Yj (Y0' W oa n c F) ⟨⟨?_, (AR' (vs' := [.tuple [nilS, iv 0, iv 3]]) (H' := []) [] rfl rfl (Yb) trivial).fits rfl⟩⟩; simp only [ch', and_true]; exact A3' e8
theorem un2 (W : World) (hN : LN W) (a : Addr) (c : Nat) (l : Bs) (h : BAt W.cell? (some a) l) (hc : l.length <= c) (h8 : 8 <= l.length) (hm : most < val (l.take 4)) : Tri Θ W fUn [slV (some a) l.length c] [] (.tuple [nilS, iv 0, iv 1]) [] := by
 have hb : 8 <= c := Nat.le_trans h8 hc; have e8 : decide ((l.length : Int) < o' 8) = false := decide_eq_false (by simp only [Z0]; omega)
 have hl8 : (l.take 8).length = 8 := by rw [List.length_take]; omega
 have k1 := fun F hF => JJ' (W := W) (c := c) (h.take 8) hl8 F hF
 have k2 := fun F hF => MG' (n1 := val (l.take 4)) (n2 := val ((l.drop 4).take 4)) hl8 (by rw [G7'.1]) (by rw [G7'.2]) F W hF
 have em : decide (o' (val (l.take 4)) > o' 1048576) = true := gtT hm
 refine AJ' (con := [(fCl, cCl8 a c (l.take 8))]) (hints := AC' (hUn ++ [ht' fUn 5 1])) (lc := [(fRn, 2, A4' fRn 2, lRn (l.take 8) (val (l.take 4)) (val ((l.drop 4).take 4)))]) [] rfl (fun F hF => BA' (k1 F hF)) (fun F hF => CK' (k2 F hF)) fun F => ?_
 clear k1 k2; refine Yj (XZ' W a l.length c (val (l.take 4)) (val ((l.drop 4).take 4)) (l.take 8) F) ⟨⟨?_, (AR' (vs' := [.tuple [nilS, iv 0, iv 1]]) (H' := []) [] χ χ (Yb) trivial).fits rfl⟩⟩; exact Cw3'
theorem un3 (W : World) (hN : LN W) (a : Addr) (c : Nat) (l : Bs) (h : BAt W.cell? (some a) l) (hc : l.length <= c) (h8 : 8 <= l.length) (hm : val (l.take 4) <= most) (hg : l.length - 8 < val (l.take 4)) : Tri Θ W fUn [slV (some a) l.length c] [] (.tuple [nilS, iv 0, iv 3]) [] := by
 have hb : 8 <= c := Nat.le_trans h8 hc; have e8 : decide ((l.length : Int) < o' 8) = false := decide_eq_false (by simp only [Z0]; omega)
 have hl8 : (l.take 8).length = 8 := by rw [List.length_take]; omega
 have k1 := fun F hF => JJ' (W := W) (c := c) (h.take 8) hl8 F hF
 have k2 := fun F hF => MG' (n1 := val (l.take 4)) (n2 := val ((l.drop 4).take 4)) hl8 (by rw [G7'.1]) (by rw [G7'.2]) F W hF
 have em : decide (o' (val (l.take 4)) > o' 1048576) = false := gtF hm; have hlb : l.length <= 140737488351232 := h.1
 have hsub : IntKind.i64.wrap ((l.length : Int) - o' 8) = ((l.length - 8 : Nat) : Int) := by
  rw [show ((l.length : Int) - o' 8) = ((l.length - 8 : Nat) : Int) by simp only [Z0]; omega]
  exact D5' ω
 have el : decide (o' (val (l.take 4)) > IntKind.i64.wrap ((l.length : Int) - o' 8)) = true := by rw [hsub]; exact gtT hg
 refine AJ' (con := [(fCl, cCl8 a c (l.take 8))]) (hints := AC' (hUn ++ [hf' fUn 5 1, ht' fUn 7 4])) (lc := [(fRn, 2, A4' fRn 2, lRn (l.take 8) (val (l.take 4)) (val ((l.drop 4).take 4)))]) [] rfl (fun F hF => BA' (k1 F hF)) (fun F hF => CK' (k2 F hF)) fun F => ?_
 clear k1 k2; refine Yj (XY' W a l.length c (val (l.take 4)) (val ((l.drop 4).take 4)) (l.take 8) F) ⟨⟨?_, (AR' (vs' := [.tuple [nilS, iv 0, iv 3]]) (H' := []) [] χ χ (Yb) trivial).fits rfl⟩⟩; exact Cw3'
theorem un4 (W : World) (hN : LN W) (a : Addr) (c : Nat) (l : Bs) (h : BAt W.cell? (some a) l) (hc : l.length <= c) (h8 : 8 <= l.length) (hm : val (l.take 4) <= most) (hg : val (l.take 4) <= l.length - 8) (hx : ¬ ovr (ovr ones (l.take 4)) ((l.drop 8).take (val (l.take 4))) ^^^ ones = val ((l.drop 4).take 4)) : Tri Θ W fUn [slV (some a) l.length c] [] (.tuple [nilS, iv 0, iv 9]) [] := by
 have hb : 8 <= c := Nat.le_trans h8 hc; have e8 : decide ((l.length : Int) < o' 8) = false := decide_eq_false (by simp only [Z0]; omega)
 have hl8 : (l.take 8).length = 8 := by rw [List.length_take]; omega
 have k1 := fun F hF => JJ' (W := W) (c := c) (h.take 8) hl8 F hF
 have k2 := fun F hF => MG' (n1 := val (l.take 4)) (n2 := val ((l.drop 4).take 4)) hl8 (by rw [G7'.1]) (by rw [G7'.2]) F W hF
 have em : decide (o' (val (l.take 4)) > o' 1048576) = false := gtF hm; have hlb : l.length <= 140737488351232 := h.1
 have hsub : IntKind.i64.wrap ((l.length : Int) - o' 8) = ((l.length - 8 : Nat) : Int) := by
  rw [show ((l.length : Int) - o' 8) = ((l.length - 8 : Nat) : Int) by simp only [Z0]; omega]
  exact D5' ω
 have el : decide (o' (val (l.take 4)) > IntKind.i64.wrap ((l.length : Int) - o' 8)) = false := by rw [hsub]; exact gtF hg
 have hmm : val (l.take 4) <= 1048576 := hm; have hD := VM' h _ hg
 have hdl : ((l.drop 8).take (val (l.take 4))).length = val (l.take 4) := by rw [List.length_take, ld']; omega
 have p1 := ovp (c := c) (h.take 4) (show (4294967295 : Nat) < 4294967296 by decide) (n := 4) (by rw [List.length_take]; omega); have hs1 : ovr ones (l.take 4) < 4294967296 := D3' _ δ; have p2 := ovp (s := fOvr W 4294967295 (some a) 4) (c := val (l.take 4)) hD (by rw [p1.2]; exact hs1) (n := val (l.take 4)) hdl.symm
 have hs2 : fOvr W (fOvr W 4294967295 (some a) 4) (some (ER' a (val (l.take 4)))) (val (l.take 4)) < 4294967296 := by rw [p2.2]; exact D3' _ (by rw [p1.2]; exact hs1)
 have hsm := RF' hs2
 have hfin : fOvr W (fOvr W 4294967295 (some a) 4) (some (ER' a (val (l.take 4)))) (val (l.take 4)) = ovr (ovr ones (l.take 4)) ((l.drop 8).take (val (l.take 4))) := by rw [p2.2, p1.2]; rfl
 have e9 : IntKind.i64.wrap (o' 8 + o' (val (l.take 4))) = o' (8 + val (l.take 4)) := by
  rw [show (o' 8 + o' (val (l.take 4)) : Int) = ((8 + val (l.take 4) : Nat) : Int) by simp]
  exact D5' ω
 have kO := fun F hF => OG' hN (fOvr W) F hF
 have es : (IntKind.i64.wrap (IntKind.u32.wrap ((BitVec.ofInt 32 (o' (fOvr W (fOvr W 4294967295 (some a) 4) (some (ER' a (val (l.take 4)))) (val (l.take 4)))) ^^^ BitVec.ofInt 32 (o' 4294967295)).toNat : Int)) != o' (val ((l.drop 4).take 4))) = true := by
  rw [hsm, hfin]
  exact bne_iff_ne.2 fun e => hx (Int.ofNat.inj e)
 refine AJ' (con := [(fCl, cCl8 a c (l.take 8)), (fOv, cOvF W (fOvr W))]) (hints := AC' (hUn ++ hU4 (ER' a (val (l.take 4))) (val (l.take 4)) true ++ [(fUn, 10, 3, h0v (.v (.slice (some (ER' a (val (l.take 4)))) (val (l.take 4)) (val (l.take 4)))))])) (lc := [(fRn, 2, A4' fRn 2, lRn (l.take 8) (val (l.take 4)) (val ((l.drop 4).take 4)))]) [] rfl (fun F hF => A7' (k1 F hF) (BA' (kO F hF))) (fun F hF => CK' (k2 F hF)) fun F => ?_
 clear k1 k2; refine Yj (XX' W a (ER' a (val (l.take 4))) l.length c (val (l.take 4)) (val ((l.drop 4).take 4)) (l.take 8) (fOvr W) F) ⟨⟨?_, (AR' (vs' := [.tuple [nilS, iv 0, iv 9]]) (H' := []) [] χ χ (Yb) trivial).fits rfl⟩⟩; exact Cw4'
theorem un5 (W : World) (hN : LN W) (a : Addr) (c : Nat) (l : Bs) (h : BAt W.cell? (some a) l) (hc : l.length <= c) (h8 : 8 <= l.length) (hm : val (l.take 4) <= most) (hg : val (l.take 4) <= l.length - 8) (hx : ovr (ovr ones (l.take 4)) ((l.drop 8).take (val (l.take 4))) ^^^ ones = val ((l.drop 4).take 4)) (hp : 0 < val (l.take 4)) : Tri Θ W fUn [slV (some a) l.length c] [] (.tuple [sB 1000 (val (l.take 4)), iv (o' (8 + val (l.take 4))), iv 0]) [(1000, rB ((l.drop 8).take (val (l.take 4))))] := by
 have hb : 8 <= c := Nat.le_trans h8 hc; have e8 : decide ((l.length : Int) < o' 8) = false := decide_eq_false (by simp only [Z0]; omega)
 have hl8 : (l.take 8).length = 8 := by rw [List.length_take]; omega
 have k1 := fun F hF => JJ' (W := W) (c := c) (h.take 8) hl8 F hF
 have k2 := fun F hF => MG' (n1 := val (l.take 4)) (n2 := val ((l.drop 4).take 4)) hl8 (by rw [G7'.1]) (by rw [G7'.2]) F W hF
 have em : decide (o' (val (l.take 4)) > o' 1048576) = false := gtF hm; have hlb : l.length <= 140737488351232 := h.1
 have hsub : IntKind.i64.wrap ((l.length : Int) - o' 8) = ((l.length - 8 : Nat) : Int) := by
  rw [show ((l.length : Int) - o' 8) = ((l.length - 8 : Nat) : Int) by simp only [Z0]; omega]
  exact D5' ω
 have el : decide (o' (val (l.take 4)) > IntKind.i64.wrap ((l.length : Int) - o' 8)) = false := by rw [hsub]; exact gtF hg
 have hmm : val (l.take 4) <= 1048576 := hm; have hD := VM' h _ hg
 have hdl : ((l.drop 8).take (val (l.take 4))).length = val (l.take 4) := by rw [List.length_take, ld']; omega
 have p1 := ovp (c := c) (h.take 4) (show (4294967295 : Nat) < 4294967296 by decide) (n := 4) (by rw [List.length_take]; omega); have hs1 : ovr ones (l.take 4) < 4294967296 := D3' _ δ; have p2 := ovp (s := fOvr W 4294967295 (some a) 4) (c := val (l.take 4)) hD (by rw [p1.2]; exact hs1) (n := val (l.take 4)) hdl.symm
 have hs2 : fOvr W (fOvr W 4294967295 (some a) 4) (some (ER' a (val (l.take 4)))) (val (l.take 4)) < 4294967296 := by rw [p2.2]; exact D3' _ (by rw [p1.2]; exact hs1)
 have hsm := RF' hs2
 have hfin : fOvr W (fOvr W 4294967295 (some a) 4) (some (ER' a (val (l.take 4)))) (val (l.take 4)) = ovr (ovr ones (l.take 4)) ((l.drop 8).take (val (l.take 4))) := by rw [p2.2, p1.2]; rfl
 have e9 : IntKind.i64.wrap (o' 8 + o' (val (l.take 4))) = o' (8 + val (l.take 4)) := by
  rw [show (o' 8 + o' (val (l.take 4)) : Int) = ((8 + val (l.take 4) : Nat) : Int) by simp]
  exact D5' ω
 have kO := fun F hF => OG' hN (fOvr W) F hF
 have es : (IntKind.i64.wrap (IntKind.u32.wrap ((BitVec.ofInt 32 (o' (fOvr W (fOvr W 4294967295 (some a) 4) (some (ER' a (val (l.take 4)))) (val (l.take 4)))) ^^^ BitVec.ofInt 32 (o' 4294967295)).toNat : Int)) != o' (val ((l.drop 4).take 4))) = false := by
  rw [hsm, hfin]; rw [hx]; exact bne_self_eq_false _
 have o1 := HA' hD; rw [hdl] at o1; obtain ⟨o1, o2⟩ := o1
 have o3 : (vmap (B4' W (ER' a (val (l.take 4))) (val (l.take 4) * 1))).all AV.one = true := by rw [o2]; exact KB' _
 have b1 : (val (l.take 4)).ble (val (l.take 4)) = true := AP' (Yd); have b5 : (val (l.take 4) * 1).ble 140737488355328 = true := AP' ω; have b6 : (val (l.take 4)).ble 9223372036854775807 = true := AP' ω
 refine AJ' (con := [(fCl, cCl8 a c (l.take 8)), (fOv, cOvF W (fOvr W))]) (hints := AC' (hUn ++ hU4 (ER' a (val (l.take 4))) (val (l.take 4)) false ++ [(fUn, 10, 3, h0v (.v (.slice (some (ER' a (val (l.take 4)))) (val (l.take 4)) (val (l.take 4)))))])) (lc := [(fRn, 2, A4' fRn 2, lRn (l.take 8) (val (l.take 4)) (val ((l.drop 4).take 4)))]) [1100, 1101, 1102, 1103, 1104] rfl (fun F hF => A7' (k1 F hF) (BA' (kO F hF))) (fun F hF => CK' (k2 F hF)) fun F => ?_
 clear k1 k2; refine Yj (XW' W a (ER' a (val (l.take 4))) l.length c (val (l.take 4)) (val ((l.drop 4).take 4)) (l.take 8) (fOvr W) F) ⟨⟨?_, (AR' (vs' := [.tuple [sB 1000 (val (l.take 4)), iv (o' (8 + val (l.take 4))), iv 0]]) (H' := [(1000, rB ((l.drop 8).take (val (l.take 4))))]) [(1000, 1102)] χ χ (Yb) ⟨⟨_, rfl, A5' o2 rfl⟩, Ye⟩).fits rfl⟩⟩; exact Cw4'
theorem un6 (W : World) (hN : LN W) (a : Addr) (c : Nat) (l : Bs) (h : BAt W.cell? (some a) l) (hc : l.length <= c) (h8 : 8 <= l.length) (hz : val (l.take 4) = 0) (hx : ovr (ovr ones (l.take 4)) [] ^^^ ones = val ((l.drop 4).take 4)) : Tri Θ W fUn [slV (some a) l.length c] [] (.tuple [nilS, iv 8, iv 0]) [] := by
 have hb : 8 <= c := Nat.le_trans h8 hc; have e8 : decide ((l.length : Int) < o' 8) = false := decide_eq_false (by simp only [Z0]; omega)
 have hl8 : (l.take 8).length = 8 := by rw [List.length_take]; omega
 have k1 := fun F hF => JJ' (W := W) (c := c) (h.take 8) hl8 F hF
 have k2 := fun F hF => MG' (n1 := 0) (n2 := val ((l.drop 4).take 4)) hl8 (by rw [G7'.1, hz]) (by rw [G7'.2]) F W hF
 have em : decide (o' 0 > o' 1048576) = false := rfl; have hlb : l.length <= 140737488351232 := h.1
 have hsub : IntKind.i64.wrap ((l.length : Int) - o' 8) = ((l.length - 8 : Nat) : Int) := by
  rw [show ((l.length : Int) - o' 8) = ((l.length - 8 : Nat) : Int) by simp only [Z0]; omega]
  exact D5' ω
 have el : decide (o' 0 > IntKind.i64.wrap ((l.length : Int) - o' 8)) = false := by rw [hsub]; exact gtF (a := 0) (Nat.zero_le _)
 have hD : BAt W.cell? (some a) [] := ⟨Nat.zero_le _, fun i b hb => by simp at hb⟩
 have p1 := ovp (c := c) (h.take 4) (show (4294967295 : Nat) < 4294967296 by decide) (n := 4) (by rw [List.length_take]; omega); have hs1 : ovr ones (l.take 4) < 4294967296 := D3' _ δ; have p2 := ovp (s := fOvr W 4294967295 (some a) 4) (c := 0) hD (by rw [p1.2]; exact hs1) (n := 0) rfl
 have hs2 : fOvr W (fOvr W 4294967295 (some a) 4) (some a) 0 < 4294967296 := by rw [p2.2]; exact D3' _ (by rw [p1.2]; exact hs1)
 have hsm := RF' hs2
 have hfin : fOvr W (fOvr W 4294967295 (some a) 4) (some a) 0 = ovr (ovr ones (l.take 4)) [] := by rw [p2.2, p1.2]; rfl
 have e9 : IntKind.i64.wrap (o' 8 + o' 0) = o' (8 + 0) := D5' (n := 8) δ
 have kO := fun F hF => OG' hN (fOvr W) F hF
 have es : (IntKind.i64.wrap (IntKind.u32.wrap ((BitVec.ofInt 32 (o' (fOvr W (fOvr W 4294967295 (some a) 4) (some a) 0)) ^^^ BitVec.ofInt 32 (o' 4294967295)).toNat : Int)) != o' (val ((l.drop 4).take 4))) = false := by
  rw [hsm, hfin, hx]; exact bne_self_eq_false _
 refine AJ' (con := [(fCl, cCl8 a c (l.take 8)), (fOv, cOvF W (fOvr W))]) (hints := AC' (hUn ++ hU4 a 0 false ++ [(fUn, 10, 3, h0v (.v (.slice (some a) 0 0))), (fUn, 13, 1, h0)])) (lc := [(fRn, 2, A4' fRn 2, lRn (l.take 8) 0 (val ((l.drop 4).take 4)))]) [] rfl (fun F hF => A7' (k1 F hF) (BA' (kO F hF))) (fun F hF => CK' (k2 F hF)) fun F => ?_
 clear k1 k2; refine Yj (XV' W a a l.length c (val ((l.drop 4).take 4)) (l.take 8) (fOvr W) F) ⟨⟨?_, (AR' (vs' := [.tuple [nilS, iv 8, iv 0]]) (H' := []) [] χ χ (Yb) trivial).fits rfl⟩⟩
 simp only [ch', bl', true_and, and_true]; and_intros; all_goals first | (with_reducible exact Ye) | (with_reducible exact rfl) | (with_reducible exact Ya) | (with_reducible exact Yb) | (with_reducible exact Yc) | (with_reducible exact BQ' _) | (with_reducible assumption) | (with_reducible exact A3' e8) | (with_reducible exact A3' em) | (with_reducible exact A3' el) | (with_reducible exact A3' es) | (with_reducible exact AL' e9) | exact A3' rfl | exact hb | exact .inl rfl | exact .inr rfl | exact .inl trivial | exact .inr trivial | (refine OW.of_eq ?_; simp only [AO.ren, A1']; done) | exact AL' e9 | (with_reducible exact p1.1) | (with_reducible exact p2.1) | exact p1.1 | exact p2.1 | exact Nat.zero_le _ | (with_reducible exact wk_v (KJ' _ _)) | exact wk_v (KJ' _ _) | (show 8 + 0 <= c; omega) | (show 4 <= c; omega) | omega | exact Kw3'
theorem NO' (W : World) (hN : LN W) (oa : Option Addr) (c : Nat) (l : Bs) (h : BAt W.cell? oa l) (hc : l.length <= c) (hu : unwB l = none) : ∃ e : Nat, e ≠ 0 /\ Tri Θ W fUn [slV oa l.length c] [] (.tuple [nilS, iv 0, iv (o' e)]) [] := by
 unfold unwB at hu; split at hu
 ·rename_i h8
  exact ⟨3, by decide, un1 W oa c l.length h8⟩
 ·rename_i h8; obtain ⟨a, rfl⟩ := IV' h ω; split at hu
  ·rename_i hm
   exact ⟨1, by decide, un2 W hN a c l h hc ω hm⟩
  ·rename_i hm; split at hu
   ·rename_i hg
    exact ⟨3, by decide, un3 W hN a c l h hc ω ω hg⟩
   ·rename_i hg; split at hu
    ·cases hu
    ·rename_i hx
     exact ⟨9, by decide, un4 W hN a c l h hc ω ω ω hx⟩
theorem IT' {l d : Bs} (hu : unwB l = some d) : 8 <= l.length /\ val (l.take 4) <= most /\ val (l.take 4) <= l.length - 8 /\ ovr (ovr ones (l.take 4)) ((l.drop 8).take (val (l.take 4))) ^^^ ones = val ((l.drop 4).take 4) /\ d = (l.drop 8).take (val (l.take 4)) /\ d.length = val (l.take 4) := by
 unfold unwB at hu; split at hu
 ·cases hu
 ·split at hu
  ·cases hu
  ·split at hu
   ·cases hu
   ·split at hu
    ·rename_i h8 hm hg hx; cases hu
     exact ⟨ω, by omega, by omega, hx, rfl, by rw [List.length_take, ld']; omega⟩
    ·cases hu
theorem R6' (W : World) (hN : LN W) (oa : Option Addr) (c : Nat) (l d : Bs) (h : BAt W.cell? oa l) (hc : l.length <= c) (hu : unwB l = some d) (hd : d ≠ []) : Tri Θ W fUn [slV oa l.length c] [] (.tuple [sB 1000 d.length, iv (o' (8 + d.length)), iv 0]) [(1000, rB d)] := by
 obtain ⟨h8, hm, hg, hx, e1, e2⟩ := IT' hu; obtain ⟨a, rfl⟩ := IV' h h8; have hp : 0 < d.length := List.length_pos_iff.2 hd; have := un5 W hN a c l h hc h8 hm hg hx ω; rw [<- e1, <- e2] at this; exact this
theorem V0' (W : World) (hN : LN W) (oa : Option Addr) (c : Nat) (l : Bs) (h : BAt W.cell? oa l) (hc : l.length <= c) (hu : unwB l = some []) : Tri Θ W fUn [slV oa l.length c] [] (.tuple [nilS, iv 8, iv 0]) [] := by
 obtain ⟨h8, hm, hg, hx, e1, e2⟩ := IT' hu; obtain ⟨a, rfl⟩ := IV' h h8; have hz : val (l.take 4) = 0 := e2.symm; rw [hz, List.take_zero] at hx; exact un6 W hN a c l h hc h8 hz hx
end Go.Proofs.YtgahllbgipdchaaGreatDoor.Wk
namespace Go.Proofs.YtgahllbgipdchaaGreatDoor.Eng
open Go Go.RowKit
theorem LTri.open {P : Program} {W : World} {b : Code} {A : List AV} {σ : Type} {R : σ -> Prop} {L : σ -> LH} {m : Md} {H0 H' : LH} {ax : AX} {A' : List AV} (hL : ∀ s, ownL H0 (L s) = true) (hcl : ∀ s, ∀ x ∈ L s, x.2.cl (kH (L s))) (hr : ∀ s, ∃ o, getO (L s) 0 = some o)
  (h : ∀ s, R s -> LTri P W b A (L s ++ H0) ax A' H') : LTri P W b A ((0, .own m (exHP R L)) :: H0) ax A' H' := by
 intro W0 F N w a Q hF hNB r ha hK; obtain ⟨s, hs, N', q1, q2, q3, q4⟩ := St.open hL hcl hr hNB r ha
 refine h s hs W0 F N' w a Q hF q2 q3 q4 fun a' w' ⟨N2, p1, p2, p3, p4⟩ hd => hK a' w' ⟨N2, fun i hi => (p1 i hi).trans (q1 i hi), p2, p3, p4⟩ hd
open Tree
def dumZ : AO := .any (frz fun _ => True)
theorem CL' {vs : List AV} {H H' : LH} {k : Nat} {P : Mem -> Prop} (hP : ∀ C, P C) (hl : AD' 1100 H = true) (hl' : AD' 1100 H' = true) (hk : getO H' k = some (.any (frz P))) (hk1 : 1000 <= k) (hk0 : getO H k = none) (hr : ∀ n, n ≠ k -> getO H' n = getO H n) : Goes vs H vs H' := by
 intro W0 F N ys w ⟨N1, g1, g2, r, hvs⟩; have hf : ∀ n, (AQ' H).find n = getO H n := AK' (DA' hl); have hf' : ∀ n, (AQ' H').find n = getO H' n := AK' (DA' hl'); obtain ⟨D0, D, h1, h2, h3⟩ := r.sat
 refine ⟨N1, g1, fun n hn hg => ?_, ⟨r.os, r.tape, r.output, D0, fun n x => if n = k then False else D n x, h1, fun n o hno => ?_, fun n m o o' hn hm hnm x hx hx' => ?_⟩, hvs⟩
 ·by_cases e : n = k
  ·rw [e, hk] at hg; cases hg
  ·rw [hr n e] at hg; exact g2 n hn hg
 ·rw [hf'] at hno
  by_cases e : n = k
  ·subst e; rw [hk] at hno; cases hno; simp only [if_true]
   exact ⟨⟨hP _, fun b hb => hb.elim⟩, fun b hb => hb.elim⟩
  ·simp only [if_neg e]; exact h2 n o (by rw [hf, <- hr n e]; exact hno)
 ·rw [hf'] at hn hm
  by_cases e : n = k
  ·simp only [if_pos e] at hx
  ·by_cases eR : m = k
   ·simp only [if_pos eR] at hx'
   ·simp only [if_neg e] at hx; simp only [if_neg eR] at hx'; exact h3 n m o o' (by rw [hf, <- hr n e]; exact hn) (by rw [hf, <- hr m eR]; exact hm) hnm x hx hx'
theorem EM' {vs vs' : List AV} {H H' : LH} (hn : AD' 1100 H = true) (hn' : AD' 1100 H' = true) (hv : VW vs vs') (hh : ∀ i o, getO H' i = some o -> getO H i = some o) (hc : AV.cls (fun i => Nat.blt i 1000 || (getO H' i).isSome) vs') (ho : ∀ x ∈ H', x.2.cl (fun i => Nat.blt i 1000 || (getO H' i).isSome)) : Goes vs H vs' H' := by
 intro W0 F N ys w ⟨N', g1, g2, r, hvs⟩; have hf : ∀ i, (AQ' H).find i = getO H i := AK' (DA' hn); have hf' : ∀ i, (AQ' H').find i = getO H' i := AK' (DA' hn'); obtain ⟨D0, D, h1, h2, h3⟩ := r.sat
 have r' : Rep W0 N' F (AQ' H') w := ⟨r.os, r.tape, r.output, D0, D, h1, fun i o hi => h2 i o (by rw [hf'] at hi; rw [hf]; exact hh i o hi), fun i j o o' hi hj => h3 i j o o' (by rw [hf'] at hi; rw [hf]; exact hh i o hi) (by rw [hf'] at hj; rw [hf]; exact hh j o' hj)⟩
 exact GM' hn' g1 r' (hv _ _ hvs) hc ho
theorem H0' {m : Nat} {told : List (Nat × AV)} {K : Nat -> Bool} (h : ∀ x ∈ told, AV.cl K x.2) : AV.cls K (tms 0 m told) := L7' h m 0
theorem BF' (V : List Value) : (vmap V).length = V.length := by simp [vmap]
theorem ET' (V U : List Value) : vmap (V ++ U) = vmap V ++ vmap U := by simp [vmap]
end Go.Proofs.YtgahllbgipdchaaGreatDoor.Eng
namespace Go.Proofs.YtgahllbgipdchaaGreatDoor.Wk
open Go Go.RowKit Eng Kit Tree
open Int renaming ofNat -> o'
open AO renaming cells -> ce'
open AV renaming v -> v'
open Go.Value renaming slice -> sl'
noncomputable section
abbrev fWh : Nat := 34
abbrev tRb : TypeId := 2 * 49
def aWh (oa : Option Addr) (n c : Nat) (x : AV) (e : Nat) : List (Nat × AV) := [(0, slV oa n c), (2, x), (3, iv (o' e))]
def oWh (O : AO) (PR : Mem -> Prop) : LH := [(1006, O), (1009, .any (frz PR))]
def slW (m : Nat) : AV := .slice 1006 0 m 1 (.lo m)
def cUnE (ob : Option Addr) (m k e : Nat) : List AV -> Option (AP AV) := mkC (fun _ => .ret ()) (fun _ => True) (fun _ k => k) (fun _ => [slV ob m k]) (fun _ => []) (fun _ => .leaf .ret [.tuple [nilS, iv 0, iv (o' e)]] [])
def cUnZ (ob : Option Addr) (m k : Nat) : List AV -> Option (AP AV) := mkC (fun _ => .ret ()) (fun _ => True) (fun _ k => k) (fun _ => [slV ob m k]) (fun _ => []) (fun _ => .leaf .ret [.tuple [nilS, iv 8, iv 0]] [])
def cUnS (ob : Option Addr) (m k p q : Nat) (d : Bs) : List AV -> Option (AP AV) := mkC (fun _ => .ret ()) (fun _ => True) (fun _ k => k) (fun _ => [slV ob m k]) (fun _ => []) (fun _ => .leaf .ret [.tuple [sB 1000 p, iv (o' q), iv 0]] [(1000, rB d)])
def hWh (ob : Option Addr) (m k eR : Nat) (b : Bool) : BD' := AC' [(fWh, 1, 2, h0v (slV ob m k)), (fWh, 2, 1, hv (.lit b)), (fWh, 5, 2, hv (iv (o' eR)))]
def kWh : List Nat := [1006, 1009, 1100, 1101, 1102, 1103]
abbrev h28' (q0 q1 : Nat) (q2 q3 : Option Addr) (q4 q5 : Nat) (z : Cnd) : Cnd := (((p' (0 <= q0)).a ((p' (q0 <= q1)).a (f' (Wk (v' (sl' q2 q0 q1)) (v' (sl' q3 q4 q5)))))).a (((p' True).a (f' (VW [v' (sl' q3 q4 q5)] [v' (sl' q3 q4 q5)]))).a z))
theorem TX' (W : World) (oa : Option Addr) (n c m k e : Nat) (ob : Option Addr) (O : AO) (P : Mem -> Prop) (F : HP) : AS' [(fUn, cUnE ob m k (e + 1))] (hWh ob m k 0 true) [] W fWh (A4' fWh 1) (tms 0 26 (aWh oa n c nilS 0)) (oWh O P) kWh [0, 2, 3] F = VT.leaf (AX.ret,[v' (sl' oa n c),e',i' 0],26) [some O,some (AO.any (frz P)),none,none,none,none] 1100 (h28' n c oa ob m k (k5'.a k1')) := χ
abbrev h29' (q0 q1 q2 : Nat) (q3 q4 : Option Addr) (q5 q6 : Nat) (z : Cnd) : Cnd := (((p' (q0 + 1 <= q1)).a ((p' (q1 <= q2)).a (f' (Wk (v' (sl' (if q2 = q0 + 1 then q3 else Option.map (fun x => Addr.mk x.block (x.off + (q0 + 1) * 1) none) q3) (q1 - (q0 + 1)) (q2 - (q0 + 1)))) (v' (sl' q4 q5 q6)))))).a (((p' True).a (f' (VW [v' (sl' q4 q5 q6)] [v' (sl' q4 q5 q6)]))).a ((f' (Wk (b' true) j')).a z)))
theorem PH' (W : World) (oa : Option Addr) (n c m k e s z : Nat) (ob : Option Addr) (V : List Value) (P : Mem -> Prop) (F : HP) : AS' [(fUn, cUnE ob m k (e + 1))] (hWh ob m k 0 true) [] W fWh (A4' fWh 1) (tms 0 26 (aWh oa n c (slW z) (s + 1))) (oWh (.cells (vmap V) tRb) P) kWh [0, 2, 3] F = VT.leaf (AX.ret,[v' (sl' oa n c),AV.slice 1006 0 z 1 (Cp.lo z),i' (s + 1)],26) [some (ce' (vmap V) 98),some (AO.any (frz P)),none,none,none,none] 1100 (h29' s n c oa ob m k k1') := χ
abbrev k30' (q0 q1 : Nat) : Cnd := (f' (Wk (z' (IntKind.i64.wrap (o' 0 + o' q0))) (i' q1)))
abbrev h31' (q0 q1 : Nat) (q2 q3 : Option Addr) (q4 q5 : Nat) (z : Cnd) : Cnd := (((p' (0 <= q0)).a ((p' (q0 <= q1)).a (f' (Wk (v' (sl' q2 q0 q1)) (v' (sl' q3 q4 q5)))))).a (((p' True).a (f' (VW [v' (sl' q3 q4 q5)] [v' (sl' q3 q4 q5)]))).a ((f' (Wk (b' false) g')).a ((tt'.a (tt'.a (tt'.a (tt'.a (ee' true))))).a z))))
theorem TW' (W : World) (oa : Option Addr) (n c m k p q eR : Nat) (ob : Option Addr) (d : Bs) (O : AO) (P : Mem -> Prop) (F : HP) : AS' [(fUn, cUnS ob m k p q d)] (hWh ob m k eR false) [] W fWh (A4' fWh 1) (tms 0 26 (aWh oa n c nilS 0)) (oWh O P) kWh [0, 2, 3] F = VT.leaf (AX.normal,[v' (sl' oa n c),AV.slice 1102 0 1 1 (Cp.lo 1),i' eR],26) [some O,some (AO.any (frz P)),some (ce' (AV.rens (sgN (fun k => k) [1000] 1100) (rowV encB d)) 10),some (ce' [AV.slice 1100 0 p 1 (Cp.lo p)] 98),some (ce' [AV.slice 1100 0 p 1 (Cp.lo p)] 98),none] 1103 (h31' n c oa ob m k ((k30' q eR).a k1')) := χ
theorem PG' (W : World) (oa : Option Addr) (n c m k eR : Nat) (ob : Option Addr) (O : AO) (P : Mem -> Prop) (F : HP) : AS' [(fUn, cUnZ ob m k)] (hWh ob m k eR false) [] W fWh (A4' fWh 1) (tms 0 26 (aWh oa n c nilS 0)) (oWh O P) kWh [0, 2, 3] F = VT.leaf (AX.normal,[v' (sl' oa n c),AV.slice 1101 0 1 1 (Cp.lo 1),i' eR],26) [some O,some (AO.any (frz P)),some (ce' [e'] 98),some (ce' [e'] 98),none,none] 1102 (h31' n c oa ob m k ((f' (Wk (i' 8) (i' eR))).a k1')) := χ
abbrev k32' (q0 q1 q2 : Nat) : Cnd := (f' (Wk (z' (IntKind.i64.wrap (o' (q0 + 1) + o' q1))) (i' q2)))
abbrev h33' (q0 q1 q2 : Nat) (q3 q4 : Option Addr) (q5 q6 q7 : Nat) (q8 : List Value) (z : Cnd) : Cnd := (((p' (q0 + 1 <= q1)).a ((p' (q1 <= q2)).a (f' (Wk (v' (sl' (if q2 = q0 + 1 then q3 else Option.map (fun x => Addr.mk x.block (x.off + (q0 + 1) * 1) none) q3) (q1 - (q0 + 1)) (q2 - (q0 + 1)))) (v' (sl' q4 q5 q6)))))).a (((p' True).a (f' (VW [v' (sl' q4 q5 q6)] [v' (sl' q4 q5 q6)]))).a ((f' (Wk (b' false) g')).a ((tt'.a (tt'.a (tt'.a (tt'.a ((p' ((0 + q7 * 1).ble (vmap q8).length = true)).a ((p' (((q7 + 1) * 24).ble 140737488355328 = true)).a ((p' ((q7 + 1).ble 9223372036854775807 = true)).a (f' ((List.take (q7 * 1) (List.drop 0 (vmap q8))).length.beq (q7 * 1) = true))))))))).a z))))
theorem TV' (W : World) (oa : Option Addr) (n c m k p q eR s z : Nat) (ob : Option Addr) (d : Bs) (V : List Value) (P : Mem -> Prop) (F : HP) : AS' [(fUn, cUnS ob m k p q d)] (hWh ob m k eR false) [] W fWh (A4' fWh 1) (tms 0 26 (aWh oa n c (slW z) (s + 1))) (oWh (.cells (vmap V) tRb) P) kWh [0, 2, 3] F = VT.leaf (AX.normal,[v' (sl' oa n c),AV.slice 1102 0 (z + 1) 1 (Cp.lo (z + 1)),i' eR],26) [none,some (AO.any (frz P)),some (ce' (AV.rens (sgN (fun k => k) [1000] 1100) (rowV encB d)) 10),some (ce' [AV.slice 1100 0 p 1 (Cp.lo p)] 98),some (ce' (List.take (z * 1) (List.drop 0 (vmap V)) ++ [AV.slice 1100 0 p 1 (Cp.lo p)]) 98),none] 1103 (h33' s n c oa ob m k z V ((k32' s q eR).a k1')) := χ
theorem TU' (W : World) (oa : Option Addr) (n c m k eR s z : Nat) (ob : Option Addr) (V : List Value) (P : Mem -> Prop) (F : HP) : AS' [(fUn, cUnZ ob m k)] (hWh ob m k eR false) [] W fWh (A4' fWh 1) (tms 0 26 (aWh oa n c (slW z) (s + 1))) (oWh (.cells (vmap V) tRb) P) kWh [0, 2, 3] F = VT.leaf (AX.normal,[v' (sl' oa n c),AV.slice 1101 0 (z + 1) 1 (Cp.lo (z + 1)),i' eR],26) [none,some (AO.any (frz P)),some (ce' [e'] 98),some (ce' (List.take (z * 1) (List.drop 0 (vmap V)) ++ [e']) 98),none,none] 1102 (h33' s n c oa ob m k z V ((f' (Wk (z' (IntKind.i64.wrap (o' (s + 1) + o' 8))) (i' eR))).a k1')) := χ
def lWh (oa : Option Addr) (n c e : Nat) (x : AV) (H : LH) : List AV -> AP (AX × List AV) := mkL (fun _ => .ret ()) (fun _ => True) (fun _ k => k) (fun _ => tms 0 26 (aWh oa n c nilS 0)) (fun _ => []) (fun _ => .leaf .ret (tms 0 26 [(2, x), (3, iv (o' e))]) H)
abbrev k34' (q0 : Option Addr) (q1 q2 : Nat) : Cnd := (p' (VW (v' (sl' q0 q1 q2)::u'::e'::i' 0::ru16 (ru4 (u'::u'::[]))) (v' (sl' q0 q1 q2)::a'::e'::i' 0::ra16 (ra4 (a'::a'::[])))))
theorem XN' (W : World) (oa : Option Addr) (n c : Nat) (F : HP) : wRun [] AV' [(fWh, 1, A4' fWh 1, lWh oa n c 0 nilS [])] W fWh [slV oa n c] [] [] F = VT.leaf (AV.tuple [e',i' 0]) [] 1100 ((p' ((fWh,1,A4' fWh 1,lWh oa n c 0 nilS []).snd.snd.fst = (fWh,1,A4' fWh 1,lWh oa n c 0 nilS []).snd.snd.fst)).a (k4'.a ((k34' oa n c).a k1'))) := χ
theorem RT' (W : World) (oa : Option Addr) (n c e m : Nat) (O : AO) (F : HP) : wRun [] AV' [(fWh, 1, A4' fWh 1, lWh oa n c e (slW m) [(1006, O)])] W fWh [slV oa n c] [] [1100, 1101, 1102] F = VT.leaf (AV.tuple [AV.slice 1100 0 m 1 (Cp.lo m),i' e]) [some (AO.ren (sgN (fun k => k) [1006] 1100) O),none,none] 1101 ((p' ((fWh,1,A4' fWh 1,lWh oa n c e (slW m) [(1006,O)]).snd.snd.fst = (fWh,1,A4' fWh 1,lWh oa n c e (slW m) [(1006,O)]).snd.snd.fst)).a (k4'.a ((k34' oa n c).a k1'))) := χ
end
end Go.Proofs.YtgahllbgipdchaaGreatDoor.Wk
