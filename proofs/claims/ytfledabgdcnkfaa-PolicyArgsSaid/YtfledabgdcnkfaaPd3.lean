/- Parts of the proof, merged. -/
import Derived.Test.YtfledabgdcnkfaaRows
import Derived.Test.YtfledabgdcnkfaaPd1
import Derived.WalkKit
import Derived.WalkSpells
import Derived.WalkLawsBesides
import Derived.Deep.QuietTactic
import Derived.BigQuiet
import Derived.Lib.Hide
import Derived.Test.YtfledabgdcnkfaaMem
/- The walk of policy.Glob: it tells whether the pattern matches. -/
set_option linter.unusedVariables false
set_option linter.unusedSimpArgs false
namespace Go.Proofs.Ytfledabgdcnkfaa
open Go.RowKit
namespace Glob

theorem get_data (p : ByteArray) (i : Nat) (h : i < p.size) : p.data.toList[i]'(by simpa using h) = p[i] := rfl

theorem ne42 {c : UInt8} (h : ((c.toNat : Int) == 42) = false) : c ≠ 42 := by
  rintro rfl; exact absurd h (by decide)
theorem eq42 {c : UInt8} (h : ((c.toNat : Int) == 42) = true) : c = 42 := by
  have : c.toNat = 42 := by have := beq_iff_eq.1 h; omega
  exact UInt8.toNat.inj (b := 42) this
theorem eq63 {c : UInt8} (h : ((c.toNat : Int) == 63) = true) : (c == 63) = true := by
  have : c.toNat = 63 := by have := beq_iff_eq.1 h; omega
  rw [UInt8.toNat.inj (a := c) (b := 63) this]; rfl
theorem ne63 {c : UInt8} (h : ((c.toNat : Int) == 63) = false) : (c == 63) = false := by
  rw [beq_eq_false_iff_ne]; rintro rfl; exact absurd h (by decide)
theorem eqB {c d : UInt8} (h : ((c.toNat : Int) == (d.toNat : Int)) = true) : (c == d) = true := by
  have : c.toNat = d.toNat := by have := beq_iff_eq.1 h; omega
  rw [UInt8.toNat.inj this, beq_self_eq_true]
theorem neB {c d : UInt8} (h : ((c.toNat : Int) == (d.toNat : Int)) = false) : (c == d) = false := by
  rw [beq_eq_false_iff_ne]; rintro rfl; simp at h

def Rel1 (p t : ByteArray) (w : World) (vp vt vs vb : Value) (wr : World) : Prop :=
  ∃ (i j : Nat) (s : Int) (b : Nat), Inv p.data.toList t.data.toList i j s b ∧ vp = .int .i64 i ∧ vt = .int .i64 j ∧ vs = .int .i64 s ∧ vb = .int .i64 b ∧ ∃ n, wr = w.drewN n

theorem rel1' {p t : ByteArray} {w w' : World} {vp vt vs vb : Value} {i j : Nat} {s : Int} {b : Nat} (h : Inv p.data.toList t.data.toList i j s b)
    (h1 : vp = .int .i64 i) (h2 : vt = .int .i64 j) (h3 : vs = .int .i64 s) (h4 : vb = .int .i64 b) (h5 : ∃ n, w' = w.drewN n) :
    Rel1 p t w vp vt vs vb w' := ⟨i, j, s, b, h, h1, h2, h3, h4, h5⟩

def Rel2 (p t : ByteArray) (w : World) (vp : Value) (wr : World) : Prop :=
  ∃ i : Nat, i ≤ p.size ∧ vp = .int .i64 i ∧ gm p.data.toList t.data.toList = (p.data.toList.drop i).all (· == 42) ∧ ∃ n, wr = w.drewN n

def Post (p t : ByteArray) (w : World) (e : Ending) (w' : World) : Prop :=
  e = .returned (.bool (gm p.data.toList t.data.toList)) ∧ ∃ n, w' = w.drewN n

def mu1 (p t : ByteArray) (vp vb : Value) : Nat := (t.size - (intOf vb).toNat) * (p.size + 1) + (p.size - (intOf vp).toNat)

theorem mu1_lt {p t : ByteArray} {i i' b b' : Nat} (hb : b < b') (hb' : b' ≤ t.size) (_hi : i' ≤ p.size) :
    mu1 p t (.int .i64 i') (.int .i64 b') < mu1 p t (.int .i64 i) (.int .i64 b) := by
  simp only [mu1, intOf, Int.toNat_natCast]
  have h1 : t.size - b = (t.size - b') + (b' - b) := by omega
  have h2 : (t.size - b) * (p.size + 1) = (t.size - b') * (p.size + 1) + (b' - b) * (p.size + 1) := by rw [h1, Nat.add_mul]
  have h3 : 1 * (p.size + 1) ≤ (b' - b) * (p.size + 1) := Nat.mul_le_mul_right _ (by omega)
  omega
theorem mu1_same {p t : ByteArray} {i i' b : Nat} (h : i < i') (hi' : i' ≤ p.size) :
    mu1 p t (.int .i64 i') (.int .i64 b) < mu1 p t (.int .i64 i) (.int .i64 b) := by
  simp only [mu1, intOf, Int.toNat_natCast]
  omega
theorem mu1_star {p t : ByteArray} {i j b : Nat} (hb : b ≤ j) (hj : j ≤ t.size) (hi : i < p.size) :
    mu1 p t (.int .i64 (i + 1 : Nat)) (.int .i64 j) < mu1 p t (.int .i64 i) (.int .i64 b) := by
  by_cases h : b = j
  · subst h; exact mu1_same (by omega) (by omega)
  · exact mu1_lt (by omega) hj (by omega)

set_option maxHeartbeats 400000 in
theorem glob_calls (p t : ByteArray) (w : World) (hp : p.size ≤ maxLen) (ht : t.size ≤ maxLen) :
    Calls Try.prog 10 #[.string p, .string t] w (Post p t w) := by
  unfold maxLen at hp ht
  go_enter Try.func10, Try.ntmps10
  go_wp2
  go_loopw [5, 6, 7, 8] (fun vp vt vs vb wr => Rel1 p t w vp vt vs vb wr) (fun vp vt vs vb wr => mu1 p t vp vb)
  case atStart => exact rel1' (inv_start _ _) rfl rfl rfl rfl ⟨0, rfl⟩
  case round =>
    obtain ⟨i, j, s, b, hinv, rfl, rfl, rfl, rfl, n, rfl⟩ := hrel
    have hi : i ≤ p.size := hinv.1
    have hj : j ≤ t.size := hinv.2.1
    have hb : b ≤ j := hinv.2.2.1
    have hs : -1 ≤ s := hinv.2.2.2.1
    have hsi : s < i := hinv.2.2.2.2.1
    by_cases hjt : j < t.size
    · by_cases hip : i < p.size
      · rcases Bool.eq_false_or_eq_true ((p[i].toNat : Int) == 42) with h42 | h42
        · go_wp2
          exact ⟨rel1' (inv_star hinv hip (by rw [get_data p i hip]; exact eq42 h42)) rfl rfl rfl rfl ⟨n, rfl⟩, mu1_star hb hj hip⟩
        · have hno := ne42 h42
          rcases Bool.eq_false_or_eq_true ((p[i].toNat : Int) == 63) with h63 | h63
          · have hst := inv_step hinv hip hjt hno (by rw [get_data p i hip, eq63 h63, Bool.true_or])
            go_wp2
            go_quiet (fail)
            go_wp2
            exact ⟨rel1' hst rfl rfl rfl rfl ⟨_, rfl⟩, mu1_same (i' := i + 1) (by omega) (by omega)⟩
          · rcases Bool.eq_false_or_eq_true ((p[i].toNat : Int) == (t[j].toNat : Int)) with hpt | hpt
            · have hst := inv_step hinv hip hjt hno (by rw [get_data p i hip, get_data t j hjt, eqB hpt, Bool.or_true])
              go_wp2
              go_quiet (fail)
              go_wp2
              exact ⟨rel1' hst rfl rfl rfl rfl ⟨_, rfl⟩, mu1_same (i' := i + 1) (by omega) (by omega)⟩
            · have hbad : ∀ hi : i < p.data.toList.length, p.data.toList[i] ≠ 42 ∧ (p.data.toList[i] == 63 || p.data.toList[i] == t.data.toList[j]) = false := fun _ =>
                ⟨hno, by rw [get_data p i hip, get_data t j hjt, ne63 h63, neB hpt]; rfl⟩
              by_cases hs0 : 0 ≤ s
              · obtain ⟨q, rfl, hback, hq⟩ := inv_back hinv hjt hs0 hbad
                go_wp2
                go_quiet (fail)
                go_wp2
                exact ⟨rel1' hback rfl rfl rfl rfl ⟨_, rfl⟩, mu1_lt (b' := b + 1) (i' := q + 1) (by omega) (by omega) hq⟩
              · have hfin := inv_none hinv hjt (by omega) hbad
                have HF := Lib.hid hfin
                clear hfin hbad
                go_wp2
                go_quiet (fail)
                go_wp2
                go_ret
                exact ⟨by rw [HF.out]; rfl, _, rfl⟩
      · have hip' : decide ((i : Int) < (p.size : Int)) = false := by simp; omega
        have hbad : ∀ hi : i < p.data.toList.length, p.data.toList[i] ≠ 42 ∧ (p.data.toList[i] == 63 || p.data.toList[i] == t.data.toList[j]) = false := fun h => absurd h hip
        by_cases hs0 : 0 ≤ s
        · obtain ⟨q, rfl, hback, hq⟩ := inv_back hinv hjt hs0 hbad
          clear hbad
          go_wp2
          go_quiet (fail)
          go_wp2
          exact ⟨rel1' hback rfl rfl rfl rfl ⟨_, rfl⟩, mu1_lt (b' := b + 1) (i' := q + 1) (by omega) (by omega) hq⟩
        · have hfin := inv_none hinv hjt (by omega) hbad
          have HF := Lib.hid hfin
          clear hfin hbad
          go_wp2
          go_quiet (fail)
          go_wp2
          go_ret
          exact ⟨by rw [HF.out]; rfl, _, rfl⟩
    · have hend := inv_end hinv (show j = t.data.toList.length by have : t.data.toList.length = t.size := rfl; omega)
      have HE := Lib.hid hend
      clear hend hinv
      go_wp2
      go_loopw [5] (fun vp wr => Rel2 p t w vp wr) (fun vp wr => p.size - (intOf vp).toNat)
      case atStart => exact ⟨i, hi, rfl, HE.out, n, rfl⟩
      case round =>
        clear HE hi hsi
        obtain ⟨i, hi, rfl, hgm, n, rfl⟩ := hrel
        by_cases hip : i < p.size
        · rcases Bool.eq_false_or_eq_true ((p[i].toNat : Int) == 42) with h42 | h42
          · have hnext : gm p.data.toList t.data.toList = (p.data.toList.drop (i + 1)).all (· == 42) := by
              have e : p.data.toList.drop i = 42 :: p.data.toList.drop (i + 1) := by
                rw [List.drop_eq_getElem_cons (show i < p.data.toList.length from hip)]
                rw [get_data p i hip, eq42 h42]
              rw [hgm, e]; rfl
            have HN := Lib.hid hnext
            clear hnext hgm
            go_wp2
            exact ⟨⟨i + 1, by omega, rfl, HN.out, n, rfl⟩, by simp [intOf]; omega⟩
          · have hnext : gm p.data.toList t.data.toList = false := by
              have e : p.data.toList.drop i = p[i] :: p.data.toList.drop (i + 1) := List.drop_eq_getElem_cons (show i < p.data.toList.length from hip)
              rw [hgm, e]
              simp [ne42 h42]
            have HN := Lib.hid hnext
            clear hnext hgm
            have hne : ((i : Int) == (p.size : Int)) = false := by rw [beq_eq_false_iff_ne]; omega
            go_wp2
            go_ret
            exact ⟨by rw [HN.out]; rfl, n, rfl⟩
        · obtain rfl : i = p.size := by omega
          have hnext : gm p.data.toList t.data.toList = true := by
            rw [hgm, List.drop_of_length_le (show p.data.toList.length ≤ p.size from Nat.le_refl _)]; rfl
          have HN := Lib.hid hnext
          clear hnext hgm
          go_wp2
          go_ret
          exact ⟨by rw [HN.out]; rfl, n, rfl⟩

end Glob
end Go.Proofs.Ytfledabgdcnkfaa

/- The walk of policy.Pick. -/
set_option linter.unusedVariables false
set_option linter.unusedSimpArgs false
namespace Go.Proofs.Ytfledabgdcnkfaa
open Go.RowKit
namespace Pol
theorem tiPol : TI Try.prog 40 (.agg (Pol.cells Pol.zero).toArray) 15 160 := by unfold TI; kernel_rfl
theorem aggPol : aggregate Try.prog 40 = true := by kernel_rfl
theorem pol_one (p : Pol) : ∀ v ∈ p.cells, v.oneCell' = true := by
  intro v hv
  simp only [Pol.cells, List.mem_cons, List.not_mem_nil, or_false] at hv
  rcases hv with rfl | rfl | rfl | rfl | rfl | rfl | rfl | rfl | rfl | rfl | rfl | rfl | rfl | rfl | rfl <;> rfl

theorem rd_elem {w : World} {ad : Addr} {n : Nat} {l : List Pol} (h : Rd w (some ad) n 15 (polCells l)) {k : Nat} (hk : k < l.length) :
    ∀ j u, (l[k].cells)[j]? = some u → w.cell? ((ad.add (k * 15)).add j) = some u := fun j u hu => by
  rw [add_add']
  refine h.cells ad rfl _ u ?_
  rw [polCells, pieces_get pol_length l k j hk, hu]
  exact (List.getElem?_eq_some_iff.1 hu).1

def PickRel (w : World) (B : Nat) (l : List Pol) (vhost name sort : ByteArray) (v9 v14 : Value) (wr : World) : Prop :=
  ∃ (k : Nat) (f : Bool) (q : Pol), k ≤ l.length ∧ v14 = .int .i64 k ∧ v9 = .bool f ∧ Sat w [HP.pts B (.cells q.cells.toArray 40), HP.old w] wr ∧ pick vhost name sort (l.take k) = (f, q)

theorem pickRel {w : World} {B : Nat} {l : List Pol} {vhost name sort : ByteArray} {k : Nat} {f f' : Bool} {q q' : Pol} {wr : World} {v9 v14 : Value} (hf : pick vhost name sort (l.take k) = (f, q)) (hk : k < l.length)
    (h14 : v14 = .int .i64 (k + 1 : Nat)) (h9 : v9 = .bool f') (hs : Sat w [HP.pts B (.cells q'.cells.toArray 40), HP.old w] wr) (hs' : pickStep vhost name sort (f, q) l[k] = (f', q')) :
    PickRel w B l vhost name sort v9 v14 wr :=
  ⟨k + 1, f', q', hk, h14, h9, hs, by rw [pick_take _ _ _ l k hk, hf, hs']⟩

set_option maxRecDepth 100000 in
set_option maxHeartbeats 2000000 in
theorem pick_calls (A : Option Addr) (cap : Nat) (l : List Pol) (vhost name sort : ByteArray) (w : World) (hlen : l.length ≤ 140737488351232)
    (hr : Rd w A l.length 15 (polCells l)) (hn : name.size ≤ maxLen) (hp : ∀ p ∈ l, p.pat.size ≤ maxLen) :
    Calls Try.prog 18 #[.slice A l.length cap, .string vhost, .string name, .string sort] w fun e w' =>
      e = .returned (.tuple #[.agg (pick vhost name sort l).2.cells.toArray, .bool (pick vhost name sort l).1]) ∧ Below w.heap.size w w' := by
  have hw := Sat.refl w
  go_enter Try.func18, Try.ntmps18
  go_wp2_with (first | ((with_reducible refine wpl_alloc _ ?_ ?_); rfl; intro K hK; refine wp_alloc_sat hw _ _ _ _ tiPol rfl ?_; intro B wB hs; refine hK _ _ ?_; clear hK K hw))
  go_loopw [9, 11, 14] (fun v9 v11 v14 wr => PickRel w B l vhost name sort v9 v14 wr) (fun v9 v11 v14 wr => l.length - (intOf v14).toNat)
  case atStart => exact ⟨0, false, Pol.zero, Nat.zero_le _, rfl, rfl, hs, rfl⟩
  case round =>
    clear hs
    obtain ⟨k, f, q, hk, rfl, rfl, hs, hfold⟩ := hrel
    have HF := Lib.hid hfold
    clear hfold
    by_cases hlt : k < l.length
    · obtain ⟨ad, rfl⟩ := hr.here (by omega)
      have hel := rd_elem (hr.sat (hs.pick 1)) hlt
      have hpat := hp l[k] (List.getElem_mem hlt)
      go_wp2_with (first
        | ((with_reducible refine wpl_indexAddr _ _ _ ?_ ?_); rfl; intro K hK; refine wp_indexAddr _ _ _ rfl _ Try.underlying36 _ _ _ tiPol ad _ _ _ _ rfl rfl (by omega) (by omega) ?_; refine hK _ _ ?_; clear hK K)
        | ((with_reducible refine wpl_load 40 _ ?_ ?_); rfl; intro K hK; first | refine wp_load_agg 40 _ rfl aggPol _ _ _ tiPol _ rfl _ (pol_length l[k]) hel ?_ | refine wp_load_agg 40 _ rfl aggPol _ _ _ tiPol _ rfl _ (pol_length l[k]) ((hs2.drewN _).cellsAll 0 rfl) ?_; refine hK _ _ ?_; clear hK K)
        | ((with_reducible refine wpl_alloc _ ?_ ?_); rfl; intro K hK; refine wp_alloc_sat hs _ _ _ _ tiPol rfl ?_; intro B1 w1 hs1; refine hK _ _ ?_; clear hK K hs)
        | ((with_reducible refine wpl_store _ _ _ ?_ ?_); rfl; intro K hK; refine wp_store_all hs1 0 _ _ _ rfl _ _ _ tiPol B1 _ _ rfl rfl _ rfl (pol_length l[k]) rfl (pol_one _) ?_; intro w2 hs2; have c0 : w2.cell? ⟨B1, 0, none⟩ = some (.string l[k].vhost) := hs2.cell 0 rfl 0 rfl; have c1 : w2.cell? ⟨B1, 1, none⟩ = some (.string l[k].name) := hs2.cell 0 rfl 1 rfl; have c2 : w2.cell? ⟨B1, 2, none⟩ = some (.string l[k].pat) := hs2.cell 0 rfl 2 rfl; have c3 : w2.cell? ⟨B1, 3, none⟩ = some (.string l[k].apply) := hs2.cell 0 rfl 3 rfl; have c4 : w2.cell? ⟨B1, 4, none⟩ = some (.int .i64 l[k].prio) := hs2.cell 0 rfl 4 rfl; have d1 : w2.cell? ⟨B, 1, none⟩ = some (.string q.name) := hs2.cell 1 rfl 1 rfl; have d4 : w2.cell? ⟨B, 4, none⟩ = some (.int .i64 q.prio) := hs2.cell 1 rfl 4 rfl; refine hK _ _ ?_; clear hK K hs1)
        | ((with_reducible refine wpl_store _ _ _ ?_ ?_); rfl; intro K hK; refine wp_store_all (hs2.drewN _) 1 _ _ _ rfl _ _ _ tiPol B _ _ rfl rfl _ rfl (pol_length l[k]) rfl (pol_one _) ?_; intro w3 hs3; refine hK _ _ ?_; clear hK K)
        | (go_at_call 10; refine (Glob.glob_calls _ _ _ hpat hn).mono ?_; rintro e w' ⟨rfl, nn, rfl⟩))
      all_goals refine ⟨?_, by simp [intOf]; omega⟩
      all_goals clear hr hel
      all_goals first
        | exact pickRel HF.out hlt rfl rfl (hs2.drop.drewN _) (step_no (fun h => by simp_all [fits]))
        | exact pickRel HF.out hlt rfl rfl hs2.drop (step_no (fun h => by simp_all [fits]))
        | (obtain rfl : f = true := (by assumption); exact pickRel HF.out hlt rfl rfl (hs2.drop.drewN _) (step_keep (fun h => by rcases h with h | ⟨h1, h2⟩; omega; simp_all)))
        | (obtain rfl : f = true := (by assumption); exact pickRel HF.out hlt rfl rfl hs3.drop (step_better (by simp_all [fits]) (by unfold better; first | exact .inl (by omega) | exact .inr ⟨by assumption, by assumption⟩)))
        | (obtain rfl : f = false := (by simpa using ‹¬ f = true›); exact pickRel HF.out hlt rfl rfl hs3.drop (step_new (by simp_all [fits])))
    · obtain rfl : k = l.length := by omega
      have hag := hs.cellsAll 0 rfl
      go_wp2_with (first
        | ((with_reducible refine wpl_load 40 _ ?_ ?_); rfl; intro K hK; refine wp_load_agg 40 _ rfl aggPol _ _ _ tiPol _ rfl _ (pol_length q) hag ?_; refine hK _ _ ?_; clear hK K)
        | ((with_reducible refine wpl_store _ _ _ ?_ ?_); rfl; intro K hK; refine wp_store_all hs 0 _ _ _ rfl _ _ _ tiPol B _ _ rfl rfl _ rfl (pol_length q) rfl (pol_one _) ?_; intro w3 hs3; refine hK _ _ ?_; clear hK K))
      have hfin := HF.out
      rw [List.take_length] at hfin
      rw [hfin]
      refine bodyPost_ret (v := .tuple #[.agg q.cells.toArray, .bool f]) ?_ rfl ⟨rfl, (hs3.pick 1).old_below⟩
      exact res_cell_tmp (fn := Try.f18) (p := 8) (t := 9) (ty := 40) (v := .agg q.cells.toArray) (ad := ⟨B, 0, none⟩) rfl rfl (run_load_agg aggPol tiPol (pol_length q) (hs3.cellsAll 0 rfl))
end Pol
end Go.Proofs.Ytfledabgdcnkfaa

/- The walk of policy.May. -/
set_option linter.unusedVariables false
set_option linter.unusedSimpArgs false
namespace Go.Proofs.Ytfledabgdcnkfaa
open Go.RowKit
namespace Pol
theorem tiPerm : TI Try.prog 58 (.agg (Perm.cells Perm.zero).toArray) 5 80 := by unfold TI; kernel_rfl
theorem aggPerm : aggregate Try.prog 58 = true := by kernel_rfl
theorem perm_one (p : Perm) : ∀ v ∈ p.cells, v.oneCell' = true := by
  intro v hv
  simp only [Perm.cells, List.mem_cons, List.not_mem_nil, or_false] at hv
  rcases hv with rfl | rfl | rfl | rfl | rfl <;> rfl
theorem perm_get {w : World} {ad : Addr} {n : Nat} {l : List Perm} (h : Rd w (some ad) n 5 (permCells l)) {k : Nat} (hk : k < l.length) :
    ∀ j u, (l[k].cells)[j]? = some u → w.cell? ((ad.add (k * 5)).add j) = some u := fun j u hu => by
  rw [add_add']
  refine h.cells ad rfl _ u ?_
  rw [permCells, pieces_get perm_length l k j hk, hu]
  exact (List.getElem?_eq_some_iff.1 hu).1

def Perm.ok (p : Perm) : Prop := p.conf.size ≤ maxLen ∧ p.write.size ≤ maxLen ∧ p.read.size ≤ maxLen
def MayPost (w : World) (b : Bool) (e : Ending) (w' : World) : Prop := e = .returned (.bool b) ∧ Below w.heap.size w w'
theorem mayPost {w w' : World} {b b' : Bool} (h : b = b') (hb : Below w.heap.size w w') : MayPost w b (.returned (.bool b')) w' := ⟨by rw [h], hb⟩
def MayRel (w : World) (l : List Perm) (user vhost : ByteArray) (way : Int) (name : ByteArray) (v17 : Value) (wr : World) : Prop :=
  ∃ k : Nat, k ≤ l.length ∧ v17 = .int .i64 k ∧ Sat w [HP.old w] wr ∧ (l.drop k).any (may1 user vhost way name) = l.any (may1 user vhost way name)
theorem may_next {l : List Perm} {user vhost : ByteArray} {way : Int} {name : ByteArray} {k : Nat} {b : Bool} (hk : k < l.length) (h : (l.drop k).any (may1 user vhost way name) = l.any (may1 user vhost way name)) (hb : may1 user vhost way name l[k] = b) :
    (b || (l.drop (k + 1)).any (may1 user vhost way name)) = l.any (may1 user vhost way name) := by
  rw [← h, List.drop_eq_getElem_cons hk, List.any_cons, hb]
theorem mayRel {w wr : World} {l : List Perm} {user vhost : ByteArray} {way : Int} {name : ByteArray} {k : Nat} (hk : k < l.length) (h : (l.drop k).any (may1 user vhost way name) = l.any (may1 user vhost way name)) (hb : may1 user vhost way name l[k] = false) (hs : Sat w [HP.old w] wr) :
    MayRel w l user vhost way name (.int .i64 (k + 1 : Nat)) wr := ⟨k + 1, hk, rfl, hs, by simpa using may_next hk h hb⟩
theorem may_yes {l : List Perm} {user vhost : ByteArray} {way : Int} {name : ByteArray} {k : Nat} (hk : k < l.length) (h : (l.drop k).any (may1 user vhost way name) = l.any (may1 user vhost way name)) (hb : may1 user vhost way name l[k] = true) : l.any (may1 user vhost way name) = true := by
  simpa using (may_next hk h hb).symm
theorem nb_f {a b : List UInt8} (h : (!a == b) = false) : a = b := by simpa using h
theorem nb_t {a b : List UInt8} (h : (!a == b) = true) : ¬ a = b := by simpa using h
theorem may_user {user vhost : ByteArray} {way : Int} {name : ByteArray} {p : Perm} (h : ¬ p.user.toList = user.toList) : may1 user vhost way name p = false := by simp [may1, h]
theorem may_vhost {user vhost : ByteArray} {way : Int} {name : ByteArray} {p : Perm} (h : ¬ p.vhost.toList = vhost.toList) : may1 user vhost way name p = false := by simp [may1, h]
theorem may_way {user vhost : ByteArray} {way : Int} {name : ByteArray} {p : Perm} (h0 : (way == 0) = false) (h1 : (way == 1) = false) (h2 : (way == 2) = false) : may1 user vhost way name p = false := by
  have h0' : ¬ way = 0 := by simpa using h0
  have h1' : ¬ way = 1 := by simpa using h1
  have h2' : ¬ way = 2 := by simpa using h2
  simp [may1, h0', h1', h2']
theorem may_0 {user vhost : ByteArray} {way : Int} {name : ByteArray} {p : Perm} {b : Bool} (hu : p.user.toList = user.toList) (hv : p.vhost.toList = vhost.toList) (h0 : (way == 0) = true) (hg : Glob.gm p.conf.data.toList name.data.toList = b) : may1 user vhost way name p = b := by
  have h0' : way = 0 := by simpa using h0
  simp [may1, h0', hu, hv, hg]
theorem may_1 {user vhost : ByteArray} {way : Int} {name : ByteArray} {p : Perm} {b : Bool} (hu : p.user.toList = user.toList) (hv : p.vhost.toList = vhost.toList) (h0 : (way == 0) = false) (h1 : (way == 1) = true) (hg : Glob.gm p.write.data.toList name.data.toList = b) : may1 user vhost way name p = b := by
  have h0' : way = 1 := by simpa using h1
  simp [may1, h0', hu, hv, hg]
theorem may_2 {user vhost : ByteArray} {way : Int} {name : ByteArray} {p : Perm} {b : Bool} (hu : p.user.toList = user.toList) (hv : p.vhost.toList = vhost.toList) (h0 : (way == 0) = false) (h1 : (way == 1) = false) (h2 : (way == 2) = true) (hg : Glob.gm p.read.data.toList name.data.toList = b) : may1 user vhost way name p = b := by
  have h0' : way = 2 := by simpa using h2
  simp [may1, h0', hu, hv, hg]

set_option maxRecDepth 100000 in
set_option maxHeartbeats 2000000 in
theorem may_calls (A : Option Addr) (cap : Nat) (l : List Perm) (user vhost : ByteArray) (way : Int) (name : ByteArray) (w : World) (hlen : l.length ≤ 140737488351232) (hr : Rd w A l.length 5 (permCells l)) (hok : ∀ f ∈ l, f.ok) (hn : name.size ≤ maxLen) :
    Calls Try.prog 22 #[.slice A l.length cap, .string user, .string vhost, .int .i64 way, .string name] w (MayPost w (l.any (may1 user vhost way name))) := by
  have hw := Sat.refl w
  go_enter Try.func22, Try.ntmps22
  go_wp2
  go_loopw [12, 13, 14, 17] (fun v12 v13 v14 v17 wr => MayRel w l user vhost way name v17 wr) (fun v12 v13 v14 v17 wr => l.length - (intOf v17).toNat)
  case atStart => exact ⟨0, Nat.zero_le _, rfl, hw, rfl⟩
  case round =>
    clear hw
    obtain ⟨k, hk, rfl, hs, hall⟩ := hrel
    have HALL := Lib.hid hall
    clear hall
    by_cases hlt : k < l.length
    · obtain ⟨ad, rfl⟩ := hr.here (by omega)
      have hel := perm_get (hr.sat hs) hlt
      obtain ⟨k1, k2, k3⟩ := hok l[k] (List.getElem_mem hlt)
      go_wp2_with (first
        | ((with_reducible refine wpl_indexAddr _ _ _ ?_ ?_); rfl; intro K hK; refine wp_indexAddr _ _ _ rfl _ Try.underlying46 _ _ _ tiPerm ad _ _ _ _ rfl rfl (by omega) (by omega) ?_; refine hK _ _ ?_; clear hK K)
        | ((with_reducible refine wpl_load 58 _ ?_ ?_); rfl; intro K hK; refine wp_load_agg 58 _ rfl aggPerm _ _ _ tiPerm _ rfl _ (perm_length l[k]) hel ?_; refine hK _ _ ?_; clear hK K)
        | ((with_reducible refine wpl_alloc _ ?_ ?_); rfl; intro K hK; refine wp_alloc_sat hs _ _ _ _ tiPerm rfl ?_; intro B1 w1 hs1; refine hK _ _ ?_; clear hK K)
        | ((with_reducible refine wpl_store 58 _ _ ?_ ?_); rfl; intro K hK; refine wp_store_all hs1 0 _ _ _ rfl _ _ _ tiPerm B1 _ _ rfl rfl _ rfl (perm_length l[k]) rfl (perm_one _) ?_; intro w2 hs2; have c0 : w2.cell? ⟨B1, 0, none⟩ = some (.string l[k].user) := hs2.cell 0 rfl 0 rfl; have c1 : w2.cell? ⟨B1, 1, none⟩ = some (.string l[k].vhost) := hs2.cell 0 rfl 1 rfl; have c2 : w2.cell? ⟨B1, 2, none⟩ = some (.string l[k].conf) := hs2.cell 0 rfl 2 rfl; have c3 : w2.cell? ⟨B1, 3, none⟩ = some (.string l[k].write) := hs2.cell 0 rfl 3 rfl; have c4 : w2.cell? ⟨B1, 4, none⟩ = some (.string l[k].read) := hs2.cell 0 rfl 4 rfl; refine hK _ _ ?_; clear hK K hs1)
        | (go_at_call 10; refine (Glob.glob_calls _ _ _ (by with_reducible assumption) hn).mono ?_; rintro e w' ⟨rfl, nn, rfl⟩))
      all_goals first
        | (refine ⟨mayRel hlt HALL.out (may_user (by assumption)) hs2.drop, ?_⟩; simp [intOf]; omega)
        | (refine ⟨mayRel hlt HALL.out (may_user (by assumption)) (hs2.drop.drewN _), ?_⟩; simp [intOf]; omega)
        | (refine ⟨mayRel hlt HALL.out (may_vhost (nb_t (by assumption))) hs2.drop, ?_⟩; simp [intOf]; omega)
        | (refine ⟨mayRel hlt HALL.out (may_vhost (nb_t (by assumption))) (hs2.drop.drewN _), ?_⟩; simp [intOf]; omega)
        | (refine ⟨mayRel hlt HALL.out (may_way (by assumption) (by assumption) (by assumption)) hs2.drop, ?_⟩; simp [intOf]; omega)
        | (refine ⟨mayRel hlt HALL.out (may_way (by assumption) (by assumption) (by assumption)) (hs2.drop.drewN _), ?_⟩; simp [intOf]; omega)
        | (refine ⟨mayRel hlt HALL.out (may_0 (by assumption) (nb_f (by assumption)) (by assumption) (by assumption)) hs2.drop, ?_⟩; simp [intOf]; omega)
        | (refine ⟨mayRel hlt HALL.out (may_0 (by assumption) (nb_f (by assumption)) (by assumption) (by assumption)) (hs2.drop.drewN _), ?_⟩; simp [intOf]; omega)
        | (refine ⟨mayRel hlt HALL.out (may_1 (by assumption) (nb_f (by assumption)) (by assumption) (by assumption) (by assumption)) hs2.drop, ?_⟩; simp [intOf]; omega)
        | (refine ⟨mayRel hlt HALL.out (may_1 (by assumption) (nb_f (by assumption)) (by assumption) (by assumption) (by assumption)) (hs2.drop.drewN _), ?_⟩; simp [intOf]; omega)
        | (refine ⟨mayRel hlt HALL.out (may_2 (by assumption) (nb_f (by assumption)) (by assumption) (by assumption) (by assumption) (by assumption)) hs2.drop, ?_⟩; simp [intOf]; omega)
        | (refine ⟨mayRel hlt HALL.out (may_2 (by assumption) (nb_f (by assumption)) (by assumption) (by assumption) (by assumption) (by assumption)) (hs2.drop.drewN _), ?_⟩; simp [intOf]; omega)
        | (go_ret; exact mayPost (may_yes hlt HALL.out (may_0 (by assumption) (nb_f (by assumption)) (by assumption) (by assumption))) (hs2.drop.drewN _).old_below)
        | (go_ret; exact mayPost (may_yes hlt HALL.out (may_1 (by assumption) (nb_f (by assumption)) (by assumption) (by assumption) (by assumption))) (hs2.drop.drewN _).old_below)
        | (go_ret; exact mayPost (may_yes hlt HALL.out (may_2 (by assumption) (nb_f (by assumption)) (by assumption) (by assumption) (by assumption) (by assumption))) (hs2.drop.drewN _).old_below)
    · obtain rfl : k = l.length := by omega
      have hfin := HALL.out
      rw [List.drop_length] at hfin
      have HF := Lib.hid hfin
      clear hfin
      go_wp2
      go_ret
      exact mayPost HF.out.symm hs.old_below
end Pol
end Go.Proofs.Ytfledabgdcnkfaa

