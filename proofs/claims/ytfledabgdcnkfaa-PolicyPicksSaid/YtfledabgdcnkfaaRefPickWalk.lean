/- The walk of the reference's Pick. -/
import Derived.Test.YtfledabgdcnkfaaPickWalk
import Derived.Test.YtfledabgdcnkfaaRefGlobWalk
set_option linter.unusedVariables false
set_option linter.unusedSimpArgs false
namespace Go.Proofs.Ytfledabgdcnkfaa
open Go.RowKit
namespace Pol
theorem pick_none {vhost name sort : ByteArray} (l : List Pol) : ∀ (st : Bool × Pol), (st.1 = false → st.2 = Pol.zero) → (l.foldl (pickStep vhost name sort) st).1 = false → (l.foldl (pickStep vhost name sort) st).2 = Pol.zero := by
  induction l with
  | nil => intro st h h1; exact h h1
  | cons p l ih =>
    intro st h h1
    refine ih _ ?_ h1
    unfold pickStep
    split
    · intro h; cases h
    · exact h
def RefPickRel (w : World) (B : Nat) (l : List Pol) (vhost name sort : ByteArray) (v10 v11 : Value) (wr : World) : Prop :=
  ∃ (k : Nat) (f : Bool) (q : Pol), k ≤ l.length ∧ v11 = .int .i64 k ∧ Sat w [HP.pts B (.cells Pol.zero.cells.toArray 40), HP.old w] wr ∧ pick vhost name sort (l.take k) = (f, q) ∧
    ((f = false ∧ v10 = .int .i64 (-1)) ∨ (f = true ∧ ∃ m : Nat, m < l.length ∧ l[m]? = some q ∧ v10 = .int .i64 m))
theorem refPick_no {w : World} {B : Nat} {l : List Pol} {vhost name sort : ByteArray} {k : Nat} {q : Pol} {wr : World} {v10 v11 : Value} (hf : pick vhost name sort (l.take k) = (false, q)) (hk : k < l.length)
    (h11 : v11 = .int .i64 (k + 1 : Nat)) (h10 : v10 = .int .i64 (-1)) (hs : Sat w [HP.pts B (.cells Pol.zero.cells.toArray 40), HP.old w] wr) (hs' : pickStep vhost name sort (false, q) l[k] = (false, q)) :
    RefPickRel w B l vhost name sort v10 v11 wr :=
  ⟨k + 1, false, q, hk, h11, hs, by rw [pick_take _ _ _ l k hk, hf, hs'], .inl ⟨rfl, h10⟩⟩
theorem refPick_keep {w : World} {B : Nat} {l : List Pol} {vhost name sort : ByteArray} {k m : Nat} {q : Pol} {wr : World} {v10 v11 : Value} (hf : pick vhost name sort (l.take k) = (true, q)) (hk : k < l.length) (hm : m < l.length) (hq : l[m]? = some q)
    (h11 : v11 = .int .i64 (k + 1 : Nat)) (h10 : v10 = .int .i64 m) (hs : Sat w [HP.pts B (.cells Pol.zero.cells.toArray 40), HP.old w] wr) (hs' : pickStep vhost name sort (true, q) l[k] = (true, q)) :
    RefPickRel w B l vhost name sort v10 v11 wr :=
  ⟨k + 1, true, q, hk, h11, hs, by rw [pick_take _ _ _ l k hk, hf, hs'], .inr ⟨rfl, m, hm, hq, h10⟩⟩
theorem refPick_take {w : World} {B : Nat} {l : List Pol} {vhost name sort : ByteArray} {k : Nat} {f : Bool} {q : Pol} {wr : World} {v10 v11 : Value} (hf : pick vhost name sort (l.take k) = (f, q)) (hk : k < l.length)
    (h11 : v11 = .int .i64 (k + 1 : Nat)) (h10 : v10 = .int .i64 k) (hs : Sat w [HP.pts B (.cells Pol.zero.cells.toArray 40), HP.old w] wr) (hs' : pickStep vhost name sort (f, q) l[k] = (true, l[k])) :
    RefPickRel w B l vhost name sort v10 v11 wr :=
  ⟨k + 1, true, l[k], hk, h11, hs, by rw [pick_take _ _ _ l k hk, hf, hs'], .inr ⟨rfl, k, hk, List.getElem?_eq_getElem hk, h10⟩⟩

def PickPost (w : World) (x : Bool × Pol) (e : Ending) (w' : World) : Prop := e = .returned (.tuple #[.agg x.2.cells.toArray, .bool x.1]) ∧ Below w.heap.size w w'

set_option maxRecDepth 100000 in
set_option maxHeartbeats 2000000 in
theorem refPick_calls (A : Option Addr) (cap : Nat) (l : List Pol) (vhost name sort : ByteArray) (w : World) (hlen : l.length ≤ 140737488351232)
    (hr : Rd w A l.length 15 (polCells l)) (hn : name.size ≤ 140737488351232) (hp : ∀ p ∈ l, p.pat.size ≤ 140737488351232) :
    Calls Try.prog 19 #[.slice A l.length cap, .string vhost, .string name, .string sort] w (PickPost w (pick vhost name sort l)) := by
  have hw := Sat.refl w
  go_enter Try.func19, Try.ntmps19
  go_wp2_with (first | ((with_reducible refine wpl_alloc _ ?_ ?_); rfl; intro K hK; refine wp_alloc_sat hw _ _ _ _ tiPol rfl ?_; intro B wB hs; refine hK _ _ ?_; clear hK K hw))
  go_loopw [10, 11, 12, 13] (fun v10 v11 v12 v13 wr => RefPickRel w B l vhost name sort v10 v11 wr) (fun v10 v11 v12 v13 wr => l.length - (intOf v11).toNat)
  case atStart => exact ⟨0, false, Pol.zero, Nat.zero_le _, rfl, hs, rfl, .inl ⟨rfl, rfl⟩⟩
  case round =>
    clear hs
    obtain ⟨k, f, q, hk, rfl, hs, hfold, hcase⟩ := hrel
    have HF := Lib.hid hfold
    by_cases hlt : k < l.length
    · obtain ⟨ad, rfl⟩ := hr.here (by omega)
      have hel := rd_elem (hr.sat (hs.pick 1)) hlt
      have hpat := hp l[k] (List.getElem_mem hlt)
      rcases hcase with ⟨rfl, rfl⟩ | ⟨rfl, m, hm, hq, rfl⟩
      · clear hfold
        go_wp2_with (first
          | ((with_reducible refine wpl_indexAddr _ _ _ ?_ ?_); rfl; intro K hK; refine wp_indexAddr _ _ _ rfl _ Try.underlying36 _ _ _ tiPol ad _ _ _ _ rfl rfl (by omega) (by omega) ?_; refine hK _ _ ?_; clear hK K)
          | ((with_reducible refine wpl_load 40 _ ?_ ?_); rfl; intro K hK; refine wp_load_agg 40 _ rfl aggPol _ _ _ tiPol _ rfl _ (pol_length l[k]) hel ?_; refine hK _ _ ?_; clear hK K)
          | ((with_reducible refine wpl_alloc _ ?_ ?_); rfl; intro K hK; refine wp_alloc_sat hs _ _ _ _ tiPol rfl ?_; intro B1 w1 hs1; refine hK _ _ ?_; clear hK K hs)
          | ((with_reducible refine wpl_store _ _ _ ?_ ?_); rfl; intro K hK; refine wp_store_all hs1 0 _ _ _ rfl _ _ _ tiPol B1 _ _ rfl rfl _ rfl (pol_length l[k]) rfl (pol_one _) ?_; intro w2 hs2; have c0 : w2.cell? ⟨B1, 0, none⟩ = some (.string l[k].vhost) := hs2.cell 0 rfl 0 rfl; have c1 : w2.cell? ⟨B1, 1, none⟩ = some (.string l[k].name) := hs2.cell 0 rfl 1 rfl; have c2 : w2.cell? ⟨B1, 2, none⟩ = some (.string l[k].pat) := hs2.cell 0 rfl 2 rfl; refine hK _ _ ?_; clear hK K hs1)
          | (go_at_call 11; refine (Glob.refGlob_calls _ _ _ hpat hn).mono ?_; rintro e w5 ⟨rfl, hb⟩; have hs5 := hs2.belowL hb rfl rfl rfl rfl; clear hb; have d3 : w5.cell? ⟨B1, 3, none⟩ = some (.string l[k].apply) := hs5.cell 0 rfl 3 rfl))
        all_goals refine ⟨?_, by simp [intOf]; omega⟩
        all_goals clear hr hel
        all_goals first
          | exact refPick_no HF.out hlt rfl rfl hs5.drop (step_no (fun h => by simp_all [fits]))
          | exact refPick_no HF.out hlt rfl rfl hs2.drop (step_no (fun h => by simp_all [fits]))
          | exact refPick_take HF.out hlt rfl rfl hs5.drop (step_new (by simp_all [fits]))
          | skip
      · clear hfold
        obtain rfl : l[m] = q := by rw [List.getElem?_eq_getElem hm] at hq; exact Option.some.inj hq
        have hm0 : (0 : Int) ≤ (m : Int) := by omega
        go_wp2_with (first
          | ((with_reducible refine wpl_indexAddr _ _ _ ?_ ?_); rfl; intro K hK; refine wp_indexAddr _ _ _ rfl _ Try.underlying36 _ _ _ tiPol ad _ _ _ _ rfl rfl (by omega) (by omega) ?_; refine hK _ _ ?_; clear hK K)
          | ((with_reducible refine wpl_load 40 _ ?_ ?_); rfl; intro K hK; first | refine wp_load_agg 40 _ rfl aggPol _ _ _ tiPol _ rfl _ (pol_length l[m]) helm ?_ | refine wp_load_agg 40 _ rfl aggPol _ _ _ tiPol _ rfl _ (pol_length l[k]) hel ?_; refine hK _ _ ?_; clear hK K)
          | ((with_reducible refine wpl_alloc _ ?_ ?_); rfl; intro K hK; refine wp_alloc_sat hs5 _ _ _ _ tiPol rfl ?_; intro B3 w6 hs6; refine hK _ _ ?_; clear hK K)
          | ((with_reducible refine wpl_alloc _ ?_ ?_); rfl; intro K hK; refine wp_alloc_sat hs _ _ _ _ tiPol rfl ?_; intro B1 w1 hs1; refine hK _ _ ?_; clear hK K hs)
          | ((with_reducible refine wpl_store _ _ _ ?_ ?_); rfl; intro K hK; refine wp_store_all hs6 0 _ _ _ rfl _ _ _ tiPol B3 _ _ rfl rfl _ rfl (pol_length l[m]) rfl (pol_one _) ?_; intro w7 hs7; have e1 : w7.cell? ⟨B1, 1, none⟩ = some (.string l[k].name) := hs7.cell 1 rfl 1 rfl; have e4 : w7.cell? ⟨B1, 4, none⟩ = some (.int .i64 l[k].prio) := hs7.cell 1 rfl 4 rfl; have g1 : w7.cell? ⟨B3, 1, none⟩ = some (.string l[m].name) := hs7.cell 0 rfl 1 rfl; have g4 : w7.cell? ⟨B3, 4, none⟩ = some (.int .i64 l[m].prio) := hs7.cell 0 rfl 4 rfl; refine hK _ _ ?_; clear hK K hs6)
          | ((with_reducible refine wpl_store _ _ _ ?_ ?_); rfl; intro K hK; refine wp_store_all hs1 0 _ _ _ rfl _ _ _ tiPol B1 _ _ rfl rfl _ rfl (pol_length l[k]) rfl (pol_one _) ?_; intro w2 hs2; have c0 : w2.cell? ⟨B1, 0, none⟩ = some (.string l[k].vhost) := hs2.cell 0 rfl 0 rfl; have c1 : w2.cell? ⟨B1, 1, none⟩ = some (.string l[k].name) := hs2.cell 0 rfl 1 rfl; have c2 : w2.cell? ⟨B1, 2, none⟩ = some (.string l[k].pat) := hs2.cell 0 rfl 2 rfl; refine hK _ _ ?_; clear hK K hs1)
          | (go_at_call 11; refine (Glob.refGlob_calls _ _ _ hpat hn).mono ?_; rintro e w5 ⟨rfl, hb⟩; have hs5 := hs2.belowL hb rfl rfl rfl rfl; clear hb; have helm := rd_elem (hr.sat (hs5.pick 2)) hm; have d3 : w5.cell? ⟨B1, 3, none⟩ = some (.string l[k].apply) := hs5.cell 0 rfl 3 rfl))
        all_goals refine ⟨?_, by simp [intOf]; omega⟩
        all_goals clear hr hel
        all_goals first
          | exact refPick_keep HF.out hlt hm hq rfl rfl hs7.drop.drop (step_keep (fun h => by rcases h with h | ⟨h1, h2⟩; omega; simp_all))
          | exact refPick_take HF.out hlt rfl rfl hs7.drop.drop (step_better (by simp_all [fits]) (by unfold better; first | exact .inl (by omega) | exact .inr ⟨by omega, by simp_all⟩))
          | exact refPick_keep HF.out hlt hm hq rfl rfl hs5.drop (step_no (fun h => by simp_all [fits]))
          | exact refPick_keep HF.out hlt hm hq rfl rfl hs2.drop (step_no (fun h => by simp_all [fits]))
          | skip
    · obtain rfl : k = l.length := by omega
      have hfin := HF.out
      rw [List.take_length] at hfin
      rcases hcase with ⟨rfl, rfl⟩ | ⟨rfl, m, hm, hq, rfl⟩
      · obtain rfl : q = Pol.zero := by have := pick_none (vhost := vhost) (name := name) (sort := sort) l (false, Pol.zero) (fun _ => rfl) (by change (pick vhost name sort l).1 = false; rw [hfin]); change (pick vhost name sort l).2 = _ at this; rw [hfin] at this; exact this
        clear hfold HF
        go_wp2_with (first
          | ((with_reducible refine wpl_store _ _ _ ?_ ?_); rfl; intro K hK; refine wp_store_all hs 0 _ _ _ rfl _ _ _ tiPol B _ _ rfl rfl Pol.zero.cells rfl rfl rfl (pol_one _) ?_; intro w3 hs3; refine hK _ _ ?_; clear hK K))
        try rw [hfin]
        refine bodyPost_ret (v := .tuple #[.agg Pol.zero.cells.toArray, .bool false]) ?_ rfl ⟨rfl, (hs3.pick 1).old_below⟩
        exact res_cell_tmp (fn := Try.f19) (p := 8) (t := 9) (ty := 40) (v := .agg Pol.zero.cells.toArray) (ad := ⟨B, 0, none⟩) rfl rfl (run_load_agg aggPol tiPol (pol_length Pol.zero) (hs3.cellsAll 0 rfl))
      · clear hfold HF
        obtain rfl : l[m] = q := by rw [List.getElem?_eq_getElem hm] at hq; exact Option.some.inj hq
        obtain ⟨ad, rfl⟩ := hr.here (by omega)
        have helm := rd_elem (hr.sat (hs.pick 1)) hm
        have hm1 : ¬ ((m : Int) < 0) := by omega
        go_wp2_with (first
          | ((with_reducible refine wpl_indexAddr _ _ _ ?_ ?_); rfl; intro K hK; refine wp_indexAddr _ _ _ rfl _ Try.underlying36 _ _ _ tiPol ad _ _ _ _ rfl rfl (by omega) (by omega) ?_; refine hK _ _ ?_; clear hK K)
          | ((with_reducible refine wpl_load 40 _ ?_ ?_); rfl; intro K hK; refine wp_load_agg 40 _ rfl aggPol _ _ _ tiPol _ rfl _ (pol_length l[m]) helm ?_; refine hK _ _ ?_; clear hK K)
          | ((with_reducible refine wpl_store _ _ _ ?_ ?_); rfl; intro K hK; refine wp_store_all hs 0 _ _ _ rfl _ _ _ tiPol B _ _ rfl rfl _ rfl (pol_length l[m]) rfl (pol_one _) ?_; intro w3 hs3; refine hK _ _ ?_; clear hK K))
        try rw [hfin]
        refine bodyPost_ret (v := .tuple #[.agg l[m].cells.toArray, .bool true]) ?_ rfl ⟨rfl, (hs3.pick 1).old_below⟩
        exact res_cell_tmp (fn := Try.f19) (p := 8) (t := 9) (ty := 40) (v := .agg l[m].cells.toArray) (ad := ⟨B, 0, none⟩) rfl rfl (run_load_agg aggPol tiPol (pol_length l[m]) (hs3.cellsAll 0 rfl))
end Pol
end Go.Proofs.Ytfledabgdcnkfaa
