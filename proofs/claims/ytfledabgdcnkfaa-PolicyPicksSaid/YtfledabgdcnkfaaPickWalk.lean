/- The walk of policy.Pick. -/
import Derived.Test.YtfledabgdcnkfaaGlobWalk
import Derived.Test.YtfledabgdcnkfaaMem
import Derived.Test.YtfledabgdcnkfaaPolPlain
set_option linter.unusedVariables false
set_option linter.unusedSimpArgs false
namespace Go.Proofs.Ytfledabgdcnkfaa
open Go.RowKit
namespace Pol
theorem tiPol : TI Try.prog 40 (.agg (Pol.cells Pol.zero).toArray) 15 160 := by unfold TI; kernel_rfl
theorem aggPol : aggregate Try.prog 40 = true := by kernel_rfl
theorem pol_one (p : Pol) : ∀ v ∈ p.cells, v.oneCell' = true := by
  intro v hv
  simp only [Pol.cells, List.mem_cons, List.not_mem_nil, or_false] at hv
  rcases hv with rfl | rfl | rfl | rfl | rfl | rfl | rfl | rfl | rfl | rfl | rfl | rfl | rfl | rfl | rfl <;> rfl

theorem rd_elem {w : World} {ad : Addr} {n : Nat} {l : List Pol} (h : Rd w (some ad) n 15 (polCells l)) {k : Nat} (hk : k < l.length) :
    ∀ j u, (l[k].cells)[j]? = some u → w.cell? ((ad.add (k * 15)).add j) = some u := fun j u hu => by
  rw [add_add']
  refine h.cells ad rfl _ u ?_
  rw [polCells, pieces_get pol_length l k j hk, hu]
  exact (List.getElem?_eq_some_iff.1 hu).1

def PickRel (w : World) (B : Nat) (l : List Pol) (vhost name sort : ByteArray) (v9 v14 : Value) (wr : World) : Prop :=
  ∃ (k : Nat) (f : Bool) (q : Pol), k ≤ l.length ∧ v14 = .int .i64 k ∧ v9 = .bool f ∧ Sat w [HP.pts B (.cells q.cells.toArray 40), HP.old w] wr ∧ pick vhost name sort (l.take k) = (f, q)

theorem pickRel {w : World} {B : Nat} {l : List Pol} {vhost name sort : ByteArray} {k : Nat} {f f' : Bool} {q q' : Pol} {wr : World} {v9 v14 : Value} (hf : pick vhost name sort (l.take k) = (f, q)) (hk : k < l.length)
    (h14 : v14 = .int .i64 (k + 1 : Nat)) (h9 : v9 = .bool f') (hs : Sat w [HP.pts B (.cells q'.cells.toArray 40), HP.old w] wr) (hs' : pickStep vhost name sort (f, q) l[k] = (f', q')) :
    PickRel w B l vhost name sort v9 v14 wr :=
  ⟨k + 1, f', q', hk, h14, h9, hs, by rw [pick_take _ _ _ l k hk, hf, hs']⟩

set_option maxRecDepth 100000 in
set_option maxHeartbeats 2000000 in
theorem pick_calls (A : Option Addr) (cap : Nat) (l : List Pol) (vhost name sort : ByteArray) (w : World) (hlen : l.length ≤ 140737488351232)
    (hr : Rd w A l.length 15 (polCells l)) (hn : name.size ≤ maxLen) (hp : ∀ p ∈ l, p.pat.size ≤ maxLen) :
    Calls Try.prog 18 #[.slice A l.length cap, .string vhost, .string name, .string sort] w fun e w' =>
      e = .returned (.tuple #[.agg (pick vhost name sort l).2.cells.toArray, .bool (pick vhost name sort l).1]) ∧ Below w.heap.size w w' := by
  have hw := Sat.refl w
  go_enter Try.func18, Try.ntmps18
  go_wp2_with (first | ((with_reducible refine wpl_alloc _ ?_ ?_); rfl; intro K hK; refine wp_alloc_sat hw _ _ _ _ tiPol rfl ?_; intro B wB hs; refine hK _ _ ?_; clear hK K hw))
  go_loopw [9, 11, 14] (fun v9 v11 v14 wr => PickRel w B l vhost name sort v9 v14 wr) (fun v9 v11 v14 wr => l.length - (intOf v14).toNat)
  case atStart => exact ⟨0, false, Pol.zero, Nat.zero_le _, rfl, rfl, hs, rfl⟩
  case round =>
    clear hs
    obtain ⟨k, f, q, hk, rfl, rfl, hs, hfold⟩ := hrel
    have HF := Lib.hid hfold
    clear hfold
    by_cases hlt : k < l.length
    · obtain ⟨ad, rfl⟩ := hr.here (by omega)
      have hel := rd_elem (hr.sat (hs.pick 1)) hlt
      have hpat := hp l[k] (List.getElem_mem hlt)
      go_wp2_with (first
        | ((with_reducible refine wpl_indexAddr _ _ _ ?_ ?_); rfl; intro K hK; refine wp_indexAddr _ _ _ rfl _ Try.underlying36 _ _ _ tiPol ad _ _ _ _ rfl rfl (by omega) (by omega) ?_; refine hK _ _ ?_; clear hK K)
        | ((with_reducible refine wpl_load 40 _ ?_ ?_); rfl; intro K hK; first | refine wp_load_agg 40 _ rfl aggPol _ _ _ tiPol _ rfl _ (pol_length l[k]) hel ?_ | refine wp_load_agg 40 _ rfl aggPol _ _ _ tiPol _ rfl _ (pol_length l[k]) ((hs2.drewN _).cellsAll 0 rfl) ?_; refine hK _ _ ?_; clear hK K)
        | ((with_reducible refine wpl_alloc _ ?_ ?_); rfl; intro K hK; refine wp_alloc_sat hs _ _ _ _ tiPol rfl ?_; intro B1 w1 hs1; refine hK _ _ ?_; clear hK K hs)
        | ((with_reducible refine wpl_store _ _ _ ?_ ?_); rfl; intro K hK; refine wp_store_all hs1 0 _ _ _ rfl _ _ _ tiPol B1 _ _ rfl rfl _ rfl (pol_length l[k]) rfl (pol_one _) ?_; intro w2 hs2; have c0 : w2.cell? ⟨B1, 0, none⟩ = some (.string l[k].vhost) := hs2.cell 0 rfl 0 rfl; have c1 : w2.cell? ⟨B1, 1, none⟩ = some (.string l[k].name) := hs2.cell 0 rfl 1 rfl; have c2 : w2.cell? ⟨B1, 2, none⟩ = some (.string l[k].pat) := hs2.cell 0 rfl 2 rfl; have c3 : w2.cell? ⟨B1, 3, none⟩ = some (.string l[k].apply) := hs2.cell 0 rfl 3 rfl; have c4 : w2.cell? ⟨B1, 4, none⟩ = some (.int .i64 l[k].prio) := hs2.cell 0 rfl 4 rfl; have d1 : w2.cell? ⟨B, 1, none⟩ = some (.string q.name) := hs2.cell 1 rfl 1 rfl; have d4 : w2.cell? ⟨B, 4, none⟩ = some (.int .i64 q.prio) := hs2.cell 1 rfl 4 rfl; refine hK _ _ ?_; clear hK K hs1)
        | ((with_reducible refine wpl_store _ _ _ ?_ ?_); rfl; intro K hK; refine wp_store_all (hs2.drewN _) 1 _ _ _ rfl _ _ _ tiPol B _ _ rfl rfl _ rfl (pol_length l[k]) rfl (pol_one _) ?_; intro w3 hs3; refine hK _ _ ?_; clear hK K)
        | (go_at_call 10; refine (Glob.glob_calls _ _ _ hpat hn).mono ?_; rintro e w' ⟨rfl, nn, rfl⟩))
      all_goals refine ⟨?_, by simp [intOf]; omega⟩
      all_goals clear hr hel
      all_goals first
        | exact pickRel HF.out hlt rfl rfl (hs2.drop.drewN _) (step_no (fun h => by simp_all [fits]))
        | exact pickRel HF.out hlt rfl rfl hs2.drop (step_no (fun h => by simp_all [fits]))
        | (obtain rfl : f = true := (by assumption); exact pickRel HF.out hlt rfl rfl (hs2.drop.drewN _) (step_keep (fun h => by rcases h with h | ⟨h1, h2⟩; omega; simp_all)))
        | (obtain rfl : f = true := (by assumption); exact pickRel HF.out hlt rfl rfl hs3.drop (step_better (by simp_all [fits]) (by unfold better; first | exact .inl (by omega) | exact .inr ⟨by assumption, by assumption⟩)))
        | (obtain rfl : f = false := (by simpa using ‹¬ f = true›); exact pickRel HF.out hlt rfl rfl hs3.drop (step_new (by simp_all [fits])))
    · obtain rfl : k = l.length := by omega
      have hag := hs.cellsAll 0 rfl
      go_wp2_with (first
        | ((with_reducible refine wpl_load 40 _ ?_ ?_); rfl; intro K hK; refine wp_load_agg 40 _ rfl aggPol _ _ _ tiPol _ rfl _ (pol_length q) hag ?_; refine hK _ _ ?_; clear hK K)
        | ((with_reducible refine wpl_store _ _ _ ?_ ?_); rfl; intro K hK; refine wp_store_all hs 0 _ _ _ rfl _ _ _ tiPol B _ _ rfl rfl _ rfl (pol_length q) rfl (pol_one _) ?_; intro w3 hs3; refine hK _ _ ?_; clear hK K))
      have hfin := HF.out
      rw [List.take_length] at hfin
      rw [hfin]
      refine bodyPost_ret (v := .tuple #[.agg q.cells.toArray, .bool f]) ?_ rfl ⟨rfl, (hs3.pick 1).old_below⟩
      exact res_cell_tmp (fn := Try.f18) (p := 8) (t := 9) (ty := 40) (v := .agg q.cells.toArray) (ad := ⟨B, 0, none⟩) rfl rfl (run_load_agg aggPol tiPol (pol_length q) (hs3.cellsAll 0 rfl))
end Pol
end Go.Proofs.Ytfledabgdcnkfaa
