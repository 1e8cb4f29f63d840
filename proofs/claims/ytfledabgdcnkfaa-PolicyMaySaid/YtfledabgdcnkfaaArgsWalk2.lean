/- The walk of policy.Args. -/
import Derived.Test.YtfledabgdcnkfaaArgsWalk
set_option linter.unusedVariables false
set_option linter.unusedSimpArgs false
namespace Go.Proofs.Ytfledabgdcnkfaa
open Go.RowKit
namespace Pol
theorem fld_get {w : World} {ad : Addr} {n : Nat} {l : List Fld} (h : Rd w (some ad) n 6 (fldCells l)) {k : Nat} (hk : k < l.length) :
    ∀ j u, (l[k].cells)[j]? = some u → w.cell? ((ad.add (k * 6)).add j) = some u := fun j u hu => by
  rw [add_add']
  refine h.cells ad rfl _ u ?_
  rw [fldCells, pieces_get fld_length l k j hk, hu]
  exact (List.getElem?_eq_some_iff.1 hu).1
/-- A list and a table: one cell each. -/
def Fld.ok (f : Fld) : Prop := f.val.list.oneCell' = true ∧ f.val.table.oneCell' = true
theorem fld_one {p : Fld} (h : p.ok) : ∀ v ∈ p.cells, v.oneCell' = true := by
  intro v hv
  simp only [Fld.cells, List.mem_cons, List.not_mem_nil, or_false] at hv
  rcases hv with rfl | rfl | rfl | rfl | rfl | rfl
  · rfl
  · rfl
  · rfl
  · rfl
  · exact h.1
  · exact h.2

def ArgsPost (w : World) (r : Int × Conf) (e : Ending) (w' : World) : Prop := e = .returned (.tuple #[.agg r.2.cells.toArray, .int .i64 r.1]) ∧ Below w.heap.size w w'
def ArgsRel (w : World) (R C : Nat) (l : List Fld) (v11 : Value) (wr : World) : Prop :=
  ∃ (k : Nat) (c : Conf), k ≤ l.length ∧ v11 = .int .i64 k ∧ Sat w [HP.pts C (.cells c.cells.toArray 25 (0, 0)), HP.pts R (.cells Conf.zero.cells.toArray 25 (0, 0)), HP.old w] wr ∧ setAll (l.drop k) c = setAll l Conf.none

theorem args_step {l : List Fld} {k : Nat} {c : Conf} (hk : k < l.length) : setAll (l.drop k) c = if (setCode c l[k]).1 = 0 then setAll (l.drop (k + 1)) (setCode c l[k]).2 else ((setCode c l[k]).1, Conf.zero) := by
  rw [List.drop_eq_getElem_cons hk]; rfl

set_option maxRecDepth 100000 in
set_option maxHeartbeats 2000000 in
theorem args_calls (A : Option Addr) (cap : Nat) (l : List Fld) (w : World) (hlen : l.length ≤ 140737488351232) (hr : Rd w A l.length 6 (fldCells l)) (hok : ∀ f ∈ l, f.ok) :
    Calls Try.prog 15 #[.slice A l.length cap] w (ArgsPost w (setAll l Conf.none)) := by
  have hw := Sat.refl w
  go_enter Try.func15, Try.ntmps15
  go_wp2_with (first
    | ((with_reducible refine wpl_alloc _ ?_ ?_); rfl; intro K hK; first | (refine wp_alloc_sat hw _ _ _ _ tiConf rfl ?_; intro R wR hs; refine hK _ _ ?_; clear hK K hw) | (refine wp_alloc_sat hs1 _ _ _ _ tiConf rfl ?_; intro C wC hs2; refine hK _ _ ?_; clear hK K hs1))
    | ((with_reducible refine wpl_store _ _ _ ?_ ?_); rfl; intro K hK; refine wp_store_all hs2 0 _ _ _ rfl _ _ _ tiConf C _ _ rfl rfl Conf.none.cells rfl (conf_length _) rfl (conf_one _) ?_; intro w3 hs3; refine hK _ _ ?_; clear hK K hs2)
    | (go_at_call 12; refine (none_calls _).mono ?_; rintro e w1 ⟨rfl, hb1⟩; have hs1 := hs.below hb1; clear hb1 hs))
  go_loopw [6, 7, 11] (fun v6 v7 v11 wr => ArgsRel w R C l v11 wr) (fun v6 v7 v11 wr => l.length - (intOf v11).toNat)
  case atStart => exact ⟨0, Conf.none, Nat.zero_le _, rfl, hs3, rfl⟩
  case round =>
    clear hs3
    obtain ⟨k, c, hk, rfl, hs, hall⟩ := hrel
    by_cases hlt : k < l.length
    · rw [args_step hlt] at hall
      obtain ⟨ad, rfl⟩ := hr.here (by omega)
      have hel := fld_get (hr.sat (hs.pick 2)) hlt
      have hokk := hok l[k] (List.getElem_mem hlt)
      have HALL := Lib.hid hall
      clear hall
      by_cases h0 : (setCode c l[k]).1 = 0
      · have hb : ((setCode c l[k]).1 != 0) = false := by simp [h0]
        have H0 := Lib.hid h0
        clear h0
        go_wp2_with (first
          | ((with_reducible refine wpl_indexAddr _ _ _ ?_ ?_); rfl; intro K hK; refine wp_indexAddr _ _ _ rfl _ Try.underlying27 _ _ _ tiFld ad _ _ _ _ rfl rfl (by omega) (by omega) ?_; refine hK _ _ ?_; clear hK K)
          | ((with_reducible refine wpl_load 56 _ ?_ ?_); rfl; intro K hK; first | refine wp_load_agg 56 _ rfl aggFld _ _ _ tiFld _ rfl _ (fld_length l[k]) hel ?_ | refine wp_load_agg 56 _ rfl aggFld _ _ _ tiFld _ rfl _ (fld_length l[k]) (hs2.cellsAll 0 rfl) ?_; refine hK _ _ ?_; clear hK K)
          | ((with_reducible refine wpl_alloc _ ?_ ?_); rfl; intro K hK; refine wp_alloc_sat hs _ _ _ _ tiFld rfl ?_; intro B1 w1 hs1; refine hK _ _ ?_; clear hK K)
          | ((with_reducible refine wpl_store 56 _ _ ?_ ?_); rfl; intro K hK; refine wp_store_all hs1 0 _ _ _ rfl _ _ _ tiFld B1 _ _ rfl rfl _ rfl (fld_length l[k]) rfl (fld_one hokk) ?_; intro w2 hs2; refine hK _ _ ?_; clear hK K hs1)
          | (go_at_call 25; refine (set_calls w _ C c l[k] _ hs2.swap).mono ?_; rintro e w4 ⟨rfl, hs4⟩))
        exact ⟨⟨k + 1, _, by omega, rfl, hs4.drop1, by rw [← HALL.out, if_pos H0.out]⟩, by simp [intOf]; omega⟩
      · have hb : ((setCode c l[k]).1 != 0) = true := by simp [h0]
        have H0 := Lib.hid h0
        clear h0
        go_wp2_with (first
          | ((with_reducible refine wpl_indexAddr _ _ _ ?_ ?_); rfl; intro K hK; refine wp_indexAddr _ _ _ rfl _ Try.underlying27 _ _ _ tiFld ad _ _ _ _ rfl rfl (by omega) (by omega) ?_; refine hK _ _ ?_; clear hK K)
          | ((with_reducible refine wpl_load 56 _ ?_ ?_); rfl; intro K hK; first | refine wp_load_agg 56 _ rfl aggFld _ _ _ tiFld _ rfl _ (fld_length l[k]) hel ?_ | refine wp_load_agg 56 _ rfl aggFld _ _ _ tiFld _ rfl _ (fld_length l[k]) (hs2.cellsAll 0 rfl) ?_; refine hK _ _ ?_; clear hK K)
          | ((with_reducible refine wpl_alloc _ ?_ ?_); rfl; intro K hK; refine wp_alloc_sat hs _ _ _ _ tiFld rfl ?_; intro B1 w1 hs1; refine hK _ _ ?_; clear hK K)
          | ((with_reducible refine wpl_store 56 _ _ ?_ ?_); rfl; intro K hK; refine wp_store_all hs1 0 _ _ _ rfl _ _ _ tiFld B1 _ _ rfl rfl _ rfl (fld_length l[k]) rfl (fld_one hokk) ?_; intro w2 hs2; refine hK _ _ ?_; clear hK K hs1)
          | (go_at_call 25; refine (set_calls w _ C c l[k] _ hs2.swap).mono ?_; rintro e w4 ⟨rfl, hs4⟩)
          | ((with_reducible refine wpl_store 25 _ _ ?_ ?_); rfl; intro K hK; refine wp_store_all hs4 2 _ _ _ rfl _ _ _ tiConf R _ _ rfl rfl Conf.zero.cells rfl (conf_length _) rfl (conf_one _) ?_; intro w5 hs5; refine hK _ _ ?_; clear hK K))
        refine bodyPost_ret (v := .tuple #[.agg Conf.zero.cells.toArray, .int .i64 (setCode c l[k]).1]) ?_ rfl ⟨by rw [← HALL.out, if_neg H0.out], (hs5.pick 3).old_below⟩
        exact res_cell_tmp (fn := Try.f15) (p := 2) (t := 3) (ty := 25) (v := .agg Conf.zero.cells.toArray) (ad := ⟨R, 0, none⟩) rfl rfl (run_load_agg aggConf tiConf (conf_length Conf.zero) (hs5.cellsAll 2 rfl))
    · obtain rfl : k = l.length := by omega
      rw [List.drop_length] at hall
      have HALL := Lib.hid hall
      clear hall
      have c7 : wr.cell? ⟨C, 7, none⟩ = some (.bool c.hdlx) := hs.cell 0 rfl 7 rfl
      have c8 : wr.cell? ⟨C, 8, none⟩ = some (.bool c.hdlk) := hs.cell 0 rfl 8 rfl
      by_cases h0 : c.hdlk = true ∧ c.hdlx = false
      · have hfin : setAll [] c = (2, Conf.zero) := if_pos h0
        have HF := Lib.hid hfin
        obtain ⟨h1, h2⟩ := h0
        rw [h1] at c8
        rw [h2] at c7
        clear hfin h1 h2
        go_wp2_with ((with_reducible refine wpl_store 25 _ _ ?_ ?_); rfl; intro K hK; refine wp_store_all hs 1 _ _ _ rfl _ _ _ tiConf R _ _ rfl rfl Conf.zero.cells rfl (conf_length _) rfl (conf_one _) ?_; intro w5 hs5; refine hK _ _ ?_; clear hK K)
        refine bodyPost_ret (v := .tuple #[.agg Conf.zero.cells.toArray, .int .i64 2]) ?_ rfl ⟨by rw [← HALL.out, HF.out], (hs5.pick 2).old_below⟩
        exact res_cell_tmp (fn := Try.f15) (p := 2) (t := 3) (ty := 25) (v := .agg Conf.zero.cells.toArray) (ad := ⟨R, 0, none⟩) rfl rfl (run_load_agg aggConf tiConf (conf_length Conf.zero) (hs5.cellsAll 1 rfl))
      · have hfin : setAll [] c = (0, c) := if_neg h0
        have HF := Lib.hid hfin
        have hgood : c.hdlk = false ∨ (c.hdlk = true ∧ c.hdlx = true) := by
          cases h1 : c.hdlk <;> cases h2 : c.hdlx <;> simp_all
        clear hfin h0
        have hcs := hs.cellsAll 0 rfl
        rcases hgood with h1 | ⟨h1, h2⟩
        · rw [h1] at c8
          clear h1
          go_wp2_with (first
            | ((with_reducible refine wpl_load 25 _ ?_ ?_); rfl; intro K hK; refine wp_load_agg 25 _ rfl aggConf _ _ _ tiConf _ rfl _ (conf_length c) hcs ?_; refine hK _ _ ?_; clear hK K)
            | ((with_reducible refine wpl_store 25 _ _ ?_ ?_); rfl; intro K hK; refine wp_store_all hs 1 _ _ _ rfl _ _ _ tiConf R _ _ rfl rfl c.cells rfl (conf_length _) rfl (conf_one _) ?_; intro w5 hs5; refine hK _ _ ?_; clear hK K))
          refine bodyPost_ret (v := .tuple #[.agg c.cells.toArray, .int .i64 0]) ?_ rfl ⟨by rw [← HALL.out, HF.out], (hs5.pick 2).old_below⟩
          exact res_cell_tmp (fn := Try.f15) (p := 2) (t := 3) (ty := 25) (v := .agg c.cells.toArray) (ad := ⟨R, 0, none⟩) rfl rfl (run_load_agg aggConf tiConf (conf_length c) (hs5.cellsAll 1 rfl))
        · rw [h1] at c8
          rw [h2] at c7
          clear h1 h2
          go_wp2_with (first
            | ((with_reducible refine wpl_load 25 _ ?_ ?_); rfl; intro K hK; refine wp_load_agg 25 _ rfl aggConf _ _ _ tiConf _ rfl _ (conf_length c) hcs ?_; refine hK _ _ ?_; clear hK K)
            | ((with_reducible refine wpl_store 25 _ _ ?_ ?_); rfl; intro K hK; refine wp_store_all hs 1 _ _ _ rfl _ _ _ tiConf R _ _ rfl rfl c.cells rfl (conf_length _) rfl (conf_one _) ?_; intro w5 hs5; refine hK _ _ ?_; clear hK K))
          refine bodyPost_ret (v := .tuple #[.agg c.cells.toArray, .int .i64 0]) ?_ rfl ⟨by rw [← HALL.out, HF.out], (hs5.pick 2).old_below⟩
          exact res_cell_tmp (fn := Try.f15) (p := 2) (t := 3) (ty := 25) (v := .agg c.cells.toArray) (ad := ⟨R, 0, none⟩) rfl rfl (run_load_agg aggConf tiConf (conf_length c) (hs5.cellsAll 1 rfl))
end Pol
end Go.Proofs.Ytfledabgdcnkfaa
