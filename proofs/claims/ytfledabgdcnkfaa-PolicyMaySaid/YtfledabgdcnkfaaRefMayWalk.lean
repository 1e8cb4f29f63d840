/- The walk of the reference's May. -/
import Derived.Test.YtfledabgdcnkfaaMayWalk
import Derived.Test.YtfledabgdcnkfaaRefGlobWalk

set_option linter.unusedVariables false
set_option linter.unusedSimpArgs false
namespace Go.Proofs.Ytfledabgdcnkfaa
open Go.RowKit
namespace Pol
theorem tiThree : TI Try.prog 65 (.agg #[.string ByteArray.empty, .string ByteArray.empty, .string ByteArray.empty]) 3 48 := by unfold TI; kernel_rfl
theorem three_one {a b c : ByteArray} : ∀ v ∈ ([.string a, .string b, .string c] : List Value), v.oneCell' = true := by
  intro v hv
  simp only [List.mem_cons, List.not_mem_nil, or_false] at hv
  rcases hv with rfl | rfl | rfl <;> rfl
theorem eq_beq {a b : List UInt8} (h : (a == b) = true) : a = b := by simpa using h
theorem ne_beq {a b : List UInt8} (h : (a == b) = false) : ¬ a = b := by simpa using h
def RefMayRel (w : World) (l : List Perm) (user vhost : ByteArray) (way : Int) (name : ByteArray) (v : Value) (wr : World) : Prop :=
  MayRel w l user vhost way name v wr

set_option maxRecDepth 100000 in
set_option maxHeartbeats 2000000 in
theorem refMay_calls (A : Option Addr) (cap : Nat) (l : List Perm) (user vhost : ByteArray) (way : Int) (name : ByteArray) (w : World) (hlen : l.length ≤ 140737488351232) (hr : Rd w A l.length 5 (permCells l)) (hok : ∀ f ∈ l, f.conf.size ≤ 140737488351232 ∧ f.write.size ≤ 140737488351232 ∧ f.read.size ≤ 140737488351232) (hn : name.size ≤ 140737488351232) :
    Calls Try.prog 23 #[.slice A l.length cap, .string user, .string vhost, .int .i64 way, .string name] w (MayPost w (l.any (may1 user vhost way name))) := by
  have hw := Sat.refl w
  go_enter Try.func23, Try.ntmps23
  go_wp2
  go_loopw [10, 11, 12, 13] (fun v10 v11 v12 v13 wr => MayRel w l user vhost way name v11 wr) (fun v10 v11 v12 v13 wr => l.length - (intOf v11).toNat)
  case atStart => exact ⟨0, Nat.zero_le _, rfl, hw, rfl⟩
  case round =>
    clear hw
    obtain ⟨k, hk, rfl, hs, hall⟩ := hrel
    have HALL := Lib.hid hall
    clear hall
    by_cases hlt : k < l.length
    · obtain ⟨ad, rfl⟩ := hr.here (by omega)
      have hel := perm_get (hr.sat hs) hlt
      obtain ⟨k1, k2, k3⟩ := hok l[k] (List.getElem_mem hlt)
      rcases Bool.eq_false_or_eq_true (l[k].user.toList == user.toList) with hu | hu
      · rcases Bool.eq_false_or_eq_true (l[k].vhost.toList == vhost.toList) with hv | hv
        · have hpu := eq_beq hu
          have hpv := eq_beq hv
          by_cases z0 : way = 0
          · subst z0
            go_wp2_with (first
        | ((with_reducible refine wpl_indexAddr 46 _ _ ?_ ?_); rfl; intro K hK; refine wp_indexAddr _ _ _ rfl _ Try.underlying46 _ _ _ tiPerm ad _ _ _ _ rfl rfl (by omega) (by omega) ?_; refine hK _ _ ?_; clear hK K)
        | ((with_reducible refine wpl_load 58 _ ?_ ?_); rfl; intro K hK; refine wp_load_agg 58 _ rfl aggPerm _ _ _ tiPerm _ rfl _ (perm_length l[k]) hel ?_; refine hK _ _ ?_; clear hK K)
        | ((with_reducible refine wpl_alloc 58 ?_ ?_); rfl; intro K hK; refine wp_alloc_sat hs _ _ _ _ tiPerm rfl ?_; intro B1 w1 hs1; refine hK _ _ ?_; clear hK K)
        | ((with_reducible refine wpl_store 58 _ _ ?_ ?_); rfl; intro K hK; refine wp_store_all hs1 0 _ _ _ rfl _ _ _ tiPerm B1 _ _ rfl rfl _ rfl (perm_length l[k]) rfl (perm_one _) ?_; intro w2 hs2; have c0 : w2.cell? ⟨B1, 0, none⟩ = some (.string l[k].user) := hs2.cell 0 rfl 0 rfl; have c1 : w2.cell? ⟨B1, 1, none⟩ = some (.string l[k].vhost) := hs2.cell 0 rfl 1 rfl; have c2 : w2.cell? ⟨B1, 2, none⟩ = some (.string l[k].conf) := hs2.cell 0 rfl 2 rfl; have c3 : w2.cell? ⟨B1, 3, none⟩ = some (.string l[k].write) := hs2.cell 0 rfl 3 rfl; have c4 : w2.cell? ⟨B1, 4, none⟩ = some (.string l[k].read) := hs2.cell 0 rfl 4 rfl; refine hK _ _ ?_; clear hK K hs1)
        | ((with_reducible refine wpl_alloc 65 ?_ ?_); rfl; intro K hK; refine wp_alloc_sat hs2 _ _ _ _ tiThree rfl ?_; intro B2 w3 hs3; refine hK _ _ ?_; clear hK K)
        | ((with_reducible refine wpl_store 65 _ _ ?_ ?_); rfl; intro K hK; refine wp_store_all hs3 0 _ _ _ rfl _ _ _ tiThree B2 _ _ rfl rfl [.string l[k].conf, .string l[k].write, .string l[k].read] rfl rfl rfl three_one ?_; intro w4 hs4; have b0 : w4.cell? ⟨B1, 0, none⟩ = some (.string l[k].user) := hs4.cell 1 rfl 0 rfl; have b1 : w4.cell? ⟨B1, 1, none⟩ = some (.string l[k].vhost) := hs4.cell 1 rfl 1 rfl; have d0 : w4.cell? ⟨B2, 0, none⟩ = some (.string l[k].conf) := hs4.cell 0 rfl 0 rfl; have d1 : w4.cell? ⟨B2, 1, none⟩ = some (.string l[k].write) := hs4.cell 0 rfl 1 rfl; have d2 : w4.cell? ⟨B2, 2, none⟩ = some (.string l[k].read) := hs4.cell 0 rfl 2 rfl; refine hK _ _ ?_; clear hK K hs3)
        | fail)
            refine (Glob.refGlob_calls _ _ _ (by with_reducible assumption) hn).mono ?_
            rintro e w' ⟨rfl, hb⟩
            have hs5 := (hs4.drop.drop).belowL hb rfl rfl rfl rfl
            clear hb
            rcases Bool.eq_false_or_eq_true (Glob.gm l[k].conf.data.toList name.data.toList) with hg | hg
            · (simp only [hg]; go_wp2; go_ret; exact mayPost (may_yes hlt HALL.out (may_0 hpu hpv (by rfl) hg)) hs5.old_below)
            · (simp only [hg]; go_wp2; refine ⟨mayRel hlt HALL.out (may_0 hpu hpv (by rfl) hg) hs5, ?_⟩; simp [intOf]; omega)
          · by_cases z1 : way = 1
            · subst z1
              go_wp2_with (first
        | ((with_reducible refine wpl_indexAddr 46 _ _ ?_ ?_); rfl; intro K hK; refine wp_indexAddr _ _ _ rfl _ Try.underlying46 _ _ _ tiPerm ad _ _ _ _ rfl rfl (by omega) (by omega) ?_; refine hK _ _ ?_; clear hK K)
        | ((with_reducible refine wpl_load 58 _ ?_ ?_); rfl; intro K hK; refine wp_load_agg 58 _ rfl aggPerm _ _ _ tiPerm _ rfl _ (perm_length l[k]) hel ?_; refine hK _ _ ?_; clear hK K)
        | ((with_reducible refine wpl_alloc 58 ?_ ?_); rfl; intro K hK; refine wp_alloc_sat hs _ _ _ _ tiPerm rfl ?_; intro B1 w1 hs1; refine hK _ _ ?_; clear hK K)
        | ((with_reducible refine wpl_store 58 _ _ ?_ ?_); rfl; intro K hK; refine wp_store_all hs1 0 _ _ _ rfl _ _ _ tiPerm B1 _ _ rfl rfl _ rfl (perm_length l[k]) rfl (perm_one _) ?_; intro w2 hs2; have c0 : w2.cell? ⟨B1, 0, none⟩ = some (.string l[k].user) := hs2.cell 0 rfl 0 rfl; have c1 : w2.cell? ⟨B1, 1, none⟩ = some (.string l[k].vhost) := hs2.cell 0 rfl 1 rfl; have c2 : w2.cell? ⟨B1, 2, none⟩ = some (.string l[k].conf) := hs2.cell 0 rfl 2 rfl; have c3 : w2.cell? ⟨B1, 3, none⟩ = some (.string l[k].write) := hs2.cell 0 rfl 3 rfl; have c4 : w2.cell? ⟨B1, 4, none⟩ = some (.string l[k].read) := hs2.cell 0 rfl 4 rfl; refine hK _ _ ?_; clear hK K hs1)
        | ((with_reducible refine wpl_alloc 65 ?_ ?_); rfl; intro K hK; refine wp_alloc_sat hs2 _ _ _ _ tiThree rfl ?_; intro B2 w3 hs3; refine hK _ _ ?_; clear hK K)
        | ((with_reducible refine wpl_store 65 _ _ ?_ ?_); rfl; intro K hK; refine wp_store_all hs3 0 _ _ _ rfl _ _ _ tiThree B2 _ _ rfl rfl [.string l[k].conf, .string l[k].write, .string l[k].read] rfl rfl rfl three_one ?_; intro w4 hs4; have b0 : w4.cell? ⟨B1, 0, none⟩ = some (.string l[k].user) := hs4.cell 1 rfl 0 rfl; have b1 : w4.cell? ⟨B1, 1, none⟩ = some (.string l[k].vhost) := hs4.cell 1 rfl 1 rfl; have d0 : w4.cell? ⟨B2, 0, none⟩ = some (.string l[k].conf) := hs4.cell 0 rfl 0 rfl; have d1 : w4.cell? ⟨B2, 1, none⟩ = some (.string l[k].write) := hs4.cell 0 rfl 1 rfl; have d2 : w4.cell? ⟨B2, 2, none⟩ = some (.string l[k].read) := hs4.cell 0 rfl 2 rfl; refine hK _ _ ?_; clear hK K hs3)
        | fail)
              refine (Glob.refGlob_calls _ _ _ (by with_reducible assumption) hn).mono ?_
              rintro e w' ⟨rfl, hb⟩
              have hs5 := (hs4.drop.drop).belowL hb rfl rfl rfl rfl
              clear hb
              rcases Bool.eq_false_or_eq_true (Glob.gm l[k].write.data.toList name.data.toList) with hg | hg
              · (simp only [hg]; go_wp2; go_ret; exact mayPost (may_yes hlt HALL.out (may_1 hpu hpv (by rfl) (by rfl) hg)) hs5.old_below)
              · (simp only [hg]; go_wp2; refine ⟨mayRel hlt HALL.out (may_1 hpu hpv (by rfl) (by rfl) hg) hs5, ?_⟩; simp [intOf]; omega)
            · by_cases z2 : way = 2
              · subst z2
                go_wp2_with (first
        | ((with_reducible refine wpl_indexAddr 46 _ _ ?_ ?_); rfl; intro K hK; refine wp_indexAddr _ _ _ rfl _ Try.underlying46 _ _ _ tiPerm ad _ _ _ _ rfl rfl (by omega) (by omega) ?_; refine hK _ _ ?_; clear hK K)
        | ((with_reducible refine wpl_load 58 _ ?_ ?_); rfl; intro K hK; refine wp_load_agg 58 _ rfl aggPerm _ _ _ tiPerm _ rfl _ (perm_length l[k]) hel ?_; refine hK _ _ ?_; clear hK K)
        | ((with_reducible refine wpl_alloc 58 ?_ ?_); rfl; intro K hK; refine wp_alloc_sat hs _ _ _ _ tiPerm rfl ?_; intro B1 w1 hs1; refine hK _ _ ?_; clear hK K)
        | ((with_reducible refine wpl_store 58 _ _ ?_ ?_); rfl; intro K hK; refine wp_store_all hs1 0 _ _ _ rfl _ _ _ tiPerm B1 _ _ rfl rfl _ rfl (perm_length l[k]) rfl (perm_one _) ?_; intro w2 hs2; have c0 : w2.cell? ⟨B1, 0, none⟩ = some (.string l[k].user) := hs2.cell 0 rfl 0 rfl; have c1 : w2.cell? ⟨B1, 1, none⟩ = some (.string l[k].vhost) := hs2.cell 0 rfl 1 rfl; have c2 : w2.cell? ⟨B1, 2, none⟩ = some (.string l[k].conf) := hs2.cell 0 rfl 2 rfl; have c3 : w2.cell? ⟨B1, 3, none⟩ = some (.string l[k].write) := hs2.cell 0 rfl 3 rfl; have c4 : w2.cell? ⟨B1, 4, none⟩ = some (.string l[k].read) := hs2.cell 0 rfl 4 rfl; refine hK _ _ ?_; clear hK K hs1)
        | ((with_reducible refine wpl_alloc 65 ?_ ?_); rfl; intro K hK; refine wp_alloc_sat hs2 _ _ _ _ tiThree rfl ?_; intro B2 w3 hs3; refine hK _ _ ?_; clear hK K)
        | ((with_reducible refine wpl_store 65 _ _ ?_ ?_); rfl; intro K hK; refine wp_store_all hs3 0 _ _ _ rfl _ _ _ tiThree B2 _ _ rfl rfl [.string l[k].conf, .string l[k].write, .string l[k].read] rfl rfl rfl three_one ?_; intro w4 hs4; have b0 : w4.cell? ⟨B1, 0, none⟩ = some (.string l[k].user) := hs4.cell 1 rfl 0 rfl; have b1 : w4.cell? ⟨B1, 1, none⟩ = some (.string l[k].vhost) := hs4.cell 1 rfl 1 rfl; have d0 : w4.cell? ⟨B2, 0, none⟩ = some (.string l[k].conf) := hs4.cell 0 rfl 0 rfl; have d1 : w4.cell? ⟨B2, 1, none⟩ = some (.string l[k].write) := hs4.cell 0 rfl 1 rfl; have d2 : w4.cell? ⟨B2, 2, none⟩ = some (.string l[k].read) := hs4.cell 0 rfl 2 rfl; refine hK _ _ ?_; clear hK K hs3)
        | fail)
                refine (Glob.refGlob_calls _ _ _ (by with_reducible assumption) hn).mono ?_
                rintro e w' ⟨rfl, hb⟩
                have hs5 := (hs4.drop.drop).belowL hb rfl rfl rfl rfl
                clear hb
                rcases Bool.eq_false_or_eq_true (Glob.gm l[k].read.data.toList name.data.toList) with hg | hg
                · (simp only [hg]; go_wp2; go_ret; exact mayPost (may_yes hlt HALL.out (may_2 hpu hpv (by rfl) (by rfl) (by rfl) hg)) hs5.old_below)
                · (simp only [hg]; go_wp2; refine ⟨mayRel hlt HALL.out (may_2 hpu hpv (by rfl) (by rfl) (by rfl) hg) hs5, ?_⟩; simp [intOf]; omega)
              · by_cases wn : 0 ≤ way
                · have wm : ¬ way < 3 := by omega
                  go_wp2_with (first
        | ((with_reducible refine wpl_indexAddr 46 _ _ ?_ ?_); rfl; intro K hK; refine wp_indexAddr _ _ _ rfl _ Try.underlying46 _ _ _ tiPerm ad _ _ _ _ rfl rfl (by omega) (by omega) ?_; refine hK _ _ ?_; clear hK K)
        | ((with_reducible refine wpl_load 58 _ ?_ ?_); rfl; intro K hK; refine wp_load_agg 58 _ rfl aggPerm _ _ _ tiPerm _ rfl _ (perm_length l[k]) hel ?_; refine hK _ _ ?_; clear hK K)
        | ((with_reducible refine wpl_alloc 58 ?_ ?_); rfl; intro K hK; refine wp_alloc_sat hs _ _ _ _ tiPerm rfl ?_; intro B1 w1 hs1; refine hK _ _ ?_; clear hK K)
        | ((with_reducible refine wpl_store 58 _ _ ?_ ?_); rfl; intro K hK; refine wp_store_all hs1 0 _ _ _ rfl _ _ _ tiPerm B1 _ _ rfl rfl _ rfl (perm_length l[k]) rfl (perm_one _) ?_; intro w2 hs2; have c0 : w2.cell? ⟨B1, 0, none⟩ = some (.string l[k].user) := hs2.cell 0 rfl 0 rfl; have c1 : w2.cell? ⟨B1, 1, none⟩ = some (.string l[k].vhost) := hs2.cell 0 rfl 1 rfl; have c2 : w2.cell? ⟨B1, 2, none⟩ = some (.string l[k].conf) := hs2.cell 0 rfl 2 rfl; have c3 : w2.cell? ⟨B1, 3, none⟩ = some (.string l[k].write) := hs2.cell 0 rfl 3 rfl; have c4 : w2.cell? ⟨B1, 4, none⟩ = some (.string l[k].read) := hs2.cell 0 rfl 4 rfl; refine hK _ _ ?_; clear hK K hs1)
        | ((with_reducible refine wpl_alloc 65 ?_ ?_); rfl; intro K hK; refine wp_alloc_sat hs2 _ _ _ _ tiThree rfl ?_; intro B2 w3 hs3; refine hK _ _ ?_; clear hK K)
        | ((with_reducible refine wpl_store 65 _ _ ?_ ?_); rfl; intro K hK; refine wp_store_all hs3 0 _ _ _ rfl _ _ _ tiThree B2 _ _ rfl rfl [.string l[k].conf, .string l[k].write, .string l[k].read] rfl rfl rfl three_one ?_; intro w4 hs4; have b0 : w4.cell? ⟨B1, 0, none⟩ = some (.string l[k].user) := hs4.cell 1 rfl 0 rfl; have b1 : w4.cell? ⟨B1, 1, none⟩ = some (.string l[k].vhost) := hs4.cell 1 rfl 1 rfl; have d0 : w4.cell? ⟨B2, 0, none⟩ = some (.string l[k].conf) := hs4.cell 0 rfl 0 rfl; have d1 : w4.cell? ⟨B2, 1, none⟩ = some (.string l[k].write) := hs4.cell 0 rfl 1 rfl; have d2 : w4.cell? ⟨B2, 2, none⟩ = some (.string l[k].read) := hs4.cell 0 rfl 2 rfl; refine hK _ _ ?_; clear hK K hs3)
        | fail)
                  refine ⟨mayRel hlt HALL.out (may_way (by simpa using z0) (by simpa using z1) (by simpa using z2)) hs4.drop.drop, ?_⟩
                  simp [intOf]; omega
                · go_wp2_with (first
        | ((with_reducible refine wpl_indexAddr 46 _ _ ?_ ?_); rfl; intro K hK; refine wp_indexAddr _ _ _ rfl _ Try.underlying46 _ _ _ tiPerm ad _ _ _ _ rfl rfl (by omega) (by omega) ?_; refine hK _ _ ?_; clear hK K)
        | ((with_reducible refine wpl_load 58 _ ?_ ?_); rfl; intro K hK; refine wp_load_agg 58 _ rfl aggPerm _ _ _ tiPerm _ rfl _ (perm_length l[k]) hel ?_; refine hK _ _ ?_; clear hK K)
        | ((with_reducible refine wpl_alloc 58 ?_ ?_); rfl; intro K hK; refine wp_alloc_sat hs _ _ _ _ tiPerm rfl ?_; intro B1 w1 hs1; refine hK _ _ ?_; clear hK K)
        | ((with_reducible refine wpl_store 58 _ _ ?_ ?_); rfl; intro K hK; refine wp_store_all hs1 0 _ _ _ rfl _ _ _ tiPerm B1 _ _ rfl rfl _ rfl (perm_length l[k]) rfl (perm_one _) ?_; intro w2 hs2; have c0 : w2.cell? ⟨B1, 0, none⟩ = some (.string l[k].user) := hs2.cell 0 rfl 0 rfl; have c1 : w2.cell? ⟨B1, 1, none⟩ = some (.string l[k].vhost) := hs2.cell 0 rfl 1 rfl; have c2 : w2.cell? ⟨B1, 2, none⟩ = some (.string l[k].conf) := hs2.cell 0 rfl 2 rfl; have c3 : w2.cell? ⟨B1, 3, none⟩ = some (.string l[k].write) := hs2.cell 0 rfl 3 rfl; have c4 : w2.cell? ⟨B1, 4, none⟩ = some (.string l[k].read) := hs2.cell 0 rfl 4 rfl; refine hK _ _ ?_; clear hK K hs1)
        | ((with_reducible refine wpl_alloc 65 ?_ ?_); rfl; intro K hK; refine wp_alloc_sat hs2 _ _ _ _ tiThree rfl ?_; intro B2 w3 hs3; refine hK _ _ ?_; clear hK K)
        | ((with_reducible refine wpl_store 65 _ _ ?_ ?_); rfl; intro K hK; refine wp_store_all hs3 0 _ _ _ rfl _ _ _ tiThree B2 _ _ rfl rfl [.string l[k].conf, .string l[k].write, .string l[k].read] rfl rfl rfl three_one ?_; intro w4 hs4; have b0 : w4.cell? ⟨B1, 0, none⟩ = some (.string l[k].user) := hs4.cell 1 rfl 0 rfl; have b1 : w4.cell? ⟨B1, 1, none⟩ = some (.string l[k].vhost) := hs4.cell 1 rfl 1 rfl; have d0 : w4.cell? ⟨B2, 0, none⟩ = some (.string l[k].conf) := hs4.cell 0 rfl 0 rfl; have d1 : w4.cell? ⟨B2, 1, none⟩ = some (.string l[k].write) := hs4.cell 0 rfl 1 rfl; have d2 : w4.cell? ⟨B2, 2, none⟩ = some (.string l[k].read) := hs4.cell 0 rfl 2 rfl; refine hK _ _ ?_; clear hK K hs3)
        | fail)
                  refine ⟨mayRel hlt HALL.out (may_way (by simpa using z0) (by simpa using z1) (by simpa using z2)) hs4.drop.drop, ?_⟩
                  simp [intOf]; omega
        · go_wp2_with (first
        | ((with_reducible refine wpl_indexAddr 46 _ _ ?_ ?_); rfl; intro K hK; refine wp_indexAddr _ _ _ rfl _ Try.underlying46 _ _ _ tiPerm ad _ _ _ _ rfl rfl (by omega) (by omega) ?_; refine hK _ _ ?_; clear hK K)
        | ((with_reducible refine wpl_load 58 _ ?_ ?_); rfl; intro K hK; refine wp_load_agg 58 _ rfl aggPerm _ _ _ tiPerm _ rfl _ (perm_length l[k]) hel ?_; refine hK _ _ ?_; clear hK K)
        | ((with_reducible refine wpl_alloc 58 ?_ ?_); rfl; intro K hK; refine wp_alloc_sat hs _ _ _ _ tiPerm rfl ?_; intro B1 w1 hs1; refine hK _ _ ?_; clear hK K)
        | ((with_reducible refine wpl_store 58 _ _ ?_ ?_); rfl; intro K hK; refine wp_store_all hs1 0 _ _ _ rfl _ _ _ tiPerm B1 _ _ rfl rfl _ rfl (perm_length l[k]) rfl (perm_one _) ?_; intro w2 hs2; have c0 : w2.cell? ⟨B1, 0, none⟩ = some (.string l[k].user) := hs2.cell 0 rfl 0 rfl; have c1 : w2.cell? ⟨B1, 1, none⟩ = some (.string l[k].vhost) := hs2.cell 0 rfl 1 rfl; have c2 : w2.cell? ⟨B1, 2, none⟩ = some (.string l[k].conf) := hs2.cell 0 rfl 2 rfl; have c3 : w2.cell? ⟨B1, 3, none⟩ = some (.string l[k].write) := hs2.cell 0 rfl 3 rfl; have c4 : w2.cell? ⟨B1, 4, none⟩ = some (.string l[k].read) := hs2.cell 0 rfl 4 rfl; refine hK _ _ ?_; clear hK K hs1)
        | ((with_reducible refine wpl_alloc 65 ?_ ?_); rfl; intro K hK; refine wp_alloc_sat hs2 _ _ _ _ tiThree rfl ?_; intro B2 w3 hs3; refine hK _ _ ?_; clear hK K)
        | ((with_reducible refine wpl_store 65 _ _ ?_ ?_); rfl; intro K hK; refine wp_store_all hs3 0 _ _ _ rfl _ _ _ tiThree B2 _ _ rfl rfl [.string l[k].conf, .string l[k].write, .string l[k].read] rfl rfl rfl three_one ?_; intro w4 hs4; have b0 : w4.cell? ⟨B1, 0, none⟩ = some (.string l[k].user) := hs4.cell 1 rfl 0 rfl; have b1 : w4.cell? ⟨B1, 1, none⟩ = some (.string l[k].vhost) := hs4.cell 1 rfl 1 rfl; have d0 : w4.cell? ⟨B2, 0, none⟩ = some (.string l[k].conf) := hs4.cell 0 rfl 0 rfl; have d1 : w4.cell? ⟨B2, 1, none⟩ = some (.string l[k].write) := hs4.cell 0 rfl 1 rfl; have d2 : w4.cell? ⟨B2, 2, none⟩ = some (.string l[k].read) := hs4.cell 0 rfl 2 rfl; refine hK _ _ ?_; clear hK K hs3)
        | fail)
          refine ⟨mayRel hlt HALL.out (may_vhost (ne_beq hv)) hs4.drop.drop, ?_⟩
          simp [intOf]; omega
      · go_wp2_with (first
        | ((with_reducible refine wpl_indexAddr 46 _ _ ?_ ?_); rfl; intro K hK; refine wp_indexAddr _ _ _ rfl _ Try.underlying46 _ _ _ tiPerm ad _ _ _ _ rfl rfl (by omega) (by omega) ?_; refine hK _ _ ?_; clear hK K)
        | ((with_reducible refine wpl_load 58 _ ?_ ?_); rfl; intro K hK; refine wp_load_agg 58 _ rfl aggPerm _ _ _ tiPerm _ rfl _ (perm_length l[k]) hel ?_; refine hK _ _ ?_; clear hK K)
        | ((with_reducible refine wpl_alloc 58 ?_ ?_); rfl; intro K hK; refine wp_alloc_sat hs _ _ _ _ tiPerm rfl ?_; intro B1 w1 hs1; refine hK _ _ ?_; clear hK K)
        | ((with_reducible refine wpl_store 58 _ _ ?_ ?_); rfl; intro K hK; refine wp_store_all hs1 0 _ _ _ rfl _ _ _ tiPerm B1 _ _ rfl rfl _ rfl (perm_length l[k]) rfl (perm_one _) ?_; intro w2 hs2; have c0 : w2.cell? ⟨B1, 0, none⟩ = some (.string l[k].user) := hs2.cell 0 rfl 0 rfl; have c1 : w2.cell? ⟨B1, 1, none⟩ = some (.string l[k].vhost) := hs2.cell 0 rfl 1 rfl; have c2 : w2.cell? ⟨B1, 2, none⟩ = some (.string l[k].conf) := hs2.cell 0 rfl 2 rfl; have c3 : w2.cell? ⟨B1, 3, none⟩ = some (.string l[k].write) := hs2.cell 0 rfl 3 rfl; have c4 : w2.cell? ⟨B1, 4, none⟩ = some (.string l[k].read) := hs2.cell 0 rfl 4 rfl; refine hK _ _ ?_; clear hK K hs1)
        | ((with_reducible refine wpl_alloc 65 ?_ ?_); rfl; intro K hK; refine wp_alloc_sat hs2 _ _ _ _ tiThree rfl ?_; intro B2 w3 hs3; refine hK _ _ ?_; clear hK K)
        | ((with_reducible refine wpl_store 65 _ _ ?_ ?_); rfl; intro K hK; refine wp_store_all hs3 0 _ _ _ rfl _ _ _ tiThree B2 _ _ rfl rfl [.string l[k].conf, .string l[k].write, .string l[k].read] rfl rfl rfl three_one ?_; intro w4 hs4; have b0 : w4.cell? ⟨B1, 0, none⟩ = some (.string l[k].user) := hs4.cell 1 rfl 0 rfl; have b1 : w4.cell? ⟨B1, 1, none⟩ = some (.string l[k].vhost) := hs4.cell 1 rfl 1 rfl; have d0 : w4.cell? ⟨B2, 0, none⟩ = some (.string l[k].conf) := hs4.cell 0 rfl 0 rfl; have d1 : w4.cell? ⟨B2, 1, none⟩ = some (.string l[k].write) := hs4.cell 0 rfl 1 rfl; have d2 : w4.cell? ⟨B2, 2, none⟩ = some (.string l[k].read) := hs4.cell 0 rfl 2 rfl; refine hK _ _ ?_; clear hK K hs3)
        | fail)
        refine ⟨mayRel hlt HALL.out (may_user (ne_beq hu)) hs4.drop.drop, ?_⟩
        simp [intOf]; omega
    · obtain rfl : k = l.length := by omega
      have hfin := HALL.out
      rw [List.drop_length] at hfin
      have HF := Lib.hid hfin
      clear hfin
      go_wp2
      go_ret
      exact mayPost HF.out.symm hs.old_below
end Pol
end Go.Proofs.Ytfledabgdcnkfaa
