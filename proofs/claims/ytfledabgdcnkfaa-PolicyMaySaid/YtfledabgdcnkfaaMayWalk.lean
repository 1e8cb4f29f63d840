/- The walk of policy.May. -/
import Derived.Test.YtfledabgdcnkfaaGlobWalk
import Derived.Test.YtfledabgdcnkfaaMem
import Derived.Test.YtfledabgdcnkfaaPolPlain
set_option linter.unusedVariables false
set_option linter.unusedSimpArgs false
namespace Go.Proofs.Ytfledabgdcnkfaa
open Go.RowKit
namespace Pol
theorem tiPerm : TI Try.prog 58 (.agg (Perm.cells Perm.zero).toArray) 5 80 := by unfold TI; kernel_rfl
theorem aggPerm : aggregate Try.prog 58 = true := by kernel_rfl
theorem perm_one (p : Perm) : ∀ v ∈ p.cells, v.oneCell' = true := by
  intro v hv
  simp only [Perm.cells, List.mem_cons, List.not_mem_nil, or_false] at hv
  rcases hv with rfl | rfl | rfl | rfl | rfl <;> rfl
theorem perm_get {w : World} {ad : Addr} {n : Nat} {l : List Perm} (h : Rd w (some ad) n 5 (permCells l)) {k : Nat} (hk : k < l.length) :
    ∀ j u, (l[k].cells)[j]? = some u → w.cell? ((ad.add (k * 5)).add j) = some u := fun j u hu => by
  rw [add_add']
  refine h.cells ad rfl _ u ?_
  rw [permCells, pieces_get perm_length l k j hk, hu]
  exact (List.getElem?_eq_some_iff.1 hu).1

def Perm.ok (p : Perm) : Prop := p.conf.size ≤ maxLen ∧ p.write.size ≤ maxLen ∧ p.read.size ≤ maxLen
def MayPost (w : World) (b : Bool) (e : Ending) (w' : World) : Prop := e = .returned (.bool b) ∧ Below w.heap.size w w'
theorem mayPost {w w' : World} {b b' : Bool} (h : b = b') (hb : Below w.heap.size w w') : MayPost w b (.returned (.bool b')) w' := ⟨by rw [h], hb⟩
def MayRel (w : World) (l : List Perm) (user vhost : ByteArray) (way : Int) (name : ByteArray) (v17 : Value) (wr : World) : Prop :=
  ∃ k : Nat, k ≤ l.length ∧ v17 = .int .i64 k ∧ Sat w [HP.old w] wr ∧ (l.drop k).any (may1 user vhost way name) = l.any (may1 user vhost way name)
theorem may_next {l : List Perm} {user vhost : ByteArray} {way : Int} {name : ByteArray} {k : Nat} {b : Bool} (hk : k < l.length) (h : (l.drop k).any (may1 user vhost way name) = l.any (may1 user vhost way name)) (hb : may1 user vhost way name l[k] = b) :
    (b || (l.drop (k + 1)).any (may1 user vhost way name)) = l.any (may1 user vhost way name) := by
  rw [← h, List.drop_eq_getElem_cons hk, List.any_cons, hb]
theorem mayRel {w wr : World} {l : List Perm} {user vhost : ByteArray} {way : Int} {name : ByteArray} {k : Nat} (hk : k < l.length) (h : (l.drop k).any (may1 user vhost way name) = l.any (may1 user vhost way name)) (hb : may1 user vhost way name l[k] = false) (hs : Sat w [HP.old w] wr) :
    MayRel w l user vhost way name (.int .i64 (k + 1 : Nat)) wr := ⟨k + 1, hk, rfl, hs, by simpa using may_next hk h hb⟩
theorem may_yes {l : List Perm} {user vhost : ByteArray} {way : Int} {name : ByteArray} {k : Nat} (hk : k < l.length) (h : (l.drop k).any (may1 user vhost way name) = l.any (may1 user vhost way name)) (hb : may1 user vhost way name l[k] = true) : l.any (may1 user vhost way name) = true := by
  simpa using (may_next hk h hb).symm
theorem nb_f {a b : List UInt8} (h : (!a == b) = false) : a = b := by simpa using h
theorem nb_t {a b : List UInt8} (h : (!a == b) = true) : ¬ a = b := by simpa using h
theorem may_user {user vhost : ByteArray} {way : Int} {name : ByteArray} {p : Perm} (h : ¬ p.user.toList = user.toList) : may1 user vhost way name p = false := by simp [may1, h]
theorem may_vhost {user vhost : ByteArray} {way : Int} {name : ByteArray} {p : Perm} (h : ¬ p.vhost.toList = vhost.toList) : may1 user vhost way name p = false := by simp [may1, h]
theorem may_way {user vhost : ByteArray} {way : Int} {name : ByteArray} {p : Perm} (h0 : (way == 0) = false) (h1 : (way == 1) = false) (h2 : (way == 2) = false) : may1 user vhost way name p = false := by
  have h0' : ¬ way = 0 := by simpa using h0
  have h1' : ¬ way = 1 := by simpa using h1
  have h2' : ¬ way = 2 := by simpa using h2
  simp [may1, h0', h1', h2']
theorem may_0 {user vhost : ByteArray} {way : Int} {name : ByteArray} {p : Perm} {b : Bool} (hu : p.user.toList = user.toList) (hv : p.vhost.toList = vhost.toList) (h0 : (way == 0) = true) (hg : Glob.gm p.conf.data.toList name.data.toList = b) : may1 user vhost way name p = b := by
  have h0' : way = 0 := by simpa using h0
  simp [may1, h0', hu, hv, hg]
theorem may_1 {user vhost : ByteArray} {way : Int} {name : ByteArray} {p : Perm} {b : Bool} (hu : p.user.toList = user.toList) (hv : p.vhost.toList = vhost.toList) (h0 : (way == 0) = false) (h1 : (way == 1) = true) (hg : Glob.gm p.write.data.toList name.data.toList = b) : may1 user vhost way name p = b := by
  have h0' : way = 1 := by simpa using h1
  simp [may1, h0', hu, hv, hg]
theorem may_2 {user vhost : ByteArray} {way : Int} {name : ByteArray} {p : Perm} {b : Bool} (hu : p.user.toList = user.toList) (hv : p.vhost.toList = vhost.toList) (h0 : (way == 0) = false) (h1 : (way == 1) = false) (h2 : (way == 2) = true) (hg : Glob.gm p.read.data.toList name.data.toList = b) : may1 user vhost way name p = b := by
  have h0' : way = 2 := by simpa using h2
  simp [may1, h0', hu, hv, hg]

set_option maxRecDepth 100000 in
set_option maxHeartbeats 2000000 in
theorem may_calls (A : Option Addr) (cap : Nat) (l : List Perm) (user vhost : ByteArray) (way : Int) (name : ByteArray) (w : World) (hlen : l.length ≤ 140737488351232) (hr : Rd w A l.length 5 (permCells l)) (hok : ∀ f ∈ l, f.ok) (hn : name.size ≤ maxLen) :
    Calls Try.prog 22 #[.slice A l.length cap, .string user, .string vhost, .int .i64 way, .string name] w (MayPost w (l.any (may1 user vhost way name))) := by
  have hw := Sat.refl w
  go_enter Try.func22, Try.ntmps22
  go_wp2
  go_loopw [12, 13, 14, 17] (fun v12 v13 v14 v17 wr => MayRel w l user vhost way name v17 wr) (fun v12 v13 v14 v17 wr => l.length - (intOf v17).toNat)
  case atStart => exact ⟨0, Nat.zero_le _, rfl, hw, rfl⟩
  case round =>
    clear hw
    obtain ⟨k, hk, rfl, hs, hall⟩ := hrel
    have HALL := Lib.hid hall
    clear hall
    by_cases hlt : k < l.length
    · obtain ⟨ad, rfl⟩ := hr.here (by omega)
      have hel := perm_get (hr.sat hs) hlt
      obtain ⟨k1, k2, k3⟩ := hok l[k] (List.getElem_mem hlt)
      go_wp2_with (first
        | ((with_reducible refine wpl_indexAddr _ _ _ ?_ ?_); rfl; intro K hK; refine wp_indexAddr _ _ _ rfl _ Try.underlying46 _ _ _ tiPerm ad _ _ _ _ rfl rfl (by omega) (by omega) ?_; refine hK _ _ ?_; clear hK K)
        | ((with_reducible refine wpl_load 58 _ ?_ ?_); rfl; intro K hK; refine wp_load_agg 58 _ rfl aggPerm _ _ _ tiPerm _ rfl _ (perm_length l[k]) hel ?_; refine hK _ _ ?_; clear hK K)
        | ((with_reducible refine wpl_alloc _ ?_ ?_); rfl; intro K hK; refine wp_alloc_sat hs _ _ _ _ tiPerm rfl ?_; intro B1 w1 hs1; refine hK _ _ ?_; clear hK K)
        | ((with_reducible refine wpl_store 58 _ _ ?_ ?_); rfl; intro K hK; refine wp_store_all hs1 0 _ _ _ rfl _ _ _ tiPerm B1 _ _ rfl rfl _ rfl (perm_length l[k]) rfl (perm_one _) ?_; intro w2 hs2; have c0 : w2.cell? ⟨B1, 0, none⟩ = some (.string l[k].user) := hs2.cell 0 rfl 0 rfl; have c1 : w2.cell? ⟨B1, 1, none⟩ = some (.string l[k].vhost) := hs2.cell 0 rfl 1 rfl; have c2 : w2.cell? ⟨B1, 2, none⟩ = some (.string l[k].conf) := hs2.cell 0 rfl 2 rfl; have c3 : w2.cell? ⟨B1, 3, none⟩ = some (.string l[k].write) := hs2.cell 0 rfl 3 rfl; have c4 : w2.cell? ⟨B1, 4, none⟩ = some (.string l[k].read) := hs2.cell 0 rfl 4 rfl; refine hK _ _ ?_; clear hK K hs1)
        | (go_at_call 10; refine (Glob.glob_calls _ _ _ (by with_reducible assumption) hn).mono ?_; rintro e w' ⟨rfl, nn, rfl⟩))
      all_goals first
        | (refine ⟨mayRel hlt HALL.out (may_user (by assumption)) hs2.drop, ?_⟩; simp [intOf]; omega)
        | (refine ⟨mayRel hlt HALL.out (may_user (by assumption)) (hs2.drop.drewN _), ?_⟩; simp [intOf]; omega)
        | (refine ⟨mayRel hlt HALL.out (may_vhost (nb_t (by assumption))) hs2.drop, ?_⟩; simp [intOf]; omega)
        | (refine ⟨mayRel hlt HALL.out (may_vhost (nb_t (by assumption))) (hs2.drop.drewN _), ?_⟩; simp [intOf]; omega)
        | (refine ⟨mayRel hlt HALL.out (may_way (by assumption) (by assumption) (by assumption)) hs2.drop, ?_⟩; simp [intOf]; omega)
        | (refine ⟨mayRel hlt HALL.out (may_way (by assumption) (by assumption) (by assumption)) (hs2.drop.drewN _), ?_⟩; simp [intOf]; omega)
        | (refine ⟨mayRel hlt HALL.out (may_0 (by assumption) (nb_f (by assumption)) (by assumption) (by assumption)) hs2.drop, ?_⟩; simp [intOf]; omega)
        | (refine ⟨mayRel hlt HALL.out (may_0 (by assumption) (nb_f (by assumption)) (by assumption) (by assumption)) (hs2.drop.drewN _), ?_⟩; simp [intOf]; omega)
        | (refine ⟨mayRel hlt HALL.out (may_1 (by assumption) (nb_f (by assumption)) (by assumption) (by assumption) (by assumption)) hs2.drop, ?_⟩; simp [intOf]; omega)
        | (refine ⟨mayRel hlt HALL.out (may_1 (by assumption) (nb_f (by assumption)) (by assumption) (by assumption) (by assumption)) (hs2.drop.drewN _), ?_⟩; simp [intOf]; omega)
        | (refine ⟨mayRel hlt HALL.out (may_2 (by assumption) (nb_f (by assumption)) (by assumption) (by assumption) (by assumption) (by assumption)) hs2.drop, ?_⟩; simp [intOf]; omega)
        | (refine ⟨mayRel hlt HALL.out (may_2 (by assumption) (nb_f (by assumption)) (by assumption) (by assumption) (by assumption) (by assumption)) (hs2.drop.drewN _), ?_⟩; simp [intOf]; omega)
        | (go_ret; exact mayPost (may_yes hlt HALL.out (may_0 (by assumption) (nb_f (by assumption)) (by assumption) (by assumption))) (hs2.drop.drewN _).old_below)
        | (go_ret; exact mayPost (may_yes hlt HALL.out (may_1 (by assumption) (nb_f (by assumption)) (by assumption) (by assumption) (by assumption))) (hs2.drop.drewN _).old_below)
        | (go_ret; exact mayPost (may_yes hlt HALL.out (may_2 (by assumption) (nb_f (by assumption)) (by assumption) (by assumption) (by assumption) (by assumption))) (hs2.drop.drewN _).old_below)
    · obtain rfl : k = l.length := by omega
      have hfin := HALL.out
      rw [List.drop_length] at hfin
      have HF := Lib.hid hfin
      clear hfin
      go_wp2
      go_ret
      exact mayPost HF.out.symm hs.old_below
end Pol
end Go.Proofs.Ytfledabgdcnkfaa
