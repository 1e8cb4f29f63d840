/- The walk of the law PolicyWide. -/
import Derived.Test.YtfledabgdcnkfaaSpeaks
import Derived.Test.YtfledabgdcnkfaaMem2
set_option linter.unusedVariables false
set_option linter.unusedSimpArgs false
namespace Go.Proofs.Ytfledabgdcnkfaa
open Go.RowKit
namespace Pol
theorem decide_beq (l m : List UInt8) : decide (l = m) = (l == m) := by rw [Bool.eq_iff_iff]; simp
def WidePost (w : World) (e : Ending) (w' : World) : Prop := e = .returned (.bool true) ∧ Below w.heap.size w w'
def plain (p : ByteArray) (k : Nat) : Prop := ∀ j (h : j < p.size), j < k → p[j] ≠ 42 ∧ p[j] ≠ 63
theorem plain_step {p : ByteArray} {k : Nat} (hk : k < p.size) (h : plain p k) (h1 : ((p[k].toNat : Int) == 42) = false) (h2 : ((p[k].toNat : Int) == 63) = false) : plain p (k + 1) := fun j hj hjk => by
  by_cases e : j = k
  · subst e; exact ⟨Glob.ne42 h1, by have := Glob.ne63 h2; simpa using this⟩
  · exact h j hj (by omega)
def WideRel (w : World) (p : ByteArray) (v21 : Value) (wr : World) : Prop := ∃ k : Nat, k ≤ p.size ∧ v21 = .int .i64 k ∧ Sat w [HP.old w] wr ∧ plain p k

set_option maxRecDepth 100000 in
set_option maxHeartbeats 1000000 in
theorem wide_calls (p t : ByteArray) (w : World) (hp : p.size ≤ 140737488351232) (ht : t.size ≤ 140737488351232) :
    Calls Try.prog 8 #[.string p, .string t] w (WidePost w) := by
  have hs := Sat.refl w
  go_enter Try.func8, Try.ntmps8
  go_wp2_with (go_at_call 9; refine (speaks_calls _).mono ?_; rintro e w1 ⟨rfl, hb⟩; have hs1 := hs.below hb; clear hs hb)
  refine (Glob.glob_calls _ _ _ (by decide) (by unfold maxLen; omega)).mono ?_
  rintro e w2 ⟨rfl, n, rfl⟩
  have hs2 := hs1.drewN n
  clear hs1
  simp only [Glob.gm_all]
  go_wp2_with fail
  refine (Glob.glob_calls _ _ _ (by decide) (by rw [ByteArray.size_append]; unfold maxLen; omega)).mono ?_
  rintro e w3 ⟨rfl, n, rfl⟩
  have hs3 := hs2.drewN n
  clear hs2
  simp only [Glob.gm_all]
  go_wp2_with ((with_reducible refine wpl_convert _ _ _ ?_ ?_); rfl; intro K hK; refine wp_bytes_of (hs3.like rfl rfl rfl rfl) _ _ _ _ rfl Try.underlying9 Try.underlying51 Try.underlying5 p rfl ?_; intro B cap w4 hs4 _; refine hK _ _ ?_; clear hK K)
  clear hs3
  go_loopw [5, 21] (fun v5 v21 wr => WideRel w p v21 wr) (fun v5 v21 wr => p.size - (intOf v21).toNat)
  case atStart => exact ⟨0, Nat.zero_le _, rfl, hs4, fun _ _ h => absurd h (by omega)⟩
  case round =>
    clear hs4
    obtain ⟨k, hk, rfl, hs, hpl⟩ := hrel
    have HP := Lib.hid hpl
    clear hpl
    by_cases hlt : k < p.size
    · rcases Bool.eq_false_or_eq_true ((p[k].toNat : Int) == 42) with h42 | h42
      · go_wp2
        go_ret
        exact ⟨rfl, hs.old_below⟩
      · rcases Bool.eq_false_or_eq_true ((p[k].toNat : Int) == 63) with h63 | h63
        · go_wp2
          go_ret
          exact ⟨rfl, hs.old_below⟩
        · go_wp2
          exact ⟨⟨k + 1, by omega, rfl, hs, plain_step hlt HP.out h42 h63⟩, by simp [intOf]; omega⟩
    · obtain rfl : k = p.size := by omega
      have hmem : ∀ c ∈ p.data.toList, c ≠ 42 ∧ c ≠ 63 := fun c hc => by
        obtain ⟨j, hj, rfl⟩ := List.getElem_of_mem hc
        exact HP.out j hj hj
      have g1 : Glob.gm p.data.toList p.data.toList = true := by rw [Glob.gm_self _ hmem]; simp
      have g2 : Glob.gm p.data.toList t.data.toList = (p.toList == t.toList) := by
        rw [Glob.gm_self _ hmem, ByteArray.toList_eq, ByteArray.toList_eq, decide_beq]
      have g3 : Glob.gm (p ++ ⟨#[42]⟩).data.toList (p ++ t).data.toList = true := by
        have e1 : (p ++ ⟨#[42]⟩).data.toList = p.data.toList ++ [42] := by simp [ByteArray.data_append]
        have e2 : (p ++ t).data.toList = p.data.toList ++ t.data.toList := by simp [ByteArray.data_append]
        rw [e1, e2]
        exact Glob.gm_begins _ (fun c hc => (hmem c hc).1) _
      have G1 := Lib.hid g1
      have G2 := Lib.hid g2
      have G3 := Lib.hid g3
      clear g1 g2 g3 hmem
      go_wp2_with fail
      refine (Glob.glob_calls _ _ _ (by unfold maxLen; omega) (by unfold maxLen; omega)).mono ?_
      rintro e w5 ⟨rfl, m, rfl⟩
      have hs5 := hs.drewN m
      clear hs
      simp only [G1.out]
      go_wp2_with fail
      refine (Glob.glob_calls _ _ _ (by unfold maxLen; omega) (by unfold maxLen; omega)).mono ?_
      rintro e w6 ⟨rfl, m, rfl⟩
      have hs6 := hs5.drewN m
      clear hs5
      simp only [G2.out]
      go_wp2_with fail
      have z1 : (p ++ (⟨#[42]⟩ : ByteArray)).size ≤ maxLen := by rw [ByteArray.size_append]; unfold maxLen; show p.size + 1 ≤ _; omega
      have z2 : (p ++ t).size ≤ maxLen := by rw [ByteArray.size_append]; unfold maxLen; omega
      refine (Glob.glob_calls _ _ _ z1 z2).mono ?_
      rintro e w7 ⟨rfl, m, rfl⟩
      have hs7 := hs6.drewN m
      clear hs6
      simp only [G3.out]
      have hbb : ((p.toList == t.toList) == (p.toList == t.toList)) = true := beq_self_eq_true _
      go_wp2
      go_ret
      exact ⟨rfl, hs7.old_belowL rfl rfl rfl rfl⟩
end Pol
end Go.Proofs.Ytfledabgdcnkfaa
