/- More laws on operations: append of what is read, nil or not. No program. -/
import Derived.Test.YtfledabgdcnkfaaMem2
set_option linter.unusedVariables false
set_option linter.unusedSimpArgs false
namespace Go.Proofs.Ytfledabgdcnkfaa
open Go.RowKit
/-- append: the slice that is appended is read, or nil. -/
theorem wp_append_rd {P : Program} {W0 w : World} {t : List HP} {o : Oper} {a : Act} {K : Act → World → Prop} {Q : Exit → Act → World → Prop} (s x : Operand) (ts : TypeId)
    (ho : o.op = .call { callee := .builtin .append, args := #[s, x], argTypes := #[ts, ts] })
    (e : TypeId) (z : Value) (size bytes : Nat) (ht : P.underlying ts = some (.slice e)) (hT : TI P e z size bytes) (hzs : z.cells.size = size) (hsz : 0 < size)
    (b : Nat) (n cap : Nat) (xs : List Value) (hv : a.eval s = .slice (some ⟨b, 0, none⟩) n cap) (hs : Sat W0 (HP.row e size (.slice (some ⟨b, 0, none⟩) n cap) n xs :: t) w)
    (A : Option Addr) (m c : Nat) (news : List Value) (hx : a.eval x = .slice A m c) (hr : Rd w A m size news) (h1 : ∀ u ∈ news, u.oneCell' = true)
    (h63 : n + m ≤ maxLen) (hbytes : (n + m) * bytes ≤ 140737488355328)
    (h : ∀ B' cap' w', Sat W0 (HP.row e size (.slice B' (n + m) cap') (n + m) (xs ++ news) :: t) w' → K (a.put o.dst (.slice B' (n + m) cap')) w') : o.wp P a w K Q := by
  obtain ⟨i, hi, hz, hsize, hby⟩ := TI.parts hT
  cases A with
  | some ad =>
    refine wp_append_sat s x ts ho e i z size bytes ht hi hz hsize hby hzs hsz _ n xs hv hs ad m c news hx hr.len (hr.cells ad rfl) h1 h63 hbytes fun v' w' hs' hn => ?_
    rcases hs'.row_owns.2 with ⟨rfl, _⟩ | ⟨g, cap', cur, rfl, _⟩
    · exact absurd (hn.1 rfl).1 (by simp)
    · exact h _ _ _ hs'
  | none =>
    have hm : m = 0 := by
      rcases Nat.eq_zero_or_pos m with h | h
      · exact h
      · obtain ⟨_, he⟩ := hr.here h; cases he
    subst hm
    have hn : news = [] := List.eq_nil_of_length_eq_zero (by simpa using hr.len)
    subst hn
    have hcap : n ≤ cap := by
      rcases hs.row_owns.2 with ⟨he, _⟩ | ⟨g, cap', cur, he, _, _, hnc, _⟩
      · cases he
      · simp only [Value.slice.injEq] at he
        obtain ⟨_, _, rfl⟩ := he
        exact hnc
    have hgo : (Builtin.append_ #[ts, ts] o.type #[.slice (some ⟨b, 0, none⟩) n cap, .slice none 0 c]).run P w = .ok (.slice (some ⟨b, 0, none⟩) n cap) w := by
      simp [Builtin.append_, run_underlying ht, sizeOf, typeInfo, hi, Builtin.lenOf, Builtin.firstCells, loadCells, loadCellsFrom, storeCells, hcap]
    unfold Oper.wp execOp
    simp only [ho, resolve, invoke, builtin, Sem.run_bind, Sem.run_pure, Result.andThen_ok, List.map_toArray, List.map_cons, List.map_nil, hv, hx, hgo]
    exact h _ _ _ (by simpa using hs)
end Go.Proofs.Ytfledabgdcnkfaa
