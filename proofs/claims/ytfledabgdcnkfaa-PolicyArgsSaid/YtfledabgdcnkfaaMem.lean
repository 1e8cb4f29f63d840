/- Variables and structs in memory, said of parts that lie side by side. No program. -/
import Derived.Test.YtfledabgdcnkfaaSatOps
import Derived.Test.YtfledabgdcnkfaaRegion
set_option linter.unusedVariables false
set_option linter.unusedSimpArgs false
namespace Go.Proofs.Ytfledabgdcnkfaa
open Go.RowKit

theorem Sat.mem {W0 w : World} {l : List HP} (hs : Sat W0 l w) {h : HP} (k : Nat) (hk : l[k]? = some h) : ∃ D, h.on D w := by
  obtain ⟨D, hD⟩ := hs.sat
  induction l generalizing k D with
  | nil => simp at hk
  | cons x l ih =>
    obtain ⟨D1, D2, _, _, o1, h4⟩ := hD
    cases k with
    | zero => simp at hk; subst hk; exact ⟨D1, o1⟩
    | succ k => exact ih ⟨hs.os, hs.tape, hs.output, D2, h4⟩ k (by simpa using hk) D2 h4

theorem Sat.block {W0 w : World} {l : List HP} (hs : Sat W0 l w) (k : Nat) {b : Nat} {o : Obj} (hk : l[k]? = some (HP.pts b o)) : w.heap[b]? = some o :=
  let ⟨_, _, h⟩ := hs.mem k hk
  h

theorem satD_set : ∀ (l : List HP) (k : Nat) (h h' : HP) (D : Nat → Prop) (w w' : World), l[k]? = some h → SatD l D w →
    (∀ D1, h.on D1 w → (∀ b, b < w.heap.size → ¬ D1 b → w'.heap[b]? = w.heap[b]?) ∧ h'.on D1 w') → SatD (l.set k h') D w'
  | [], k, _, _, _, _, _, hk, _, _ => by simp at hk
  | x :: l, 0, h, h', D, w, w', hk, ⟨D1, D2, e, d, o1, h4⟩, hh => by
    simp at hk; subst hk
    obtain ⟨h1, h2⟩ := hh D1 o1
    have hlt := SatD.lt h4
    exact ⟨D1, D2, e, d, h2, SatD.far (fun b hb => h1 b (hlt b hb) (fun hd => d b hd hb)) h4⟩
  | x :: l, k + 1, h, h', D, w, w', hk, ⟨D1, D2, e, d, o1, h4⟩, hh => by
    have ih := satD_set l k h h' D2 w w' (by simpa using hk) h4 hh
    -- the part that changes lies in D2
    have hin : ∃ D3, (∀ b, D3 b → D2 b) ∧ h.on D3 w := by
      clear ih hh
      have hk' : l[k]? = some h := by simpa using hk
      clear hk e d o1
      induction l generalizing k D2 with
      | nil => simp at hk'
      | cons y l ih =>
        obtain ⟨D5, D6, e', _, o2, h5⟩ := h4
        cases k with
        | zero => simp at hk'; subst hk'; exact ⟨D5, fun b hb => (e' b).2 (.inl hb), o2⟩
        | succ k =>
          obtain ⟨D3, h6, h7⟩ := ih k D6 h5 (by simpa using hk')
          exact ⟨D3, fun b hb => (e' b).2 (.inr (h6 b hb)), h7⟩
    obtain ⟨D3, h6, h7⟩ := hin
    obtain ⟨h8, _⟩ := hh D3 h7
    exact ⟨D1, D2, e, d, x.far (fun b hb => h8 b (x.lt o1 b hb) (fun h9 => d b hb (h6 b h9))) o1, ih⟩

theorem Sat.set {W0 w w' : World} {l : List HP} {h h' : HP} (hs : Sat W0 l w) (k : Nat) (hk : l[k]? = some h) (ho : w'.os = w.os) (ht : w'.tape = w.tape) (hu : w'.output = w.output)
    (hh : ∀ D1, h.on D1 w → (∀ b, b < w.heap.size → ¬ D1 b → w'.heap[b]? = w.heap[b]?) ∧ h'.on D1 w') : Sat W0 (l.set k h') w' :=
  ⟨ho.trans hs.os, ht.trans hs.tape, hu.trans hs.output, hs.sat.imp fun D hD => satD_set l k h h' D w w' hk hD hh⟩

theorem Sat.cells_eq {W0 w : World} {t : List HP} {b : Nat} {c c' : Array Value} {e : TypeId} {f : Nat × Nat} (hs : Sat W0 (HP.pts b (.cells c e f) :: t) w) (h : c = c') : Sat W0 (HP.pts b (.cells c' e f) :: t) w := h ▸ hs
theorem Sat.store {W0 w : World} {l : List HP} (hs : Sat W0 l w) (k : Nat) {b : Nat} {c : Array Value} {e : TypeId} (hk : l[k]? = some (HP.pts b (.cells c e (0, 0)))) (j : Nat) (v : Value) :
    Sat W0 (l.set k (HP.pts b (.cells (c.setIfInBounds j v) e (0, 0)))) (w.setCell ⟨b, j, none⟩ v) :=
  hs.set k hk rfl rfl rfl fun D1 ⟨h1, h2⟩ => ⟨fun x hx hD => Below.heap_setCell _ _ _ _ (fun e => hD ((h1 x).2 e)), h1, by
    simp only [World.setCell, Array.getElem?_modify, if_pos, h2]; rfl⟩
theorem Sat.row_put {W0 w : World} {l : List HP} (hs : Sat W0 l w) (k : Nat) {b : Nat} {c : Array Value} {e : TypeId} (hk : l[k]? = some (HP.pts b (.cells c e (0, 0)))) (cs : Array Value) :
    Sat W0 (l.set k (HP.pts b (.cells cs e (0, 0)))) (w.setRow b cs) :=
  hs.set k hk rfl rfl rfl fun D1 ⟨h1, h2⟩ => ⟨fun x hx hD => setRow_other w b x cs (fun e => hD ((h1 x).2 e)), h1, setRow_heap w b c cs e (0, 0) h2⟩

def TI (P : Program) (t : TypeId) (z : Value) (size bytes : Nat) : Prop := (P.info? t).map (fun i => (i.zero, i.size, i.bytes)) = some (some z, size, bytes)
theorem TI.parts {P : Program} {t : TypeId} {z : Value} {size bytes : Nat} (h : TI P t z size bytes) : ∃ i, P.info? t = some i ∧ i.zero = some z ∧ i.size = size ∧ i.bytes = bytes := info_parts h
def scalar (P : Program) (t : TypeId) : Bool := match P.underlying t with
  | some (.struct _) | some (.array ..) | none => false
  | _ => true
def aggregate (P : Program) (t : TypeId) : Bool := match P.underlying t with
  | some (.struct _) | some (.array ..) => true
  | _ => false

section
variable {P : Program} {W0 w : World} {l : List HP} {o : Oper} {a : Act} {K : Act → World → Prop} {Q : Exit → Act → World → Prop}

theorem run_isAgg_no {t : TypeId} (h : scalar P t = true) (w : World) : (isAgg t).run P w = .ok false w := by
  unfold scalar at h
  cases hu : P.underlying t with
  | none => simp [hu] at h
  | some d =>
    unfold isAgg
    rw [Sem.run_bind, run_underlying hu w]
    cases d <;> simp_all
theorem run_isAgg_yes {t : TypeId} (h : aggregate P t = true) (w : World) : (isAgg t).run P w = .ok true w := by
  unfold aggregate at h
  cases hu : P.underlying t with
  | none => simp [hu] at h
  | some d =>
    unfold isAgg
    rw [Sem.run_bind, run_underlying hu w]
    cases d <;> simp_all

theorem wp_alloc_sat (hs : Sat W0 l w) (e : TypeId) (z : Value) (n by_ : Nat) (hT : TI P e z n by_) (ho : o.op = .alloc e)
    (h : ∀ b w', Sat W0 (HP.pts b (.cells z.cells e (0, 0)) :: l) w' → K (a.put o.dst (.pointer (some ⟨b, 0, none⟩))) w') : o.wp P a w K Q := by
  obtain ⟨i, hi, hz, _, _⟩ := hT.parts
  unfold Oper.wp execOp
  have hr : (Instr.alloc e true (.tuple #[])).run P w = .ok (.pointer (some ⟨w.heap.size, 0, none⟩)) (w.alloc (.cells z.cells e)) := by
    simp [Instr.alloc, zeroValue, typeInfo, hi, hz, newVar, newRow]
  simp only [ho, Sem.run_bind, Sem.run_pure, Result.andThen_ok, hr]
  exact h _ _ (hs.pts_new _)

theorem wp_box_sat (hs : Sat W0 l w) (e : TypeId) (x : Operand) (v : Value) (hx : a.eval x = v) (ho : o.op = .box e x)
    (h : ∀ b w', Sat W0 (HP.pts b (.cells v.cells e (0, 0)) :: l) w' → K (a.put o.dst (.pointer (some ⟨b, 0, none⟩))) w') : o.wp P a w K Q := by
  unfold Oper.wp execOp
  have hr : (Instr.box e v).run P w = .ok (.pointer (some ⟨w.heap.size, 0, none⟩)) (w.alloc (.cells v.cells e)) := by
    simp [Instr.box, newVar, newRow]
  simp only [ho, hx, Sem.run_bind, Sem.run_pure, Result.andThen_ok, hr]
  exact h _ _ (hs.pts_new _)

theorem run_load_agg {t : TypeId} (hag : aggregate P t = true) {z : Value} {n by_ : Nat} (hT : TI P t z n by_) {ad : Addr} {cs : List Value} (hl : cs.length = n) (hc : ∀ j u, cs[j]? = some u → w.cell? (ad.add j) = some u) :
    (Instr.loadAt t (.pointer (some ad))).run P w = .ok (.agg cs.toArray) w := by
  obtain ⟨i, hi, _, hn, _⟩ := hT.parts
  have hl' := run_loadCells_list (P := P) w ad cs hc
  simp [Instr.loadAt, Instr.sureAddr, loadVar, Sem.run_bind, run_isAgg_yes hag, sizeOf, typeInfo, hi, hn, ← hl, hl']

theorem wp_load_agg (t : TypeId) (x : Operand) (ho : o.op = .load t x) (hag : aggregate P t = true) (z : Value) (n by_ : Nat) (hT : TI P t z n by_) (ad : Addr) (hx : a.eval x = .pointer (some ad))
    (cs : List Value) (hl : cs.length = n) (hc : ∀ j u, cs[j]? = some u → w.cell? (ad.add j) = some u) (h : K (a.put o.dst (.agg cs.toArray)) w) : o.wp P a w K Q := by
  unfold Oper.wp execOp
  simp only [ho, hx, Sem.run_bind, Sem.run_pure, Result.andThen_ok, run_load_agg hag hT hl hc]
  exact h

theorem run_store_one {t : TypeId} {z : Value} {by_ : Nat} (hT : TI P t z 1 by_) {b j : Nat} {c : Array Value} {e : TypeId} (hb : w.heap[b]? = some (.cells c e (0, 0))) (hj : j < c.size) {v : Value} (hv : v.oneCell' = true) :
    (Instr.storeAt t (.pointer (some ⟨b, j, none⟩)) v).run P w = .ok () (w.setCell ⟨b, j, none⟩ v) := by
  obtain ⟨i, hi, _, hn, _⟩ := hT.parts
  have hcs : v.cells = #[v] := by cases v <;> first | rfl | simp [Value.oneCell'] at hv
  have hcell : w.cell? ⟨b, j, none⟩ = some c[j] := by simp [World.cell?, hb, hj]
  have hfro : w.frozen? ⟨b, j, none⟩ = false := by simp [World.frozen?, hb]
  have hst : (store (⟨b, j, none⟩ : Addr) v).run P w = .ok () (w.setCell ⟨b, j, none⟩ v) := by
    rw [run_store P w _ v _ hv, hcell]
    simp [hfro]
  have hadd : (⟨b, j, none⟩ : Addr).add 0 = ⟨b, j, none⟩ := by simp [Addr.add]
  simp [Instr.storeAt, Instr.sureAddr, storeVar, Sem.run_bind, sizeOf, typeInfo, hi, hn, hcs, storeCells, hadd, hst]

theorem wp_store_one (hs : Sat W0 l w) (k : Nat) (t : TypeId) (x y : Operand) (ho : o.op = .store t x y) (z : Value) (by_ : Nat) (hT : TI P t z 1 by_) (b j : Nat) (c : Array Value) (e : TypeId)
    (hk : l[k]? = some (HP.pts b (.cells c e (0, 0)))) (hx : a.eval x = .pointer (some ⟨b, j, none⟩)) (v : Value) (hy : a.eval y = v) (hj : j < c.size) (hv : v.oneCell' = true)
    (h : ∀ w', Sat W0 (l.set k (HP.pts b (.cells (c.setIfInBounds j v) e (0, 0)))) w' → K (a.put o.dst undef) w') : o.wp P a w K Q := by
  unfold Oper.wp execOp
  simp only [ho, hx, hy, Sem.run_bind, Sem.run_pure, Result.andThen_ok, run_store_one hT (hs.block k hk) hj hv]
  exact h _ (hs.store k hk j v)

theorem run_store_all {t : TypeId} {z : Value} {n by_ : Nat} (hT : TI P t z n by_) {b : Nat} {c : Array Value} {e : TypeId} (hb : w.heap[b]? = some (.cells c e (0, 0))) {cs : List Value} (hl : cs.length = n) (hc : c.size = n) (hv : ∀ v ∈ cs, v.oneCell' = true) :
    (Instr.storeAt t (.pointer (some ⟨b, 0, none⟩)) (.agg cs.toArray)).run P w = .ok () (w.setRow b cs.toArray) := by
  obtain ⟨i, hi, _, hn, _⟩ := hT.parts
  have hst := run_storeCells_at P b 0 e cs 0 c w hb (by omega) hv
  have e1 : c.toList.take (0 + 0) ++ cs ++ c.toList.drop (0 + 0 + cs.length) = cs := by
    rw [List.drop_of_length_le (by simp; omega)]; simp
  rw [e1] at hst
  have h2 : (Value.agg cs.toArray).cells = cs.toArray := rfl
  simp [Instr.storeAt, Instr.sureAddr, storeVar, Sem.run_bind, sizeOf, typeInfo, hi, hn, h2, hl, hst]

theorem wp_store_all (hs : Sat W0 l w) (k : Nat) (t : TypeId) (x y : Operand) (ho : o.op = .store t x y) (z : Value) (n by_ : Nat) (hT : TI P t z n by_) (b : Nat) (c : Array Value) (e : TypeId)
    (hk : l[k]? = some (HP.pts b (.cells c e (0, 0)))) (hx : a.eval x = .pointer (some ⟨b, 0, none⟩)) (cs : List Value) (hy : a.eval y = .agg cs.toArray) (hl : cs.length = n) (hc : c.size = n) (hv : ∀ v ∈ cs, v.oneCell' = true)
    (h : ∀ w', Sat W0 (l.set k (HP.pts b (.cells cs.toArray e (0, 0)))) w' → K (a.put o.dst undef) w') : o.wp P a w K Q := by
  unfold Oper.wp execOp
  simp only [ho, hx, hy, Sem.run_bind, Sem.run_pure, Result.andThen_ok, run_store_all hT (hs.block k hk) hl hc hv]
  exact h _ (hs.row_put k hk _)
end

theorem add_add' (a : Addr) (i j : Nat) : (a.add i).add j = a.add (i + j) := by
  unfold Addr.add
  by_cases hi : i = 0 <;> by_cases hj : j = 0 <;> simp [hi, hj, Nat.add_assoc]

structure Rd (w : World) (A : Option Addr) (n size : Nat) (xs : List Value) : Prop where
  len : xs.length = n * size
  here : 0 < n → ∃ ad, A = some ad
  cells : ∀ ad, A = some ad → ∀ j u, xs[j]? = some u → w.cell? (ad.add j) = some u

section
variable {w w' : World} {A : Option Addr} {n size : Nat} {xs : List Value}
theorem Rd.keep (h : Rd w A n size xs) (hk : ∀ p u, w.cell? p = some u → w'.cell? p = some u) : Rd w' A n size xs :=
  ⟨h.len, h.here, fun ad he j u hu => hk _ _ (h.cells ad he j u hu)⟩
theorem Rd.below (h : Rd w A n size xs) (hb : Below w.heap.size w w') : Rd w' A n size xs :=
  h.keep fun p _ hu => (hb.cell (World.block_lt_of_cell? w p hu)).trans hu
theorem Rd.drewN (h : Rd w A n size xs) (k : Nat) : Rd (w.drewN k) A n size xs := h.keep fun _ _ hu => hu
theorem Rd.sat {W0 : World} {t : List HP} (h : Rd w A n size xs) (hs : Sat W0 (HP.old w :: t) w') : Rd w' A n size xs := h.keep fun _ _ hu => hs.old_cell hu
theorem Rd.nil (c : Nat) : Rd w none 0 c [] := ⟨by simp, fun h => absurd h (by omega), fun ad he => by cases he⟩
theorem Rd.lit (w : World) (e : TypeId) {n size : Nat} {xs : List Value} (hl : xs.length = n * size) : Rd (w.alloc (.cells xs.toArray e)) (some ⟨w.heap.size, 0, none⟩) n size xs :=
  ⟨hl, fun _ => ⟨_, rfl⟩, fun ad he j u hu => by
    have : ad = ⟨w.heap.size, 0, none⟩ := by injection he with he; exact he.symm
    subst this
    rw [show (⟨w.heap.size, 0, none⟩ : Addr).add j = ⟨w.heap.size, j, none⟩ from by unfold Addr.add; split <;> simp_all, cell_of_row _ _ j _ e (0, 0) (heap_alloc_new w _)]
    simpa using hu⟩
theorem Rd.of_row {W0 : World} {t : List HP} {e : TypeId} {c : Nat} (hs : Sat W0 (HP.row e size (.slice A n c) n xs :: t) w) : Rd w A n size xs := by
  have hown := hs.row_owns
  refine ⟨hown.1, fun hn => ?_, fun ad he j u hu => ?_⟩
  · rcases hown.2 with ⟨_, h0⟩ | ⟨g, cap, cur, hv, _⟩
    · omega
    · injection hv with hA; exact ⟨_, hA⟩
  · subst he
    rcases hown.2 with ⟨hv, h0⟩ | ⟨g, cap, cur, hv, _⟩
    · cases hv
    · have : ad = ⟨g, 0, none⟩ := by injection hv with h1; injection h1
      subst this
      exact hown.cells (g := g) rfl j u hu
end

section
variable {P : Program} {w : World} {o : Oper} {a : Act} {K : Act → World → Prop} {Q : Exit → Act → World → Prop}
theorem run_indexAddr {t e : TypeId} (hu : P.underlying t = some (.slice e)) {z : Value} {n by_ : Nat} (hT : TI P e z n by_) {ad : Addr} {len cap : Nat} {k : IntKind} {i : Int} (h0 : 0 ≤ i) (h1 : i < len) (w : World) :
    (Instr.indexAt t (.slice (some ad) len cap) (.int k i)).run P w = .ok (.pointer (some (ad.add (i.toNat * n)))) w := by
  obtain ⟨ti, hi, _, hn, _⟩ := hT.parts
  simp [Instr.indexAt, asIntOf, run_underlying hu, sizeOf, typeInfo, hi, hn, h0, h1]
theorem wp_indexAddr (t : TypeId) (x ix : Operand) (ho : o.op = .indexAddr t x ix) (e : TypeId) (hu : P.underlying t = some (.slice e)) (z : Value) (n by_ : Nat) (hT : TI P e z n by_) (ad : Addr) (len cap : Nat) (k : IntKind) (i : Int)
    (hx : a.eval x = .slice (some ad) len cap) (hi : a.eval ix = .int k i) (h0 : 0 ≤ i) (h1 : i < len) (h : K (a.put o.dst (.pointer (some (ad.add (i.toNat * n))))) w) : o.wp P a w K Q := by
  unfold Oper.wp execOp
  simp only [ho, hx, hi, Sem.run_bind, Sem.run_pure, Result.andThen_ok, run_indexAddr hu hT h0 h1]
  exact h
end

/-! A field of a struct that is a value. -/
section
variable {P : Program} {w : World}
theorem run_field {t : TypeId} {fs : Array Field} (hu : P.underlying t = some (.struct fs)) {j : Nat} {f : Field} (hf : fs[j]? = some f) (hsc : scalar P f.type = true) {cs : Array Value} {v : Value} (hv : cs[f.offset]? = some v) (w : World) :
    (Instr.field t (.agg cs) j).run P w = .ok v w := by
  simp [Instr.field, run_underlying hu, hf, asAgg, part, run_isAgg_no hsc, hv, Sem.run_bind]
theorem exec_field {a : Act} {t : TypeId} {x : Operand} {j : Nat} {dst : Option Tmp} {type : TypeId} {pos : String} {after : Array Edge} {guard : Option (Nat × Bool)} {y v : Value} (hx : a.eval x = y) (h : (Instr.field t y j).run P w = .ok v w) :
    (execOp a.eval ⟨dst, .field t x j, type, pos, after, guard⟩).run P w = .ok (.value v) w := by
  unfold execOp
  simp only [hx, Sem.run_bind, Sem.run_pure, Result.andThen_ok, h]
end

/-! Results that lie in memory. -/
section
variable {P : Program} {w : World} {fn : Func} {tmps : Array Value}
theorem res_cell {p : Tmp} {ty : TypeId} (h : fn.results = #[.cell p ty]) {ad : Addr} {v : Value} (hp : tmps.getD p undef = .pointer (some ad)) (hl : (Instr.loadAt ty (.pointer (some ad))).run P w = .ok v w) :
    (results fn tmps).run P w = .ok v w := by
  have hp' : tmps[p]?.getD undef = .pointer (some ad) := by simpa using hp
  have hl' : (loadVar ty ad).run P w = .ok v w := by simpa [Instr.loadAt, Instr.sureAddr] using hl
  simp [results, h, hp', asAddr, hl']
theorem res_cell_tmp {p t : Tmp} {ty : TypeId} (h : fn.results = #[.cell p ty, .tmp t]) {ad : Addr} {v : Value} (hp : tmps.getD p undef = .pointer (some ad)) (hl : (Instr.loadAt ty (.pointer (some ad))).run P w = .ok v w) :
    (results fn tmps).run P w = .ok (.tuple #[v, tmps.getD t undef]) w := by
  have hp' : tmps[p]?.getD undef = .pointer (some ad) := by simpa using hp
  have hl' : (loadVar ty ad).run P w = .ok v w := by simpa [Instr.loadAt, Instr.sureAddr] using hl
  simp [results, h, hp', asAddr, hl', Sem.run_bind]
end

/-! From one operation to the list of them. -/
section
variable {P : Program} {w : World} {ops : Array Oper} {rest : List Oper} {o : Oper} {a : Act} {Q : Exit → Act → World → Prop}
theorem wpList_wp (hg : Region.wanted o (yielded ops a.tmps) = true) (h : ∀ K : Act → World → Prop, (∀ a w, wpList P ops Q rest a w → K a w) → o.wp P a w K Q) : wpList P ops Q (o :: rest) a w :=
  wpList_step fun K hK => by rw [if_pos hg]; exact h K hK
/-! The same, by the operation's kind: a quick no at any other. -/
variable {dst : Option Tmp} {type : TypeId} {pos : String} {after : Array Edge} {guard : Option (Nat × Bool)}
theorem wpl_load (t : TypeId) (x : Operand) (hg : Region.wanted ⟨dst, .load t x, type, pos, after, guard⟩ (yielded ops a.tmps) = true) (h : ∀ K : Act → World → Prop, (∀ a w, wpList P ops Q rest a w → K a w) → Oper.wp P ⟨dst, .load t x, type, pos, after, guard⟩ a w K Q) :
    wpList P ops Q (⟨dst, .load t x, type, pos, after, guard⟩ :: rest) a w := wpList_wp hg h
theorem wpl_store (t : TypeId) (x y : Operand) (hg : Region.wanted ⟨dst, .store t x y, type, pos, after, guard⟩ (yielded ops a.tmps) = true) (h : ∀ K : Act → World → Prop, (∀ a w, wpList P ops Q rest a w → K a w) → Oper.wp P ⟨dst, .store t x y, type, pos, after, guard⟩ a w K Q) :
    wpList P ops Q (⟨dst, .store t x y, type, pos, after, guard⟩ :: rest) a w := wpList_wp hg h
theorem wpl_alloc (e : TypeId) (hg : Region.wanted ⟨dst, .alloc e, type, pos, after, guard⟩ (yielded ops a.tmps) = true) (h : ∀ K : Act → World → Prop, (∀ a w, wpList P ops Q rest a w → K a w) → Oper.wp P ⟨dst, .alloc e, type, pos, after, guard⟩ a w K Q) :
    wpList P ops Q (⟨dst, .alloc e, type, pos, after, guard⟩ :: rest) a w := wpList_wp hg h
theorem wpl_box (e : TypeId) (x : Operand) (hg : Region.wanted ⟨dst, .box e x, type, pos, after, guard⟩ (yielded ops a.tmps) = true) (h : ∀ K : Act → World → Prop, (∀ a w, wpList P ops Q rest a w → K a w) → Oper.wp P ⟨dst, .box e x, type, pos, after, guard⟩ a w K Q) :
    wpList P ops Q (⟨dst, .box e x, type, pos, after, guard⟩ :: rest) a w := wpList_wp hg h
theorem wpl_indexAddr (t : TypeId) (x i : Operand) (hg : Region.wanted ⟨dst, .indexAddr t x i, type, pos, after, guard⟩ (yielded ops a.tmps) = true) (h : ∀ K : Act → World → Prop, (∀ a w, wpList P ops Q rest a w → K a w) → Oper.wp P ⟨dst, .indexAddr t x i, type, pos, after, guard⟩ a w K Q) :
    wpList P ops Q (⟨dst, .indexAddr t x i, type, pos, after, guard⟩ :: rest) a w := wpList_wp hg h
end

theorem Sat.cellsAll {W0 w : World} {l : List HP} (hs : Sat W0 l w) (k : Nat) {b : Nat} {cs : List Value} {e : TypeId} {f : Nat × Nat} (hk : l[k]? = some (HP.pts b (.cells cs.toArray e f))) : ∀ j u, cs[j]? = some u → w.cell? ((⟨b, 0, none⟩ : Addr).add j) = some u := fun j u hu => by
  rw [show (⟨b, 0, none⟩ : Addr).add j = ⟨b, j, none⟩ from by unfold Addr.add; split <;> simp_all, cell_of_row w b j _ e f (hs.block k hk)]
  simpa using hu
theorem Sat.cellsAt {W0 w : World} {l : List HP} (hs : Sat W0 l w) (k : Nat) {b : Nat} {cs ds : List Value} {e : TypeId} {f : Nat × Nat} (hk : l[k]? = some (HP.pts b (.cells cs.toArray e f))) (i : Nat) (hd : ∀ j u, ds[j]? = some u → cs[i + j]? = some u) :
    ∀ j u, ds[j]? = some u → w.cell? ((⟨b, i, none⟩ : Addr).add j) = some u := fun j u hu => by
  rw [show (⟨b, i, none⟩ : Addr).add j = ⟨b, i + j, none⟩ from by unfold Addr.add; split <;> simp_all, cell_of_row w b (i + j) _ e f (hs.block k hk)]
  simpa using hd j u hu
theorem exec_load {P : Program} {w : World} {a : Act} {t : TypeId} {x : Operand} {dst : Option Tmp} {type : TypeId} {pos : String} {after : Array Edge} {guard : Option (Nat × Bool)} {ad : Addr} {v : Value} (hx : a.eval x = .pointer (some ad)) (h : (Instr.loadAt t (.pointer (some ad))).run P w = .ok v w) :
    (execOp a.eval ⟨dst, .load t x, type, pos, after, guard⟩).run P w = .ok (.value v) w := by
  unfold execOp
  simp only [hx, Sem.run_bind, Sem.run_pure, Result.andThen_ok, h]
theorem Sat.cell {W0 w : World} {l : List HP} (hs : Sat W0 l w) (k : Nat) {b : Nat} {c : Array Value} {e : TypeId} {f : Nat × Nat} (hk : l[k]? = some (HP.pts b (.cells c e f))) (j : Nat) {v : Value} (hv : c[j]? = some v) : w.cell? ⟨b, j, none⟩ = some v :=
  (cell_of_row w b j c e f (hs.block k hk)).trans hv
end Go.Proofs.Ytfledabgdcnkfaa
