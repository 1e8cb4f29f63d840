/- Parts of the proof, merged. -/
import Derived.Test.YtbmoancedlbhlaaDoorEngCon
import Derived.Test.YtbmoancedlbhlaaDoorEngRow
import Derived.Test.YtbmoancedlbhlaaDoorEngKMap
import Derived.Test.YtbmoancedlbhlaaDoorEngOpen
import Derived.Test.YtbmoancedlbhlaaDoorEngGood
import Derived.Test.YtbmoancedlbhlaaDoorEngKit3
/- Rows of like elements: cells one by one. No program. -/
set_option linter.unusedVariables false
set_option linter.unusedSimpArgs false
namespace Go.Proofs.YtbmoancedlbhlaaDoor.Eng
open Go Go.RowKit
section
variable {α : Type} {enc : α → List Value} {k : Nat}
theorem row_getD (hk : ∀ x, (enc x).length = k) (L : List α) (d0 : α) (i : Nat) (hi : i < L.length) (j : Nat) (hj : j < k) (v : Value) (hv : (enc (L.getD i d0))[j]? = some v) (d : AV) : (rowV enc L).getD (0 + i * k + j) d = .v v := by
  have h := rowV_span hk L d0 i hi
  have h2 : (((rowV enc L).drop (i * k)).take k)[j]? = some (.v v) := by
    rw [h, vmap, List.getElem?_map, hv]; rfl
  rw [List.getElem?_take_of_lt hj, List.getElem?_drop] at h2
  rw [Nat.zero_add, List.getD, h2]; rfl
theorem row_addW (hk : ∀ x, (enc x).length = k) (P : List α) (y : α) : List.take (P.length * k) (List.drop 0 (rowV enc P)) ++ vmap (enc y) = rowV enc (P ++ [y]) := by
  rw [List.drop_zero, rowV_take hk, List.take_length, ← rowV_one (enc := enc), ← rowV_append]
theorem row_full (hk : ∀ x, (enc x).length = k) (P : List α) : (List.take (P.length * k) (List.drop 0 (rowV enc P))).length.beq (P.length * k) = true := by
  rw [List.drop_zero, rowV_take hk, List.take_length, rowV_length hk]; exact Nat.beq_refl _
theorem row_in (hk : ∀ x, (enc x).length = k) (P : List α) : (0 + P.length * k).ble (rowV enc P).length = true := by
  rw [rowV_length hk, Nat.ble_eq]; omega
end
theorem getD_lt {α : Type} {L : List α} {d : α} {i : Nat} (h : i < L.length) : L.getD i d ∈ L := by
  rw [List.getD, List.getElem?_eq_getElem h]; exact List.getElem_mem h
end Go.Proofs.YtbmoancedlbhlaaDoor.Eng

/- Maps with texts as keys, that lie somewhere: what is found, what is laid, what is taken away. No program. -/
set_option linter.unusedVariables false
set_option linter.unusedSimpArgs false
namespace Go.Proofs.YtbmoancedlbhlaaDoor.Eng
open Go Go.RowKit
section
variable {P : Program} {w : World} {α : Type}
theorem bs_beq (a b : ByteArray) : (a == b) = decide (a = b) := by
  cases a with | mk a => cases b with | mk b =>
  show (a == b) = _
  by_cases h : a = b
  · subst h; simp
  · have : ByteArray.mk a ≠ ByteArray.mk b := fun e => h (ByteArray.mk.inj e)
    simp [h]
def ents (ev : α → Value) (m : KMap ByteArray α) : List MapEntry := m.map fun e => ⟨.string e.1, ev e.2.1, e.2.2⟩
theorem ents_get (ev : α → Value) (m : KMap ByteArray α) (j : Nat) : (ents ev m)[j]? = (m[j]?).map fun e => ⟨.string e.1, ev e.2.1, e.2.2⟩ := by simp [ents]
theorem str_findNow (ev : α → Value) (k : ByteArray) : ∀ (m : KMap ByteArray α) (i : Nat), Instr.findNow .string (.string k) (ents ev m) i = some ((kfind k m i).map fun p => (p.1, ev p.2))
  | [], i => rfl
  | e :: l, i => by
    have ih := str_findNow ev k l (i + 1)
    have hs : Instr.sameNow .string (.string k) (.string e.1) = some (decide (k = e.1)) := by
      show some (k == e.1) = _
      rw [bs_beq]
    show (match Instr.sameNow .string (.string k) (.string e.1) with
      | some true => some (some (i, ev e.2.1))
      | some false => Instr.findNow .string (.string k) (ents ev l) (i + 1)
      | none => none) = _
    rw [hs, kfind]
    by_cases h : k = e.1
    · rw [if_pos h]; simp [h]
    · rw [if_neg h]; simp only [h, decide_false]; exact ih
theorem str_findKey {kt : TypeId} (hk : P.underlying kt = some .string) (ev : α → Value) (k : ByteArray) (m : KMap ByteArray α) : (Instr.findKey kt (.string k) (ents ev m)).run P w = .ok ((kfind k m 0).map fun p => (p.1, ev p.2)) w := by
  simp only [Instr.findKey, Sem.run_bind, run_underlying hk, Result.andThen_ok, str_findNow, Sem.run_pure]
theorem str_check {kt : TypeId} (hk : P.underlying kt = some .string) (k : ByteArray) (b : Bool) (w : World) : (Instr.checkKey b 10000 kt (.string k)).run P w = .ok () w := by
  have : ∀ m, (Instr.checkKey b (m + 1) kt (.string k)).run P w = .ok () w := fun m => by
    simp only [Instr.checkKey, Sem.run_bind, run_underlying hk, Result.andThen_ok, Sem.run_pure]
  exact this 9999
theorem str_look {t kt e : TypeId} {z : Value} (ht : P.underlying t = some (.map kt e)) (hk : P.underlying kt = some .string) (hz : ∀ w, (zeroValue e).run P w = .ok z w) {b : Nat} {es : Array MapEntry} {c : Nat} (hb : w.heap[b]? = some (.map es c)) {ev : α → Value} {m : KMap ByteArray α} (hes : es.toList = ents ev m) (k : ByteArray) :
    (Instr.lookup t (.map (some b)) (.string k) false).run P w = .ok (((klook k m).map ev).getD z) w := by
  have hfk : (Instr.findKey kt (.string k) es.toList).run P w = .ok ((kfind k m 0).map fun p => (p.1, ev p.2)) w := by rw [hes]; exact str_findKey hk ev k m
  have hlk := kfind_look k m 0
  cases hf : kfind k m 0 with
  | none =>
    rw [hf] at hfk hlk
    rw [← hlk]
    simp only [Option.map_none] at hfk
    simp [Instr.lookup, Sem.run_bind, run_underlying ht, str_check hk, hfk, run_getMap hb, hz]
  | some p =>
    rw [hf] at hfk hlk
    rw [← hlk]
    simp only [Option.map_some] at hfk
    simp [Instr.lookup, Sem.run_bind, run_underlying ht, str_check hk, hfk, run_getMap hb]
theorem str_upd {t kt e : TypeId} (ht : P.underlying t = some (.map kt e)) (hk : P.underlying kt = some .string) {b : Nat} {es : Array MapEntry} {c : Nat} (hb : w.heap[b]? = some (.map es c)) {ev : α → Value} {m : KMap ByteArray α} (hes : es.toList = ents ev m) (k : ByteArray) (x : α) :
    ∃ es2 : Array MapEntry, es2.toList = ents ev (kset m c k x) ∧ (Instr.mapUpdate t (.map (some b)) (.string k) (ev x)).run P w = .ok () { w with heap := w.heap.setIfInBounds b (.map es2 (kbump m c k)) } := by
  have hfk : (Instr.findKey kt (.string k) es.toList).run P w = .ok ((kfind k m 0).map fun p => (p.1, ev p.2)) w := by rw [hes]; exact str_findKey hk ev k m
  cases hf : kfind k m 0 with
  | none =>
    rw [hf] at hfk
    simp only [Option.map_none] at hfk
    refine ⟨es.push { key := .string k, val := ev x, born := c }, ?_, ?_⟩
    · rw [Array.toList_push, hes, kset, hf]; simp [ents]
    · rw [kbump, hf]
      simp [Instr.mapUpdate, Sem.run_bind, run_underlying ht, run_getMap hb, str_check hk, hfk, run_setMap hb]
  | some p =>
    obtain ⟨j, y⟩ := p
    obtain ⟨_, s, hj⟩ := kfind_lt hf
    rw [Nat.sub_zero] at hj
    rw [hf] at hfk
    simp only [Option.map_some] at hfk
    have he0 : es.toList[j]? = some ⟨.string k, ev y, s⟩ := by rw [hes, ents_get, hj]; rfl
    have he0' : es[j]? = some ⟨.string k, ev y, s⟩ := by simpa using he0
    have hkey := run_keyStays (P := P) (a := .string k) (b := .string k) (by simp [Instr.sameBits, bs_beq]) w
    refine ⟨es.modify j fun e => { e with key := .string k, val := ev x }, ?_, ?_⟩
    · rw [modify_toList _ _ _ he0, hes, kset, hf]
      simp only [hj, Option.map_some, Option.getD_some]
      simp [ents, List.map_set]
    · rw [kbump, hf]
      simp [Instr.mapUpdate, Sem.run_bind, run_underlying ht, run_getMap hb, str_check hk, hfk, he0', hkey, run_setMap hb]
theorem str_del {t kt e tk ty : TypeId} (ht : P.underlying t = some (.map kt e)) (hk : P.underlying kt = some .string) {b : Nat} {es : Array MapEntry} {c : Nat} (hb : w.heap[b]? = some (.map es c)) {ev : α → Value} {m : KMap ByteArray α} (hes : es.toList = ents ev m) (k : ByteArray) :
    ∃ es2 : Array MapEntry, es2.toList = ents ev (kdel m k) ∧ (Builtin.delete_ #[t, tk] ty #[.map (some b), .string k]).run P w = .ok (.tuple #[]) { w with heap := w.heap.setIfInBounds b (.map es2 c) } := by
  have hfk : (Instr.findKey kt (.string k) es.toList).run P w = .ok ((kfind k m 0).map fun p => (p.1, ev p.2)) w := by rw [hes]; exact str_findKey hk ev k m
  cases hf : kfind k m 0 with
  | none =>
    rw [hf] at hfk
    simp only [Option.map_none] at hfk
    refine ⟨es, ?_, ?_⟩
    · rw [hes, kdel, hf]
    · simp [Builtin.delete_, Sem.run_bind, run_underlying ht, run_getMap hb, str_check hk, hfk, run_setMap hb]
  | some p =>
    obtain ⟨j, y⟩ := p
    rw [hf] at hfk
    simp only [Option.map_some] at hfk
    refine ⟨es.eraseIdxIfInBounds j, ?_, ?_⟩
    · have : (es.eraseIdxIfInBounds j).toList = es.toList.eraseIdx j := by simp
      rw [this, hes, kdel, hf]
      simp [ents, List.eraseIdx_eq_take_drop_succ]
    · simp [Builtin.delete_, Sem.run_bind, run_underlying ht, run_getMap hb, str_check hk, hfk, run_setMap hb]
theorem map_len {t kt e ty : TypeId} (ht : P.underlying t = some (.map kt e)) {b : Nat} {es : Array MapEntry} {c : Nat} (hb : w.heap[b]? = some (.map es c)) : (Builtin.len_ #[t] ty #[.map (some b)]).run P w = .ok (goInt es.size) w := by
  simp [Builtin.len_, Sem.run_bind, run_underlying ht, run_getMap hb]
theorem cell_load {t : TypeId} (hag : ∀ w, (isAgg t).run P w = .ok false w) {a : Addr} {v : Value} (hc : w.cell? a = some v) : (Instr.loadAt t (.pointer (some a))).run P w = .ok v w := by
  simp [Instr.loadAt, Instr.sureAddr, loadVar, Sem.run_bind, hag, hc]
end
end Go.Proofs.YtbmoancedlbhlaaDoor.Eng

/- Topic: nodes, fronts: cells; what the nodes tell. -/
set_option linter.unusedVariables false
set_option linter.unusedSimpArgs false
set_option maxRecDepth 100000
namespace Go.Proofs.YtbmoancedlbhlaaDoor.Tpc
open Go Go.RowKit Go.Proofs.YtbmoancedlbhlaaDoor.Eng Go.Proofs.YtbmoancedlbhlaaDoor.Kit
def pk (b : Nat) : Value := .pointer (some ⟨b, 0, none⟩)
def ptrV (b : Nat) : AV := .v (pk b)
def nilP : AV := .v (.pointer none)
def nilV : AV := .v (.slice none 0 0)
def mpV (b : Nat) : Value := .map (some b)
abbrev tNode : TypeId := 49
abbrev tTrie : TypeId := 2 * 45
abbrev tFront : TypeId := 2 * 58
abbrev tPtr : TypeId := 2 * 42
abbrev tStr : TypeId := 2 * 9
abbrev tNx : TypeId := 46
abbrev tDs : TypeId := 47
theorem kok_str : KOK Value.string where
  inj a b := by simp [valQ]
  same k := by simp [Instr.sameBits, bs_beq]
theorem kty_str : KTy Tryd.prog 9 Value.string := by
  intro E a b
  have hu : Tryd.prog.underlying 9 = some .string := by kernel_rfl
  show (match Instr.sameNow ((Tryd.prog.underlying 9).getD .invalid) (.string a) (.string b) with
    | some r => pure r
    | none => AP.opt "key " (pureSem Tryd.prog (Op.equal 9 (.string a) (.string b)))) = AP.ret (decide (a = b))
  rw [hu]
  show (AP.ret (a == b) : AP Bool) = _
  rw [bs_beq]
theorem kok_pk : KOK pk where
  inj a b := by simp [valQ, pk]
  same k := by simp [Instr.sameBits, pk]
theorem ul_nx : Tryd.prog.underlying tNx = some (.map 9 42) := by kernel_rfl
theorem ul_ds : Tryd.prog.underlying tDs = some (.map 9 3) := by kernel_rfl
theorem ul_str : Tryd.prog.underlying 9 = some .string := by kernel_rfl
def ix (n : Int) : Value := .int .i64 n
def ndAt (w : World) (s : Nd) : Prop := (∃ arr, w.heap[s.b]? = some (.cells arr tNode (0, 0)) ∧ arr[0]? = some (mpV s.nb) ∧ arr[1]? = some (mpV s.db)) ∧
  (∃ es : Array MapEntry, w.heap[s.nb]? = some (.map es s.nc) ∧ es.toList = ents pk s.nx) ∧ ∃ es : Array MapEntry, w.heap[s.db]? = some (.map es s.dc) ∧ es.toList = ents ix s.ds
def blocks (G : List Nd) : List Nat := G.flatMap fun s => [s.b, s.nb, s.db]
def famOn (G : List Nd) (D : Nat → Prop) (w : World) : Prop := (∀ x, D x ↔ x ∈ blocks G) ∧ (blocks G).Nodup ∧ ∀ s ∈ G, ndAt w s
theorem blocks_mem {G : List Nd} {s : Nd} (h : s ∈ G) : s.b ∈ blocks G ∧ s.nb ∈ blocks G ∧ s.db ∈ blocks G := by
  unfold blocks
  simp only [List.mem_flatMap]
  exact ⟨⟨s, h, by simp⟩, ⟨s, h, by simp⟩, ⟨s, h, by simp⟩⟩
theorem ndAt.far {w w' : World} {s : Nd} (h : ndAt w s) (h1 : w'.heap[s.b]? = w.heap[s.b]?) (h2 : w'.heap[s.nb]? = w.heap[s.nb]?) (h3 : w'.heap[s.db]? = w.heap[s.db]?) : ndAt w' s := by
  unfold ndAt at *
  rw [h1, h2, h3]; exact h
def famN (G : List Nd) : HP where
  on D w := famOn G D w
  far {D w w'} hf := fun (h : famOn G D w) => show famOn G D w' from ⟨h.1, h.2.1, fun s hs => (h.2.2 s hs).far (hf _ ((h.1 _).2 (blocks_mem hs).1)) (hf _ ((h.1 _).2 (blocks_mem hs).2.1)) (hf _ ((h.1 _).2 (blocks_mem hs).2.2))⟩
  lt {D w} := fun (h : famOn G D w) b hb => by
    obtain ⟨s, hs, he⟩ := List.mem_flatMap.1 ((h.1 b).1 hb)
    obtain ⟨⟨arr, h1, _⟩, ⟨e1, h2, _⟩, ⟨e2, h3, _⟩⟩ := h.2.2 s hs
    simp only [List.mem_cons, List.not_mem_nil, or_false] at he
    rcases he with rfl | rfl | rfl
    · exact (Array.getElem?_eq_some_iff.1 h1).1
    · exact (Array.getElem?_eq_some_iff.1 h2).1
    · exact (Array.getElem?_eq_some_iff.1 h3).1
def famO (G : List Nd) : AO := .any (famN G)
theorem famN_perm {G G' : List Nd} (hp : G.Perm G') {D : Nat → Prop} {w : World} (h : (famN G).on D w) : (famN G').on D w := by
  have h : famOn G D w := h
  have hb : (blocks G).Perm (blocks G') := hp.flatMap_right _
  exact (show famOn G' D w from ⟨fun x => (h.1 x).trans hb.mem_iff, hb.nodup_iff.1 h.2.1, fun s hs => h.2.2 s (hp.symm.subset hs)⟩)
theorem famO_perm {G G' : List Nd} (hp : G.Perm G') : OW (famO G) (famO G') := fun N i D w h => famN_perm hp h
/-! What the nodes tell. -/
theorem agg_nx (w : World) : (isAgg tNx).run Tryd.prog w = .ok false w := by simp [isAgg, Sem.run_bind, run_underlying ul_nx]
theorem agg_ds (w : World) : (isAgg tDs).run Tryd.prog w = .ok false w := by simp [isAgg, Sem.run_bind, run_underlying ul_ds]
theorem cell_of {w : World} {b : Nat} {arr : Array Value} {e : TypeId} {f : Nat × Nat} {j : Nat} {v : Value} (hb : w.heap[b]? = some (.cells arr e f)) (hj : arr[j]? = some v) : w.cell? ⟨b, j, none⟩ = some v := by
  simp [World.cell?, hb, hj]
theorem fc_nx {G : List Nd} {s : Nd} (hs : s ∈ G) : FactAt Tryd.prog (famO G) (.load tNx ⟨s.b, 0, none⟩ (mpV s.nb)) := fun N D w h => by
  obtain ⟨⟨arr, h1, h2, h3⟩, _⟩ := (show famOn G D w from h).2.2 s hs
  exact cell_load agg_nx (cell_of h1 h2)
theorem fc_ds {G : List Nd} {s : Nd} (hs : s ∈ G) : FactAt Tryd.prog (famO G) (.load tDs ⟨s.b, 1, none⟩ (mpV s.db)) := fun N D w h => by
  obtain ⟨⟨arr, h1, h2, h3⟩, _⟩ := (show famOn G D w from h).2.2 s hs
  exact cell_load agg_ds (cell_of h1 h3)
theorem zero_ptr (w : World) : (zeroValue 42).run Tryd.prog w = .ok (.pointer none) w := by
  obtain ⟨i, hi, hz⟩ : ∃ i, Tryd.prog.info? 42 = some i ∧ i.zero = some (.pointer none) := by
    have : (Tryd.prog.info? 42).bind (·.zero) = some (.pointer none) := by kernel_rfl
    cases h : Tryd.prog.info? 42 with
    | none => rw [h] at this; cases this
    | some i => rw [h] at this; exact ⟨i, rfl, this⟩
  simp [zeroValue, typeInfo, hi, hz]
theorem zero_int (w : World) : (zeroValue 3).run Tryd.prog w = .ok (.int .i64 0) w := by
  obtain ⟨i, hi, hz⟩ : ∃ i, Tryd.prog.info? 3 = some i ∧ i.zero = some (.int .i64 0) := by
    have : (Tryd.prog.info? 3).bind (·.zero) = some (.int .i64 0) := by kernel_rfl
    cases h : Tryd.prog.info? 3 with
    | none => rw [h] at this; cases this
    | some i => rw [h] at this; exact ⟨i, rfl, this⟩
  simp [zeroValue, typeInfo, hi, hz]
def nxV (s : Nd) (k : ByteArray) : Value := ((klook k s.nx).map pk).getD (.pointer none)
def dsV (s : Nd) (k : ByteArray) : Value := ((klook k s.ds).map ix).getD (ix 0)
theorem fc_look_nx {G : List Nd} {s : Nd} (hs : s ∈ G) (k : ByteArray) : FactAt Tryd.prog (famO G) (.look tNx s.nb (.string k) (nxV s k)) := fun N D w h => by
  obtain ⟨_, ⟨es, h1, h2⟩, _⟩ := (show famOn G D w from h).2.2 s hs
  exact str_look ul_nx ul_str zero_ptr h1 h2 k
theorem fc_look_ds {G : List Nd} {s : Nd} (hs : s ∈ G) (k : ByteArray) : FactAt Tryd.prog (famO G) (.look tDs s.db (.string k) (dsV s k)) := fun N D w h => by
  obtain ⟨_, _, ⟨es, h1, h2⟩⟩ := (show famOn G D w from h).2.2 s hs
  exact str_look ul_ds ul_str zero_int h1 h2 k
theorem fc_len_nx {G : List Nd} {s : Nd} (hs : s ∈ G) : FactAt Tryd.prog (famO G) (.len tNx s.nb (ix s.nx.length)) := fun N D w h ty => by
  obtain ⟨_, ⟨es, h1, h2⟩, _⟩ := (show famOn G D w from h).2.2 s hs
  have hl : es.size = s.nx.length := by rw [← Array.length_toList, h2]; simp [ents]
  rw [map_len ul_nx h1, hl]; rfl
theorem fc_len_ds {G : List Nd} {s : Nd} (hs : s ∈ G) : FactAt Tryd.prog (famO G) (.len tDs s.db (ix s.ds.length)) := fun N D w h ty => by
  obtain ⟨_, _, ⟨es, h1, h2⟩⟩ := (show famOn G D w from h).2.2 s hs
  have hl : es.size = s.ds.length := by rw [← Array.length_toList, h2]; simp [ents]
  rw [map_len ul_ds h1, hl]; rfl
theorem turn_one {G : List Nd} {s s' : Nd} (hb : s'.b = s.b ∧ s'.nb = s.nb ∧ s'.db = s.db) {N : Names} {D : Nat → Prop} {w w' : World} (h : famOn (s :: G) D w) (ho : w'.os = w.os) (ht : w'.tape = w.tape) (hu : w'.output = w.output) (b : Nat) (hbD : b = s.nb ∨ b = s.db)
    (hh : ∀ x, x ≠ b → w'.heap[x]? = w.heap[x]?) (hn : ndAt w' s') : TurnAt (famO (s :: G)) (famO (s' :: G)) N D w w' := by
  have hbl : blocks (s' :: G) = blocks (s :: G) := by simp only [blocks, List.flatMap_cons, hb.1, hb.2.1, hb.2.2]
  have hin : b ∈ [s.b, s.nb, s.db] := by rcases hbD with rfl | rfl <;> simp
  have hDb : D b := (h.1 b).2 (by simp only [blocks, List.flatMap_cons]; exact List.mem_append_left _ hin)
  refine ⟨ho, ht, hu, fun x _ hx => hh x fun e => hx (e ▸ hDb), D, ?_, fun x hx => .inl hx⟩
  refine (show famOn (s' :: G) D w' from ⟨fun x => by rw [hbl]; exact h.1 x, by rw [hbl]; exact h.2.1, fun t ht => ?_⟩)
  rcases List.mem_cons.1 ht with rfl | ht
  · exact hn
  · have hnd := h.2.1
    simp only [blocks, List.flatMap_cons] at hnd
    have hdis := (List.nodup_append.1 hnd).2.2
    have q := blocks_mem ht
    have hne : ∀ x, x ∈ blocks G → x ≠ b := fun x hx e => hdis b hin x hx e.symm
    exact (h.2.2 t (List.mem_cons_of_mem _ ht)).far (hh _ (hne _ q.1)) (hh _ (hne _ q.2.1)) (hh _ (hne _ q.2.2))
theorem node_ne {G : List Nd} {s : Nd} {D : Nat → Prop} {w : World} (h : famOn (s :: G) D w) : s.b ≠ s.nb ∧ s.b ≠ s.db ∧ s.nb ≠ s.db := by
  have := h.2.1
  simp only [blocks, List.flatMap_cons, List.cons_append, List.nil_append, List.nodup_cons, List.mem_cons, not_or] at this
  exact ⟨this.1.1, this.1.2.1, this.2.1.1⟩
theorem heap_set_other {w : World} {b : Nat} {o : Obj} (x : Nat) (h : x ≠ b) : ({ w with heap := w.heap.setIfInBounds b o } : World).heap[x]? = w.heap[x]? := Array.getElem?_setIfInBounds_ne (fun e => h e.symm)
theorem heap_set_same {w : World} {b : Nat} {o o' : Obj} (h : w.heap[b]? = some o') : ({ w with heap := w.heap.setIfInBounds b o } : World).heap[b]? = some o := by
  have := (Array.getElem?_eq_some_iff.1 h).1
  simp [this]
def setDs (s : Nd) (k : ByteArray) (x : Int) : Nd := { s with ds := kset s.ds s.dc k x, dc := kbump s.ds s.dc k }
def delDs (s : Nd) (k : ByteArray) : Nd := { s with ds := kdel s.ds k }
def setNx (s : Nd) (k : ByteArray) (x : Nat) : Nd := { s with nx := kset s.nx s.nc k x, nc := kbump s.nx s.nc k }
def delNx (s : Nd) (k : ByteArray) : Nd := { s with nx := kdel s.nx k }
theorem fc_upd_ds (s : Nd) (G : List Nd) (k : ByteArray) (x : Int) : FactAt Tryd.prog (famO (s :: G)) (.upd tDs s.db (.string k) (ix x) (famO (setDs s k x :: G))) := fun N D w h => by
  have h : famOn (s :: G) D w := h
  obtain ⟨⟨arr, a1, a2, a3⟩, ⟨e1, b1, b2⟩, ⟨es, h1, h2⟩⟩ := h.2.2 s List.mem_cons_self
  obtain ⟨es2, q1, q2⟩ := str_upd (P := Tryd.prog) ul_ds ul_str h1 h2 k x
  obtain ⟨n1, n2, n3⟩ := node_ne h
  refine ⟨_, q2, turn_one (s := s) (s' := setDs s k x) (G := G) (w' := { w with heap := w.heap.setIfInBounds s.db (.map es2 (kbump s.ds s.dc k)) }) ⟨rfl, rfl, rfl⟩ h rfl rfl rfl s.db (.inr rfl) (fun x hx => heap_set_other x hx) ⟨⟨arr, ?_, a2, a3⟩, ⟨e1, ?_, b2⟩, ⟨es2, heap_set_same h1, q1⟩⟩⟩
  · exact (heap_set_other _ n2).trans a1
  · exact (heap_set_other _ n3).trans b1
theorem fc_del_ds (s : Nd) (G : List Nd) (k : ByteArray) : FactAt Tryd.prog (famO (s :: G)) (.del tDs s.db (.string k) (famO (delDs s k :: G))) := fun N D w tk ty h => by
  have h : famOn (s :: G) D w := h
  obtain ⟨⟨arr, a1, a2, a3⟩, ⟨e1, b1, b2⟩, ⟨es, h1, h2⟩⟩ := h.2.2 s List.mem_cons_self
  obtain ⟨es2, q1, q2⟩ := str_del (P := Tryd.prog) (tk := tk) (ty := ty) ul_ds ul_str h1 h2 k
  obtain ⟨n1, n2, n3⟩ := node_ne h
  refine ⟨_, q2, turn_one (s := s) (s' := delDs s k) (G := G) (w' := { w with heap := w.heap.setIfInBounds s.db (.map es2 s.dc) }) ⟨rfl, rfl, rfl⟩ h rfl rfl rfl s.db (.inr rfl) (fun x hx => heap_set_other x hx) ⟨⟨arr, ?_, a2, a3⟩, ⟨e1, ?_, b2⟩, ⟨es2, heap_set_same h1, q1⟩⟩⟩
  · exact (heap_set_other _ n2).trans a1
  · exact (heap_set_other _ n3).trans b1
theorem fc_del_nx (s : Nd) (G : List Nd) (k : ByteArray) : FactAt Tryd.prog (famO (s :: G)) (.del tNx s.nb (.string k) (famO (delNx s k :: G))) := fun N D w tk ty h => by
  have h : famOn (s :: G) D w := h
  obtain ⟨⟨arr, a1, a2, a3⟩, ⟨es, h1, h2⟩, ⟨e1, b1, b2⟩⟩ := h.2.2 s List.mem_cons_self
  obtain ⟨es2, q1, q2⟩ := str_del (P := Tryd.prog) (tk := tk) (ty := ty) ul_nx ul_str h1 h2 k
  obtain ⟨n1, n2, n3⟩ := node_ne h
  refine ⟨_, q2, turn_one (s := s) (s' := delNx s k) (G := G) (w' := { w with heap := w.heap.setIfInBounds s.nb (.map es2 s.nc) }) ⟨rfl, rfl, rfl⟩ h rfl rfl rfl s.nb (.inl rfl) (fun x hx => heap_set_other x hx) ⟨⟨arr, ?_, a2, a3⟩, ⟨es2, heap_set_same h1, q1⟩, ⟨e1, ?_, b2⟩⟩⟩
  · exact (heap_set_other _ n1).trans a1
  · exact (heap_set_other _ (Ne.symm n3)).trans b1
theorem good_keys {G : List Nd} {α : Type} (ev : α → AV) (b : Nat) (m : KMap Nat α) (hb : b ∈ G.map (·.b)) (hm : ∀ x ∈ m, x.1 ∈ G.map (·.b)) : GoodAt (famO G) (ptrV b) (kE pk ev m) := fun N D w h v hv => by
  have h : famOn G D w := h
  have key : ∀ c, c ∈ G.map (·.b) → ∃ b' arr e, ptrV c = .v (.pointer (some ⟨b', 0, none⟩)) ∧ w.heap[b']? = some (.cells arr e (0, 0)) := fun c hc => by
    obtain ⟨s, hs, rfl⟩ := List.mem_map.1 hc
    obtain ⟨⟨arr, h1, _⟩, _⟩ := h.2.2 s hs
    exact ⟨s.b, arr, _, rfl, h1⟩
  rcases List.mem_cons.1 hv with rfl | hv
  · exact key b hb
  · obtain ⟨x, hx, rfl⟩ := List.mem_map.1 hv
    obtain ⟨y, hy, rfl⟩ := List.mem_map.1 hx
    exact key y.1 (hm y hy)
end Go.Proofs.YtbmoancedlbhlaaDoor.Tpc

/- Topic: a front's stand: runs. -/
set_option linter.unusedVariables false
set_option linter.unusedSimpArgs false
set_option maxRecDepth 100000
namespace Go.Proofs.YtbmoancedlbhlaaDoor.Tpc
open Go Go.RowKit Go.Proofs.YtbmoancedlbhlaaDoor.Eng Go.Proofs.YtbmoancedlbhlaaDoor.Kit
noncomputable section
abbrev fStand : Nat := 24
def hash : ByteArray := ⟨⟨[35]⟩⟩
def star : ByteArray := ⟨⟨[42]⟩⟩
def cnt (m : KMap Nat Int) (b : Nat) : Int := (klook b m).getD 0
def encP (b : Nat) : List Value := [pk b]
def rP (l : List Nat) : AO := .cells (rowV encP l) tPtr
def sP (j n : Nat) : AV := .slice j 0 n 1 (.lo n)
def fmO (m : KMap Nat Int) (c : Nat) : AO := .map (kE pk iv m) c
def frC (s : AV) : AO := .cells [s, .map 1002, .map 1003] tFront
def uZ (lo : KMap Nat Int) (lc : Nat) (se : KMap Nat Int) (sc : Nat) (G : List Nd) : LH := [(0, frC nilV), (1002, fmO lo lc), (1003, fmO se sc), (2, famO G)]
def uR (ns : List Nat) (n : Nat) (lo : KMap Nat Int) (lc : Nat) (se : KMap Nat Int) (sc : Nat) (G : List Nd) : LH := [(0, frC (sP 1001 n)), (1001, rP ns), (1002, fmO lo lc), (1003, fmO se sc), (2, famO G)]
def gF : List AV → AP (Nat × Nat × Nat × Nat) := fun args => match args with
  | .ptr r0 _ :: _ => .read r0 fun o => match o with
    | .cells [.slice r1 _ _ _ _, .map r2, .map r3] _ => .ret (r0, r1, r2, r3)
    | _ => .fail "front"
  | _ => .fail "front"
def nmF (a b c d : Nat) : Nat → Nat := fun k => match Nat.beq k 0 with
  | true => a
  | false => match Nat.beq k 1001 with
    | true => b
    | false => match Nat.beq k 1002 with
      | true => c
      | false => match Nat.beq k 1003 with
        | true => d
        | false => 2
def cStU (b : Nat) (ns : List Nat) (n : Nat) (lo : KMap Nat Int) (lc : Nat) (se : KMap Nat Int) (sc : Nat) (G : List Nd) (ns' : List Nat) (n' : Nat) (lo' : KMap Nat Int) (lc' : Nat) (se' : KMap Nat Int) (sc' : Nat) : List AV → Option (AP AV) :=
  mkC gF (fun _ => True) (fun p => nmF p.1 p.2.1 p.2.2.1 p.2.2.2) (fun _ => [.ptr 0 0, ptrV b, bv true]) (fun _ => uR ns n lo lc se sc G) (fun _ => .leaf .ret [.tuple []] (uR ns' n' lo' lc' se' sc' G))
def hSt (loop : Bool) (lo1 : KMap Nat Int) (lc1 : Nat) (se1 : KMap Nat Int) (sc1 : Nat) (cl cs : Int) (new child : Bool) (nb : Nat) (y : Value) : ClaimT := hintL [(fStand, 0, 0, hv (.lit loop)), (fStand, 1, 5, h0v (iv cl)), (fStand, 1, 6, hv (iv (cl + 1))), (fStand, 1, 7, h0o 1002 (fmO lo1 lc1)), (fStand, 2, 5, h0v (iv cs)), (fStand, 2, 6, hv (iv (cs + 1))), (fStand, 2, 7, h0o 1003 (fmO se1 sc1)),
  (fStand, 3, 5, h0v (iv (cs + 1))), (fStand, 3, 6, hv (.lit new)), (fStand, 5, 3, hf (mpV nb)), (fStand, 5, 4, hf y), (fStand, 6, 1, hv (.lit child))]
theorem oStSZT_eq (b : Nat) (lo : KMap Nat Int) (lc : Nat) (se : KMap Nat Int) (sc : Nat) (G : List Nd) (lo1 : KMap Nat Int) (lc1 : Nat) (se1 : KMap Nat Int) (sc1 : Nat) (cl cs : Int) (F : HP) : wRun [] (hSt true lo1 lc1 se1 sc1 cl cs false false 0 (.pointer none)) [] default fStand [.ptr 0 0, ptrV b, bv true] (uZ lo lc se sc G) [0, 1002, 1003, 2] F = VT.leaf (AV.tuple []) [some (AO.cells [AV.v (Value.slice none 0 0),AV.map 1002,AV.map 1003] 116),some (AO.map (kE pk iv lo1) lc1),some (AO.map (kE pk iv se1) sc1),some (AO.any (famN G))] 1100 (((p' (Wk (b' true) (AV.lit true))).a t').a (((p' (true = true)).a t').a (((p' (GoodAt (AO.any (famN G)) (AV.v (Value.pointer (some (Addr.mk b 0 none)))) (kE pk iv lo))).a ((p' (foundX (findS (AV.v (Value.pointer (some (Addr.mk b 0 none)))) (kE pk iv lo) 0) (Value.int IntKind.i64 (Int.ofNat 0)) = AV.v (Value.int IntKind.i64 (foundX (findS (AV.v (Value.pointer (some (Addr.mk b 0 none)))) (kE pk iv lo) 0) (Value.int IntKind.i64 (Int.ofNat 0))).intOf))).a ((p' (Wk (AV.v (Value.int IntKind.i64 (foundX (findS (AV.v (Value.pointer (some (Addr.mk b 0 none)))) (kE pk iv lo) 0) (Value.int IntKind.i64 (Int.ofNat 0))).intOf)) (z' cl))).a t'))).a (((p' (Wk (z' (IntKind.i64.wrap (cl + Int.ofNat 1))) (z' (cl + Int.ofNat 1)))).a t').a (((p' (GoodAt (AO.any (famN G)) (AV.v (Value.pointer (some (Addr.mk b 0 none)))) (kE pk iv lo))).a ((p' (OW (AO.map (setE (AV.v (Value.pointer (some (Addr.mk b 0 none)))) (z' (cl + Int.ofNat 1)) (kE pk iv lo) lc) (bumpE (AV.v (Value.pointer (some (Addr.mk b 0 none)))) (kE pk iv lo) lc)) (AO.map (kE pk iv lo1) lc1))).a t')).a (((p' (true = true)).a t').a (((p' (GoodAt (AO.any (famN G)) (AV.v (Value.pointer (some (Addr.mk b 0 none)))) (kE pk iv se))).a ((p' (foundX (findS (AV.v (Value.pointer (some (Addr.mk b 0 none)))) (kE pk iv se) 0) (Value.int IntKind.i64 (Int.ofNat 0)) = AV.v (Value.int IntKind.i64 (foundX (findS (AV.v (Value.pointer (some (Addr.mk b 0 none)))) (kE pk iv se) 0) (Value.int IntKind.i64 (Int.ofNat 0))).intOf))).a ((p' (Wk (AV.v (Value.int IntKind.i64 (foundX (findS (AV.v (Value.pointer (some (Addr.mk b 0 none)))) (kE pk iv se) 0) (Value.int IntKind.i64 (Int.ofNat 0))).intOf)) (z' cs))).a t'))).a (((p' (Wk (z' (IntKind.i64.wrap (cs + Int.ofNat 1))) (z' (cs + Int.ofNat 1)))).a t').a (((p' (GoodAt (AO.any (famN G)) (AV.v (Value.pointer (some (Addr.mk b 0 none)))) (kE pk iv se))).a ((p' (OW (AO.map (setE (AV.v (Value.pointer (some (Addr.mk b 0 none)))) (z' (cs + Int.ofNat 1)) (kE pk iv se) sc) (bumpE (AV.v (Value.pointer (some (Addr.mk b 0 none)))) (kE pk iv se) sc)) (AO.map (kE pk iv se1) sc1))).a t')).a (((p' (true = true)).a t').a (((p' (GoodAt (AO.any (famN G)) (AV.v (Value.pointer (some (Addr.mk b 0 none)))) (kE pk iv se1))).a ((p' (foundX (findS (AV.v (Value.pointer (some (Addr.mk b 0 none)))) (kE pk iv se1) 0) (Value.int IntKind.i64 (Int.ofNat 0)) = AV.v (Value.int IntKind.i64 (foundX (findS (AV.v (Value.pointer (some (Addr.mk b 0 none)))) (kE pk iv se1) 0) (Value.int IntKind.i64 (Int.ofNat 0))).intOf))).a ((p' (Wk (AV.v (Value.int IntKind.i64 (foundX (findS (AV.v (Value.pointer (some (Addr.mk b 0 none)))) (kE pk iv se1) 0) (Value.int IntKind.i64 (Int.ofNat 0))).intOf)) (z' (cs + Int.ofNat 1)))).a t'))).a (((p' (Wk (b' (cs + Int.ofNat 1 == Int.ofNat 1)) (AV.lit false))).a t').a t')))))))))))) := by kernel_rfl
theorem oStSRT_eq (b : Nat) (ns : List Nat) (n : Nat) (lo : KMap Nat Int) (lc : Nat) (se : KMap Nat Int) (sc : Nat) (G : List Nd) (lo1 : KMap Nat Int) (lc1 : Nat) (se1 : KMap Nat Int) (sc1 : Nat) (cl cs : Int) (F : HP) : wRun [] (hSt true lo1 lc1 se1 sc1 cl cs false false 0 (.pointer none)) [] default fStand [.ptr 0 0, ptrV b, bv true] (uR ns n lo lc se sc G) [0, 1001, 1002, 1003, 2] F = VT.leaf (AV.tuple []) [some (AO.cells [AV.slice 1001 0 n 1 (Cp.lo n),AV.map 1002,AV.map 1003] 116),some (AO.cells (rowV encP ns) 84),some (AO.map (kE pk iv lo1) lc1),some (AO.map (kE pk iv se1) sc1),some (AO.any (famN G))] 1100 (((p' (Wk (b' true) (AV.lit true))).a t').a (((p' (true = true)).a t').a (((p' (GoodAt (AO.any (famN G)) (AV.v (Value.pointer (some (Addr.mk b 0 none)))) (kE pk iv lo))).a ((p' (foundX (findS (AV.v (Value.pointer (some (Addr.mk b 0 none)))) (kE pk iv lo) 0) (Value.int IntKind.i64 (Int.ofNat 0)) = AV.v (Value.int IntKind.i64 (foundX (findS (AV.v (Value.pointer (some (Addr.mk b 0 none)))) (kE pk iv lo) 0) (Value.int IntKind.i64 (Int.ofNat 0))).intOf))).a ((p' (Wk (AV.v (Value.int IntKind.i64 (foundX (findS (AV.v (Value.pointer (some (Addr.mk b 0 none)))) (kE pk iv lo) 0) (Value.int IntKind.i64 (Int.ofNat 0))).intOf)) (z' cl))).a t'))).a (((p' (Wk (z' (IntKind.i64.wrap (cl + Int.ofNat 1))) (z' (cl + Int.ofNat 1)))).a t').a (((p' (GoodAt (AO.any (famN G)) (AV.v (Value.pointer (some (Addr.mk b 0 none)))) (kE pk iv lo))).a ((p' (OW (AO.map (setE (AV.v (Value.pointer (some (Addr.mk b 0 none)))) (z' (cl + Int.ofNat 1)) (kE pk iv lo) lc) (bumpE (AV.v (Value.pointer (some (Addr.mk b 0 none)))) (kE pk iv lo) lc)) (AO.map (kE pk iv lo1) lc1))).a t')).a (((p' (true = true)).a t').a (((p' (GoodAt (AO.any (famN G)) (AV.v (Value.pointer (some (Addr.mk b 0 none)))) (kE pk iv se))).a ((p' (foundX (findS (AV.v (Value.pointer (some (Addr.mk b 0 none)))) (kE pk iv se) 0) (Value.int IntKind.i64 (Int.ofNat 0)) = AV.v (Value.int IntKind.i64 (foundX (findS (AV.v (Value.pointer (some (Addr.mk b 0 none)))) (kE pk iv se) 0) (Value.int IntKind.i64 (Int.ofNat 0))).intOf))).a ((p' (Wk (AV.v (Value.int IntKind.i64 (foundX (findS (AV.v (Value.pointer (some (Addr.mk b 0 none)))) (kE pk iv se) 0) (Value.int IntKind.i64 (Int.ofNat 0))).intOf)) (z' cs))).a t'))).a (((p' (Wk (z' (IntKind.i64.wrap (cs + Int.ofNat 1))) (z' (cs + Int.ofNat 1)))).a t').a (((p' (GoodAt (AO.any (famN G)) (AV.v (Value.pointer (some (Addr.mk b 0 none)))) (kE pk iv se))).a ((p' (OW (AO.map (setE (AV.v (Value.pointer (some (Addr.mk b 0 none)))) (z' (cs + Int.ofNat 1)) (kE pk iv se) sc) (bumpE (AV.v (Value.pointer (some (Addr.mk b 0 none)))) (kE pk iv se) sc)) (AO.map (kE pk iv se1) sc1))).a t')).a (((p' (true = true)).a t').a (((p' (GoodAt (AO.any (famN G)) (AV.v (Value.pointer (some (Addr.mk b 0 none)))) (kE pk iv se1))).a ((p' (foundX (findS (AV.v (Value.pointer (some (Addr.mk b 0 none)))) (kE pk iv se1) 0) (Value.int IntKind.i64 (Int.ofNat 0)) = AV.v (Value.int IntKind.i64 (foundX (findS (AV.v (Value.pointer (some (Addr.mk b 0 none)))) (kE pk iv se1) 0) (Value.int IntKind.i64 (Int.ofNat 0))).intOf))).a ((p' (Wk (AV.v (Value.int IntKind.i64 (foundX (findS (AV.v (Value.pointer (some (Addr.mk b 0 none)))) (kE pk iv se1) 0) (Value.int IntKind.i64 (Int.ofNat 0))).intOf)) (z' (cs + Int.ofNat 1)))).a t'))).a (((p' (Wk (b' (cs + Int.ofNat 1 == Int.ofNat 1)) (AV.lit false))).a t').a t')))))))))))) := by kernel_rfl
theorem oStZNT_eq (b : Nat) (nb : Nat) (lo : KMap Nat Int) (lc : Nat) (se : KMap Nat Int) (sc : Nat) (G : List Nd) (lo1 : KMap Nat Int) (lc1 : Nat) (se1 : KMap Nat Int) (sc1 : Nat) (cl cs : Int) (F : HP) : wRun [] (hSt true lo1 lc1 se1 sc1 cl cs true false nb (.pointer none)) [] default fStand [.ptr 0 0, ptrV b, bv true] (uZ lo lc se sc G) [0, 1001, 1002, 1003, 2, 1100, 1101, 1102, 1103, 1104] F = VT.leaf (AV.tuple []) [some (AO.cells [AV.slice 1101 0 1 1 (Cp.lo 1),AV.map 1002,AV.map 1003] 116),none,some (AO.map (kE pk iv lo1) lc1),some (AO.map (kE pk iv se1) sc1),some (AO.any (famN G)),some (AO.cells [AV.v (Value.pointer (some (Addr.mk b 0 none)))] 84),some (AO.cells [AV.v (Value.pointer (some (Addr.mk b 0 none)))] 84),none,none,none] 1102 (((p' (Wk (b' true) (AV.lit true))).a t').a (((p' (true = true)).a t').a (((p' (GoodAt (AO.any (famN G)) (AV.v (Value.pointer (some (Addr.mk b 0 none)))) (kE pk iv lo))).a ((p' (foundX (findS (AV.v (Value.pointer (some (Addr.mk b 0 none)))) (kE pk iv lo) 0) (Value.int IntKind.i64 (Int.ofNat 0)) = AV.v (Value.int IntKind.i64 (foundX (findS (AV.v (Value.pointer (some (Addr.mk b 0 none)))) (kE pk iv lo) 0) (Value.int IntKind.i64 (Int.ofNat 0))).intOf))).a ((p' (Wk (AV.v (Value.int IntKind.i64 (foundX (findS (AV.v (Value.pointer (some (Addr.mk b 0 none)))) (kE pk iv lo) 0) (Value.int IntKind.i64 (Int.ofNat 0))).intOf)) (z' cl))).a t'))).a (((p' (Wk (z' (IntKind.i64.wrap (cl + Int.ofNat 1))) (z' (cl + Int.ofNat 1)))).a t').a (((p' (GoodAt (AO.any (famN G)) (AV.v (Value.pointer (some (Addr.mk b 0 none)))) (kE pk iv lo))).a ((p' (OW (AO.map (setE (AV.v (Value.pointer (some (Addr.mk b 0 none)))) (z' (cl + Int.ofNat 1)) (kE pk iv lo) lc) (bumpE (AV.v (Value.pointer (some (Addr.mk b 0 none)))) (kE pk iv lo) lc)) (AO.map (kE pk iv lo1) lc1))).a t')).a (((p' (true = true)).a t').a (((p' (GoodAt (AO.any (famN G)) (AV.v (Value.pointer (some (Addr.mk b 0 none)))) (kE pk iv se))).a ((p' (foundX (findS (AV.v (Value.pointer (some (Addr.mk b 0 none)))) (kE pk iv se) 0) (Value.int IntKind.i64 (Int.ofNat 0)) = AV.v (Value.int IntKind.i64 (foundX (findS (AV.v (Value.pointer (some (Addr.mk b 0 none)))) (kE pk iv se) 0) (Value.int IntKind.i64 (Int.ofNat 0))).intOf))).a ((p' (Wk (AV.v (Value.int IntKind.i64 (foundX (findS (AV.v (Value.pointer (some (Addr.mk b 0 none)))) (kE pk iv se) 0) (Value.int IntKind.i64 (Int.ofNat 0))).intOf)) (z' cs))).a t'))).a (((p' (Wk (z' (IntKind.i64.wrap (cs + Int.ofNat 1))) (z' (cs + Int.ofNat 1)))).a t').a (((p' (GoodAt (AO.any (famN G)) (AV.v (Value.pointer (some (Addr.mk b 0 none)))) (kE pk iv se))).a ((p' (OW (AO.map (setE (AV.v (Value.pointer (some (Addr.mk b 0 none)))) (z' (cs + Int.ofNat 1)) (kE pk iv se) sc) (bumpE (AV.v (Value.pointer (some (Addr.mk b 0 none)))) (kE pk iv se) sc)) (AO.map (kE pk iv se1) sc1))).a t')).a (((p' (true = true)).a t').a (((p' (GoodAt (AO.any (famN G)) (AV.v (Value.pointer (some (Addr.mk b 0 none)))) (kE pk iv se1))).a ((p' (foundX (findS (AV.v (Value.pointer (some (Addr.mk b 0 none)))) (kE pk iv se1) 0) (Value.int IntKind.i64 (Int.ofNat 0)) = AV.v (Value.int IntKind.i64 (foundX (findS (AV.v (Value.pointer (some (Addr.mk b 0 none)))) (kE pk iv se1) 0) (Value.int IntKind.i64 (Int.ofNat 0))).intOf))).a ((p' (Wk (AV.v (Value.int IntKind.i64 (foundX (findS (AV.v (Value.pointer (some (Addr.mk b 0 none)))) (kE pk iv se1) 0) (Value.int IntKind.i64 (Int.ofNat 0))).intOf)) (z' (cs + Int.ofNat 1)))).a t'))).a (((p' (Wk (b' (cs + Int.ofNat 1 == Int.ofNat 1)) (AV.lit true))).a t').a (((p' (true = true)).a t').a (((p' (true = true)).a ((p' (true = true)).a ((p' (true = true)).a ((p' (true = true)).a ((p' (true = true)).a ((p' (true = true)).a t')))))).a (((p' (true = true)).a t').a (((p' (FactAt Tryd.prog (AO.any (famN G)) (Fc.load 46 (Addr.mk b 0 none) (Value.map (some nb))))).a t').a (((p' (FactAt Tryd.prog (AO.any (famN G)) (Fc.look 46 nb (Value.string (ByteArray.mk (Array.mk [35]))) (Value.pointer none)))).a t').a (((p' (Wk (b' false) (AV.lit false))).a t').a t')))))))))))))))))) := by kernel_rfl
theorem oStRNT_eq (b : Nat) (nb : Nat) (ns : List Nat) (n : Nat) (lo : KMap Nat Int) (lc : Nat) (se : KMap Nat Int) (sc : Nat) (G : List Nd) (lo1 : KMap Nat Int) (lc1 : Nat) (se1 : KMap Nat Int) (sc1 : Nat) (cl cs : Int) (F : HP) : wRun [] (hSt true lo1 lc1 se1 sc1 cl cs true false nb (.pointer none)) [] default fStand [.ptr 0 0, ptrV b, bv true] (uR ns n lo lc se sc G) [0, 1001, 1002, 1003, 2, 1100, 1101, 1102, 1103, 1104] F = VT.leaf (AV.tuple []) [some (AO.cells [AV.slice 1101 0 (n + 1) 1 (Cp.lo (n + 1)),AV.map 1002,AV.map 1003] 116),none,some (AO.map (kE pk iv lo1) lc1),some (AO.map (kE pk iv se1) sc1),some (AO.any (famN G)),some (AO.cells [AV.v (Value.pointer (some (Addr.mk b 0 none)))] 84),some (AO.cells (List.take (n * 1) (List.drop 0 (rowV encP ns)) ++ [AV.v (Value.pointer (some (Addr.mk b 0 none)))]) 84),none,none,none] 1102 (((p' (Wk (b' true) (AV.lit true))).a t').a (((p' (true = true)).a t').a (((p' (GoodAt (AO.any (famN G)) (AV.v (Value.pointer (some (Addr.mk b 0 none)))) (kE pk iv lo))).a ((p' (foundX (findS (AV.v (Value.pointer (some (Addr.mk b 0 none)))) (kE pk iv lo) 0) (Value.int IntKind.i64 (Int.ofNat 0)) = AV.v (Value.int IntKind.i64 (foundX (findS (AV.v (Value.pointer (some (Addr.mk b 0 none)))) (kE pk iv lo) 0) (Value.int IntKind.i64 (Int.ofNat 0))).intOf))).a ((p' (Wk (AV.v (Value.int IntKind.i64 (foundX (findS (AV.v (Value.pointer (some (Addr.mk b 0 none)))) (kE pk iv lo) 0) (Value.int IntKind.i64 (Int.ofNat 0))).intOf)) (z' cl))).a t'))).a (((p' (Wk (z' (IntKind.i64.wrap (cl + Int.ofNat 1))) (z' (cl + Int.ofNat 1)))).a t').a (((p' (GoodAt (AO.any (famN G)) (AV.v (Value.pointer (some (Addr.mk b 0 none)))) (kE pk iv lo))).a ((p' (OW (AO.map (setE (AV.v (Value.pointer (some (Addr.mk b 0 none)))) (z' (cl + Int.ofNat 1)) (kE pk iv lo) lc) (bumpE (AV.v (Value.pointer (some (Addr.mk b 0 none)))) (kE pk iv lo) lc)) (AO.map (kE pk iv lo1) lc1))).a t')).a (((p' (true = true)).a t').a (((p' (GoodAt (AO.any (famN G)) (AV.v (Value.pointer (some (Addr.mk b 0 none)))) (kE pk iv se))).a ((p' (foundX (findS (AV.v (Value.pointer (some (Addr.mk b 0 none)))) (kE pk iv se) 0) (Value.int IntKind.i64 (Int.ofNat 0)) = AV.v (Value.int IntKind.i64 (foundX (findS (AV.v (Value.pointer (some (Addr.mk b 0 none)))) (kE pk iv se) 0) (Value.int IntKind.i64 (Int.ofNat 0))).intOf))).a ((p' (Wk (AV.v (Value.int IntKind.i64 (foundX (findS (AV.v (Value.pointer (some (Addr.mk b 0 none)))) (kE pk iv se) 0) (Value.int IntKind.i64 (Int.ofNat 0))).intOf)) (z' cs))).a t'))).a (((p' (Wk (z' (IntKind.i64.wrap (cs + Int.ofNat 1))) (z' (cs + Int.ofNat 1)))).a t').a (((p' (GoodAt (AO.any (famN G)) (AV.v (Value.pointer (some (Addr.mk b 0 none)))) (kE pk iv se))).a ((p' (OW (AO.map (setE (AV.v (Value.pointer (some (Addr.mk b 0 none)))) (z' (cs + Int.ofNat 1)) (kE pk iv se) sc) (bumpE (AV.v (Value.pointer (some (Addr.mk b 0 none)))) (kE pk iv se) sc)) (AO.map (kE pk iv se1) sc1))).a t')).a (((p' (true = true)).a t').a (((p' (GoodAt (AO.any (famN G)) (AV.v (Value.pointer (some (Addr.mk b 0 none)))) (kE pk iv se1))).a ((p' (foundX (findS (AV.v (Value.pointer (some (Addr.mk b 0 none)))) (kE pk iv se1) 0) (Value.int IntKind.i64 (Int.ofNat 0)) = AV.v (Value.int IntKind.i64 (foundX (findS (AV.v (Value.pointer (some (Addr.mk b 0 none)))) (kE pk iv se1) 0) (Value.int IntKind.i64 (Int.ofNat 0))).intOf))).a ((p' (Wk (AV.v (Value.int IntKind.i64 (foundX (findS (AV.v (Value.pointer (some (Addr.mk b 0 none)))) (kE pk iv se1) 0) (Value.int IntKind.i64 (Int.ofNat 0))).intOf)) (z' (cs + Int.ofNat 1)))).a t'))).a (((p' (Wk (b' (cs + Int.ofNat 1 == Int.ofNat 1)) (AV.lit true))).a t').a (((p' (true = true)).a t').a (((p' (true = true)).a ((p' (true = true)).a ((p' (true = true)).a ((p' (true = true)).a ((p' ((0 + n * 1).ble (rowV encP ns).length = true)).a ((p' (((n + 1) * 8).ble 140737488355328 = true)).a ((p' ((n + 1).ble 9223372036854775807 = true)).a ((p' ((List.take (n * 1) (List.drop 0 (rowV encP ns))).length.beq (n * 1) = true)).a t')))))))).a (((p' (true = true)).a t').a (((p' (FactAt Tryd.prog (AO.any (famN G)) (Fc.load 46 (Addr.mk b 0 none) (Value.map (some nb))))).a t').a (((p' (FactAt Tryd.prog (AO.any (famN G)) (Fc.look 46 nb (Value.string (ByteArray.mk (Array.mk [35]))) (Value.pointer none)))).a t').a (((p' (Wk (b' false) (AV.lit false))).a t').a t')))))))))))))))))) := by kernel_rfl
theorem oStZCT_eq (b : Nat) (nb : Nat) (lo : KMap Nat Int) (lc : Nat) (se : KMap Nat Int) (sc : Nat) (G : List Nd) (lo1 : KMap Nat Int) (lc1 : Nat) (se1 : KMap Nat Int) (sc1 : Nat) (cl cs : Int) (y : Nat) (ns1 ns2 : List Nat) (n1 n2 : Nat) (lo2 : KMap Nat Int) (lc2 : Nat) (se2 : KMap Nat Int) (sc2 : Nat) (F : HP) : wRun [(fStand, cStU y ns1 n1 lo1 lc1 se1 sc1 G ns2 n2 lo2 lc2 se2 sc2)] (hSt true lo1 lc1 se1 sc1 cl cs true true nb (pk y)) [] default fStand [.ptr 0 0, ptrV b, bv true] (uZ lo lc se sc G) [0, 1001, 1002, 1003, 2, 1100, 1101, 1102, 1103, 1104] F = VT.leaf (AV.tuple []) [some (AO.cells [AV.slice 1102 0 n2 1 (Cp.lo n2),AV.map 1103,AV.map 1104] 116),none,none,none,some (AO.any (famN G)),some (AO.cells [AV.v (Value.pointer (some (Addr.mk b 0 none)))] 84),none,some (AO.cells (AV.rens (sgN (nmF 0 1101 1002 1003) [1001,1002,1003] 1102) (rowV encP ns2)) 84),some (AO.map (renE (sgN (nmF 0 1101 1002 1003) [1001,1002,1003] 1102) (kE pk iv lo2)) lc2),some (AO.map (renE (sgN (nmF 0 1101 1002 1003) [1001,1002,1003] 1102) (kE pk iv se2)) sc2)] 1105 (((p' (Wk (b' true) (AV.lit true))).a t').a (((p' (true = true)).a t').a (((p' (GoodAt (AO.any (famN G)) (AV.v (Value.pointer (some (Addr.mk b 0 none)))) (kE pk iv lo))).a ((p' (foundX (findS (AV.v (Value.pointer (some (Addr.mk b 0 none)))) (kE pk iv lo) 0) (Value.int IntKind.i64 (Int.ofNat 0)) = AV.v (Value.int IntKind.i64 (foundX (findS (AV.v (Value.pointer (some (Addr.mk b 0 none)))) (kE pk iv lo) 0) (Value.int IntKind.i64 (Int.ofNat 0))).intOf))).a ((p' (Wk (AV.v (Value.int IntKind.i64 (foundX (findS (AV.v (Value.pointer (some (Addr.mk b 0 none)))) (kE pk iv lo) 0) (Value.int IntKind.i64 (Int.ofNat 0))).intOf)) (z' cl))).a t'))).a (((p' (Wk (z' (IntKind.i64.wrap (cl + Int.ofNat 1))) (z' (cl + Int.ofNat 1)))).a t').a (((p' (GoodAt (AO.any (famN G)) (AV.v (Value.pointer (some (Addr.mk b 0 none)))) (kE pk iv lo))).a ((p' (OW (AO.map (setE (AV.v (Value.pointer (some (Addr.mk b 0 none)))) (z' (cl + Int.ofNat 1)) (kE pk iv lo) lc) (bumpE (AV.v (Value.pointer (some (Addr.mk b 0 none)))) (kE pk iv lo) lc)) (AO.map (kE pk iv lo1) lc1))).a t')).a (((p' (true = true)).a t').a (((p' (GoodAt (AO.any (famN G)) (AV.v (Value.pointer (some (Addr.mk b 0 none)))) (kE pk iv se))).a ((p' (foundX (findS (AV.v (Value.pointer (some (Addr.mk b 0 none)))) (kE pk iv se) 0) (Value.int IntKind.i64 (Int.ofNat 0)) = AV.v (Value.int IntKind.i64 (foundX (findS (AV.v (Value.pointer (some (Addr.mk b 0 none)))) (kE pk iv se) 0) (Value.int IntKind.i64 (Int.ofNat 0))).intOf))).a ((p' (Wk (AV.v (Value.int IntKind.i64 (foundX (findS (AV.v (Value.pointer (some (Addr.mk b 0 none)))) (kE pk iv se) 0) (Value.int IntKind.i64 (Int.ofNat 0))).intOf)) (z' cs))).a t'))).a (((p' (Wk (z' (IntKind.i64.wrap (cs + Int.ofNat 1))) (z' (cs + Int.ofNat 1)))).a t').a (((p' (GoodAt (AO.any (famN G)) (AV.v (Value.pointer (some (Addr.mk b 0 none)))) (kE pk iv se))).a ((p' (OW (AO.map (setE (AV.v (Value.pointer (some (Addr.mk b 0 none)))) (z' (cs + Int.ofNat 1)) (kE pk iv se) sc) (bumpE (AV.v (Value.pointer (some (Addr.mk b 0 none)))) (kE pk iv se) sc)) (AO.map (kE pk iv se1) sc1))).a t')).a (((p' (true = true)).a t').a (((p' (GoodAt (AO.any (famN G)) (AV.v (Value.pointer (some (Addr.mk b 0 none)))) (kE pk iv se1))).a ((p' (foundX (findS (AV.v (Value.pointer (some (Addr.mk b 0 none)))) (kE pk iv se1) 0) (Value.int IntKind.i64 (Int.ofNat 0)) = AV.v (Value.int IntKind.i64 (foundX (findS (AV.v (Value.pointer (some (Addr.mk b 0 none)))) (kE pk iv se1) 0) (Value.int IntKind.i64 (Int.ofNat 0))).intOf))).a ((p' (Wk (AV.v (Value.int IntKind.i64 (foundX (findS (AV.v (Value.pointer (some (Addr.mk b 0 none)))) (kE pk iv se1) 0) (Value.int IntKind.i64 (Int.ofNat 0))).intOf)) (z' (cs + Int.ofNat 1)))).a t'))).a (((p' (Wk (b' (cs + Int.ofNat 1 == Int.ofNat 1)) (AV.lit true))).a t').a (((p' (true = true)).a t').a (((p' (true = true)).a ((p' (true = true)).a ((p' (true = true)).a ((p' (true = true)).a ((p' (true = true)).a ((p' (true = true)).a t')))))).a (((p' (true = true)).a t').a (((p' (FactAt Tryd.prog (AO.any (famN G)) (Fc.load 46 (Addr.mk b 0 none) (Value.map (some nb))))).a t').a (((p' (FactAt Tryd.prog (AO.any (famN G)) (Fc.look 46 nb (Value.string (ByteArray.mk (Array.mk [35]))) (Value.pointer (some (Addr.mk y 0 none)))))).a t').a (((p' (Wk (b' true) (AV.lit true))).a t').a (((Cnd.p True).a ((p' (VW [AV.ptr 0 0,AV.v (Value.pointer (some (Addr.mk y 0 none))),b' true] [AV.ptr 0 0,AV.v (Value.pointer (some (Addr.mk y 0 none))),b' true])).a ((p' (OW (AO.cells [AV.slice 1101 0 1 1 (Cp.lo 1),AV.map 1002,AV.map 1003] 116) (AO.cells [AV.slice 1101 0 n1 1 (Cp.lo n1),AV.map 1002,AV.map 1003] 116))).a ((p' (OW (AO.cells [AV.v (Value.pointer (some (Addr.mk b 0 none)))] 84) (AO.cells (AV.rens (nmF 0 1101 1002 1003) (rowV encP ns1)) 84))).a ((p' (OW (AO.map (kE pk iv lo1) lc1) (AO.map (renE (nmF 0 1101 1002 1003) (kE pk iv lo1)) lc1))).a ((p' (OW (AO.map (kE pk iv se1) sc1) (AO.map (renE (nmF 0 1101 1002 1003) (kE pk iv se1)) sc1))).a ((p' (OW (AO.any (famN G)) (AO.any (famN G)))).a t'))))))).a t'))))))))))))))))))) := by kernel_rfl
theorem oStRCT_eq (b : Nat) (nb : Nat) (ns : List Nat) (n : Nat) (lo : KMap Nat Int) (lc : Nat) (se : KMap Nat Int) (sc : Nat) (G : List Nd) (lo1 : KMap Nat Int) (lc1 : Nat) (se1 : KMap Nat Int) (sc1 : Nat) (cl cs : Int) (y : Nat) (ns1 ns2 : List Nat) (n1 n2 : Nat) (lo2 : KMap Nat Int) (lc2 : Nat) (se2 : KMap Nat Int) (sc2 : Nat) (F : HP) : wRun [(fStand, cStU y ns1 n1 lo1 lc1 se1 sc1 G ns2 n2 lo2 lc2 se2 sc2)] (hSt true lo1 lc1 se1 sc1 cl cs true true nb (pk y)) [] default fStand [.ptr 0 0, ptrV b, bv true] (uR ns n lo lc se sc G) [0, 1001, 1002, 1003, 2, 1100, 1101, 1102, 1103, 1104] F = VT.leaf (AV.tuple []) [some (AO.cells [AV.slice 1102 0 n2 1 (Cp.lo n2),AV.map 1103,AV.map 1104] 116),none,none,none,some (AO.any (famN G)),some (AO.cells [AV.v (Value.pointer (some (Addr.mk b 0 none)))] 84),none,some (AO.cells (AV.rens (sgN (nmF 0 1101 1002 1003) [1001,1002,1003] 1102) (rowV encP ns2)) 84),some (AO.map (renE (sgN (nmF 0 1101 1002 1003) [1001,1002,1003] 1102) (kE pk iv lo2)) lc2),some (AO.map (renE (sgN (nmF 0 1101 1002 1003) [1001,1002,1003] 1102) (kE pk iv se2)) sc2)] 1105 (((p' (Wk (b' true) (AV.lit true))).a t').a (((p' (true = true)).a t').a (((p' (GoodAt (AO.any (famN G)) (AV.v (Value.pointer (some (Addr.mk b 0 none)))) (kE pk iv lo))).a ((p' (foundX (findS (AV.v (Value.pointer (some (Addr.mk b 0 none)))) (kE pk iv lo) 0) (Value.int IntKind.i64 (Int.ofNat 0)) = AV.v (Value.int IntKind.i64 (foundX (findS (AV.v (Value.pointer (some (Addr.mk b 0 none)))) (kE pk iv lo) 0) (Value.int IntKind.i64 (Int.ofNat 0))).intOf))).a ((p' (Wk (AV.v (Value.int IntKind.i64 (foundX (findS (AV.v (Value.pointer (some (Addr.mk b 0 none)))) (kE pk iv lo) 0) (Value.int IntKind.i64 (Int.ofNat 0))).intOf)) (z' cl))).a t'))).a (((p' (Wk (z' (IntKind.i64.wrap (cl + Int.ofNat 1))) (z' (cl + Int.ofNat 1)))).a t').a (((p' (GoodAt (AO.any (famN G)) (AV.v (Value.pointer (some (Addr.mk b 0 none)))) (kE pk iv lo))).a ((p' (OW (AO.map (setE (AV.v (Value.pointer (some (Addr.mk b 0 none)))) (z' (cl + Int.ofNat 1)) (kE pk iv lo) lc) (bumpE (AV.v (Value.pointer (some (Addr.mk b 0 none)))) (kE pk iv lo) lc)) (AO.map (kE pk iv lo1) lc1))).a t')).a (((p' (true = true)).a t').a (((p' (GoodAt (AO.any (famN G)) (AV.v (Value.pointer (some (Addr.mk b 0 none)))) (kE pk iv se))).a ((p' (foundX (findS (AV.v (Value.pointer (some (Addr.mk b 0 none)))) (kE pk iv se) 0) (Value.int IntKind.i64 (Int.ofNat 0)) = AV.v (Value.int IntKind.i64 (foundX (findS (AV.v (Value.pointer (some (Addr.mk b 0 none)))) (kE pk iv se) 0) (Value.int IntKind.i64 (Int.ofNat 0))).intOf))).a ((p' (Wk (AV.v (Value.int IntKind.i64 (foundX (findS (AV.v (Value.pointer (some (Addr.mk b 0 none)))) (kE pk iv se) 0) (Value.int IntKind.i64 (Int.ofNat 0))).intOf)) (z' cs))).a t'))).a (((p' (Wk (z' (IntKind.i64.wrap (cs + Int.ofNat 1))) (z' (cs + Int.ofNat 1)))).a t').a (((p' (GoodAt (AO.any (famN G)) (AV.v (Value.pointer (some (Addr.mk b 0 none)))) (kE pk iv se))).a ((p' (OW (AO.map (setE (AV.v (Value.pointer (some (Addr.mk b 0 none)))) (z' (cs + Int.ofNat 1)) (kE pk iv se) sc) (bumpE (AV.v (Value.pointer (some (Addr.mk b 0 none)))) (kE pk iv se) sc)) (AO.map (kE pk iv se1) sc1))).a t')).a (((p' (true = true)).a t').a (((p' (GoodAt (AO.any (famN G)) (AV.v (Value.pointer (some (Addr.mk b 0 none)))) (kE pk iv se1))).a ((p' (foundX (findS (AV.v (Value.pointer (some (Addr.mk b 0 none)))) (kE pk iv se1) 0) (Value.int IntKind.i64 (Int.ofNat 0)) = AV.v (Value.int IntKind.i64 (foundX (findS (AV.v (Value.pointer (some (Addr.mk b 0 none)))) (kE pk iv se1) 0) (Value.int IntKind.i64 (Int.ofNat 0))).intOf))).a ((p' (Wk (AV.v (Value.int IntKind.i64 (foundX (findS (AV.v (Value.pointer (some (Addr.mk b 0 none)))) (kE pk iv se1) 0) (Value.int IntKind.i64 (Int.ofNat 0))).intOf)) (z' (cs + Int.ofNat 1)))).a t'))).a (((p' (Wk (b' (cs + Int.ofNat 1 == Int.ofNat 1)) (AV.lit true))).a t').a (((p' (true = true)).a t').a (((p' (true = true)).a ((p' (true = true)).a ((p' (true = true)).a ((p' (true = true)).a ((p' ((0 + n * 1).ble (rowV encP ns).length = true)).a ((p' (((n + 1) * 8).ble 140737488355328 = true)).a ((p' ((n + 1).ble 9223372036854775807 = true)).a ((p' ((List.take (n * 1) (List.drop 0 (rowV encP ns))).length.beq (n * 1) = true)).a t')))))))).a (((p' (true = true)).a t').a (((p' (FactAt Tryd.prog (AO.any (famN G)) (Fc.load 46 (Addr.mk b 0 none) (Value.map (some nb))))).a t').a (((p' (FactAt Tryd.prog (AO.any (famN G)) (Fc.look 46 nb (Value.string (ByteArray.mk (Array.mk [35]))) (Value.pointer (some (Addr.mk y 0 none)))))).a t').a (((p' (Wk (b' true) (AV.lit true))).a t').a (((Cnd.p True).a ((p' (VW [AV.ptr 0 0,AV.v (Value.pointer (some (Addr.mk y 0 none))),b' true] [AV.ptr 0 0,AV.v (Value.pointer (some (Addr.mk y 0 none))),b' true])).a ((p' (OW (AO.cells [AV.slice 1101 0 (n + 1) 1 (Cp.lo (n + 1)),AV.map 1002,AV.map 1003] 116) (AO.cells [AV.slice 1101 0 n1 1 (Cp.lo n1),AV.map 1002,AV.map 1003] 116))).a ((p' (OW (AO.cells (List.take (n * 1) (List.drop 0 (rowV encP ns)) ++ [AV.v (Value.pointer (some (Addr.mk b 0 none)))]) 84) (AO.cells (AV.rens (nmF 0 1101 1002 1003) (rowV encP ns1)) 84))).a ((p' (OW (AO.map (kE pk iv lo1) lc1) (AO.map (renE (nmF 0 1101 1002 1003) (kE pk iv lo1)) lc1))).a ((p' (OW (AO.map (kE pk iv se1) sc1) (AO.map (renE (nmF 0 1101 1002 1003) (kE pk iv se1)) sc1))).a ((p' (OW (AO.any (famN G)) (AO.any (famN G)))).a t'))))))).a t'))))))))))))))))))) := by kernel_rfl
theorem oStSZF_eq (b : Nat) (lo : KMap Nat Int) (lc : Nat) (se : KMap Nat Int) (sc : Nat) (G : List Nd) (se1 : KMap Nat Int) (sc1 : Nat) (cl cs : Int) (F : HP) : wRun [] (hSt false lo lc se1 sc1 cl cs false false 0 (.pointer none)) [] default fStand [.ptr 0 0, ptrV b, bv false] (uZ lo lc se sc G) [0, 1002, 1003, 2] F = VT.leaf (AV.tuple []) [some (AO.cells [AV.v (Value.slice none 0 0),AV.map 1002,AV.map 1003] 116),some (AO.map (kE pk iv lo) lc),some (AO.map (kE pk iv se1) sc1),some (AO.any (famN G))] 1100 (((p' (Wk (b' false) (AV.lit false))).a t').a (((p' (true = true)).a t').a (((p' (GoodAt (AO.any (famN G)) (AV.v (Value.pointer (some (Addr.mk b 0 none)))) (kE pk iv se))).a ((p' (foundX (findS (AV.v (Value.pointer (some (Addr.mk b 0 none)))) (kE pk iv se) 0) (Value.int IntKind.i64 (Int.ofNat 0)) = AV.v (Value.int IntKind.i64 (foundX (findS (AV.v (Value.pointer (some (Addr.mk b 0 none)))) (kE pk iv se) 0) (Value.int IntKind.i64 (Int.ofNat 0))).intOf))).a ((p' (Wk (AV.v (Value.int IntKind.i64 (foundX (findS (AV.v (Value.pointer (some (Addr.mk b 0 none)))) (kE pk iv se) 0) (Value.int IntKind.i64 (Int.ofNat 0))).intOf)) (z' cs))).a t'))).a (((p' (Wk (z' (IntKind.i64.wrap (cs + Int.ofNat 1))) (z' (cs + Int.ofNat 1)))).a t').a (((p' (GoodAt (AO.any (famN G)) (AV.v (Value.pointer (some (Addr.mk b 0 none)))) (kE pk iv se))).a ((p' (OW (AO.map (setE (AV.v (Value.pointer (some (Addr.mk b 0 none)))) (z' (cs + Int.ofNat 1)) (kE pk iv se) sc) (bumpE (AV.v (Value.pointer (some (Addr.mk b 0 none)))) (kE pk iv se) sc)) (AO.map (kE pk iv se1) sc1))).a t')).a (((p' (true = true)).a t').a (((p' (GoodAt (AO.any (famN G)) (AV.v (Value.pointer (some (Addr.mk b 0 none)))) (kE pk iv se1))).a ((p' (foundX (findS (AV.v (Value.pointer (some (Addr.mk b 0 none)))) (kE pk iv se1) 0) (Value.int IntKind.i64 (Int.ofNat 0)) = AV.v (Value.int IntKind.i64 (foundX (findS (AV.v (Value.pointer (some (Addr.mk b 0 none)))) (kE pk iv se1) 0) (Value.int IntKind.i64 (Int.ofNat 0))).intOf))).a ((p' (Wk (AV.v (Value.int IntKind.i64 (foundX (findS (AV.v (Value.pointer (some (Addr.mk b 0 none)))) (kE pk iv se1) 0) (Value.int IntKind.i64 (Int.ofNat 0))).intOf)) (z' (cs + Int.ofNat 1)))).a t'))).a (((p' (Wk (b' (cs + Int.ofNat 1 == Int.ofNat 1)) (AV.lit false))).a t').a t')))))))) := by kernel_rfl
theorem oStSRF_eq (b : Nat) (ns : List Nat) (n : Nat) (lo : KMap Nat Int) (lc : Nat) (se : KMap Nat Int) (sc : Nat) (G : List Nd) (se1 : KMap Nat Int) (sc1 : Nat) (cl cs : Int) (F : HP) : wRun [] (hSt false lo lc se1 sc1 cl cs false false 0 (.pointer none)) [] default fStand [.ptr 0 0, ptrV b, bv false] (uR ns n lo lc se sc G) [0, 1001, 1002, 1003, 2] F = VT.leaf (AV.tuple []) [some (AO.cells [AV.slice 1001 0 n 1 (Cp.lo n),AV.map 1002,AV.map 1003] 116),some (AO.cells (rowV encP ns) 84),some (AO.map (kE pk iv lo) lc),some (AO.map (kE pk iv se1) sc1),some (AO.any (famN G))] 1100 (((p' (Wk (b' false) (AV.lit false))).a t').a (((p' (true = true)).a t').a (((p' (GoodAt (AO.any (famN G)) (AV.v (Value.pointer (some (Addr.mk b 0 none)))) (kE pk iv se))).a ((p' (foundX (findS (AV.v (Value.pointer (some (Addr.mk b 0 none)))) (kE pk iv se) 0) (Value.int IntKind.i64 (Int.ofNat 0)) = AV.v (Value.int IntKind.i64 (foundX (findS (AV.v (Value.pointer (some (Addr.mk b 0 none)))) (kE pk iv se) 0) (Value.int IntKind.i64 (Int.ofNat 0))).intOf))).a ((p' (Wk (AV.v (Value.int IntKind.i64 (foundX (findS (AV.v (Value.pointer (some (Addr.mk b 0 none)))) (kE pk iv se) 0) (Value.int IntKind.i64 (Int.ofNat 0))).intOf)) (z' cs))).a t'))).a (((p' (Wk (z' (IntKind.i64.wrap (cs + Int.ofNat 1))) (z' (cs + Int.ofNat 1)))).a t').a (((p' (GoodAt (AO.any (famN G)) (AV.v (Value.pointer (some (Addr.mk b 0 none)))) (kE pk iv se))).a ((p' (OW (AO.map (setE (AV.v (Value.pointer (some (Addr.mk b 0 none)))) (z' (cs + Int.ofNat 1)) (kE pk iv se) sc) (bumpE (AV.v (Value.pointer (some (Addr.mk b 0 none)))) (kE pk iv se) sc)) (AO.map (kE pk iv se1) sc1))).a t')).a (((p' (true = true)).a t').a (((p' (GoodAt (AO.any (famN G)) (AV.v (Value.pointer (some (Addr.mk b 0 none)))) (kE pk iv se1))).a ((p' (foundX (findS (AV.v (Value.pointer (some (Addr.mk b 0 none)))) (kE pk iv se1) 0) (Value.int IntKind.i64 (Int.ofNat 0)) = AV.v (Value.int IntKind.i64 (foundX (findS (AV.v (Value.pointer (some (Addr.mk b 0 none)))) (kE pk iv se1) 0) (Value.int IntKind.i64 (Int.ofNat 0))).intOf))).a ((p' (Wk (AV.v (Value.int IntKind.i64 (foundX (findS (AV.v (Value.pointer (some (Addr.mk b 0 none)))) (kE pk iv se1) 0) (Value.int IntKind.i64 (Int.ofNat 0))).intOf)) (z' (cs + Int.ofNat 1)))).a t'))).a (((p' (Wk (b' (cs + Int.ofNat 1 == Int.ofNat 1)) (AV.lit false))).a t').a t')))))))) := by kernel_rfl
theorem oStZNF_eq (b : Nat) (nb : Nat) (lo : KMap Nat Int) (lc : Nat) (se : KMap Nat Int) (sc : Nat) (G : List Nd) (se1 : KMap Nat Int) (sc1 : Nat) (cl cs : Int) (F : HP) : wRun [] (hSt false lo lc se1 sc1 cl cs true false nb (.pointer none)) [] default fStand [.ptr 0 0, ptrV b, bv false] (uZ lo lc se sc G) [0, 1001, 1002, 1003, 2, 1100, 1101, 1102, 1103, 1104] F = VT.leaf (AV.tuple []) [some (AO.cells [AV.slice 1101 0 1 1 (Cp.lo 1),AV.map 1002,AV.map 1003] 116),none,some (AO.map (kE pk iv lo) lc),some (AO.map (kE pk iv se1) sc1),some (AO.any (famN G)),some (AO.cells [AV.v (Value.pointer (some (Addr.mk b 0 none)))] 84),some (AO.cells [AV.v (Value.pointer (some (Addr.mk b 0 none)))] 84),none,none,none] 1102 (((p' (Wk (b' false) (AV.lit false))).a t').a (((p' (true = true)).a t').a (((p' (GoodAt (AO.any (famN G)) (AV.v (Value.pointer (some (Addr.mk b 0 none)))) (kE pk iv se))).a ((p' (foundX (findS (AV.v (Value.pointer (some (Addr.mk b 0 none)))) (kE pk iv se) 0) (Value.int IntKind.i64 (Int.ofNat 0)) = AV.v (Value.int IntKind.i64 (foundX (findS (AV.v (Value.pointer (some (Addr.mk b 0 none)))) (kE pk iv se) 0) (Value.int IntKind.i64 (Int.ofNat 0))).intOf))).a ((p' (Wk (AV.v (Value.int IntKind.i64 (foundX (findS (AV.v (Value.pointer (some (Addr.mk b 0 none)))) (kE pk iv se) 0) (Value.int IntKind.i64 (Int.ofNat 0))).intOf)) (z' cs))).a t'))).a (((p' (Wk (z' (IntKind.i64.wrap (cs + Int.ofNat 1))) (z' (cs + Int.ofNat 1)))).a t').a (((p' (GoodAt (AO.any (famN G)) (AV.v (Value.pointer (some (Addr.mk b 0 none)))) (kE pk iv se))).a ((p' (OW (AO.map (setE (AV.v (Value.pointer (some (Addr.mk b 0 none)))) (z' (cs + Int.ofNat 1)) (kE pk iv se) sc) (bumpE (AV.v (Value.pointer (some (Addr.mk b 0 none)))) (kE pk iv se) sc)) (AO.map (kE pk iv se1) sc1))).a t')).a (((p' (true = true)).a t').a (((p' (GoodAt (AO.any (famN G)) (AV.v (Value.pointer (some (Addr.mk b 0 none)))) (kE pk iv se1))).a ((p' (foundX (findS (AV.v (Value.pointer (some (Addr.mk b 0 none)))) (kE pk iv se1) 0) (Value.int IntKind.i64 (Int.ofNat 0)) = AV.v (Value.int IntKind.i64 (foundX (findS (AV.v (Value.pointer (some (Addr.mk b 0 none)))) (kE pk iv se1) 0) (Value.int IntKind.i64 (Int.ofNat 0))).intOf))).a ((p' (Wk (AV.v (Value.int IntKind.i64 (foundX (findS (AV.v (Value.pointer (some (Addr.mk b 0 none)))) (kE pk iv se1) 0) (Value.int IntKind.i64 (Int.ofNat 0))).intOf)) (z' (cs + Int.ofNat 1)))).a t'))).a (((p' (Wk (b' (cs + Int.ofNat 1 == Int.ofNat 1)) (AV.lit true))).a t').a (((p' (true = true)).a t').a (((p' (true = true)).a ((p' (true = true)).a ((p' (true = true)).a ((p' (true = true)).a ((p' (true = true)).a ((p' (true = true)).a t')))))).a (((p' (true = true)).a t').a (((p' (FactAt Tryd.prog (AO.any (famN G)) (Fc.load 46 (Addr.mk b 0 none) (Value.map (some nb))))).a t').a (((p' (FactAt Tryd.prog (AO.any (famN G)) (Fc.look 46 nb (Value.string (ByteArray.mk (Array.mk [35]))) (Value.pointer none)))).a t').a (((p' (Wk (b' false) (AV.lit false))).a t').a t')))))))))))))) := by kernel_rfl
theorem oStRNF_eq (b : Nat) (nb : Nat) (ns : List Nat) (n : Nat) (lo : KMap Nat Int) (lc : Nat) (se : KMap Nat Int) (sc : Nat) (G : List Nd) (se1 : KMap Nat Int) (sc1 : Nat) (cl cs : Int) (F : HP) : wRun [] (hSt false lo lc se1 sc1 cl cs true false nb (.pointer none)) [] default fStand [.ptr 0 0, ptrV b, bv false] (uR ns n lo lc se sc G) [0, 1001, 1002, 1003, 2, 1100, 1101, 1102, 1103, 1104] F = VT.leaf (AV.tuple []) [some (AO.cells [AV.slice 1101 0 (n + 1) 1 (Cp.lo (n + 1)),AV.map 1002,AV.map 1003] 116),none,some (AO.map (kE pk iv lo) lc),some (AO.map (kE pk iv se1) sc1),some (AO.any (famN G)),some (AO.cells [AV.v (Value.pointer (some (Addr.mk b 0 none)))] 84),some (AO.cells (List.take (n * 1) (List.drop 0 (rowV encP ns)) ++ [AV.v (Value.pointer (some (Addr.mk b 0 none)))]) 84),none,none,none] 1102 (((p' (Wk (b' false) (AV.lit false))).a t').a (((p' (true = true)).a t').a (((p' (GoodAt (AO.any (famN G)) (AV.v (Value.pointer (some (Addr.mk b 0 none)))) (kE pk iv se))).a ((p' (foundX (findS (AV.v (Value.pointer (some (Addr.mk b 0 none)))) (kE pk iv se) 0) (Value.int IntKind.i64 (Int.ofNat 0)) = AV.v (Value.int IntKind.i64 (foundX (findS (AV.v (Value.pointer (some (Addr.mk b 0 none)))) (kE pk iv se) 0) (Value.int IntKind.i64 (Int.ofNat 0))).intOf))).a ((p' (Wk (AV.v (Value.int IntKind.i64 (foundX (findS (AV.v (Value.pointer (some (Addr.mk b 0 none)))) (kE pk iv se) 0) (Value.int IntKind.i64 (Int.ofNat 0))).intOf)) (z' cs))).a t'))).a (((p' (Wk (z' (IntKind.i64.wrap (cs + Int.ofNat 1))) (z' (cs + Int.ofNat 1)))).a t').a (((p' (GoodAt (AO.any (famN G)) (AV.v (Value.pointer (some (Addr.mk b 0 none)))) (kE pk iv se))).a ((p' (OW (AO.map (setE (AV.v (Value.pointer (some (Addr.mk b 0 none)))) (z' (cs + Int.ofNat 1)) (kE pk iv se) sc) (bumpE (AV.v (Value.pointer (some (Addr.mk b 0 none)))) (kE pk iv se) sc)) (AO.map (kE pk iv se1) sc1))).a t')).a (((p' (true = true)).a t').a (((p' (GoodAt (AO.any (famN G)) (AV.v (Value.pointer (some (Addr.mk b 0 none)))) (kE pk iv se1))).a ((p' (foundX (findS (AV.v (Value.pointer (some (Addr.mk b 0 none)))) (kE pk iv se1) 0) (Value.int IntKind.i64 (Int.ofNat 0)) = AV.v (Value.int IntKind.i64 (foundX (findS (AV.v (Value.pointer (some (Addr.mk b 0 none)))) (kE pk iv se1) 0) (Value.int IntKind.i64 (Int.ofNat 0))).intOf))).a ((p' (Wk (AV.v (Value.int IntKind.i64 (foundX (findS (AV.v (Value.pointer (some (Addr.mk b 0 none)))) (kE pk iv se1) 0) (Value.int IntKind.i64 (Int.ofNat 0))).intOf)) (z' (cs + Int.ofNat 1)))).a t'))).a (((p' (Wk (b' (cs + Int.ofNat 1 == Int.ofNat 1)) (AV.lit true))).a t').a (((p' (true = true)).a t').a (((p' (true = true)).a ((p' (true = true)).a ((p' (true = true)).a ((p' (true = true)).a ((p' ((0 + n * 1).ble (rowV encP ns).length = true)).a ((p' (((n + 1) * 8).ble 140737488355328 = true)).a ((p' ((n + 1).ble 9223372036854775807 = true)).a ((p' ((List.take (n * 1) (List.drop 0 (rowV encP ns))).length.beq (n * 1) = true)).a t')))))))).a (((p' (true = true)).a t').a (((p' (FactAt Tryd.prog (AO.any (famN G)) (Fc.load 46 (Addr.mk b 0 none) (Value.map (some nb))))).a t').a (((p' (FactAt Tryd.prog (AO.any (famN G)) (Fc.look 46 nb (Value.string (ByteArray.mk (Array.mk [35]))) (Value.pointer none)))).a t').a (((p' (Wk (b' false) (AV.lit false))).a t').a t')))))))))))))) := by kernel_rfl
theorem oStZCF_eq (b : Nat) (nb : Nat) (lo : KMap Nat Int) (lc : Nat) (se : KMap Nat Int) (sc : Nat) (G : List Nd) (se1 : KMap Nat Int) (sc1 : Nat) (cl cs : Int) (y : Nat) (ns1 ns2 : List Nat) (n1 n2 : Nat) (lo2 : KMap Nat Int) (lc2 : Nat) (se2 : KMap Nat Int) (sc2 : Nat) (F : HP) : wRun [(fStand, cStU y ns1 n1 lo lc se1 sc1 G ns2 n2 lo2 lc2 se2 sc2)] (hSt false lo lc se1 sc1 cl cs true true nb (pk y)) [] default fStand [.ptr 0 0, ptrV b, bv false] (uZ lo lc se sc G) [0, 1001, 1002, 1003, 2, 1100, 1101, 1102, 1103, 1104] F = VT.leaf (AV.tuple []) [some (AO.cells [AV.slice 1102 0 n2 1 (Cp.lo n2),AV.map 1103,AV.map 1104] 116),none,none,none,some (AO.any (famN G)),some (AO.cells [AV.v (Value.pointer (some (Addr.mk b 0 none)))] 84),none,some (AO.cells (AV.rens (sgN (nmF 0 1101 1002 1003) [1001,1002,1003] 1102) (rowV encP ns2)) 84),some (AO.map (renE (sgN (nmF 0 1101 1002 1003) [1001,1002,1003] 1102) (kE pk iv lo2)) lc2),some (AO.map (renE (sgN (nmF 0 1101 1002 1003) [1001,1002,1003] 1102) (kE pk iv se2)) sc2)] 1105 (((p' (Wk (b' false) (AV.lit false))).a t').a (((p' (true = true)).a t').a (((p' (GoodAt (AO.any (famN G)) (AV.v (Value.pointer (some (Addr.mk b 0 none)))) (kE pk iv se))).a ((p' (foundX (findS (AV.v (Value.pointer (some (Addr.mk b 0 none)))) (kE pk iv se) 0) (Value.int IntKind.i64 (Int.ofNat 0)) = AV.v (Value.int IntKind.i64 (foundX (findS (AV.v (Value.pointer (some (Addr.mk b 0 none)))) (kE pk iv se) 0) (Value.int IntKind.i64 (Int.ofNat 0))).intOf))).a ((p' (Wk (AV.v (Value.int IntKind.i64 (foundX (findS (AV.v (Value.pointer (some (Addr.mk b 0 none)))) (kE pk iv se) 0) (Value.int IntKind.i64 (Int.ofNat 0))).intOf)) (z' cs))).a t'))).a (((p' (Wk (z' (IntKind.i64.wrap (cs + Int.ofNat 1))) (z' (cs + Int.ofNat 1)))).a t').a (((p' (GoodAt (AO.any (famN G)) (AV.v (Value.pointer (some (Addr.mk b 0 none)))) (kE pk iv se))).a ((p' (OW (AO.map (setE (AV.v (Value.pointer (some (Addr.mk b 0 none)))) (z' (cs + Int.ofNat 1)) (kE pk iv se) sc) (bumpE (AV.v (Value.pointer (some (Addr.mk b 0 none)))) (kE pk iv se) sc)) (AO.map (kE pk iv se1) sc1))).a t')).a (((p' (true = true)).a t').a (((p' (GoodAt (AO.any (famN G)) (AV.v (Value.pointer (some (Addr.mk b 0 none)))) (kE pk iv se1))).a ((p' (foundX (findS (AV.v (Value.pointer (some (Addr.mk b 0 none)))) (kE pk iv se1) 0) (Value.int IntKind.i64 (Int.ofNat 0)) = AV.v (Value.int IntKind.i64 (foundX (findS (AV.v (Value.pointer (some (Addr.mk b 0 none)))) (kE pk iv se1) 0) (Value.int IntKind.i64 (Int.ofNat 0))).intOf))).a ((p' (Wk (AV.v (Value.int IntKind.i64 (foundX (findS (AV.v (Value.pointer (some (Addr.mk b 0 none)))) (kE pk iv se1) 0) (Value.int IntKind.i64 (Int.ofNat 0))).intOf)) (z' (cs + Int.ofNat 1)))).a t'))).a (((p' (Wk (b' (cs + Int.ofNat 1 == Int.ofNat 1)) (AV.lit true))).a t').a (((p' (true = true)).a t').a (((p' (true = true)).a ((p' (true = true)).a ((p' (true = true)).a ((p' (true = true)).a ((p' (true = true)).a ((p' (true = true)).a t')))))).a (((p' (true = true)).a t').a (((p' (FactAt Tryd.prog (AO.any (famN G)) (Fc.load 46 (Addr.mk b 0 none) (Value.map (some nb))))).a t').a (((p' (FactAt Tryd.prog (AO.any (famN G)) (Fc.look 46 nb (Value.string (ByteArray.mk (Array.mk [35]))) (Value.pointer (some (Addr.mk y 0 none)))))).a t').a (((p' (Wk (b' true) (AV.lit true))).a t').a (((Cnd.p True).a ((p' (VW [AV.ptr 0 0,AV.v (Value.pointer (some (Addr.mk y 0 none))),b' true] [AV.ptr 0 0,AV.v (Value.pointer (some (Addr.mk y 0 none))),b' true])).a ((p' (OW (AO.cells [AV.slice 1101 0 1 1 (Cp.lo 1),AV.map 1002,AV.map 1003] 116) (AO.cells [AV.slice 1101 0 n1 1 (Cp.lo n1),AV.map 1002,AV.map 1003] 116))).a ((p' (OW (AO.cells [AV.v (Value.pointer (some (Addr.mk b 0 none)))] 84) (AO.cells (AV.rens (nmF 0 1101 1002 1003) (rowV encP ns1)) 84))).a ((p' (OW (AO.map (kE pk iv lo) lc) (AO.map (renE (nmF 0 1101 1002 1003) (kE pk iv lo)) lc))).a ((p' (OW (AO.map (kE pk iv se1) sc1) (AO.map (renE (nmF 0 1101 1002 1003) (kE pk iv se1)) sc1))).a ((p' (OW (AO.any (famN G)) (AO.any (famN G)))).a t'))))))).a t'))))))))))))))) := by kernel_rfl
theorem oStRCF_eq (b : Nat) (nb : Nat) (ns : List Nat) (n : Nat) (lo : KMap Nat Int) (lc : Nat) (se : KMap Nat Int) (sc : Nat) (G : List Nd) (se1 : KMap Nat Int) (sc1 : Nat) (cl cs : Int) (y : Nat) (ns1 ns2 : List Nat) (n1 n2 : Nat) (lo2 : KMap Nat Int) (lc2 : Nat) (se2 : KMap Nat Int) (sc2 : Nat) (F : HP) : wRun [(fStand, cStU y ns1 n1 lo lc se1 sc1 G ns2 n2 lo2 lc2 se2 sc2)] (hSt false lo lc se1 sc1 cl cs true true nb (pk y)) [] default fStand [.ptr 0 0, ptrV b, bv false] (uR ns n lo lc se sc G) [0, 1001, 1002, 1003, 2, 1100, 1101, 1102, 1103, 1104] F = VT.leaf (AV.tuple []) [some (AO.cells [AV.slice 1102 0 n2 1 (Cp.lo n2),AV.map 1103,AV.map 1104] 116),none,none,none,some (AO.any (famN G)),some (AO.cells [AV.v (Value.pointer (some (Addr.mk b 0 none)))] 84),none,some (AO.cells (AV.rens (sgN (nmF 0 1101 1002 1003) [1001,1002,1003] 1102) (rowV encP ns2)) 84),some (AO.map (renE (sgN (nmF 0 1101 1002 1003) [1001,1002,1003] 1102) (kE pk iv lo2)) lc2),some (AO.map (renE (sgN (nmF 0 1101 1002 1003) [1001,1002,1003] 1102) (kE pk iv se2)) sc2)] 1105 (((p' (Wk (b' false) (AV.lit false))).a t').a (((p' (true = true)).a t').a (((p' (GoodAt (AO.any (famN G)) (AV.v (Value.pointer (some (Addr.mk b 0 none)))) (kE pk iv se))).a ((p' (foundX (findS (AV.v (Value.pointer (some (Addr.mk b 0 none)))) (kE pk iv se) 0) (Value.int IntKind.i64 (Int.ofNat 0)) = AV.v (Value.int IntKind.i64 (foundX (findS (AV.v (Value.pointer (some (Addr.mk b 0 none)))) (kE pk iv se) 0) (Value.int IntKind.i64 (Int.ofNat 0))).intOf))).a ((p' (Wk (AV.v (Value.int IntKind.i64 (foundX (findS (AV.v (Value.pointer (some (Addr.mk b 0 none)))) (kE pk iv se) 0) (Value.int IntKind.i64 (Int.ofNat 0))).intOf)) (z' cs))).a t'))).a (((p' (Wk (z' (IntKind.i64.wrap (cs + Int.ofNat 1))) (z' (cs + Int.ofNat 1)))).a t').a (((p' (GoodAt (AO.any (famN G)) (AV.v (Value.pointer (some (Addr.mk b 0 none)))) (kE pk iv se))).a ((p' (OW (AO.map (setE (AV.v (Value.pointer (some (Addr.mk b 0 none)))) (z' (cs + Int.ofNat 1)) (kE pk iv se) sc) (bumpE (AV.v (Value.pointer (some (Addr.mk b 0 none)))) (kE pk iv se) sc)) (AO.map (kE pk iv se1) sc1))).a t')).a (((p' (true = true)).a t').a (((p' (GoodAt (AO.any (famN G)) (AV.v (Value.pointer (some (Addr.mk b 0 none)))) (kE pk iv se1))).a ((p' (foundX (findS (AV.v (Value.pointer (some (Addr.mk b 0 none)))) (kE pk iv se1) 0) (Value.int IntKind.i64 (Int.ofNat 0)) = AV.v (Value.int IntKind.i64 (foundX (findS (AV.v (Value.pointer (some (Addr.mk b 0 none)))) (kE pk iv se1) 0) (Value.int IntKind.i64 (Int.ofNat 0))).intOf))).a ((p' (Wk (AV.v (Value.int IntKind.i64 (foundX (findS (AV.v (Value.pointer (some (Addr.mk b 0 none)))) (kE pk iv se1) 0) (Value.int IntKind.i64 (Int.ofNat 0))).intOf)) (z' (cs + Int.ofNat 1)))).a t'))).a (((p' (Wk (b' (cs + Int.ofNat 1 == Int.ofNat 1)) (AV.lit true))).a t').a (((p' (true = true)).a t').a (((p' (true = true)).a ((p' (true = true)).a ((p' (true = true)).a ((p' (true = true)).a ((p' ((0 + n * 1).ble (rowV encP ns).length = true)).a ((p' (((n + 1) * 8).ble 140737488355328 = true)).a ((p' ((n + 1).ble 9223372036854775807 = true)).a ((p' ((List.take (n * 1) (List.drop 0 (rowV encP ns))).length.beq (n * 1) = true)).a t')))))))).a (((p' (true = true)).a t').a (((p' (FactAt Tryd.prog (AO.any (famN G)) (Fc.load 46 (Addr.mk b 0 none) (Value.map (some nb))))).a t').a (((p' (FactAt Tryd.prog (AO.any (famN G)) (Fc.look 46 nb (Value.string (ByteArray.mk (Array.mk [35]))) (Value.pointer (some (Addr.mk y 0 none)))))).a t').a (((p' (Wk (b' true) (AV.lit true))).a t').a (((Cnd.p True).a ((p' (VW [AV.ptr 0 0,AV.v (Value.pointer (some (Addr.mk y 0 none))),b' true] [AV.ptr 0 0,AV.v (Value.pointer (some (Addr.mk y 0 none))),b' true])).a ((p' (OW (AO.cells [AV.slice 1101 0 (n + 1) 1 (Cp.lo (n + 1)),AV.map 1002,AV.map 1003] 116) (AO.cells [AV.slice 1101 0 n1 1 (Cp.lo n1),AV.map 1002,AV.map 1003] 116))).a ((p' (OW (AO.cells (List.take (n * 1) (List.drop 0 (rowV encP ns)) ++ [AV.v (Value.pointer (some (Addr.mk b 0 none)))]) 84) (AO.cells (AV.rens (nmF 0 1101 1002 1003) (rowV encP ns1)) 84))).a ((p' (OW (AO.map (kE pk iv lo) lc) (AO.map (renE (nmF 0 1101 1002 1003) (kE pk iv lo)) lc))).a ((p' (OW (AO.map (kE pk iv se1) sc1) (AO.map (renE (nmF 0 1101 1002 1003) (kE pk iv se1)) sc1))).a ((p' (OW (AO.any (famN G)) (AO.any (famN G)))).a t'))))))).a t'))))))))))))))) := by kernel_rfl
end
end Go.Proofs.YtbmoancedlbhlaaDoor.Tpc

/- Topic: a front's stand. -/
set_option linter.unusedVariables false
set_option linter.unusedSimpArgs false
set_option maxRecDepth 100000
namespace Go.Proofs.YtbmoancedlbhlaaDoor.Tpc
open Go Go.RowKit Go.Proofs.YtbmoancedlbhlaaDoor.Eng Go.Proofs.YtbmoancedlbhlaaDoor.Kit
theorem i64_small {a : Int} (h1 : -9223372036854775808 ≤ a) (h2 : a ≤ 9223372036854775807) : IntKind.i64.wrap a = a := IntWalk.i64_in _ (by omega)
theorem beqT {a b : Int} (h : a = b) : (a == b) = true := beq_iff_eq.2 h
theorem beqF {a b : Int} (h : a ≠ b) : (a == b) = false := beq_eq_false_iff_ne.2 h
theorem gF_ro : ∀ args, RO (gF args) := by
  intro args
  unfold gF
  split
  · refine RO.read _ _ fun o => ?_
    split
    · exact RO.ret _
    · exact RO.fail _
  · exact RO.fail _
theorem encP_len (b : Nat) : (encP b).length = 1 := rfl
theorem rP_len (l : List Nat) : (rowV encP l).length = l.length := by rw [rowV_length (k := 1) encP_len, Nat.mul_one]
theorem rP_ren (σ : Nat → Nat) (l : List Nat) : (rP l).ren σ = rP l := by simp only [rP, AO.ren, rens_rowV]
theorem rP_ow {x : List AV} {l : List Nat} {e : TypeId} {σ : Nat → Nat} (h : x = rowV encP l) (he : e = tPtr) : OW (.cells x e) ((rP l).ren σ) := by rw [rP_ren]; subst h he; exact OW.refl _
theorem rP_cl (K : Nat → Bool) (l : List Nat) : (rP l).cl K := cls_rowV _ _
theorem renE_kE {κ α : Type} (σ : Nat → Nat) (kv : κ → Value) (ev : α → AV) (hev : ∀ x, (ev x).ren σ = ev x) : ∀ m : KMap κ α, renE σ (kE kv ev m) = kE kv ev m
  | [] => rfl
  | e :: m => by
    show (_, _, _) :: renE σ (kE kv ev m) = _
    rw [renE_kE σ kv ev hev m, hev]
    rfl
theorem clE_kE {κ α : Type} (K : Nat → Bool) (kv : κ → Value) (ev : α → AV) (hev : ∀ x, AV.cl K (ev x)) : ∀ m : KMap κ α, clE K (kE kv ev m)
  | [] => trivial
  | e :: m => ⟨trivial, hev _, clE_kE K kv ev hev m⟩
theorem renE_fm (σ : Nat → Nat) (m : KMap Nat Int) : renE σ (kE pk iv m) = kE pk iv m := renE_kE σ pk iv (fun _ => rfl) m
theorem fmO_ren (σ : Nat → Nat) (m : KMap Nat Int) (c : Nat) : (fmO m c).ren σ = fmO m c := by rw [fmO, AO.ren, renE_fm]
theorem fmO_cl (K : Nat → Bool) (m : KMap Nat Int) (c : Nat) : (fmO m c).cl K := clE_kE (α := Int) K pk iv (fun _ => trivial) m
theorem fmO_ow {es : List (AV × AV × Nat)} {c c' : Nat} {m : KMap Nat Int} {σ : Nat → Nat} (h : es = kE pk iv m) (hc : c = c') : OW (.map es c) ((fmO m c').ren σ) := by rw [fmO_ren]; subst h hc; exact OW.refl _
theorem famO_cl (K : Nat → Bool) (G : List Nd) : (famO G).cl K := trivial
theorem fnd (m : KMap Nat Int) (b : Nat) : foundX (findS (AV.v (Value.pointer (some (Addr.mk b 0 none)))) (kE pk iv m) 0) (Value.int IntKind.i64 (Int.ofNat 0)) = iv (cnt m b) := by
  have := found_kE (ev := iv) kok_pk b m (.int .i64 0)
  refine Eq.trans this ?_
  unfold cnt
  cases klook b m <;> rfl
theorem set_ow (m : KMap Nat Int) (c b : Nat) (x : Int) : OW (.map (setE (AV.v (Value.pointer (some (Addr.mk b 0 none)))) (AV.v (Value.int IntKind.i64 x)) (kE pk iv m) c) (bumpE (AV.v (Value.pointer (some (Addr.mk b 0 none)))) (kE pk iv m) c)) (.map (kE pk iv (kset m c b x)) (kbump m c b)) :=
  ow_map (setE_kE (ev := iv) kok_pk b x m c) (bumpE_kE (ev := iv) kok_pk b m c)
def stL (f : Fr) (b : Nat) (loop : Bool) : Fr := match loop with
  | true => { f with lo := kset f.lo f.lc b (cnt f.lo b + 1), lc := kbump f.lo f.lc b }
  | false => f
def stS (f : Fr) (b : Nat) : Fr := { f with se := kset f.se f.sc b (cnt f.se b + 1), sc := kbump f.se f.sc b }
def stN (f : Fr) (b : Nat) : Fr := { f with ns := f.ns ++ [b] }
def st1 (f : Fr) (b : Nat) (loop : Bool) : Fr := stS (stL f b loop) b
def standC : List Nat → Fr → Bool → Fr
  | [], f, _ => f
  | b :: c, f, loop => if cnt f.se b = 0 then standC c (stN (st1 f b loop) b) true else st1 f b loop
inductive Chain (G : List Nd) : List Nat → Prop where
  | last (s : Nd) (hs : s ∈ G) (hk : klook hash s.nx = none) : Chain G [s.b]
  | more (s : Nd) (hs : s ∈ G) (b : Nat) (c : List Nat) (hk : klook hash s.nx = some b) (hc : Chain G (b :: c)) : Chain G (s.b :: b :: c)
noncomputable section
def fL (f : Fr) (G : List Nd) : LH := match f.ns with
  | [] => uZ f.lo f.lc f.se f.sc G
  | _ => uR f.ns f.ns.length f.lo f.lc f.se f.sc G
end
structure FrOK (G : List Nd) (B : Int) (f : Fr) : Prop where
  lo : ∀ x ∈ f.lo, x.1 ∈ G.map (·.b)
  se : ∀ x ∈ f.se, x.1 ∈ G.map (·.b)
  lb : ∀ b, 0 ≤ cnt f.lo b ∧ cnt f.lo b ≤ B
  sb : ∀ b, 0 ≤ cnt f.se b ∧ cnt f.se b ≤ B
theorem cnt_set (m : KMap Nat Int) (c b : Nat) (x : Int) (b' : Nat) : cnt (kset m c b x) b' = if b' = b then x else cnt m b' := by
  unfold cnt
  rw [klook_kset]
  by_cases h : b' = b
  · rw [if_pos h, if_pos h]; rfl
  · rw [if_neg h, if_neg h]
theorem mem_kset {κ α : Type} [DecidableEq κ] {m : KMap κ α} {c : Nat} {k : κ} {x : α} {e : κ × α × Nat} (h : e ∈ kset m c k x) : e.1 = k ∨ e.1 ∈ m.map (·.1) := by
  have : e.1 ∈ (kset m c k x).map (·.1) := List.mem_map_of_mem h
  rw [kset_keys] at this
  split at this
  · exact .inr this
  · rcases List.mem_append.1 this with h | h
    · exact .inr h
    · exact .inl (by simpa using h)
theorem FrOK.st1 {G : List Nd} {B : Int} {f : Fr} (h : FrOK G B f) (b : Nat) (hb : b ∈ G.map (·.b)) (loop : Bool) : FrOK G (B + 1) (st1 f b loop) := by
  have key : ∀ (m : KMap Nat Int) (c : Nat), (∀ x ∈ m, x.1 ∈ G.map (·.b)) → ∀ x ∈ kset m c b (cnt m b + 1), x.1 ∈ G.map (·.b) := fun m c hm x hx => by
    rcases mem_kset hx with e | e
    · rw [e]; exact hb
    · obtain ⟨y, hy, e⟩ := List.mem_map.1 e
      rw [← e]; exact hm y hy
  have key2 : ∀ (m : KMap Nat Int) (c : Nat), (∀ b, 0 ≤ cnt m b ∧ cnt m b ≤ B) → ∀ b', 0 ≤ cnt (kset m c b (cnt m b + 1)) b' ∧ cnt (kset m c b (cnt m b + 1)) b' ≤ B + 1 := fun m c hm b' => by
    rw [cnt_set]
    have h1 := hm b
    have h2 := hm b'
    split <;> omega
  have key3 : ∀ (m : KMap Nat Int), (∀ b, 0 ≤ cnt m b ∧ cnt m b ≤ B) → ∀ b', 0 ≤ cnt m b' ∧ cnt m b' ≤ B + 1 := fun m hm b' => by
    have := hm b'; omega
  cases loop with
  | true => exact ⟨key _ _ h.lo, key _ _ h.se, key2 _ _ h.lb, key2 _ _ h.sb⟩
  | false => exact ⟨h.lo, key _ _ h.se, key3 _ h.lb, key2 _ _ h.sb⟩
theorem FrOK.stN {G : List Nd} {B : Int} {f : Fr} (h : FrOK G B f) (b : Nat) : FrOK G B (stN f b) := ⟨h.lo, h.se, h.lb, h.sb⟩
theorem FrOK.mono {G : List Nd} {B B' : Int} {f : Fr} (h : FrOK G B f) (hB : B ≤ B') : FrOK G B' f := ⟨h.lo, h.se, fun b => by have := h.lb b; omega, fun b => by have := h.sb b; omega⟩
theorem Chain.mem {G : List Nd} {b : Nat} {c : List Nat} (h : Chain G (b :: c)) : b ∈ G.map (·.b) := by
  cases h with
  | last s hs hk => exact List.mem_map_of_mem hs
  | more s hs b c hk hc => exact List.mem_map_of_mem hs
theorem standC_ok {G : List Nd} : ∀ {c : List Nat}, Chain G c → ∀ {B : Int} {f : Fr} {loop : Bool}, FrOK G B f → FrOK G (B + c.length) (standC c f loop)
  | _, .last s hs hk, B, f, loop, h => by
    have h1 := h.st1 s.b (List.mem_map_of_mem hs) loop
    rw [standC]
    split
    · exact (h1.stN s.b).mono (Int.le_refl _)
    · exact h1.mono (Int.le_refl _)
  | _, .more s hs b c hk hc, B, f, loop, h => by
    have h1 := h.st1 s.b (List.mem_map_of_mem hs) loop
    rw [standC]
    split
    · refine (standC_ok hc (h1.stN s.b) (loop := true)).mono ?_
      simp only [List.length_cons]; omega
    · refine h1.mono ?_
      simp only [List.length_cons]; omega
theorem standC_ne {c : List Nat} {f : Fr} {loop : Bool} (h : f.ns ≠ []) : (standC c f loop).ns ≠ [] := by
  induction c generalizing f loop with
  | nil => exact h
  | cons b c ih =>
    rw [standC]
    split
    · exact ih (by simp [stN])
    · cases loop <;> exact h
theorem fL_ne {f : Fr} {G : List Nd} (h : f.ns ≠ []) : fL f G = uR f.ns f.ns.length f.lo f.lc f.se f.sc G := by
  unfold fL
  cases hn : f.ns with
  | nil => exact absurd hn h
  | cons b l => rfl
def RoomP (n : Nat) : Prop := n ≤ 8796093022208
theorem wrap1 {c : Int} (h0 : 0 ≤ c) (h1 : c ≤ 4611686018427387904) : IntKind.i64.wrap (c + Int.ofNat 1) = c + Int.ofNat 1 := i64_small (by simp only [Int.ofNat_eq_natCast]; omega) (by simp only [Int.ofNat_eq_natCast]; omega)
theorem uR_cl (K : Nat → Bool) (h : K 1001 = true ∧ K 1002 = true ∧ K 1003 = true) (ns : List Nat) (n : Nat) (lo : KMap Nat Int) (lc : Nat) (se : KMap Nat Int) (sc : Nat) (G : List Nd) : ∀ x ∈ uR ns n lo lc se sc G, x.2.cl K := all_cons ⟨h.1, h.2.1, h.2.2, trivial⟩ (all_cons (rP_cl _ _) (all_cons (fmO_cl _ _ _) (all_cons (fmO_cl _ _ _) (all_cons (famO_cl _ _) all_nil))))
theorem cStU_ok {b : Nat} {ns : List Nat} {n : Nat} {lo : KMap Nat Int} {lc : Nat} {se : KMap Nat Int} {sc : Nat} {G : List Nd} {ns' : List Nat} {n' : Nat} {lo' : KMap Nat Int} {lc' : Nat} {se' : KMap Nat Int} {sc' : Nat} (h : Tri Tryd.prog default fStand [.ptr 0 0, ptrV b, bv true] (uR ns n lo lc se sc G) (.tuple []) (uR ns' n' lo' lc' se' sc' G)) (F : HP) :
    C1OK Tryd.prog F fStand (cStU b ns n lo lc se sc G ns' n' lo' lc' se' sc') :=
  mkC_ok (W := default) oldDef (fun _ => .tuple []) gF_ro (fun _ => rfl) (fun _ _ => h) fun _ => ⟨rfl, rfl, ⟨rfl, trivial, trivial, trivial⟩, uR_cl _ ⟨rfl, rfl, rfl⟩ _ _ _ _ _ _ _, ⟨trivial, trivial⟩, uR_cl _ ⟨rfl, rfl, rfl⟩ _ _ _ _ _ _ _⟩
theorem look_none {G : List Nd} {s : Nd} (hs : s ∈ G) (hk : klook hash s.nx = none) : FactAt Tryd.prog (famO G) (.look tNx s.nb (.string hash) (.pointer none)) := by
  have := fc_look_nx hs hash
  rw [nxV, hk] at this
  exact this
theorem look_some {G : List Nd} {s : Nd} (hs : s ∈ G) {b : Nat} (hk : klook hash s.nx = some b) : FactAt Tryd.prog (famO G) (.look tNx s.nb (.string hash) (pk b)) := by
  have := fc_look_nx hs hash
  rw [nxV, hk] at this
  exact this
theorem wk_sp {n n' : Nat} {j k : Nat} {σ : Nat → Nat} (h : n = n') (hj : σ k = j) : Wk (.slice j 0 n 1 (.lo n)) ((sP k n').ren σ) := by
  subst h hj; exact Wk.refl _
theorem frC_ow {σ : Nat → Nat} {s s' : AV} {a b : Nat} {e : TypeId} (h : Wk s (s'.ren σ)) (ha : σ 1002 = a) (hb : σ 1003 = b) (he : e = tFront) : OW (.cells [s, .map a, .map b] e) ((frC s').ren σ) := by
  subst ha hb he
  intro N i D w hw
  obtain ⟨l, arr, fz, q1, q2, q3, q4, q5, q6, q7, q8⟩ := hw
  exact ⟨l, arr, fz, q1, q2, q3, q4, q5, q6, (VW.cons h (VW.cons (Wk.refl _) (VW.cons (Wk.refl _) VW.nil))) _ _ q7, q8⟩
theorem row_snoc (ns : List Nat) (b : Nat) : List.take (ns.length * 1) (List.drop 0 (rowV encP ns)) ++ [AV.v (Value.pointer (some (Addr.mk b 0 none)))] = rowV encP (ns ++ [b]) := by
  rw [row_whole (k := 1) encP_len ns _ rfl, rowV_append]; rfl
theorem ow_row {x : List AV} {l : List Nat} (h : x = rowV encP l) (σ : Nat → Nat) : OW (.cells x tPtr) (.cells (AV.rens σ (rowV encP l)) tPtr) := by rw [rens_rowV, h]; exact OW.refl _
theorem ow_fm (m : KMap Nat Int) (c : Nat) (σ : Nat → Nat) : OW (.map (kE pk iv m) c) (.map (renE σ (kE pk iv m)) c) := by rw [renE_fm]; exact OW.refl _
theorem frH {n n' : Nat} (h : n = n') {j a b : Nat} {e : TypeId} : OW (.cells [.slice j 0 n 1 (.lo n), .map a, .map b] e) (.cells [.slice j 0 n' 1 (.lo n'), .map a, .map b] e) := by subst h; exact OW.refl _
theorem stSZT_tri (G : List Nd) (B : Int) (f : Fr) (s : Nd) (hs : s ∈ G) (b : Nat) (hsb : s.b = b) (h : FrOK G B f) (hB : B ≤ 4611686018427387904) (hc : cnt f.se b ≠ 0) (hz : f.ns = []) : Tri Tryd.prog default fStand [.ptr 0 0, ptrV b, bv true] (uZ f.lo f.lc f.se f.sc G) (.tuple []) (uZ (kset f.lo f.lc b (cnt f.lo b + 1)) (kbump f.lo f.lc b) (kset f.se f.sc b (cnt f.se b + 1)) (kbump f.se f.sc b) G) := by
  have hbG : b ∈ G.map (·.b) := hsb ▸ List.mem_map_of_mem hs
  refine tri_run (con := []) (hints := hSt true (kset f.lo f.lc b (cnt f.lo b + 1)) (kbump f.lo f.lc b) (kset f.se f.sc b (cnt f.se b + 1)) (kbump f.se f.sc b) (cnt f.lo b) (cnt f.se b) false false 0 (.pointer none)) (lc := []) [0, 1002, 1003, 2] rfl (fun F _ => noC) (fun _ _ => noL) fun F => ?_
  refine cast (congrArg (VAll _) (oStSZT_eq b f.lo f.lc f.se f.sc G (kset f.lo f.lc b (cnt f.lo b + 1)) (kbump f.lo f.lc b) (kset f.se f.sc b (cnt f.se b + 1)) (kbump f.se f.sc b) (cnt f.lo b) (cnt f.se b) F).symm) ⟨⟨?_, (fit_mk (vs' := [.tuple []]) (H' := uZ (kset f.lo f.lc b (cnt f.lo b + 1)) (kbump f.lo f.lc b) (kset f.se f.sc b (cnt f.se b + 1)) (kbump f.se f.sc b) G) [(1002, 1002), (1003, 1003)] rfl rfl (VW.refl _) ⟨⟨_, rfl, frC_ow (Wk.refl _) rfl rfl rfl⟩, ⟨_, rfl, fmO_ow rfl rfl⟩, ⟨_, rfl, fmO_ow rfl rfl⟩, ⟨_, rfl, OW.refl _⟩, trivial⟩).fits rfl⟩⟩
  have g1 := good_keys (G := G) iv b f.lo hbG h.lo
  have g2 := good_keys (G := G) iv b f.se hbG h.se
  have g3 := good_keys (G := G) iv b (kset f.se f.sc b (cnt f.se b + 1)) hbG (h.st1 b hbG false).se
  have w1 := wrap1 (h.lb b).1 (by have := (h.lb b).2; omega)
  have w2 := wrap1 (h.sb b).1 (by have := (h.sb b).2; omega)
  have c1 : cnt (kset f.se f.sc b (cnt f.se b + 1)) b = cnt f.se b + 1 := by rw [cnt_set, if_pos rfl]
  have e1 : (cnt f.se b + Int.ofNat 1 == Int.ofNat 1) = false := beqF (by rw [Int.ofNat_eq_natCast]; omega)
  have t1 := set_ow f.lo f.lc b (cnt f.lo b + 1)
  have t2 := set_ow f.se f.sc b (cnt f.se b + 1)
  clear hB
  simp only [Cnd.holds, fnd, c1, e1, Nat.blt_eq, true_and, and_true]
  and_intros
  all_goals first
    | exact g1
    | exact g2
    | exact g3
    | exact t1
    | exact t2
    | (with_reducible exact wk_int w1)
    | (with_reducible exact wk_int w2) | (with_reducible first | exact trivial | exact rfl | exact Wk.refl _ | exact VW.refl _ | exact OW.refl _ | exact wk_lit _ | assumption) | exact rfl | exact Wk.refl _ | exact VW.refl _ | exact OW.refl _ | ((repeat (first | exact VW.nil | refine VW.cons (Wk.refl _) ?_ | refine VW.cons (Wk.any _) ?_ | refine VW.cons (wk_cap (Nat.le_refl _)) ?_)); done)
theorem stSRT_tri (G : List Nd) (B : Int) (f : Fr) (s : Nd) (hs : s ∈ G) (b : Nat) (hsb : s.b = b) (h : FrOK G B f) (hB : B ≤ 4611686018427387904) (hc : cnt f.se b ≠ 0) (hR : RoomP f.ns.length) : Tri Tryd.prog default fStand [.ptr 0 0, ptrV b, bv true] (uR f.ns f.ns.length f.lo f.lc f.se f.sc G) (.tuple []) (uR f.ns f.ns.length (kset f.lo f.lc b (cnt f.lo b + 1)) (kbump f.lo f.lc b) (kset f.se f.sc b (cnt f.se b + 1)) (kbump f.se f.sc b) G) := by
  have hbG : b ∈ G.map (·.b) := hsb ▸ List.mem_map_of_mem hs
  refine tri_run (con := []) (hints := hSt true (kset f.lo f.lc b (cnt f.lo b + 1)) (kbump f.lo f.lc b) (kset f.se f.sc b (cnt f.se b + 1)) (kbump f.se f.sc b) (cnt f.lo b) (cnt f.se b) false false 0 (.pointer none)) (lc := []) [0, 1001, 1002, 1003, 2] rfl (fun F _ => noC) (fun _ _ => noL) fun F => ?_
  refine cast (congrArg (VAll _) (oStSRT_eq b f.ns f.ns.length f.lo f.lc f.se f.sc G (kset f.lo f.lc b (cnt f.lo b + 1)) (kbump f.lo f.lc b) (kset f.se f.sc b (cnt f.se b + 1)) (kbump f.se f.sc b) (cnt f.lo b) (cnt f.se b) F).symm) ⟨⟨?_, (fit_mk (vs' := [.tuple []]) (H' := uR f.ns f.ns.length (kset f.lo f.lc b (cnt f.lo b + 1)) (kbump f.lo f.lc b) (kset f.se f.sc b (cnt f.se b + 1)) (kbump f.se f.sc b) G) [(1001, 1001), (1002, 1002), (1003, 1003)] rfl rfl (VW.refl _) ⟨⟨_, rfl, frC_ow (wk_sp rfl rfl) rfl rfl rfl⟩, ⟨_, rfl, rP_ow rfl rfl⟩, ⟨_, rfl, fmO_ow rfl rfl⟩, ⟨_, rfl, fmO_ow rfl rfl⟩, ⟨_, rfl, OW.refl _⟩, trivial⟩).fits rfl⟩⟩
  have g1 := good_keys (G := G) iv b f.lo hbG h.lo
  have g2 := good_keys (G := G) iv b f.se hbG h.se
  have g3 := good_keys (G := G) iv b (kset f.se f.sc b (cnt f.se b + 1)) hbG (h.st1 b hbG false).se
  have w1 := wrap1 (h.lb b).1 (by have := (h.lb b).2; omega)
  have w2 := wrap1 (h.sb b).1 (by have := (h.sb b).2; omega)
  have c1 : cnt (kset f.se f.sc b (cnt f.se b + 1)) b = cnt f.se b + 1 := by rw [cnt_set, if_pos rfl]
  have e1 : (cnt f.se b + Int.ofNat 1 == Int.ofNat 1) = false := beqF (by rw [Int.ofNat_eq_natCast]; omega)
  have t1 := set_ow f.lo f.lc b (cnt f.lo b + 1)
  have t2 := set_ow f.se f.sc b (cnt f.se b + 1)
  clear hB
  clear hR
  simp only [Cnd.holds, fnd, c1, e1, Nat.blt_eq, true_and, and_true]
  and_intros
  all_goals first
    | exact g1
    | exact g2
    | exact g3
    | exact t1
    | exact t2
    | (with_reducible exact wk_int w1)
    | (with_reducible exact wk_int w2) | (with_reducible first | exact trivial | exact rfl | exact Wk.refl _ | exact VW.refl _ | exact OW.refl _ | exact wk_lit _ | assumption) | exact rfl | exact Wk.refl _ | exact VW.refl _ | exact OW.refl _ | ((repeat (first | exact VW.nil | refine VW.cons (Wk.refl _) ?_ | refine VW.cons (Wk.any _) ?_ | refine VW.cons (wk_cap (Nat.le_refl _)) ?_)); done)
theorem stZNT_tri (G : List Nd) (B : Int) (f : Fr) (s : Nd) (hs : s ∈ G) (b : Nat) (hsb : s.b = b) (h : FrOK G B f) (hB : B ≤ 4611686018427387904) (hc : cnt f.se b = 0) (hk : klook hash s.nx = none) (hz : f.ns = []) : Tri Tryd.prog default fStand [.ptr 0 0, ptrV b, bv true] (uZ f.lo f.lc f.se f.sc G) (.tuple []) (uR (f.ns ++ [b]) (f.ns ++ [b]).length (kset f.lo f.lc b (cnt f.lo b + 1)) (kbump f.lo f.lc b) (kset f.se f.sc b (cnt f.se b + 1)) (kbump f.se f.sc b) G) := by
  have hbG : b ∈ G.map (·.b) := hsb ▸ List.mem_map_of_mem hs
  refine tri_run (con := []) (hints := hSt true (kset f.lo f.lc b (cnt f.lo b + 1)) (kbump f.lo f.lc b) (kset f.se f.sc b (cnt f.se b + 1)) (kbump f.se f.sc b) (cnt f.lo b) (cnt f.se b) true false s.nb (.pointer none)) (lc := []) [0, 1001, 1002, 1003, 2, 1100, 1101, 1102, 1103, 1104] rfl (fun F _ => noC) (fun _ _ => noL) fun F => ?_
  have hl : 1 = (f.ns ++ [b]).length := by rw [hz]; rfl
  have hrow : [AV.v (Value.pointer (some (Addr.mk b 0 none)))] = rowV encP (f.ns ++ [b]) := by rw [hz]; rfl
  refine cast (congrArg (VAll _) (oStZNT_eq b s.nb f.lo f.lc f.se f.sc G (kset f.lo f.lc b (cnt f.lo b + 1)) (kbump f.lo f.lc b) (kset f.se f.sc b (cnt f.se b + 1)) (kbump f.se f.sc b) (cnt f.lo b) (cnt f.se b) F).symm) ⟨⟨?_, (fit_mk (vs' := [.tuple []]) (H' := uR (f.ns ++ [b]) (f.ns ++ [b]).length (kset f.lo f.lc b (cnt f.lo b + 1)) (kbump f.lo f.lc b) (kset f.se f.sc b (cnt f.se b + 1)) (kbump f.se f.sc b) G) [(1001, 1101), (1002, 1002), (1003, 1003)] rfl rfl (VW.refl _) ⟨⟨_, rfl, frC_ow (wk_sp hl rfl) rfl rfl rfl⟩, ⟨_, rfl, rP_ow hrow rfl⟩, ⟨_, rfl, fmO_ow rfl rfl⟩, ⟨_, rfl, fmO_ow rfl rfl⟩, ⟨_, rfl, OW.refl _⟩, trivial⟩).fits rfl⟩⟩
  have g1 := good_keys (G := G) iv b f.lo hbG h.lo
  have g2 := good_keys (G := G) iv b f.se hbG h.se
  have g3 := good_keys (G := G) iv b (kset f.se f.sc b (cnt f.se b + 1)) hbG (h.st1 b hbG false).se
  have w1 := wrap1 (h.lb b).1 (by have := (h.lb b).2; omega)
  have w2 := wrap1 (h.sb b).1 (by have := (h.sb b).2; omega)
  have c1 : cnt (kset f.se f.sc b (cnt f.se b + 1)) b = cnt f.se b + 1 := by rw [cnt_set, if_pos rfl]
  have e1 : (cnt f.se b + Int.ofNat 1 == Int.ofNat 1) = true := beqT (by rw [Int.ofNat_eq_natCast]; omega)
  have t1 := set_ow f.lo f.lc b (cnt f.lo b + 1)
  have t2 := set_ow f.se f.sc b (cnt f.se b + 1)
  have k1 := fc_nx (G := G) hs
  rw [hsb] at k1
  have k2 := look_none hs hk
  clear hB
  simp only [Cnd.holds, fnd, c1, e1, Nat.blt_eq, true_and, and_true]
  and_intros
  all_goals first
    | exact g1
    | exact g2
    | exact g3
    | exact t1
    | exact t2
    | (with_reducible exact wk_int w1)
    | (with_reducible exact wk_int w2)
    | exact k1
    | exact k2 | (with_reducible first | exact trivial | exact rfl | exact Wk.refl _ | exact VW.refl _ | exact OW.refl _ | exact wk_lit _ | assumption) | exact rfl | exact Wk.refl _ | exact VW.refl _ | exact OW.refl _ | ((repeat (first | exact VW.nil | refine VW.cons (Wk.refl _) ?_ | refine VW.cons (Wk.any _) ?_ | refine VW.cons (wk_cap (Nat.le_refl _)) ?_)); done)
theorem stRNT_tri (G : List Nd) (B : Int) (f : Fr) (s : Nd) (hs : s ∈ G) (b : Nat) (hsb : s.b = b) (h : FrOK G B f) (hB : B ≤ 4611686018427387904) (hc : cnt f.se b = 0) (hR : RoomP f.ns.length) (hk : klook hash s.nx = none) : Tri Tryd.prog default fStand [.ptr 0 0, ptrV b, bv true] (uR f.ns f.ns.length f.lo f.lc f.se f.sc G) (.tuple []) (uR (f.ns ++ [b]) (f.ns ++ [b]).length (kset f.lo f.lc b (cnt f.lo b + 1)) (kbump f.lo f.lc b) (kset f.se f.sc b (cnt f.se b + 1)) (kbump f.se f.sc b) G) := by
  have hbG : b ∈ G.map (·.b) := hsb ▸ List.mem_map_of_mem hs
  refine tri_run (con := []) (hints := hSt true (kset f.lo f.lc b (cnt f.lo b + 1)) (kbump f.lo f.lc b) (kset f.se f.sc b (cnt f.se b + 1)) (kbump f.se f.sc b) (cnt f.lo b) (cnt f.se b) true false s.nb (.pointer none)) (lc := []) [0, 1001, 1002, 1003, 2, 1100, 1101, 1102, 1103, 1104] rfl (fun F _ => noC) (fun _ _ => noL) fun F => ?_
  have hl : f.ns.length + 1 = (f.ns ++ [b]).length := by rw [List.length_append]; rfl
  have hrow : List.take (f.ns.length * 1) (List.drop 0 (rowV encP f.ns)) ++ [AV.v (Value.pointer (some (Addr.mk b 0 none)))] = rowV encP (f.ns ++ [b]) := row_snoc f.ns b
  refine cast (congrArg (VAll _) (oStRNT_eq b s.nb f.ns f.ns.length f.lo f.lc f.se f.sc G (kset f.lo f.lc b (cnt f.lo b + 1)) (kbump f.lo f.lc b) (kset f.se f.sc b (cnt f.se b + 1)) (kbump f.se f.sc b) (cnt f.lo b) (cnt f.se b) F).symm) ⟨⟨?_, (fit_mk (vs' := [.tuple []]) (H' := uR (f.ns ++ [b]) (f.ns ++ [b]).length (kset f.lo f.lc b (cnt f.lo b + 1)) (kbump f.lo f.lc b) (kset f.se f.sc b (cnt f.se b + 1)) (kbump f.se f.sc b) G) [(1001, 1101), (1002, 1002), (1003, 1003)] rfl rfl (VW.refl _) ⟨⟨_, rfl, frC_ow (wk_sp hl rfl) rfl rfl rfl⟩, ⟨_, rfl, rP_ow hrow rfl⟩, ⟨_, rfl, fmO_ow rfl rfl⟩, ⟨_, rfl, fmO_ow rfl rfl⟩, ⟨_, rfl, OW.refl _⟩, trivial⟩).fits rfl⟩⟩
  have g1 := good_keys (G := G) iv b f.lo hbG h.lo
  have g2 := good_keys (G := G) iv b f.se hbG h.se
  have g3 := good_keys (G := G) iv b (kset f.se f.sc b (cnt f.se b + 1)) hbG (h.st1 b hbG false).se
  have w1 := wrap1 (h.lb b).1 (by have := (h.lb b).2; omega)
  have w2 := wrap1 (h.sb b).1 (by have := (h.sb b).2; omega)
  have c1 : cnt (kset f.se f.sc b (cnt f.se b + 1)) b = cnt f.se b + 1 := by rw [cnt_set, if_pos rfl]
  have e1 : (cnt f.se b + Int.ofNat 1 == Int.ofNat 1) = true := beqT (by rw [Int.ofNat_eq_natCast]; omega)
  have t1 := set_ow f.lo f.lc b (cnt f.lo b + 1)
  have t2 := set_ow f.se f.sc b (cnt f.se b + 1)
  have k1 := fc_nx (G := G) hs
  rw [hsb] at k1
  have k2 := look_none hs hk
  have hB1 : ((f.ns.length + 1) * 8).ble 140737488355328 = true := by rw [Nat.ble_eq]; unfold RoomP at hR; omega
  have hM : (f.ns.length + 1).ble 9223372036854775807 = true := by rw [Nat.ble_eq]; unfold RoomP at hR; omega
  have hin : (0 + f.ns.length * 1).ble (rowV encP f.ns).length = true := by rw [rP_len, Nat.ble_eq]; omega
  have hfull : (List.take (f.ns.length * 1) (List.drop 0 (rowV encP f.ns))).length.beq (f.ns.length * 1) = true := row_full encP_len f.ns
  clear hB
  clear hR
  simp only [Cnd.holds, fnd, c1, e1, hB1, hM, hin, hfull, Nat.blt_eq, true_and, and_true]
  and_intros
  all_goals first
    | exact g1
    | exact g2
    | exact g3
    | exact t1
    | exact t2
    | (with_reducible exact wk_int w1)
    | (with_reducible exact wk_int w2)
    | exact k1
    | exact k2 | (with_reducible first | exact trivial | exact rfl | exact Wk.refl _ | exact VW.refl _ | exact OW.refl _ | exact wk_lit _ | assumption) | exact rfl | exact Wk.refl _ | exact VW.refl _ | exact OW.refl _ | ((repeat (first | exact VW.nil | refine VW.cons (Wk.refl _) ?_ | refine VW.cons (Wk.any _) ?_ | refine VW.cons (wk_cap (Nat.le_refl _)) ?_)); done)
theorem stZCT_tri (G : List Nd) (B : Int) (f : Fr) (s : Nd) (hs : s ∈ G) (b : Nat) (hsb : s.b = b) (h : FrOK G B f) (hB : B ≤ 4611686018427387904) (hc : cnt f.se b = 0) (y : Nat) (hk : klook hash s.nx = some y) (g : Fr) (hrec : Tri Tryd.prog default fStand [.ptr 0 0, ptrV y, bv true] (uR (f.ns ++ [b]) (f.ns ++ [b]).length (kset f.lo f.lc b (cnt f.lo b + 1)) (kbump f.lo f.lc b) (kset f.se f.sc b (cnt f.se b + 1)) (kbump f.se f.sc b) G) (.tuple []) (uR g.ns g.ns.length g.lo g.lc g.se g.sc G)) (hz : f.ns = []) : Tri Tryd.prog default fStand [.ptr 0 0, ptrV b, bv true] (uZ f.lo f.lc f.se f.sc G) (.tuple []) (uR g.ns g.ns.length g.lo g.lc g.se g.sc G) := by
  have hbG : b ∈ G.map (·.b) := hsb ▸ List.mem_map_of_mem hs
  refine tri_run (con := [(fStand, cStU y (f.ns ++ [b]) (f.ns ++ [b]).length (kset f.lo f.lc b (cnt f.lo b + 1)) (kbump f.lo f.lc b) (kset f.se f.sc b (cnt f.se b + 1)) (kbump f.se f.sc b) G g.ns g.ns.length g.lo g.lc g.se g.sc)]) (hints := hSt true (kset f.lo f.lc b (cnt f.lo b + 1)) (kbump f.lo f.lc b) (kset f.se f.sc b (cnt f.se b + 1)) (kbump f.se f.sc b) (cnt f.lo b) (cnt f.se b) true true s.nb (pk y)) (lc := []) [0, 1001, 1002, 1003, 2, 1100, 1101, 1102, 1103, 1104] rfl (fun F _ => one_c (cStU_ok hrec F)) (fun _ _ => noL) fun F => ?_
  have hl : 1 = (f.ns ++ [b]).length := by rw [hz]; rfl
  have hrow : [AV.v (Value.pointer (some (Addr.mk b 0 none)))] = rowV encP (f.ns ++ [b]) := by rw [hz]; rfl
  refine cast (congrArg (VAll _) (oStZCT_eq b s.nb f.lo f.lc f.se f.sc G (kset f.lo f.lc b (cnt f.lo b + 1)) (kbump f.lo f.lc b) (kset f.se f.sc b (cnt f.se b + 1)) (kbump f.se f.sc b) (cnt f.lo b) (cnt f.se b) y (f.ns ++ [b]) g.ns (f.ns ++ [b]).length g.ns.length g.lo g.lc g.se g.sc F).symm) ⟨⟨?_, (fit_mk (vs' := [.tuple []]) (H' := uR g.ns g.ns.length g.lo g.lc g.se g.sc G) [(1001, 1102), (1002, 1103), (1003, 1104)] rfl rfl (VW.refl _) ⟨⟨_, rfl, frC_ow (wk_sp rfl rfl) rfl rfl rfl⟩, ⟨_, rfl, rP_ow (rens_rowV _ _) rfl⟩, ⟨_, rfl, fmO_ow (renE_fm _ _) rfl⟩, ⟨_, rfl, fmO_ow (renE_fm _ _) rfl⟩, ⟨_, rfl, OW.refl _⟩, trivial⟩).fits rfl⟩⟩
  have g1 := good_keys (G := G) iv b f.lo hbG h.lo
  have g2 := good_keys (G := G) iv b f.se hbG h.se
  have g3 := good_keys (G := G) iv b (kset f.se f.sc b (cnt f.se b + 1)) hbG (h.st1 b hbG false).se
  have w1 := wrap1 (h.lb b).1 (by have := (h.lb b).2; omega)
  have w2 := wrap1 (h.sb b).1 (by have := (h.sb b).2; omega)
  have c1 : cnt (kset f.se f.sc b (cnt f.se b + 1)) b = cnt f.se b + 1 := by rw [cnt_set, if_pos rfl]
  have e1 : (cnt f.se b + Int.ofNat 1 == Int.ofNat 1) = true := beqT (by rw [Int.ofNat_eq_natCast]; omega)
  have t1 := set_ow f.lo f.lc b (cnt f.lo b + 1)
  have t2 := set_ow f.se f.sc b (cnt f.se b + 1)
  have k1 := fc_nx (G := G) hs
  rw [hsb] at k1
  have k2 := look_some hs hk
  clear hB
  simp only [Cnd.holds, fnd, c1, e1, Nat.blt_eq, true_and, and_true]
  and_intros
  all_goals first
    | exact g1
    | exact g2
    | exact g3
    | exact t1
    | exact t2
    | (with_reducible exact wk_int w1)
    | (with_reducible exact wk_int w2)
    | exact k1
    | exact k2
    | exact ow_row hrow _
    | exact ow_fm _ _ _
    | (refine frH ?_; exact hl) | (with_reducible first | exact trivial | exact rfl | exact Wk.refl _ | exact VW.refl _ | exact OW.refl _ | exact wk_lit _ | assumption) | exact rfl | exact Wk.refl _ | exact VW.refl _ | exact OW.refl _ | ((repeat (first | exact VW.nil | refine VW.cons (Wk.refl _) ?_ | refine VW.cons (Wk.any _) ?_ | refine VW.cons (wk_cap (Nat.le_refl _)) ?_)); done)
theorem stRCT_tri (G : List Nd) (B : Int) (f : Fr) (s : Nd) (hs : s ∈ G) (b : Nat) (hsb : s.b = b) (h : FrOK G B f) (hB : B ≤ 4611686018427387904) (hc : cnt f.se b = 0) (hR : RoomP f.ns.length) (y : Nat) (hk : klook hash s.nx = some y) (g : Fr) (hrec : Tri Tryd.prog default fStand [.ptr 0 0, ptrV y, bv true] (uR (f.ns ++ [b]) (f.ns ++ [b]).length (kset f.lo f.lc b (cnt f.lo b + 1)) (kbump f.lo f.lc b) (kset f.se f.sc b (cnt f.se b + 1)) (kbump f.se f.sc b) G) (.tuple []) (uR g.ns g.ns.length g.lo g.lc g.se g.sc G)) : Tri Tryd.prog default fStand [.ptr 0 0, ptrV b, bv true] (uR f.ns f.ns.length f.lo f.lc f.se f.sc G) (.tuple []) (uR g.ns g.ns.length g.lo g.lc g.se g.sc G) := by
  have hbG : b ∈ G.map (·.b) := hsb ▸ List.mem_map_of_mem hs
  refine tri_run (con := [(fStand, cStU y (f.ns ++ [b]) (f.ns ++ [b]).length (kset f.lo f.lc b (cnt f.lo b + 1)) (kbump f.lo f.lc b) (kset f.se f.sc b (cnt f.se b + 1)) (kbump f.se f.sc b) G g.ns g.ns.length g.lo g.lc g.se g.sc)]) (hints := hSt true (kset f.lo f.lc b (cnt f.lo b + 1)) (kbump f.lo f.lc b) (kset f.se f.sc b (cnt f.se b + 1)) (kbump f.se f.sc b) (cnt f.lo b) (cnt f.se b) true true s.nb (pk y)) (lc := []) [0, 1001, 1002, 1003, 2, 1100, 1101, 1102, 1103, 1104] rfl (fun F _ => one_c (cStU_ok hrec F)) (fun _ _ => noL) fun F => ?_
  have hl : f.ns.length + 1 = (f.ns ++ [b]).length := by rw [List.length_append]; rfl
  have hrow : List.take (f.ns.length * 1) (List.drop 0 (rowV encP f.ns)) ++ [AV.v (Value.pointer (some (Addr.mk b 0 none)))] = rowV encP (f.ns ++ [b]) := row_snoc f.ns b
  refine cast (congrArg (VAll _) (oStRCT_eq b s.nb f.ns f.ns.length f.lo f.lc f.se f.sc G (kset f.lo f.lc b (cnt f.lo b + 1)) (kbump f.lo f.lc b) (kset f.se f.sc b (cnt f.se b + 1)) (kbump f.se f.sc b) (cnt f.lo b) (cnt f.se b) y (f.ns ++ [b]) g.ns (f.ns ++ [b]).length g.ns.length g.lo g.lc g.se g.sc F).symm) ⟨⟨?_, (fit_mk (vs' := [.tuple []]) (H' := uR g.ns g.ns.length g.lo g.lc g.se g.sc G) [(1001, 1102), (1002, 1103), (1003, 1104)] rfl rfl (VW.refl _) ⟨⟨_, rfl, frC_ow (wk_sp rfl rfl) rfl rfl rfl⟩, ⟨_, rfl, rP_ow (rens_rowV _ _) rfl⟩, ⟨_, rfl, fmO_ow (renE_fm _ _) rfl⟩, ⟨_, rfl, fmO_ow (renE_fm _ _) rfl⟩, ⟨_, rfl, OW.refl _⟩, trivial⟩).fits rfl⟩⟩
  have g1 := good_keys (G := G) iv b f.lo hbG h.lo
  have g2 := good_keys (G := G) iv b f.se hbG h.se
  have g3 := good_keys (G := G) iv b (kset f.se f.sc b (cnt f.se b + 1)) hbG (h.st1 b hbG false).se
  have w1 := wrap1 (h.lb b).1 (by have := (h.lb b).2; omega)
  have w2 := wrap1 (h.sb b).1 (by have := (h.sb b).2; omega)
  have c1 : cnt (kset f.se f.sc b (cnt f.se b + 1)) b = cnt f.se b + 1 := by rw [cnt_set, if_pos rfl]
  have e1 : (cnt f.se b + Int.ofNat 1 == Int.ofNat 1) = true := beqT (by rw [Int.ofNat_eq_natCast]; omega)
  have t1 := set_ow f.lo f.lc b (cnt f.lo b + 1)
  have t2 := set_ow f.se f.sc b (cnt f.se b + 1)
  have k1 := fc_nx (G := G) hs
  rw [hsb] at k1
  have k2 := look_some hs hk
  have hB1 : ((f.ns.length + 1) * 8).ble 140737488355328 = true := by rw [Nat.ble_eq]; unfold RoomP at hR; omega
  have hM : (f.ns.length + 1).ble 9223372036854775807 = true := by rw [Nat.ble_eq]; unfold RoomP at hR; omega
  have hin : (0 + f.ns.length * 1).ble (rowV encP f.ns).length = true := by rw [rP_len, Nat.ble_eq]; omega
  have hfull : (List.take (f.ns.length * 1) (List.drop 0 (rowV encP f.ns))).length.beq (f.ns.length * 1) = true := row_full encP_len f.ns
  clear hB
  clear hR
  simp only [Cnd.holds, fnd, c1, e1, hB1, hM, hin, hfull, Nat.blt_eq, true_and, and_true]
  and_intros
  all_goals first
    | exact g1
    | exact g2
    | exact g3
    | exact t1
    | exact t2
    | (with_reducible exact wk_int w1)
    | (with_reducible exact wk_int w2)
    | exact k1
    | exact k2
    | exact ow_row hrow _
    | exact ow_fm _ _ _
    | (refine frH ?_; exact hl) | (with_reducible first | exact trivial | exact rfl | exact Wk.refl _ | exact VW.refl _ | exact OW.refl _ | exact wk_lit _ | assumption) | exact rfl | exact Wk.refl _ | exact VW.refl _ | exact OW.refl _ | ((repeat (first | exact VW.nil | refine VW.cons (Wk.refl _) ?_ | refine VW.cons (Wk.any _) ?_ | refine VW.cons (wk_cap (Nat.le_refl _)) ?_)); done)
theorem stSZF_tri (G : List Nd) (B : Int) (f : Fr) (s : Nd) (hs : s ∈ G) (b : Nat) (hsb : s.b = b) (h : FrOK G B f) (hB : B ≤ 4611686018427387904) (hc : cnt f.se b ≠ 0) (hz : f.ns = []) : Tri Tryd.prog default fStand [.ptr 0 0, ptrV b, bv false] (uZ f.lo f.lc f.se f.sc G) (.tuple []) (uZ f.lo f.lc (kset f.se f.sc b (cnt f.se b + 1)) (kbump f.se f.sc b) G) := by
  have hbG : b ∈ G.map (·.b) := hsb ▸ List.mem_map_of_mem hs
  refine tri_run (con := []) (hints := hSt false f.lo f.lc (kset f.se f.sc b (cnt f.se b + 1)) (kbump f.se f.sc b) (cnt f.lo b) (cnt f.se b) false false 0 (.pointer none)) (lc := []) [0, 1002, 1003, 2] rfl (fun F _ => noC) (fun _ _ => noL) fun F => ?_
  refine cast (congrArg (VAll _) (oStSZF_eq b f.lo f.lc f.se f.sc G (kset f.se f.sc b (cnt f.se b + 1)) (kbump f.se f.sc b) (cnt f.lo b) (cnt f.se b) F).symm) ⟨⟨?_, (fit_mk (vs' := [.tuple []]) (H' := uZ f.lo f.lc (kset f.se f.sc b (cnt f.se b + 1)) (kbump f.se f.sc b) G) [(1002, 1002), (1003, 1003)] rfl rfl (VW.refl _) ⟨⟨_, rfl, frC_ow (Wk.refl _) rfl rfl rfl⟩, ⟨_, rfl, fmO_ow rfl rfl⟩, ⟨_, rfl, fmO_ow rfl rfl⟩, ⟨_, rfl, OW.refl _⟩, trivial⟩).fits rfl⟩⟩
  have g1 := good_keys (G := G) iv b f.lo hbG h.lo
  have g2 := good_keys (G := G) iv b f.se hbG h.se
  have g3 := good_keys (G := G) iv b (kset f.se f.sc b (cnt f.se b + 1)) hbG (h.st1 b hbG false).se
  have w1 := wrap1 (h.lb b).1 (by have := (h.lb b).2; omega)
  have w2 := wrap1 (h.sb b).1 (by have := (h.sb b).2; omega)
  have c1 : cnt (kset f.se f.sc b (cnt f.se b + 1)) b = cnt f.se b + 1 := by rw [cnt_set, if_pos rfl]
  have e1 : (cnt f.se b + Int.ofNat 1 == Int.ofNat 1) = false := beqF (by rw [Int.ofNat_eq_natCast]; omega)
  have t1 := set_ow f.lo f.lc b (cnt f.lo b + 1)
  have t2 := set_ow f.se f.sc b (cnt f.se b + 1)
  clear hB
  simp only [Cnd.holds, fnd, c1, e1, Nat.blt_eq, true_and, and_true]
  and_intros
  all_goals first
    | exact g1
    | exact g2
    | exact g3
    | exact t1
    | exact t2
    | (with_reducible exact wk_int w1)
    | (with_reducible exact wk_int w2) | (with_reducible first | exact trivial | exact rfl | exact Wk.refl _ | exact VW.refl _ | exact OW.refl _ | exact wk_lit _ | assumption) | exact rfl | exact Wk.refl _ | exact VW.refl _ | exact OW.refl _ | ((repeat (first | exact VW.nil | refine VW.cons (Wk.refl _) ?_ | refine VW.cons (Wk.any _) ?_ | refine VW.cons (wk_cap (Nat.le_refl _)) ?_)); done)
theorem stSRF_tri (G : List Nd) (B : Int) (f : Fr) (s : Nd) (hs : s ∈ G) (b : Nat) (hsb : s.b = b) (h : FrOK G B f) (hB : B ≤ 4611686018427387904) (hc : cnt f.se b ≠ 0) (hR : RoomP f.ns.length) : Tri Tryd.prog default fStand [.ptr 0 0, ptrV b, bv false] (uR f.ns f.ns.length f.lo f.lc f.se f.sc G) (.tuple []) (uR f.ns f.ns.length f.lo f.lc (kset f.se f.sc b (cnt f.se b + 1)) (kbump f.se f.sc b) G) := by
  have hbG : b ∈ G.map (·.b) := hsb ▸ List.mem_map_of_mem hs
  refine tri_run (con := []) (hints := hSt false f.lo f.lc (kset f.se f.sc b (cnt f.se b + 1)) (kbump f.se f.sc b) (cnt f.lo b) (cnt f.se b) false false 0 (.pointer none)) (lc := []) [0, 1001, 1002, 1003, 2] rfl (fun F _ => noC) (fun _ _ => noL) fun F => ?_
  refine cast (congrArg (VAll _) (oStSRF_eq b f.ns f.ns.length f.lo f.lc f.se f.sc G (kset f.se f.sc b (cnt f.se b + 1)) (kbump f.se f.sc b) (cnt f.lo b) (cnt f.se b) F).symm) ⟨⟨?_, (fit_mk (vs' := [.tuple []]) (H' := uR f.ns f.ns.length f.lo f.lc (kset f.se f.sc b (cnt f.se b + 1)) (kbump f.se f.sc b) G) [(1001, 1001), (1002, 1002), (1003, 1003)] rfl rfl (VW.refl _) ⟨⟨_, rfl, frC_ow (wk_sp rfl rfl) rfl rfl rfl⟩, ⟨_, rfl, rP_ow rfl rfl⟩, ⟨_, rfl, fmO_ow rfl rfl⟩, ⟨_, rfl, fmO_ow rfl rfl⟩, ⟨_, rfl, OW.refl _⟩, trivial⟩).fits rfl⟩⟩
  have g1 := good_keys (G := G) iv b f.lo hbG h.lo
  have g2 := good_keys (G := G) iv b f.se hbG h.se
  have g3 := good_keys (G := G) iv b (kset f.se f.sc b (cnt f.se b + 1)) hbG (h.st1 b hbG false).se
  have w1 := wrap1 (h.lb b).1 (by have := (h.lb b).2; omega)
  have w2 := wrap1 (h.sb b).1 (by have := (h.sb b).2; omega)
  have c1 : cnt (kset f.se f.sc b (cnt f.se b + 1)) b = cnt f.se b + 1 := by rw [cnt_set, if_pos rfl]
  have e1 : (cnt f.se b + Int.ofNat 1 == Int.ofNat 1) = false := beqF (by rw [Int.ofNat_eq_natCast]; omega)
  have t1 := set_ow f.lo f.lc b (cnt f.lo b + 1)
  have t2 := set_ow f.se f.sc b (cnt f.se b + 1)
  clear hB
  clear hR
  simp only [Cnd.holds, fnd, c1, e1, Nat.blt_eq, true_and, and_true]
  and_intros
  all_goals first
    | exact g1
    | exact g2
    | exact g3
    | exact t1
    | exact t2
    | (with_reducible exact wk_int w1)
    | (with_reducible exact wk_int w2) | (with_reducible first | exact trivial | exact rfl | exact Wk.refl _ | exact VW.refl _ | exact OW.refl _ | exact wk_lit _ | assumption) | exact rfl | exact Wk.refl _ | exact VW.refl _ | exact OW.refl _ | ((repeat (first | exact VW.nil | refine VW.cons (Wk.refl _) ?_ | refine VW.cons (Wk.any _) ?_ | refine VW.cons (wk_cap (Nat.le_refl _)) ?_)); done)
theorem stZNF_tri (G : List Nd) (B : Int) (f : Fr) (s : Nd) (hs : s ∈ G) (b : Nat) (hsb : s.b = b) (h : FrOK G B f) (hB : B ≤ 4611686018427387904) (hc : cnt f.se b = 0) (hk : klook hash s.nx = none) (hz : f.ns = []) : Tri Tryd.prog default fStand [.ptr 0 0, ptrV b, bv false] (uZ f.lo f.lc f.se f.sc G) (.tuple []) (uR (f.ns ++ [b]) (f.ns ++ [b]).length f.lo f.lc (kset f.se f.sc b (cnt f.se b + 1)) (kbump f.se f.sc b) G) := by
  have hbG : b ∈ G.map (·.b) := hsb ▸ List.mem_map_of_mem hs
  refine tri_run (con := []) (hints := hSt false f.lo f.lc (kset f.se f.sc b (cnt f.se b + 1)) (kbump f.se f.sc b) (cnt f.lo b) (cnt f.se b) true false s.nb (.pointer none)) (lc := []) [0, 1001, 1002, 1003, 2, 1100, 1101, 1102, 1103, 1104] rfl (fun F _ => noC) (fun _ _ => noL) fun F => ?_
  have hl : 1 = (f.ns ++ [b]).length := by rw [hz]; rfl
  have hrow : [AV.v (Value.pointer (some (Addr.mk b 0 none)))] = rowV encP (f.ns ++ [b]) := by rw [hz]; rfl
  refine cast (congrArg (VAll _) (oStZNF_eq b s.nb f.lo f.lc f.se f.sc G (kset f.se f.sc b (cnt f.se b + 1)) (kbump f.se f.sc b) (cnt f.lo b) (cnt f.se b) F).symm) ⟨⟨?_, (fit_mk (vs' := [.tuple []]) (H' := uR (f.ns ++ [b]) (f.ns ++ [b]).length f.lo f.lc (kset f.se f.sc b (cnt f.se b + 1)) (kbump f.se f.sc b) G) [(1001, 1101), (1002, 1002), (1003, 1003)] rfl rfl (VW.refl _) ⟨⟨_, rfl, frC_ow (wk_sp hl rfl) rfl rfl rfl⟩, ⟨_, rfl, rP_ow hrow rfl⟩, ⟨_, rfl, fmO_ow rfl rfl⟩, ⟨_, rfl, fmO_ow rfl rfl⟩, ⟨_, rfl, OW.refl _⟩, trivial⟩).fits rfl⟩⟩
  have g1 := good_keys (G := G) iv b f.lo hbG h.lo
  have g2 := good_keys (G := G) iv b f.se hbG h.se
  have g3 := good_keys (G := G) iv b (kset f.se f.sc b (cnt f.se b + 1)) hbG (h.st1 b hbG false).se
  have w1 := wrap1 (h.lb b).1 (by have := (h.lb b).2; omega)
  have w2 := wrap1 (h.sb b).1 (by have := (h.sb b).2; omega)
  have c1 : cnt (kset f.se f.sc b (cnt f.se b + 1)) b = cnt f.se b + 1 := by rw [cnt_set, if_pos rfl]
  have e1 : (cnt f.se b + Int.ofNat 1 == Int.ofNat 1) = true := beqT (by rw [Int.ofNat_eq_natCast]; omega)
  have t1 := set_ow f.lo f.lc b (cnt f.lo b + 1)
  have t2 := set_ow f.se f.sc b (cnt f.se b + 1)
  have k1 := fc_nx (G := G) hs
  rw [hsb] at k1
  have k2 := look_none hs hk
  clear hB
  simp only [Cnd.holds, fnd, c1, e1, Nat.blt_eq, true_and, and_true]
  and_intros
  all_goals first
    | exact g1
    | exact g2
    | exact g3
    | exact t1
    | exact t2
    | (with_reducible exact wk_int w1)
    | (with_reducible exact wk_int w2)
    | exact k1
    | exact k2 | (with_reducible first | exact trivial | exact rfl | exact Wk.refl _ | exact VW.refl _ | exact OW.refl _ | exact wk_lit _ | assumption) | exact rfl | exact Wk.refl _ | exact VW.refl _ | exact OW.refl _ | ((repeat (first | exact VW.nil | refine VW.cons (Wk.refl _) ?_ | refine VW.cons (Wk.any _) ?_ | refine VW.cons (wk_cap (Nat.le_refl _)) ?_)); done)
theorem stRNF_tri (G : List Nd) (B : Int) (f : Fr) (s : Nd) (hs : s ∈ G) (b : Nat) (hsb : s.b = b) (h : FrOK G B f) (hB : B ≤ 4611686018427387904) (hc : cnt f.se b = 0) (hR : RoomP f.ns.length) (hk : klook hash s.nx = none) : Tri Tryd.prog default fStand [.ptr 0 0, ptrV b, bv false] (uR f.ns f.ns.length f.lo f.lc f.se f.sc G) (.tuple []) (uR (f.ns ++ [b]) (f.ns ++ [b]).length f.lo f.lc (kset f.se f.sc b (cnt f.se b + 1)) (kbump f.se f.sc b) G) := by
  have hbG : b ∈ G.map (·.b) := hsb ▸ List.mem_map_of_mem hs
  refine tri_run (con := []) (hints := hSt false f.lo f.lc (kset f.se f.sc b (cnt f.se b + 1)) (kbump f.se f.sc b) (cnt f.lo b) (cnt f.se b) true false s.nb (.pointer none)) (lc := []) [0, 1001, 1002, 1003, 2, 1100, 1101, 1102, 1103, 1104] rfl (fun F _ => noC) (fun _ _ => noL) fun F => ?_
  have hl : f.ns.length + 1 = (f.ns ++ [b]).length := by rw [List.length_append]; rfl
  have hrow : List.take (f.ns.length * 1) (List.drop 0 (rowV encP f.ns)) ++ [AV.v (Value.pointer (some (Addr.mk b 0 none)))] = rowV encP (f.ns ++ [b]) := row_snoc f.ns b
  refine cast (congrArg (VAll _) (oStRNF_eq b s.nb f.ns f.ns.length f.lo f.lc f.se f.sc G (kset f.se f.sc b (cnt f.se b + 1)) (kbump f.se f.sc b) (cnt f.lo b) (cnt f.se b) F).symm) ⟨⟨?_, (fit_mk (vs' := [.tuple []]) (H' := uR (f.ns ++ [b]) (f.ns ++ [b]).length f.lo f.lc (kset f.se f.sc b (cnt f.se b + 1)) (kbump f.se f.sc b) G) [(1001, 1101), (1002, 1002), (1003, 1003)] rfl rfl (VW.refl _) ⟨⟨_, rfl, frC_ow (wk_sp hl rfl) rfl rfl rfl⟩, ⟨_, rfl, rP_ow hrow rfl⟩, ⟨_, rfl, fmO_ow rfl rfl⟩, ⟨_, rfl, fmO_ow rfl rfl⟩, ⟨_, rfl, OW.refl _⟩, trivial⟩).fits rfl⟩⟩
  have g1 := good_keys (G := G) iv b f.lo hbG h.lo
  have g2 := good_keys (G := G) iv b f.se hbG h.se
  have g3 := good_keys (G := G) iv b (kset f.se f.sc b (cnt f.se b + 1)) hbG (h.st1 b hbG false).se
  have w1 := wrap1 (h.lb b).1 (by have := (h.lb b).2; omega)
  have w2 := wrap1 (h.sb b).1 (by have := (h.sb b).2; omega)
  have c1 : cnt (kset f.se f.sc b (cnt f.se b + 1)) b = cnt f.se b + 1 := by rw [cnt_set, if_pos rfl]
  have e1 : (cnt f.se b + Int.ofNat 1 == Int.ofNat 1) = true := beqT (by rw [Int.ofNat_eq_natCast]; omega)
  have t1 := set_ow f.lo f.lc b (cnt f.lo b + 1)
  have t2 := set_ow f.se f.sc b (cnt f.se b + 1)
  have k1 := fc_nx (G := G) hs
  rw [hsb] at k1
  have k2 := look_none hs hk
  have hB1 : ((f.ns.length + 1) * 8).ble 140737488355328 = true := by rw [Nat.ble_eq]; unfold RoomP at hR; omega
  have hM : (f.ns.length + 1).ble 9223372036854775807 = true := by rw [Nat.ble_eq]; unfold RoomP at hR; omega
  have hin : (0 + f.ns.length * 1).ble (rowV encP f.ns).length = true := by rw [rP_len, Nat.ble_eq]; omega
  have hfull : (List.take (f.ns.length * 1) (List.drop 0 (rowV encP f.ns))).length.beq (f.ns.length * 1) = true := row_full encP_len f.ns
  clear hB
  clear hR
  simp only [Cnd.holds, fnd, c1, e1, hB1, hM, hin, hfull, Nat.blt_eq, true_and, and_true]
  and_intros
  all_goals first
    | exact g1
    | exact g2
    | exact g3
    | exact t1
    | exact t2
    | (with_reducible exact wk_int w1)
    | (with_reducible exact wk_int w2)
    | exact k1
    | exact k2 | (with_reducible first | exact trivial | exact rfl | exact Wk.refl _ | exact VW.refl _ | exact OW.refl _ | exact wk_lit _ | assumption) | exact rfl | exact Wk.refl _ | exact VW.refl _ | exact OW.refl _ | ((repeat (first | exact VW.nil | refine VW.cons (Wk.refl _) ?_ | refine VW.cons (Wk.any _) ?_ | refine VW.cons (wk_cap (Nat.le_refl _)) ?_)); done)
theorem stZCF_tri (G : List Nd) (B : Int) (f : Fr) (s : Nd) (hs : s ∈ G) (b : Nat) (hsb : s.b = b) (h : FrOK G B f) (hB : B ≤ 4611686018427387904) (hc : cnt f.se b = 0) (y : Nat) (hk : klook hash s.nx = some y) (g : Fr) (hrec : Tri Tryd.prog default fStand [.ptr 0 0, ptrV y, bv true] (uR (f.ns ++ [b]) (f.ns ++ [b]).length f.lo f.lc (kset f.se f.sc b (cnt f.se b + 1)) (kbump f.se f.sc b) G) (.tuple []) (uR g.ns g.ns.length g.lo g.lc g.se g.sc G)) (hz : f.ns = []) : Tri Tryd.prog default fStand [.ptr 0 0, ptrV b, bv false] (uZ f.lo f.lc f.se f.sc G) (.tuple []) (uR g.ns g.ns.length g.lo g.lc g.se g.sc G) := by
  have hbG : b ∈ G.map (·.b) := hsb ▸ List.mem_map_of_mem hs
  refine tri_run (con := [(fStand, cStU y (f.ns ++ [b]) (f.ns ++ [b]).length f.lo f.lc (kset f.se f.sc b (cnt f.se b + 1)) (kbump f.se f.sc b) G g.ns g.ns.length g.lo g.lc g.se g.sc)]) (hints := hSt false f.lo f.lc (kset f.se f.sc b (cnt f.se b + 1)) (kbump f.se f.sc b) (cnt f.lo b) (cnt f.se b) true true s.nb (pk y)) (lc := []) [0, 1001, 1002, 1003, 2, 1100, 1101, 1102, 1103, 1104] rfl (fun F _ => one_c (cStU_ok hrec F)) (fun _ _ => noL) fun F => ?_
  have hl : 1 = (f.ns ++ [b]).length := by rw [hz]; rfl
  have hrow : [AV.v (Value.pointer (some (Addr.mk b 0 none)))] = rowV encP (f.ns ++ [b]) := by rw [hz]; rfl
  refine cast (congrArg (VAll _) (oStZCF_eq b s.nb f.lo f.lc f.se f.sc G (kset f.se f.sc b (cnt f.se b + 1)) (kbump f.se f.sc b) (cnt f.lo b) (cnt f.se b) y (f.ns ++ [b]) g.ns (f.ns ++ [b]).length g.ns.length g.lo g.lc g.se g.sc F).symm) ⟨⟨?_, (fit_mk (vs' := [.tuple []]) (H' := uR g.ns g.ns.length g.lo g.lc g.se g.sc G) [(1001, 1102), (1002, 1103), (1003, 1104)] rfl rfl (VW.refl _) ⟨⟨_, rfl, frC_ow (wk_sp rfl rfl) rfl rfl rfl⟩, ⟨_, rfl, rP_ow (rens_rowV _ _) rfl⟩, ⟨_, rfl, fmO_ow (renE_fm _ _) rfl⟩, ⟨_, rfl, fmO_ow (renE_fm _ _) rfl⟩, ⟨_, rfl, OW.refl _⟩, trivial⟩).fits rfl⟩⟩
  have g1 := good_keys (G := G) iv b f.lo hbG h.lo
  have g2 := good_keys (G := G) iv b f.se hbG h.se
  have g3 := good_keys (G := G) iv b (kset f.se f.sc b (cnt f.se b + 1)) hbG (h.st1 b hbG false).se
  have w1 := wrap1 (h.lb b).1 (by have := (h.lb b).2; omega)
  have w2 := wrap1 (h.sb b).1 (by have := (h.sb b).2; omega)
  have c1 : cnt (kset f.se f.sc b (cnt f.se b + 1)) b = cnt f.se b + 1 := by rw [cnt_set, if_pos rfl]
  have e1 : (cnt f.se b + Int.ofNat 1 == Int.ofNat 1) = true := beqT (by rw [Int.ofNat_eq_natCast]; omega)
  have t1 := set_ow f.lo f.lc b (cnt f.lo b + 1)
  have t2 := set_ow f.se f.sc b (cnt f.se b + 1)
  have k1 := fc_nx (G := G) hs
  rw [hsb] at k1
  have k2 := look_some hs hk
  clear hB
  simp only [Cnd.holds, fnd, c1, e1, Nat.blt_eq, true_and, and_true]
  and_intros
  all_goals first
    | exact g1
    | exact g2
    | exact g3
    | exact t1
    | exact t2
    | (with_reducible exact wk_int w1)
    | (with_reducible exact wk_int w2)
    | exact k1
    | exact k2
    | exact ow_row hrow _
    | exact ow_fm _ _ _
    | (refine frH ?_; exact hl) | (with_reducible first | exact trivial | exact rfl | exact Wk.refl _ | exact VW.refl _ | exact OW.refl _ | exact wk_lit _ | assumption) | exact rfl | exact Wk.refl _ | exact VW.refl _ | exact OW.refl _ | ((repeat (first | exact VW.nil | refine VW.cons (Wk.refl _) ?_ | refine VW.cons (Wk.any _) ?_ | refine VW.cons (wk_cap (Nat.le_refl _)) ?_)); done)
theorem stRCF_tri (G : List Nd) (B : Int) (f : Fr) (s : Nd) (hs : s ∈ G) (b : Nat) (hsb : s.b = b) (h : FrOK G B f) (hB : B ≤ 4611686018427387904) (hc : cnt f.se b = 0) (hR : RoomP f.ns.length) (y : Nat) (hk : klook hash s.nx = some y) (g : Fr) (hrec : Tri Tryd.prog default fStand [.ptr 0 0, ptrV y, bv true] (uR (f.ns ++ [b]) (f.ns ++ [b]).length f.lo f.lc (kset f.se f.sc b (cnt f.se b + 1)) (kbump f.se f.sc b) G) (.tuple []) (uR g.ns g.ns.length g.lo g.lc g.se g.sc G)) : Tri Tryd.prog default fStand [.ptr 0 0, ptrV b, bv false] (uR f.ns f.ns.length f.lo f.lc f.se f.sc G) (.tuple []) (uR g.ns g.ns.length g.lo g.lc g.se g.sc G) := by
  have hbG : b ∈ G.map (·.b) := hsb ▸ List.mem_map_of_mem hs
  refine tri_run (con := [(fStand, cStU y (f.ns ++ [b]) (f.ns ++ [b]).length f.lo f.lc (kset f.se f.sc b (cnt f.se b + 1)) (kbump f.se f.sc b) G g.ns g.ns.length g.lo g.lc g.se g.sc)]) (hints := hSt false f.lo f.lc (kset f.se f.sc b (cnt f.se b + 1)) (kbump f.se f.sc b) (cnt f.lo b) (cnt f.se b) true true s.nb (pk y)) (lc := []) [0, 1001, 1002, 1003, 2, 1100, 1101, 1102, 1103, 1104] rfl (fun F _ => one_c (cStU_ok hrec F)) (fun _ _ => noL) fun F => ?_
  have hl : f.ns.length + 1 = (f.ns ++ [b]).length := by rw [List.length_append]; rfl
  have hrow : List.take (f.ns.length * 1) (List.drop 0 (rowV encP f.ns)) ++ [AV.v (Value.pointer (some (Addr.mk b 0 none)))] = rowV encP (f.ns ++ [b]) := row_snoc f.ns b
  refine cast (congrArg (VAll _) (oStRCF_eq b s.nb f.ns f.ns.length f.lo f.lc f.se f.sc G (kset f.se f.sc b (cnt f.se b + 1)) (kbump f.se f.sc b) (cnt f.lo b) (cnt f.se b) y (f.ns ++ [b]) g.ns (f.ns ++ [b]).length g.ns.length g.lo g.lc g.se g.sc F).symm) ⟨⟨?_, (fit_mk (vs' := [.tuple []]) (H' := uR g.ns g.ns.length g.lo g.lc g.se g.sc G) [(1001, 1102), (1002, 1103), (1003, 1104)] rfl rfl (VW.refl _) ⟨⟨_, rfl, frC_ow (wk_sp rfl rfl) rfl rfl rfl⟩, ⟨_, rfl, rP_ow (rens_rowV _ _) rfl⟩, ⟨_, rfl, fmO_ow (renE_fm _ _) rfl⟩, ⟨_, rfl, fmO_ow (renE_fm _ _) rfl⟩, ⟨_, rfl, OW.refl _⟩, trivial⟩).fits rfl⟩⟩
  have g1 := good_keys (G := G) iv b f.lo hbG h.lo
  have g2 := good_keys (G := G) iv b f.se hbG h.se
  have g3 := good_keys (G := G) iv b (kset f.se f.sc b (cnt f.se b + 1)) hbG (h.st1 b hbG false).se
  have w1 := wrap1 (h.lb b).1 (by have := (h.lb b).2; omega)
  have w2 := wrap1 (h.sb b).1 (by have := (h.sb b).2; omega)
  have c1 : cnt (kset f.se f.sc b (cnt f.se b + 1)) b = cnt f.se b + 1 := by rw [cnt_set, if_pos rfl]
  have e1 : (cnt f.se b + Int.ofNat 1 == Int.ofNat 1) = true := beqT (by rw [Int.ofNat_eq_natCast]; omega)
  have t1 := set_ow f.lo f.lc b (cnt f.lo b + 1)
  have t2 := set_ow f.se f.sc b (cnt f.se b + 1)
  have k1 := fc_nx (G := G) hs
  rw [hsb] at k1
  have k2 := look_some hs hk
  have hB1 : ((f.ns.length + 1) * 8).ble 140737488355328 = true := by rw [Nat.ble_eq]; unfold RoomP at hR; omega
  have hM : (f.ns.length + 1).ble 9223372036854775807 = true := by rw [Nat.ble_eq]; unfold RoomP at hR; omega
  have hin : (0 + f.ns.length * 1).ble (rowV encP f.ns).length = true := by rw [rP_len, Nat.ble_eq]; omega
  have hfull : (List.take (f.ns.length * 1) (List.drop 0 (rowV encP f.ns))).length.beq (f.ns.length * 1) = true := row_full encP_len f.ns
  clear hB
  clear hR
  simp only [Cnd.holds, fnd, c1, e1, hB1, hM, hin, hfull, Nat.blt_eq, true_and, and_true]
  and_intros
  all_goals first
    | exact g1
    | exact g2
    | exact g3
    | exact t1
    | exact t2
    | (with_reducible exact wk_int w1)
    | (with_reducible exact wk_int w2)
    | exact k1
    | exact k2
    | exact ow_row hrow _
    | exact ow_fm _ _ _
    | (refine frH ?_; exact hl) | (with_reducible first | exact trivial | exact rfl | exact Wk.refl _ | exact VW.refl _ | exact OW.refl _ | exact wk_lit _ | assumption) | exact rfl | exact Wk.refl _ | exact VW.refl _ | exact OW.refl _ | ((repeat (first | exact VW.nil | refine VW.cons (Wk.refl _) ?_ | refine VW.cons (Wk.any _) ?_ | refine VW.cons (wk_cap (Nat.le_refl _)) ?_)); done)
end Go.Proofs.YtbmoancedlbhlaaDoor.Tpc

/- Topic: a front's stand on a chain; a front whole; a new front. -/
set_option linter.unusedVariables false
set_option linter.unusedSimpArgs false
set_option maxRecDepth 100000
namespace Go.Proofs.YtbmoancedlbhlaaDoor.Tpc
open Go Go.RowKit Go.Proofs.YtbmoancedlbhlaaDoor.Eng Go.Proofs.YtbmoancedlbhlaaDoor.Kit
theorem fL_z {f : Fr} {G : List Nd} (h : f.ns = []) : fL f G = uZ f.lo f.lc f.se f.sc G := by
  unfold fL; rw [h]
theorem st1_ns (f : Fr) (b : Nat) (loop : Bool) : (st1 f b loop).ns = f.ns := by cases loop <;> rfl
theorem stand_rec {G : List Nd} {c : List Nat} (hc : Chain G c) : ∀ (B : Int) (f : Fr), FrOK G B f → B + c.length ≤ 4611686018427387904 → RoomP (f.ns.length + c.length) → ∀ b c', c = b :: c' → ∀ loop,
    Tri Tryd.prog default fStand [.ptr 0 0, ptrV b, bv loop] (fL f G) (.tuple []) (fL (standC c f loop) G) := by
  induction hc with
  | last s hs hk =>
    intro B f hf hB hR b c' he loop
    obtain ⟨rfl, rfl⟩ := List.cons.inj he
    have hB' : B ≤ 4611686018427387904 := by simp only [List.length_cons] at hB; omega
    have hRn : RoomP f.ns.length := by unfold RoomP at *; omega
    rw [standC]
    by_cases h0 : cnt f.se s.b = 0
    · rw [if_pos h0, standC]
      have e : fL (stN (st1 f s.b loop) s.b) G = uR (f.ns ++ [s.b]) (f.ns ++ [s.b]).length (st1 f s.b loop).lo (st1 f s.b loop).lc (st1 f s.b loop).se (st1 f s.b loop).sc G := by
        rw [fL_ne (by simp [stN])]
        simp only [stN, st1_ns]
      rw [e]
      by_cases hz : f.ns = []
      · rw [fL_z hz]
        cases loop with
        | true => exact stZNT_tri G B f s hs s.b rfl hf hB' h0 hk hz
        | false => exact stZNF_tri G B f s hs s.b rfl hf hB' h0 hk hz
      · rw [fL_ne hz]
        cases loop with
        | true => exact stRNT_tri G B f s hs s.b rfl hf hB' h0 hRn hk
        | false => exact stRNF_tri G B f s hs s.b rfl hf hB' h0 hRn hk
    · rw [if_neg h0]
      by_cases hz : f.ns = []
      · rw [fL_z hz, fL_z (by rw [st1_ns]; exact hz)]
        cases loop with
        | true => exact stSZT_tri G B f s hs s.b rfl hf hB' h0 hz
        | false => exact stSZF_tri G B f s hs s.b rfl hf hB' h0 hz
      · rw [fL_ne hz, fL_ne (by rw [st1_ns]; exact hz), st1_ns]
        cases loop with
        | true => exact stSRT_tri G B f s hs s.b rfl hf hB' h0 hRn
        | false => exact stSRF_tri G B f s hs s.b rfl hf hB' h0 hRn
  | more s hs y c2 hk hc ih =>
    intro B f hf hB hR b c' he loop
    obtain ⟨rfl, rfl⟩ := List.cons.inj he
    simp only [List.length_cons] at hB hR
    have hB' : B ≤ 4611686018427387904 := by omega
    have hRn : RoomP f.ns.length := by unfold RoomP at *; omega
    rw [standC]
    by_cases h0 : cnt f.se s.b = 0
    · rw [if_pos h0]
      have hf1 := (hf.st1 s.b (List.mem_map_of_mem hs) loop).stN s.b
      have hrec := ih (B + 1) (stN (st1 f s.b loop) s.b) hf1 (by simp only [List.length_cons]; omega) (by
        show RoomP (((st1 f s.b loop).ns ++ [s.b]).length + _)
        rw [st1_ns, List.length_append]
        simp only [List.length_cons, List.length_nil]
        unfold RoomP at *; omega) y c2 rfl true
      have hne : (stN (st1 f s.b loop) s.b).ns ≠ [] := by simp [stN]
      rw [fL_ne hne, fL_ne (standC_ne hne)] at hrec
      rw [fL_ne (standC_ne hne)]
      have hns : (stN (st1 f s.b loop) s.b).ns = f.ns ++ [s.b] := by simp only [stN, st1_ns]
      rw [hns] at hrec
      by_cases hz : f.ns = []
      · rw [fL_z hz]
        cases loop with
        | true => exact stZCT_tri G B f s hs s.b rfl hf hB' h0 y hk _ hrec hz
        | false => exact stZCF_tri G B f s hs s.b rfl hf hB' h0 y hk _ hrec hz
      · rw [fL_ne hz]
        cases loop with
        | true => exact stRCT_tri G B f s hs s.b rfl hf hB' h0 hRn y hk _ hrec
        | false => exact stRCF_tri G B f s hs s.b rfl hf hB' h0 hRn y hk _ hrec
    · rw [if_neg h0]
      by_cases hz : f.ns = []
      · rw [fL_z hz, fL_z (by rw [st1_ns]; exact hz)]
        cases loop with
        | true => exact stSZT_tri G B f s hs s.b rfl hf hB' h0 hz
        | false => exact stSZF_tri G B f s hs s.b rfl hf hB' h0 hz
      · rw [fL_ne hz, fL_ne (by rw [st1_ns]; exact hz), st1_ns]
        cases loop with
        | true => exact stSRT_tri G B f s hs s.b rfl hf hB' h0 hRn
        | false => exact stSRF_tri G B f s hs s.b rfl hf hB' h0 hRn
/-! A front whole. -/
noncomputable section
def fl0 (f : Fr) : LH := match f.ns with
  | [] => [(0, frC nilV), (1002, fmO f.lo f.lc), (1003, fmO f.se f.sc)]
  | _ => [(0, frC (sP 1001 f.ns.length)), (1001, rP f.ns), (1002, fmO f.lo f.lc), (1003, fmO f.se f.sc)]
def frHP (f : Fr) : Nat → Nat → HP := exHP (fun _ : Unit => True) (fun _ => fl0 f)
def frO (f : Fr) : AO := .own (.front f) (frHP f)
def fr0 : Fr := ⟨[], [], 0, [], 0⟩
abbrev fNewF : Nat := 23
end
theorem fl0_app (f : Fr) (G : List Nd) : fl0 f ++ [(2, famO G)] = fL f G := by
  unfold fl0 fL
  cases f.ns <;> rfl
theorem fl0_own (f : Fr) (G : List Nd) : ownL [(2, famO G)] (fl0 f) = true := by
  unfold fl0
  cases f.ns <;> rfl
theorem fl0_cl (f : Fr) : ∀ x ∈ fl0 f, x.2.cl (kH (fl0 f)) := by
  unfold fl0
  cases f.ns with
  | nil => exact all_cons ⟨trivial, rfl, rfl, trivial⟩ (all_cons (fmO_cl _ _ _) (all_cons (fmO_cl _ _ _) all_nil))
  | cons b l => exact all_cons ⟨rfl, rfl, rfl, trivial⟩ (all_cons (rP_cl _ _) (all_cons (fmO_cl _ _ _) (all_cons (fmO_cl _ _ _) all_nil)))
theorem open_fr {fn : FuncId} {A : List AV} {f : Fr} {G : List Nd} {v : AV} {H' : LH} (h : Tri Tryd.prog default fn A (fL f G) v H') : Tri Tryd.prog default fn A [(0, frO f), (2, famO G)] v H' := by
  refine Tri.open (σ := Unit) (R := fun _ => True) (L := fun _ => fl0 f) (H0 := [(2, famO G)]) (fun _ => ?_) (fun _ => fl0_cl f) (fun _ => ?_) (fun _ _ => ?_)
  · exact fl0_own f G
  · unfold fl0; cases f.ns <;> exact ⟨_, rfl⟩
  · rw [fl0_app]; exact h
theorem shut_fr (f : Fr) (G : List Nd) (v : AV) (hv : ∀ K : Nat → Bool, AV.cls K [v]) : Goes [v] (fL f G) [v] [(0, frO f), (2, famO G)] := by
  rw [← fl0_app]
  refine Goes.shut (σ := Unit) (R := fun _ => True) (L := fun _ => fl0 f) (m := .front f) (H0 := [(2, famO G)]) (vs := [v]) () trivial (fl0_own f G) ?_ (hv _) (all_cons (famO_cl _ _) all_nil)
  unfold fl0; cases f.ns <;> exact ⟨_, _, rfl, rfl⟩
theorem Astand_tri {G : List Nd} {b : Nat} {c : List Nat} (hc : Chain G (b :: c)) (B : Int) (f : Fr) (hf : FrOK G B f) (hB : B + (b :: c).length ≤ 4611686018427387904) (hR : RoomP (f.ns.length + (b :: c).length)) (loop : Bool) :
    Tri Tryd.prog default fStand [.ptr 0 0, ptrV b, bv loop] [(0, frO f), (2, famO G)] (.tuple []) [(0, frO (standC (b :: c) f loop)), (2, famO G)] :=
  open_fr (Tri.post (stand_rec hc B f hf hB hR b c rfl loop) (shut_fr _ _ _ fun K => ⟨trivial, trivial⟩))
noncomputable section
theorem oNewF_eq (F : HP) : wRun [] noHints [] default fNewF [] [] [1100, 1101, 1102, 1103] F = VT.leaf (AV.ptr 1102 0) [some (AO.map [] 0),some (AO.map [] 0),some (AO.cells [AV.v (Value.slice none 0 0),AV.map 1100,AV.map 1101] 116),none] 1103 t' := by kernel_rfl
end
theorem AnewF_tri : Tri Tryd.prog default fNewF [] [] (.ptr 1000 0) [(1000, frO fr0)] := by
  refine tri_run (con := []) (hints := noHints) (lc := []) [1100, 1101, 1102, 1103] rfl (fun F _ => noC) (fun _ _ => noL) fun F => ?_
  refine cast (congrArg (VAll _) (oNewF_eq F).symm) ⟨⟨?_, [.ptr 1000 0], renL 1000 (fl0 fr0), [(1000, 1102), (1002, 1100), (1003, 1101)], by kernel_rfl, fit_mk _ (by kernel_rfl) (by kernel_rfl) (VW.refl _) ⟨⟨_, rfl, OW.refl _⟩, ⟨_, rfl, OW.refl _⟩, ⟨_, rfl, OW.refl _⟩, trivial⟩, ?_⟩⟩
  · simp only [Cnd.holds, Nat.blt_eq, true_and, and_true]
    and_intros
    all_goals first | (with_reducible first | exact trivial | exact rfl | exact Wk.refl _ | exact VW.refl _ | exact OW.refl _ | exact wk_lit _ | assumption) | exact rfl | exact Wk.refl _ | exact VW.refl _ | exact OW.refl _ | ((repeat (first | exact VW.nil | refine VW.cons (Wk.refl _) ?_ | refine VW.cons (Wk.any _) ?_ | refine VW.cons (wk_cap (Nat.le_refl _)) ?_)); done)
  · exact Goes.shutNew (σ := Unit) (R := fun _ => True) (L := fun _ => fl0 fr0) (m := .front fr0) 1000 (by decide) (vs := [.ptr 1000 0]) () trivial rfl rfl ⟨_, _, rfl, rfl⟩ ⟨rfl, trivial⟩
end Go.Proofs.YtbmoancedlbhlaaDoor.Tpc

/- Topic: a front's step: runs. -/
set_option linter.unusedVariables false
set_option linter.unusedSimpArgs false
set_option maxRecDepth 100000
namespace Go.Proofs.YtbmoancedlbhlaaDoor.Tpc
open Go Go.RowKit Go.Proofs.YtbmoancedlbhlaaDoor.Eng Go.Proofs.YtbmoancedlbhlaaDoor.Kit
noncomputable def chOf (G : List Nd) (b : Nat) : List Nat := by
  classical
  exact if h : ∃ c, Chain G (b :: c) then b :: h.choose else [b]
noncomputable section
abbrev fStep : Nat := 25
structure StP where
  r : Nat
  b : Nat
  loop : Bool
  f : Fr
def gSt : List AV → AP StP := fun args => match args with
  | [.ptr r0 _, .v (.pointer (some a)), .v (.bool loop)] => .read r0 fun o => match o with
    | .own (.front f) _ => .ret ⟨r0, a.block, loop, f⟩
    | _ => .fail "stand"
  | _ => .fail "stand"
structure StPre (G : List Nd) (f : Fr) (b : Nat) : Prop where
  ch : Chain G (chOf G b)
  ok : ∃ B, FrOK G B f ∧ B + (chOf G b).length ≤ 4611686018427387904 ∧ RoomP (f.ns.length + (chOf G b).length)
def nm2 (p q : Nat) : Nat → Nat := fun k => match Nat.beq k 0 with
  | true => p
  | false => q
def cStO (G : List Nd) (fm : Nat) : List AV → Option (AP AV) := mkC gSt (fun p => StPre G p.f p.b) (fun p => nm2 p.r fm) (fun p => [.ptr 0 0, ptrV p.b, bv p.loop]) (fun p => [(0, frO p.f), (2, famO G)]) (fun p => .leaf .ret [.tuple []] [(0, frO (standC (chOf G p.b) p.f p.loop)), (2, famO G)])
def oSp (ns : List Nat) (n : Nat) (lo : KMap Nat Int) (lc : Nat) (se : KMap Nat Int) (sc : Nat) (t : Fr) (G : List Nd) : LH := [(0, .cells [sP 3 n, .map 4, .map 5] tFront), (1, frO t), (2, famO G), (3, rP ns), (4, fmO lo lc), (5, fmO se sc)]
def aSp (n i : Nat) (w : ByteArray) : List (Nat × AV) := [(0, .ptr 0 0), (1, sv w), (5, .ptr 1 0), (13, sP 3 n), (14, iv (Int.ofNat n)), (15, iv (Int.ofNat i))]
def hSp (i b nb : Nat) (cl : Int) (q1 q2 r1 r2 q3 : Bool) (y1 y2 : Value) : ClaimT := hintL [(fStep, 3, 0, hv (.lit true)), (fStep, 4, 1, hv (ptrV b)), (fStep, 5, 5, h0v (iv cl)), (fStep, 5, 6, hv (.lit q1)), (fStep, 7, 3, hf (mpV nb)), (fStep, 7, 4, hf y1), (fStep, 8, 1, hv (.lit q2)),
  (fStep, 10, 1, hv (.lit r1)), (fStep, 10, 4, hv (.lit r2)), (fStep, 10, 5, hv (.lit (r1 && r2))), (fStep, 10, 10, hf (mpV nb)), (fStep, 10, 12, hf y2), (fStep, 10, 13, hv (.lit q3)), (fStep, 10, 14, hv (.lit (r1 && r2 && q3))), (fStep, 11, 4, hf (mpV nb)), (fStep, 11, 6, hf y2), (fStep, 12, 0, hv (iv (Int.ofNat (i + 1))))]
theorem oSp110_eq (ns : List Nat) (n : Nat) (lo : KMap Nat Int) (lc : Nat) (se : KMap Nat Int) (sc : Nat) (t : Fr) (G : List Nd) (w : ByteArray) (i b nb : Nat) (cl : Int) (y1 : Nat) (F : HP) : wLoop [(fStand, cStO G 2)] (hSp i b nb cl true true false false false (pk y1) (.pointer none)) [] default fStep (loopN fStep 3) (tms 0 64 (aSp n i w)) (oSp ns n lo lc se sc t G) [0, 1, 2, 3, 4, 5] [0, 1, 5, 13, 14, 15] F = VT.leaf (AX.normal,[AV.ptr 0 0,s' w,AV.ptr 1 0,AV.slice 3 0 n 1 (Cp.lo n),i' n,i' (i + 1)],64) [some (AO.cells [AV.slice 3 0 n 1 (Cp.lo n),AV.map 4,AV.map 5] 116),some (AO.own (Md.front (standC (chOf G y1) (standC (chOf G b) t true) false)) (frHP (standC (chOf G y1) (standC (chOf G b) t true) false))),some (AO.any (famN G)),some (AO.cells (rowV encP ns) 84),some (AO.map (kE pk iv lo) lc),some (AO.map (kE pk iv se) sc)] 1100 (((p' (Wk (b' (decide (Int.ofNat i < Int.ofNat n))) (AV.lit true))).a t').a (((p' (i.blt n = true)).a t').a (((p' ((0 + i * 1).blt (rowV encP ns).length = true)).a ((p' (Wk ((rowV encP ns).getD (0 + i * 1) (u')) (AV.v (Value.pointer (some (Addr.mk b 0 none)))))).a t')).a (((p' (true = true)).a t').a (((p' (GoodAt (AO.any (famN G)) (AV.v (Value.pointer (some (Addr.mk b 0 none)))) (kE pk iv lo))).a ((p' (foundX (findS (AV.v (Value.pointer (some (Addr.mk b 0 none)))) (kE pk iv lo) 0) (Value.int IntKind.i64 (Int.ofNat 0)) = AV.v (Value.int IntKind.i64 (foundX (findS (AV.v (Value.pointer (some (Addr.mk b 0 none)))) (kE pk iv lo) 0) (Value.int IntKind.i64 (Int.ofNat 0))).intOf))).a ((p' (Wk (AV.v (Value.int IntKind.i64 (foundX (findS (AV.v (Value.pointer (some (Addr.mk b 0 none)))) (kE pk iv lo) 0) (Value.int IntKind.i64 (Int.ofNat 0))).intOf)) (z' cl))).a t'))).a (((p' (Wk (b' (decide (cl > Int.ofNat 0))) (AV.lit true))).a t').a (((p' (StPre G t b)).a ((p' (VW [AV.ptr 1 0,AV.v (Value.pointer (some (Addr.mk b 0 none))),b' true] [AV.ptr 1 0,AV.v (Value.pointer (some (Addr.mk b 0 none))),b' true])).a ((p' (OW (AO.own (Md.front t) (frHP t)) (AO.own (Md.front t) (frHP t)))).a ((p' (OW (AO.any (famN G)) (AO.any (famN G)))).a t')))).a (((p' (FactAt Tryd.prog (AO.any (famN G)) (Fc.load 46 (Addr.mk b 0 none) (Value.map (some nb))))).a t').a (((p' (FactAt Tryd.prog (AO.any (famN G)) (Fc.look 46 nb (Value.string (ByteArray.mk (Array.mk [42]))) (Value.pointer (some (Addr.mk y1 0 none)))))).a t').a (((p' (Wk (b' true) (AV.lit true))).a t').a (((p' (StPre G (standC (chOf G b) t true) y1)).a ((p' (VW [AV.ptr 1 0,AV.v (Value.pointer (some (Addr.mk y1 0 none))),b' false] [AV.ptr 1 0,AV.v (Value.pointer (some (Addr.mk y1 0 none))),b' false])).a ((p' (OW (AO.own (Md.front (standC (chOf G b) t true)) (frHP (standC (chOf G b) t true))) (AO.own (Md.front (standC (chOf G b) t true)) (frHP (standC (chOf G b) t true))))).a ((p' (OW (AO.any (famN G)) (AO.any (famN G)))).a t')))).a (((p' (Wk (AV.v (Value.bool !w.toList == [(ByteArray.mk (Array.mk [42])).get! 0])) (AV.lit false))).a t').a (((p' (Wk (AV.lit false) (AV.lit false))).a t').a (((p' (Wk (AV.lit false) (AV.lit false))).a t').a (((p' (Wk (z' (IntKind.i64.wrap (Int.ofNat i + Int.ofNat 1))) (i' (i + 1)))).a t').a t'))))))))))))))) := by kernel_rfl
theorem oSp111_eq (ns : List Nat) (n : Nat) (lo : KMap Nat Int) (lc : Nat) (se : KMap Nat Int) (sc : Nat) (t : Fr) (G : List Nd) (w : ByteArray) (i b nb : Nat) (cl : Int) (y1 : Nat) (F : HP) : wLoop [(fStand, cStO G 2)] (hSp i b nb cl true true true false false (pk y1) (.pointer none)) [] default fStep (loopN fStep 3) (tms 0 64 (aSp n i w)) (oSp ns n lo lc se sc t G) [0, 1, 2, 3, 4, 5] [0, 1, 5, 13, 14, 15] F = VT.leaf (AX.normal,[AV.ptr 0 0,s' w,AV.ptr 1 0,AV.slice 3 0 n 1 (Cp.lo n),i' n,i' (i + 1)],64) [some (AO.cells [AV.slice 3 0 n 1 (Cp.lo n),AV.map 4,AV.map 5] 116),some (AO.own (Md.front (standC (chOf G y1) (standC (chOf G b) t true) false)) (frHP (standC (chOf G y1) (standC (chOf G b) t true) false))),some (AO.any (famN G)),some (AO.cells (rowV encP ns) 84),some (AO.map (kE pk iv lo) lc),some (AO.map (kE pk iv se) sc)] 1100 (((p' (Wk (b' (decide (Int.ofNat i < Int.ofNat n))) (AV.lit true))).a t').a (((p' (i.blt n = true)).a t').a (((p' ((0 + i * 1).blt (rowV encP ns).length = true)).a ((p' (Wk ((rowV encP ns).getD (0 + i * 1) (u')) (AV.v (Value.pointer (some (Addr.mk b 0 none)))))).a t')).a (((p' (true = true)).a t').a (((p' (GoodAt (AO.any (famN G)) (AV.v (Value.pointer (some (Addr.mk b 0 none)))) (kE pk iv lo))).a ((p' (foundX (findS (AV.v (Value.pointer (some (Addr.mk b 0 none)))) (kE pk iv lo) 0) (Value.int IntKind.i64 (Int.ofNat 0)) = AV.v (Value.int IntKind.i64 (foundX (findS (AV.v (Value.pointer (some (Addr.mk b 0 none)))) (kE pk iv lo) 0) (Value.int IntKind.i64 (Int.ofNat 0))).intOf))).a ((p' (Wk (AV.v (Value.int IntKind.i64 (foundX (findS (AV.v (Value.pointer (some (Addr.mk b 0 none)))) (kE pk iv lo) 0) (Value.int IntKind.i64 (Int.ofNat 0))).intOf)) (z' cl))).a t'))).a (((p' (Wk (b' (decide (cl > Int.ofNat 0))) (AV.lit true))).a t').a (((p' (StPre G t b)).a ((p' (VW [AV.ptr 1 0,AV.v (Value.pointer (some (Addr.mk b 0 none))),b' true] [AV.ptr 1 0,AV.v (Value.pointer (some (Addr.mk b 0 none))),b' true])).a ((p' (OW (AO.own (Md.front t) (frHP t)) (AO.own (Md.front t) (frHP t)))).a ((p' (OW (AO.any (famN G)) (AO.any (famN G)))).a t')))).a (((p' (FactAt Tryd.prog (AO.any (famN G)) (Fc.load 46 (Addr.mk b 0 none) (Value.map (some nb))))).a t').a (((p' (FactAt Tryd.prog (AO.any (famN G)) (Fc.look 46 nb (Value.string (ByteArray.mk (Array.mk [42]))) (Value.pointer (some (Addr.mk y1 0 none)))))).a t').a (((p' (Wk (b' true) (AV.lit true))).a t').a (((p' (StPre G (standC (chOf G b) t true) y1)).a ((p' (VW [AV.ptr 1 0,AV.v (Value.pointer (some (Addr.mk y1 0 none))),b' false] [AV.ptr 1 0,AV.v (Value.pointer (some (Addr.mk y1 0 none))),b' false])).a ((p' (OW (AO.own (Md.front (standC (chOf G b) t true)) (frHP (standC (chOf G b) t true))) (AO.own (Md.front (standC (chOf G b) t true)) (frHP (standC (chOf G b) t true))))).a ((p' (OW (AO.any (famN G)) (AO.any (famN G)))).a t')))).a (((p' (Wk (AV.v (Value.bool !w.toList == [(ByteArray.mk (Array.mk [42])).get! 0])) (AV.lit true))).a t').a (((p' (Wk (AV.v (Value.bool !w.toList == [(ByteArray.mk (Array.mk [35])).get! 0])) (AV.lit false))).a t').a (((p' (Wk (AV.lit false) (AV.lit false))).a t').a (((p' (Wk (AV.lit false) (AV.lit false))).a t').a (((p' (Wk (z' (IntKind.i64.wrap (Int.ofNat i + Int.ofNat 1))) (i' (i + 1)))).a t').a t')))))))))))))))) := by kernel_rfl
theorem oSp112_eq (ns : List Nat) (n : Nat) (lo : KMap Nat Int) (lc : Nat) (se : KMap Nat Int) (sc : Nat) (t : Fr) (G : List Nd) (w : ByteArray) (i b nb : Nat) (cl : Int) (y1 : Nat) (F : HP) : wLoop [(fStand, cStO G 2)] (hSp i b nb cl true true true true false (pk y1) (.pointer none)) [] default fStep (loopN fStep 3) (tms 0 64 (aSp n i w)) (oSp ns n lo lc se sc t G) [0, 1, 2, 3, 4, 5] [0, 1, 5, 13, 14, 15] F = VT.leaf (AX.normal,[AV.ptr 0 0,s' w,AV.ptr 1 0,AV.slice 3 0 n 1 (Cp.lo n),i' n,i' (i + 1)],64) [some (AO.cells [AV.slice 3 0 n 1 (Cp.lo n),AV.map 4,AV.map 5] 116),some (AO.own (Md.front (standC (chOf G y1) (standC (chOf G b) t true) false)) (frHP (standC (chOf G y1) (standC (chOf G b) t true) false))),some (AO.any (famN G)),some (AO.cells (rowV encP ns) 84),some (AO.map (kE pk iv lo) lc),some (AO.map (kE pk iv se) sc)] 1100 (((p' (Wk (b' (decide (Int.ofNat i < Int.ofNat n))) (AV.lit true))).a t').a (((p' (i.blt n = true)).a t').a (((p' ((0 + i * 1).blt (rowV encP ns).length = true)).a ((p' (Wk ((rowV encP ns).getD (0 + i * 1) (u')) (AV.v (Value.pointer (some (Addr.mk b 0 none)))))).a t')).a (((p' (true = true)).a t').a (((p' (GoodAt (AO.any (famN G)) (AV.v (Value.pointer (some (Addr.mk b 0 none)))) (kE pk iv lo))).a ((p' (foundX (findS (AV.v (Value.pointer (some (Addr.mk b 0 none)))) (kE pk iv lo) 0) (Value.int IntKind.i64 (Int.ofNat 0)) = AV.v (Value.int IntKind.i64 (foundX (findS (AV.v (Value.pointer (some (Addr.mk b 0 none)))) (kE pk iv lo) 0) (Value.int IntKind.i64 (Int.ofNat 0))).intOf))).a ((p' (Wk (AV.v (Value.int IntKind.i64 (foundX (findS (AV.v (Value.pointer (some (Addr.mk b 0 none)))) (kE pk iv lo) 0) (Value.int IntKind.i64 (Int.ofNat 0))).intOf)) (z' cl))).a t'))).a (((p' (Wk (b' (decide (cl > Int.ofNat 0))) (AV.lit true))).a t').a (((p' (StPre G t b)).a ((p' (VW [AV.ptr 1 0,AV.v (Value.pointer (some (Addr.mk b 0 none))),b' true] [AV.ptr 1 0,AV.v (Value.pointer (some (Addr.mk b 0 none))),b' true])).a ((p' (OW (AO.own (Md.front t) (frHP t)) (AO.own (Md.front t) (frHP t)))).a ((p' (OW (AO.any (famN G)) (AO.any (famN G)))).a t')))).a (((p' (FactAt Tryd.prog (AO.any (famN G)) (Fc.load 46 (Addr.mk b 0 none) (Value.map (some nb))))).a t').a (((p' (FactAt Tryd.prog (AO.any (famN G)) (Fc.look 46 nb (Value.string (ByteArray.mk (Array.mk [42]))) (Value.pointer (some (Addr.mk y1 0 none)))))).a t').a (((p' (Wk (b' true) (AV.lit true))).a t').a (((p' (StPre G (standC (chOf G b) t true) y1)).a ((p' (VW [AV.ptr 1 0,AV.v (Value.pointer (some (Addr.mk y1 0 none))),b' false] [AV.ptr 1 0,AV.v (Value.pointer (some (Addr.mk y1 0 none))),b' false])).a ((p' (OW (AO.own (Md.front (standC (chOf G b) t true)) (frHP (standC (chOf G b) t true))) (AO.own (Md.front (standC (chOf G b) t true)) (frHP (standC (chOf G b) t true))))).a ((p' (OW (AO.any (famN G)) (AO.any (famN G)))).a t')))).a (((p' (Wk (AV.v (Value.bool !w.toList == [(ByteArray.mk (Array.mk [42])).get! 0])) (AV.lit true))).a t').a (((p' (Wk (AV.v (Value.bool !w.toList == [(ByteArray.mk (Array.mk [35])).get! 0])) (AV.lit true))).a t').a (((p' (Wk (AV.lit true) (AV.lit true))).a t').a (((p' (FactAt Tryd.prog (AO.any (famN G)) (Fc.load 46 (Addr.mk b 0 none) (Value.map (some nb))))).a t').a (((p' (FactAt Tryd.prog (AO.any (famN G)) (Fc.look 46 nb (Value.string w) (Value.pointer none)))).a t').a (((p' (Wk (b' false) (AV.lit false))).a t').a (((p' (Wk (AV.lit false) (AV.lit false))).a t').a (((p' (Wk (z' (IntKind.i64.wrap (Int.ofNat i + Int.ofNat 1))) (i' (i + 1)))).a t').a t'))))))))))))))))))) := by kernel_rfl
theorem oSp113_eq (ns : List Nat) (n : Nat) (lo : KMap Nat Int) (lc : Nat) (se : KMap Nat Int) (sc : Nat) (t : Fr) (G : List Nd) (w : ByteArray) (i b nb : Nat) (cl : Int) (y1 : Nat) (y2 : Nat) (F : HP) : wLoop [(fStand, cStO G 2)] (hSp i b nb cl true true true true true (pk y1) (pk y2)) [] default fStep (loopN fStep 3) (tms 0 64 (aSp n i w)) (oSp ns n lo lc se sc t G) [0, 1, 2, 3, 4, 5] [0, 1, 5, 13, 14, 15] F = VT.leaf (AX.normal,[AV.ptr 0 0,s' w,AV.ptr 1 0,AV.slice 3 0 n 1 (Cp.lo n),i' n,i' (i + 1)],64) [some (AO.cells [AV.slice 3 0 n 1 (Cp.lo n),AV.map 4,AV.map 5] 116),some (AO.own (Md.front (standC (chOf G y2) (standC (chOf G y1) (standC (chOf G b) t true) false) false)) (frHP (standC (chOf G y2) (standC (chOf G y1) (standC (chOf G b) t true) false) false))),some (AO.any (famN G)),some (AO.cells (rowV encP ns) 84),some (AO.map (kE pk iv lo) lc),some (AO.map (kE pk iv se) sc)] 1100 (((p' (Wk (b' (decide (Int.ofNat i < Int.ofNat n))) (AV.lit true))).a t').a (((p' (i.blt n = true)).a t').a (((p' ((0 + i * 1).blt (rowV encP ns).length = true)).a ((p' (Wk ((rowV encP ns).getD (0 + i * 1) (u')) (AV.v (Value.pointer (some (Addr.mk b 0 none)))))).a t')).a (((p' (true = true)).a t').a (((p' (GoodAt (AO.any (famN G)) (AV.v (Value.pointer (some (Addr.mk b 0 none)))) (kE pk iv lo))).a ((p' (foundX (findS (AV.v (Value.pointer (some (Addr.mk b 0 none)))) (kE pk iv lo) 0) (Value.int IntKind.i64 (Int.ofNat 0)) = AV.v (Value.int IntKind.i64 (foundX (findS (AV.v (Value.pointer (some (Addr.mk b 0 none)))) (kE pk iv lo) 0) (Value.int IntKind.i64 (Int.ofNat 0))).intOf))).a ((p' (Wk (AV.v (Value.int IntKind.i64 (foundX (findS (AV.v (Value.pointer (some (Addr.mk b 0 none)))) (kE pk iv lo) 0) (Value.int IntKind.i64 (Int.ofNat 0))).intOf)) (z' cl))).a t'))).a (((p' (Wk (b' (decide (cl > Int.ofNat 0))) (AV.lit true))).a t').a (((p' (StPre G t b)).a ((p' (VW [AV.ptr 1 0,AV.v (Value.pointer (some (Addr.mk b 0 none))),b' true] [AV.ptr 1 0,AV.v (Value.pointer (some (Addr.mk b 0 none))),b' true])).a ((p' (OW (AO.own (Md.front t) (frHP t)) (AO.own (Md.front t) (frHP t)))).a ((p' (OW (AO.any (famN G)) (AO.any (famN G)))).a t')))).a (((p' (FactAt Tryd.prog (AO.any (famN G)) (Fc.load 46 (Addr.mk b 0 none) (Value.map (some nb))))).a t').a (((p' (FactAt Tryd.prog (AO.any (famN G)) (Fc.look 46 nb (Value.string (ByteArray.mk (Array.mk [42]))) (Value.pointer (some (Addr.mk y1 0 none)))))).a t').a (((p' (Wk (b' true) (AV.lit true))).a t').a (((p' (StPre G (standC (chOf G b) t true) y1)).a ((p' (VW [AV.ptr 1 0,AV.v (Value.pointer (some (Addr.mk y1 0 none))),b' false] [AV.ptr 1 0,AV.v (Value.pointer (some (Addr.mk y1 0 none))),b' false])).a ((p' (OW (AO.own (Md.front (standC (chOf G b) t true)) (frHP (standC (chOf G b) t true))) (AO.own (Md.front (standC (chOf G b) t true)) (frHP (standC (chOf G b) t true))))).a ((p' (OW (AO.any (famN G)) (AO.any (famN G)))).a t')))).a (((p' (Wk (AV.v (Value.bool !w.toList == [(ByteArray.mk (Array.mk [42])).get! 0])) (AV.lit true))).a t').a (((p' (Wk (AV.v (Value.bool !w.toList == [(ByteArray.mk (Array.mk [35])).get! 0])) (AV.lit true))).a t').a (((p' (Wk (AV.lit true) (AV.lit true))).a t').a (((p' (FactAt Tryd.prog (AO.any (famN G)) (Fc.load 46 (Addr.mk b 0 none) (Value.map (some nb))))).a t').a (((p' (FactAt Tryd.prog (AO.any (famN G)) (Fc.look 46 nb (Value.string w) (Value.pointer (some (Addr.mk y2 0 none)))))).a t').a (((p' (Wk (b' true) (AV.lit true))).a t').a (((p' (Wk (AV.lit true) (AV.lit true))).a t').a (((p' (FactAt Tryd.prog (AO.any (famN G)) (Fc.load 46 (Addr.mk b 0 none) (Value.map (some nb))))).a t').a (((p' (FactAt Tryd.prog (AO.any (famN G)) (Fc.look 46 nb (Value.string w) (Value.pointer (some (Addr.mk y2 0 none)))))).a t').a (((p' (StPre G (standC (chOf G y1) (standC (chOf G b) t true) false) y2)).a ((p' (VW [AV.ptr 1 0,AV.v (Value.pointer (some (Addr.mk y2 0 none))),b' false] [AV.ptr 1 0,AV.v (Value.pointer (some (Addr.mk y2 0 none))),b' false])).a ((p' (OW (AO.own (Md.front (standC (chOf G y1) (standC (chOf G b) t true) false)) (frHP (standC (chOf G y1) (standC (chOf G b) t true) false))) (AO.own (Md.front (standC (chOf G y1) (standC (chOf G b) t true) false)) (frHP (standC (chOf G y1) (standC (chOf G b) t true) false))))).a ((p' (OW (AO.any (famN G)) (AO.any (famN G)))).a t')))).a (((p' (Wk (z' (IntKind.i64.wrap (Int.ofNat i + Int.ofNat 1))) (i' (i + 1)))).a t').a t')))))))))))))))))))))) := by kernel_rfl
theorem oSp100_eq (ns : List Nat) (n : Nat) (lo : KMap Nat Int) (lc : Nat) (se : KMap Nat Int) (sc : Nat) (t : Fr) (G : List Nd) (w : ByteArray) (i b nb : Nat) (cl : Int) (F : HP) : wLoop [(fStand, cStO G 2)] (hSp i b nb cl true false false false false (.pointer none) (.pointer none)) [] default fStep (loopN fStep 3) (tms 0 64 (aSp n i w)) (oSp ns n lo lc se sc t G) [0, 1, 2, 3, 4, 5] [0, 1, 5, 13, 14, 15] F = VT.leaf (AX.normal,[AV.ptr 0 0,s' w,AV.ptr 1 0,AV.slice 3 0 n 1 (Cp.lo n),i' n,i' (i + 1)],64) [some (AO.cells [AV.slice 3 0 n 1 (Cp.lo n),AV.map 4,AV.map 5] 116),some (AO.own (Md.front (standC (chOf G b) t true)) (frHP (standC (chOf G b) t true))),some (AO.any (famN G)),some (AO.cells (rowV encP ns) 84),some (AO.map (kE pk iv lo) lc),some (AO.map (kE pk iv se) sc)] 1100 (((p' (Wk (b' (decide (Int.ofNat i < Int.ofNat n))) (AV.lit true))).a t').a (((p' (i.blt n = true)).a t').a (((p' ((0 + i * 1).blt (rowV encP ns).length = true)).a ((p' (Wk ((rowV encP ns).getD (0 + i * 1) (u')) (AV.v (Value.pointer (some (Addr.mk b 0 none)))))).a t')).a (((p' (true = true)).a t').a (((p' (GoodAt (AO.any (famN G)) (AV.v (Value.pointer (some (Addr.mk b 0 none)))) (kE pk iv lo))).a ((p' (foundX (findS (AV.v (Value.pointer (some (Addr.mk b 0 none)))) (kE pk iv lo) 0) (Value.int IntKind.i64 (Int.ofNat 0)) = AV.v (Value.int IntKind.i64 (foundX (findS (AV.v (Value.pointer (some (Addr.mk b 0 none)))) (kE pk iv lo) 0) (Value.int IntKind.i64 (Int.ofNat 0))).intOf))).a ((p' (Wk (AV.v (Value.int IntKind.i64 (foundX (findS (AV.v (Value.pointer (some (Addr.mk b 0 none)))) (kE pk iv lo) 0) (Value.int IntKind.i64 (Int.ofNat 0))).intOf)) (z' cl))).a t'))).a (((p' (Wk (b' (decide (cl > Int.ofNat 0))) (AV.lit true))).a t').a (((p' (StPre G t b)).a ((p' (VW [AV.ptr 1 0,AV.v (Value.pointer (some (Addr.mk b 0 none))),b' true] [AV.ptr 1 0,AV.v (Value.pointer (some (Addr.mk b 0 none))),b' true])).a ((p' (OW (AO.own (Md.front t) (frHP t)) (AO.own (Md.front t) (frHP t)))).a ((p' (OW (AO.any (famN G)) (AO.any (famN G)))).a t')))).a (((p' (FactAt Tryd.prog (AO.any (famN G)) (Fc.load 46 (Addr.mk b 0 none) (Value.map (some nb))))).a t').a (((p' (FactAt Tryd.prog (AO.any (famN G)) (Fc.look 46 nb (Value.string (ByteArray.mk (Array.mk [42]))) (Value.pointer none)))).a t').a (((p' (Wk (b' false) (AV.lit false))).a t').a (((p' (Wk (AV.v (Value.bool !w.toList == [(ByteArray.mk (Array.mk [42])).get! 0])) (AV.lit false))).a t').a (((p' (Wk (AV.lit false) (AV.lit false))).a t').a (((p' (Wk (AV.lit false) (AV.lit false))).a t').a (((p' (Wk (z' (IntKind.i64.wrap (Int.ofNat i + Int.ofNat 1))) (i' (i + 1)))).a t').a t')))))))))))))) := by kernel_rfl
theorem oSp101_eq (ns : List Nat) (n : Nat) (lo : KMap Nat Int) (lc : Nat) (se : KMap Nat Int) (sc : Nat) (t : Fr) (G : List Nd) (w : ByteArray) (i b nb : Nat) (cl : Int) (F : HP) : wLoop [(fStand, cStO G 2)] (hSp i b nb cl true false true false false (.pointer none) (.pointer none)) [] default fStep (loopN fStep 3) (tms 0 64 (aSp n i w)) (oSp ns n lo lc se sc t G) [0, 1, 2, 3, 4, 5] [0, 1, 5, 13, 14, 15] F = VT.leaf (AX.normal,[AV.ptr 0 0,s' w,AV.ptr 1 0,AV.slice 3 0 n 1 (Cp.lo n),i' n,i' (i + 1)],64) [some (AO.cells [AV.slice 3 0 n 1 (Cp.lo n),AV.map 4,AV.map 5] 116),some (AO.own (Md.front (standC (chOf G b) t true)) (frHP (standC (chOf G b) t true))),some (AO.any (famN G)),some (AO.cells (rowV encP ns) 84),some (AO.map (kE pk iv lo) lc),some (AO.map (kE pk iv se) sc)] 1100 (((p' (Wk (b' (decide (Int.ofNat i < Int.ofNat n))) (AV.lit true))).a t').a (((p' (i.blt n = true)).a t').a (((p' ((0 + i * 1).blt (rowV encP ns).length = true)).a ((p' (Wk ((rowV encP ns).getD (0 + i * 1) (u')) (AV.v (Value.pointer (some (Addr.mk b 0 none)))))).a t')).a (((p' (true = true)).a t').a (((p' (GoodAt (AO.any (famN G)) (AV.v (Value.pointer (some (Addr.mk b 0 none)))) (kE pk iv lo))).a ((p' (foundX (findS (AV.v (Value.pointer (some (Addr.mk b 0 none)))) (kE pk iv lo) 0) (Value.int IntKind.i64 (Int.ofNat 0)) = AV.v (Value.int IntKind.i64 (foundX (findS (AV.v (Value.pointer (some (Addr.mk b 0 none)))) (kE pk iv lo) 0) (Value.int IntKind.i64 (Int.ofNat 0))).intOf))).a ((p' (Wk (AV.v (Value.int IntKind.i64 (foundX (findS (AV.v (Value.pointer (some (Addr.mk b 0 none)))) (kE pk iv lo) 0) (Value.int IntKind.i64 (Int.ofNat 0))).intOf)) (z' cl))).a t'))).a (((p' (Wk (b' (decide (cl > Int.ofNat 0))) (AV.lit true))).a t').a (((p' (StPre G t b)).a ((p' (VW [AV.ptr 1 0,AV.v (Value.pointer (some (Addr.mk b 0 none))),b' true] [AV.ptr 1 0,AV.v (Value.pointer (some (Addr.mk b 0 none))),b' true])).a ((p' (OW (AO.own (Md.front t) (frHP t)) (AO.own (Md.front t) (frHP t)))).a ((p' (OW (AO.any (famN G)) (AO.any (famN G)))).a t')))).a (((p' (FactAt Tryd.prog (AO.any (famN G)) (Fc.load 46 (Addr.mk b 0 none) (Value.map (some nb))))).a t').a (((p' (FactAt Tryd.prog (AO.any (famN G)) (Fc.look 46 nb (Value.string (ByteArray.mk (Array.mk [42]))) (Value.pointer none)))).a t').a (((p' (Wk (b' false) (AV.lit false))).a t').a (((p' (Wk (AV.v (Value.bool !w.toList == [(ByteArray.mk (Array.mk [42])).get! 0])) (AV.lit true))).a t').a (((p' (Wk (AV.v (Value.bool !w.toList == [(ByteArray.mk (Array.mk [35])).get! 0])) (AV.lit false))).a t').a (((p' (Wk (AV.lit false) (AV.lit false))).a t').a (((p' (Wk (AV.lit false) (AV.lit false))).a t').a (((p' (Wk (z' (IntKind.i64.wrap (Int.ofNat i + Int.ofNat 1))) (i' (i + 1)))).a t').a t'))))))))))))))) := by kernel_rfl
theorem oSp102_eq (ns : List Nat) (n : Nat) (lo : KMap Nat Int) (lc : Nat) (se : KMap Nat Int) (sc : Nat) (t : Fr) (G : List Nd) (w : ByteArray) (i b nb : Nat) (cl : Int) (F : HP) : wLoop [(fStand, cStO G 2)] (hSp i b nb cl true false true true false (.pointer none) (.pointer none)) [] default fStep (loopN fStep 3) (tms 0 64 (aSp n i w)) (oSp ns n lo lc se sc t G) [0, 1, 2, 3, 4, 5] [0, 1, 5, 13, 14, 15] F = VT.leaf (AX.normal,[AV.ptr 0 0,s' w,AV.ptr 1 0,AV.slice 3 0 n 1 (Cp.lo n),i' n,i' (i + 1)],64) [some (AO.cells [AV.slice 3 0 n 1 (Cp.lo n),AV.map 4,AV.map 5] 116),some (AO.own (Md.front (standC (chOf G b) t true)) (frHP (standC (chOf G b) t true))),some (AO.any (famN G)),some (AO.cells (rowV encP ns) 84),some (AO.map (kE pk iv lo) lc),some (AO.map (kE pk iv se) sc)] 1100 (((p' (Wk (b' (decide (Int.ofNat i < Int.ofNat n))) (AV.lit true))).a t').a (((p' (i.blt n = true)).a t').a (((p' ((0 + i * 1).blt (rowV encP ns).length = true)).a ((p' (Wk ((rowV encP ns).getD (0 + i * 1) (u')) (AV.v (Value.pointer (some (Addr.mk b 0 none)))))).a t')).a (((p' (true = true)).a t').a (((p' (GoodAt (AO.any (famN G)) (AV.v (Value.pointer (some (Addr.mk b 0 none)))) (kE pk iv lo))).a ((p' (foundX (findS (AV.v (Value.pointer (some (Addr.mk b 0 none)))) (kE pk iv lo) 0) (Value.int IntKind.i64 (Int.ofNat 0)) = AV.v (Value.int IntKind.i64 (foundX (findS (AV.v (Value.pointer (some (Addr.mk b 0 none)))) (kE pk iv lo) 0) (Value.int IntKind.i64 (Int.ofNat 0))).intOf))).a ((p' (Wk (AV.v (Value.int IntKind.i64 (foundX (findS (AV.v (Value.pointer (some (Addr.mk b 0 none)))) (kE pk iv lo) 0) (Value.int IntKind.i64 (Int.ofNat 0))).intOf)) (z' cl))).a t'))).a (((p' (Wk (b' (decide (cl > Int.ofNat 0))) (AV.lit true))).a t').a (((p' (StPre G t b)).a ((p' (VW [AV.ptr 1 0,AV.v (Value.pointer (some (Addr.mk b 0 none))),b' true] [AV.ptr 1 0,AV.v (Value.pointer (some (Addr.mk b 0 none))),b' true])).a ((p' (OW (AO.own (Md.front t) (frHP t)) (AO.own (Md.front t) (frHP t)))).a ((p' (OW (AO.any (famN G)) (AO.any (famN G)))).a t')))).a (((p' (FactAt Tryd.prog (AO.any (famN G)) (Fc.load 46 (Addr.mk b 0 none) (Value.map (some nb))))).a t').a (((p' (FactAt Tryd.prog (AO.any (famN G)) (Fc.look 46 nb (Value.string (ByteArray.mk (Array.mk [42]))) (Value.pointer none)))).a t').a (((p' (Wk (b' false) (AV.lit false))).a t').a (((p' (Wk (AV.v (Value.bool !w.toList == [(ByteArray.mk (Array.mk [42])).get! 0])) (AV.lit true))).a t').a (((p' (Wk (AV.v (Value.bool !w.toList == [(ByteArray.mk (Array.mk [35])).get! 0])) (AV.lit true))).a t').a (((p' (Wk (AV.lit true) (AV.lit true))).a t').a (((p' (FactAt Tryd.prog (AO.any (famN G)) (Fc.load 46 (Addr.mk b 0 none) (Value.map (some nb))))).a t').a (((p' (FactAt Tryd.prog (AO.any (famN G)) (Fc.look 46 nb (Value.string w) (Value.pointer none)))).a t').a (((p' (Wk (b' false) (AV.lit false))).a t').a (((p' (Wk (AV.lit false) (AV.lit false))).a t').a (((p' (Wk (z' (IntKind.i64.wrap (Int.ofNat i + Int.ofNat 1))) (i' (i + 1)))).a t').a t')))))))))))))))))) := by kernel_rfl
theorem oSp103_eq (ns : List Nat) (n : Nat) (lo : KMap Nat Int) (lc : Nat) (se : KMap Nat Int) (sc : Nat) (t : Fr) (G : List Nd) (w : ByteArray) (i b nb : Nat) (cl : Int) (y2 : Nat) (F : HP) : wLoop [(fStand, cStO G 2)] (hSp i b nb cl true false true true true (.pointer none) (pk y2)) [] default fStep (loopN fStep 3) (tms 0 64 (aSp n i w)) (oSp ns n lo lc se sc t G) [0, 1, 2, 3, 4, 5] [0, 1, 5, 13, 14, 15] F = VT.leaf (AX.normal,[AV.ptr 0 0,s' w,AV.ptr 1 0,AV.slice 3 0 n 1 (Cp.lo n),i' n,i' (i + 1)],64) [some (AO.cells [AV.slice 3 0 n 1 (Cp.lo n),AV.map 4,AV.map 5] 116),some (AO.own (Md.front (standC (chOf G y2) (standC (chOf G b) t true) false)) (frHP (standC (chOf G y2) (standC (chOf G b) t true) false))),some (AO.any (famN G)),some (AO.cells (rowV encP ns) 84),some (AO.map (kE pk iv lo) lc),some (AO.map (kE pk iv se) sc)] 1100 (((p' (Wk (b' (decide (Int.ofNat i < Int.ofNat n))) (AV.lit true))).a t').a (((p' (i.blt n = true)).a t').a (((p' ((0 + i * 1).blt (rowV encP ns).length = true)).a ((p' (Wk ((rowV encP ns).getD (0 + i * 1) (u')) (AV.v (Value.pointer (some (Addr.mk b 0 none)))))).a t')).a (((p' (true = true)).a t').a (((p' (GoodAt (AO.any (famN G)) (AV.v (Value.pointer (some (Addr.mk b 0 none)))) (kE pk iv lo))).a ((p' (foundX (findS (AV.v (Value.pointer (some (Addr.mk b 0 none)))) (kE pk iv lo) 0) (Value.int IntKind.i64 (Int.ofNat 0)) = AV.v (Value.int IntKind.i64 (foundX (findS (AV.v (Value.pointer (some (Addr.mk b 0 none)))) (kE pk iv lo) 0) (Value.int IntKind.i64 (Int.ofNat 0))).intOf))).a ((p' (Wk (AV.v (Value.int IntKind.i64 (foundX (findS (AV.v (Value.pointer (some (Addr.mk b 0 none)))) (kE pk iv lo) 0) (Value.int IntKind.i64 (Int.ofNat 0))).intOf)) (z' cl))).a t'))).a (((p' (Wk (b' (decide (cl > Int.ofNat 0))) (AV.lit true))).a t').a (((p' (StPre G t b)).a ((p' (VW [AV.ptr 1 0,AV.v (Value.pointer (some (Addr.mk b 0 none))),b' true] [AV.ptr 1 0,AV.v (Value.pointer (some (Addr.mk b 0 none))),b' true])).a ((p' (OW (AO.own (Md.front t) (frHP t)) (AO.own (Md.front t) (frHP t)))).a ((p' (OW (AO.any (famN G)) (AO.any (famN G)))).a t')))).a (((p' (FactAt Tryd.prog (AO.any (famN G)) (Fc.load 46 (Addr.mk b 0 none) (Value.map (some nb))))).a t').a (((p' (FactAt Tryd.prog (AO.any (famN G)) (Fc.look 46 nb (Value.string (ByteArray.mk (Array.mk [42]))) (Value.pointer none)))).a t').a (((p' (Wk (b' false) (AV.lit false))).a t').a (((p' (Wk (AV.v (Value.bool !w.toList == [(ByteArray.mk (Array.mk [42])).get! 0])) (AV.lit true))).a t').a (((p' (Wk (AV.v (Value.bool !w.toList == [(ByteArray.mk (Array.mk [35])).get! 0])) (AV.lit true))).a t').a (((p' (Wk (AV.lit true) (AV.lit true))).a t').a (((p' (FactAt Tryd.prog (AO.any (famN G)) (Fc.load 46 (Addr.mk b 0 none) (Value.map (some nb))))).a t').a (((p' (FactAt Tryd.prog (AO.any (famN G)) (Fc.look 46 nb (Value.string w) (Value.pointer (some (Addr.mk y2 0 none)))))).a t').a (((p' (Wk (b' true) (AV.lit true))).a t').a (((p' (Wk (AV.lit true) (AV.lit true))).a t').a (((p' (FactAt Tryd.prog (AO.any (famN G)) (Fc.load 46 (Addr.mk b 0 none) (Value.map (some nb))))).a t').a (((p' (FactAt Tryd.prog (AO.any (famN G)) (Fc.look 46 nb (Value.string w) (Value.pointer (some (Addr.mk y2 0 none)))))).a t').a (((p' (StPre G (standC (chOf G b) t true) y2)).a ((p' (VW [AV.ptr 1 0,AV.v (Value.pointer (some (Addr.mk y2 0 none))),b' false] [AV.ptr 1 0,AV.v (Value.pointer (some (Addr.mk y2 0 none))),b' false])).a ((p' (OW (AO.own (Md.front (standC (chOf G b) t true)) (frHP (standC (chOf G b) t true))) (AO.own (Md.front (standC (chOf G b) t true)) (frHP (standC (chOf G b) t true))))).a ((p' (OW (AO.any (famN G)) (AO.any (famN G)))).a t')))).a (((p' (Wk (z' (IntKind.i64.wrap (Int.ofNat i + Int.ofNat 1))) (i' (i + 1)))).a t').a t'))))))))))))))))))))) := by kernel_rfl
theorem oSp010_eq (ns : List Nat) (n : Nat) (lo : KMap Nat Int) (lc : Nat) (se : KMap Nat Int) (sc : Nat) (t : Fr) (G : List Nd) (w : ByteArray) (i b nb : Nat) (cl : Int) (y1 : Nat) (F : HP) : wLoop [(fStand, cStO G 2)] (hSp i b nb cl false true false false false (pk y1) (.pointer none)) [] default fStep (loopN fStep 3) (tms 0 64 (aSp n i w)) (oSp ns n lo lc se sc t G) [0, 1, 2, 3, 4, 5] [0, 1, 5, 13, 14, 15] F = VT.leaf (AX.normal,[AV.ptr 0 0,s' w,AV.ptr 1 0,AV.slice 3 0 n 1 (Cp.lo n),i' n,i' (i + 1)],64) [some (AO.cells [AV.slice 3 0 n 1 (Cp.lo n),AV.map 4,AV.map 5] 116),some (AO.own (Md.front (standC (chOf G y1) t false)) (frHP (standC (chOf G y1) t false))),some (AO.any (famN G)),some (AO.cells (rowV encP ns) 84),some (AO.map (kE pk iv lo) lc),some (AO.map (kE pk iv se) sc)] 1100 (((p' (Wk (b' (decide (Int.ofNat i < Int.ofNat n))) (AV.lit true))).a t').a (((p' (i.blt n = true)).a t').a (((p' ((0 + i * 1).blt (rowV encP ns).length = true)).a ((p' (Wk ((rowV encP ns).getD (0 + i * 1) (u')) (AV.v (Value.pointer (some (Addr.mk b 0 none)))))).a t')).a (((p' (true = true)).a t').a (((p' (GoodAt (AO.any (famN G)) (AV.v (Value.pointer (some (Addr.mk b 0 none)))) (kE pk iv lo))).a ((p' (foundX (findS (AV.v (Value.pointer (some (Addr.mk b 0 none)))) (kE pk iv lo) 0) (Value.int IntKind.i64 (Int.ofNat 0)) = AV.v (Value.int IntKind.i64 (foundX (findS (AV.v (Value.pointer (some (Addr.mk b 0 none)))) (kE pk iv lo) 0) (Value.int IntKind.i64 (Int.ofNat 0))).intOf))).a ((p' (Wk (AV.v (Value.int IntKind.i64 (foundX (findS (AV.v (Value.pointer (some (Addr.mk b 0 none)))) (kE pk iv lo) 0) (Value.int IntKind.i64 (Int.ofNat 0))).intOf)) (z' cl))).a t'))).a (((p' (Wk (b' (decide (cl > Int.ofNat 0))) (AV.lit false))).a t').a (((p' (FactAt Tryd.prog (AO.any (famN G)) (Fc.load 46 (Addr.mk b 0 none) (Value.map (some nb))))).a t').a (((p' (FactAt Tryd.prog (AO.any (famN G)) (Fc.look 46 nb (Value.string (ByteArray.mk (Array.mk [42]))) (Value.pointer (some (Addr.mk y1 0 none)))))).a t').a (((p' (Wk (b' true) (AV.lit true))).a t').a (((p' (StPre G t y1)).a ((p' (VW [AV.ptr 1 0,AV.v (Value.pointer (some (Addr.mk y1 0 none))),b' false] [AV.ptr 1 0,AV.v (Value.pointer (some (Addr.mk y1 0 none))),b' false])).a ((p' (OW (AO.own (Md.front t) (frHP t)) (AO.own (Md.front t) (frHP t)))).a ((p' (OW (AO.any (famN G)) (AO.any (famN G)))).a t')))).a (((p' (Wk (AV.v (Value.bool !w.toList == [(ByteArray.mk (Array.mk [42])).get! 0])) (AV.lit false))).a t').a (((p' (Wk (AV.lit false) (AV.lit false))).a t').a (((p' (Wk (AV.lit false) (AV.lit false))).a t').a (((p' (Wk (z' (IntKind.i64.wrap (Int.ofNat i + Int.ofNat 1))) (i' (i + 1)))).a t').a t')))))))))))))) := by kernel_rfl
theorem oSp011_eq (ns : List Nat) (n : Nat) (lo : KMap Nat Int) (lc : Nat) (se : KMap Nat Int) (sc : Nat) (t : Fr) (G : List Nd) (w : ByteArray) (i b nb : Nat) (cl : Int) (y1 : Nat) (F : HP) : wLoop [(fStand, cStO G 2)] (hSp i b nb cl false true true false false (pk y1) (.pointer none)) [] default fStep (loopN fStep 3) (tms 0 64 (aSp n i w)) (oSp ns n lo lc se sc t G) [0, 1, 2, 3, 4, 5] [0, 1, 5, 13, 14, 15] F = VT.leaf (AX.normal,[AV.ptr 0 0,s' w,AV.ptr 1 0,AV.slice 3 0 n 1 (Cp.lo n),i' n,i' (i + 1)],64) [some (AO.cells [AV.slice 3 0 n 1 (Cp.lo n),AV.map 4,AV.map 5] 116),some (AO.own (Md.front (standC (chOf G y1) t false)) (frHP (standC (chOf G y1) t false))),some (AO.any (famN G)),some (AO.cells (rowV encP ns) 84),some (AO.map (kE pk iv lo) lc),some (AO.map (kE pk iv se) sc)] 1100 (((p' (Wk (b' (decide (Int.ofNat i < Int.ofNat n))) (AV.lit true))).a t').a (((p' (i.blt n = true)).a t').a (((p' ((0 + i * 1).blt (rowV encP ns).length = true)).a ((p' (Wk ((rowV encP ns).getD (0 + i * 1) (u')) (AV.v (Value.pointer (some (Addr.mk b 0 none)))))).a t')).a (((p' (true = true)).a t').a (((p' (GoodAt (AO.any (famN G)) (AV.v (Value.pointer (some (Addr.mk b 0 none)))) (kE pk iv lo))).a ((p' (foundX (findS (AV.v (Value.pointer (some (Addr.mk b 0 none)))) (kE pk iv lo) 0) (Value.int IntKind.i64 (Int.ofNat 0)) = AV.v (Value.int IntKind.i64 (foundX (findS (AV.v (Value.pointer (some (Addr.mk b 0 none)))) (kE pk iv lo) 0) (Value.int IntKind.i64 (Int.ofNat 0))).intOf))).a ((p' (Wk (AV.v (Value.int IntKind.i64 (foundX (findS (AV.v (Value.pointer (some (Addr.mk b 0 none)))) (kE pk iv lo) 0) (Value.int IntKind.i64 (Int.ofNat 0))).intOf)) (z' cl))).a t'))).a (((p' (Wk (b' (decide (cl > Int.ofNat 0))) (AV.lit false))).a t').a (((p' (FactAt Tryd.prog (AO.any (famN G)) (Fc.load 46 (Addr.mk b 0 none) (Value.map (some nb))))).a t').a (((p' (FactAt Tryd.prog (AO.any (famN G)) (Fc.look 46 nb (Value.string (ByteArray.mk (Array.mk [42]))) (Value.pointer (some (Addr.mk y1 0 none)))))).a t').a (((p' (Wk (b' true) (AV.lit true))).a t').a (((p' (StPre G t y1)).a ((p' (VW [AV.ptr 1 0,AV.v (Value.pointer (some (Addr.mk y1 0 none))),b' false] [AV.ptr 1 0,AV.v (Value.pointer (some (Addr.mk y1 0 none))),b' false])).a ((p' (OW (AO.own (Md.front t) (frHP t)) (AO.own (Md.front t) (frHP t)))).a ((p' (OW (AO.any (famN G)) (AO.any (famN G)))).a t')))).a (((p' (Wk (AV.v (Value.bool !w.toList == [(ByteArray.mk (Array.mk [42])).get! 0])) (AV.lit true))).a t').a (((p' (Wk (AV.v (Value.bool !w.toList == [(ByteArray.mk (Array.mk [35])).get! 0])) (AV.lit false))).a t').a (((p' (Wk (AV.lit false) (AV.lit false))).a t').a (((p' (Wk (AV.lit false) (AV.lit false))).a t').a (((p' (Wk (z' (IntKind.i64.wrap (Int.ofNat i + Int.ofNat 1))) (i' (i + 1)))).a t').a t'))))))))))))))) := by kernel_rfl
theorem oSp012_eq (ns : List Nat) (n : Nat) (lo : KMap Nat Int) (lc : Nat) (se : KMap Nat Int) (sc : Nat) (t : Fr) (G : List Nd) (w : ByteArray) (i b nb : Nat) (cl : Int) (y1 : Nat) (F : HP) : wLoop [(fStand, cStO G 2)] (hSp i b nb cl false true true true false (pk y1) (.pointer none)) [] default fStep (loopN fStep 3) (tms 0 64 (aSp n i w)) (oSp ns n lo lc se sc t G) [0, 1, 2, 3, 4, 5] [0, 1, 5, 13, 14, 15] F = VT.leaf (AX.normal,[AV.ptr 0 0,s' w,AV.ptr 1 0,AV.slice 3 0 n 1 (Cp.lo n),i' n,i' (i + 1)],64) [some (AO.cells [AV.slice 3 0 n 1 (Cp.lo n),AV.map 4,AV.map 5] 116),some (AO.own (Md.front (standC (chOf G y1) t false)) (frHP (standC (chOf G y1) t false))),some (AO.any (famN G)),some (AO.cells (rowV encP ns) 84),some (AO.map (kE pk iv lo) lc),some (AO.map (kE pk iv se) sc)] 1100 (((p' (Wk (b' (decide (Int.ofNat i < Int.ofNat n))) (AV.lit true))).a t').a (((p' (i.blt n = true)).a t').a (((p' ((0 + i * 1).blt (rowV encP ns).length = true)).a ((p' (Wk ((rowV encP ns).getD (0 + i * 1) (u')) (AV.v (Value.pointer (some (Addr.mk b 0 none)))))).a t')).a (((p' (true = true)).a t').a (((p' (GoodAt (AO.any (famN G)) (AV.v (Value.pointer (some (Addr.mk b 0 none)))) (kE pk iv lo))).a ((p' (foundX (findS (AV.v (Value.pointer (some (Addr.mk b 0 none)))) (kE pk iv lo) 0) (Value.int IntKind.i64 (Int.ofNat 0)) = AV.v (Value.int IntKind.i64 (foundX (findS (AV.v (Value.pointer (some (Addr.mk b 0 none)))) (kE pk iv lo) 0) (Value.int IntKind.i64 (Int.ofNat 0))).intOf))).a ((p' (Wk (AV.v (Value.int IntKind.i64 (foundX (findS (AV.v (Value.pointer (some (Addr.mk b 0 none)))) (kE pk iv lo) 0) (Value.int IntKind.i64 (Int.ofNat 0))).intOf)) (z' cl))).a t'))).a (((p' (Wk (b' (decide (cl > Int.ofNat 0))) (AV.lit false))).a t').a (((p' (FactAt Tryd.prog (AO.any (famN G)) (Fc.load 46 (Addr.mk b 0 none) (Value.map (some nb))))).a t').a (((p' (FactAt Tryd.prog (AO.any (famN G)) (Fc.look 46 nb (Value.string (ByteArray.mk (Array.mk [42]))) (Value.pointer (some (Addr.mk y1 0 none)))))).a t').a (((p' (Wk (b' true) (AV.lit true))).a t').a (((p' (StPre G t y1)).a ((p' (VW [AV.ptr 1 0,AV.v (Value.pointer (some (Addr.mk y1 0 none))),b' false] [AV.ptr 1 0,AV.v (Value.pointer (some (Addr.mk y1 0 none))),b' false])).a ((p' (OW (AO.own (Md.front t) (frHP t)) (AO.own (Md.front t) (frHP t)))).a ((p' (OW (AO.any (famN G)) (AO.any (famN G)))).a t')))).a (((p' (Wk (AV.v (Value.bool !w.toList == [(ByteArray.mk (Array.mk [42])).get! 0])) (AV.lit true))).a t').a (((p' (Wk (AV.v (Value.bool !w.toList == [(ByteArray.mk (Array.mk [35])).get! 0])) (AV.lit true))).a t').a (((p' (Wk (AV.lit true) (AV.lit true))).a t').a (((p' (FactAt Tryd.prog (AO.any (famN G)) (Fc.load 46 (Addr.mk b 0 none) (Value.map (some nb))))).a t').a (((p' (FactAt Tryd.prog (AO.any (famN G)) (Fc.look 46 nb (Value.string w) (Value.pointer none)))).a t').a (((p' (Wk (b' false) (AV.lit false))).a t').a (((p' (Wk (AV.lit false) (AV.lit false))).a t').a (((p' (Wk (z' (IntKind.i64.wrap (Int.ofNat i + Int.ofNat 1))) (i' (i + 1)))).a t').a t')))))))))))))))))) := by kernel_rfl
theorem oSp013_eq (ns : List Nat) (n : Nat) (lo : KMap Nat Int) (lc : Nat) (se : KMap Nat Int) (sc : Nat) (t : Fr) (G : List Nd) (w : ByteArray) (i b nb : Nat) (cl : Int) (y1 : Nat) (y2 : Nat) (F : HP) : wLoop [(fStand, cStO G 2)] (hSp i b nb cl false true true true true (pk y1) (pk y2)) [] default fStep (loopN fStep 3) (tms 0 64 (aSp n i w)) (oSp ns n lo lc se sc t G) [0, 1, 2, 3, 4, 5] [0, 1, 5, 13, 14, 15] F = VT.leaf (AX.normal,[AV.ptr 0 0,s' w,AV.ptr 1 0,AV.slice 3 0 n 1 (Cp.lo n),i' n,i' (i + 1)],64) [some (AO.cells [AV.slice 3 0 n 1 (Cp.lo n),AV.map 4,AV.map 5] 116),some (AO.own (Md.front (standC (chOf G y2) (standC (chOf G y1) t false) false)) (frHP (standC (chOf G y2) (standC (chOf G y1) t false) false))),some (AO.any (famN G)),some (AO.cells (rowV encP ns) 84),some (AO.map (kE pk iv lo) lc),some (AO.map (kE pk iv se) sc)] 1100 (((p' (Wk (b' (decide (Int.ofNat i < Int.ofNat n))) (AV.lit true))).a t').a (((p' (i.blt n = true)).a t').a (((p' ((0 + i * 1).blt (rowV encP ns).length = true)).a ((p' (Wk ((rowV encP ns).getD (0 + i * 1) (u')) (AV.v (Value.pointer (some (Addr.mk b 0 none)))))).a t')).a (((p' (true = true)).a t').a (((p' (GoodAt (AO.any (famN G)) (AV.v (Value.pointer (some (Addr.mk b 0 none)))) (kE pk iv lo))).a ((p' (foundX (findS (AV.v (Value.pointer (some (Addr.mk b 0 none)))) (kE pk iv lo) 0) (Value.int IntKind.i64 (Int.ofNat 0)) = AV.v (Value.int IntKind.i64 (foundX (findS (AV.v (Value.pointer (some (Addr.mk b 0 none)))) (kE pk iv lo) 0) (Value.int IntKind.i64 (Int.ofNat 0))).intOf))).a ((p' (Wk (AV.v (Value.int IntKind.i64 (foundX (findS (AV.v (Value.pointer (some (Addr.mk b 0 none)))) (kE pk iv lo) 0) (Value.int IntKind.i64 (Int.ofNat 0))).intOf)) (z' cl))).a t'))).a (((p' (Wk (b' (decide (cl > Int.ofNat 0))) (AV.lit false))).a t').a (((p' (FactAt Tryd.prog (AO.any (famN G)) (Fc.load 46 (Addr.mk b 0 none) (Value.map (some nb))))).a t').a (((p' (FactAt Tryd.prog (AO.any (famN G)) (Fc.look 46 nb (Value.string (ByteArray.mk (Array.mk [42]))) (Value.pointer (some (Addr.mk y1 0 none)))))).a t').a (((p' (Wk (b' true) (AV.lit true))).a t').a (((p' (StPre G t y1)).a ((p' (VW [AV.ptr 1 0,AV.v (Value.pointer (some (Addr.mk y1 0 none))),b' false] [AV.ptr 1 0,AV.v (Value.pointer (some (Addr.mk y1 0 none))),b' false])).a ((p' (OW (AO.own (Md.front t) (frHP t)) (AO.own (Md.front t) (frHP t)))).a ((p' (OW (AO.any (famN G)) (AO.any (famN G)))).a t')))).a (((p' (Wk (AV.v (Value.bool !w.toList == [(ByteArray.mk (Array.mk [42])).get! 0])) (AV.lit true))).a t').a (((p' (Wk (AV.v (Value.bool !w.toList == [(ByteArray.mk (Array.mk [35])).get! 0])) (AV.lit true))).a t').a (((p' (Wk (AV.lit true) (AV.lit true))).a t').a (((p' (FactAt Tryd.prog (AO.any (famN G)) (Fc.load 46 (Addr.mk b 0 none) (Value.map (some nb))))).a t').a (((p' (FactAt Tryd.prog (AO.any (famN G)) (Fc.look 46 nb (Value.string w) (Value.pointer (some (Addr.mk y2 0 none)))))).a t').a (((p' (Wk (b' true) (AV.lit true))).a t').a (((p' (Wk (AV.lit true) (AV.lit true))).a t').a (((p' (FactAt Tryd.prog (AO.any (famN G)) (Fc.load 46 (Addr.mk b 0 none) (Value.map (some nb))))).a t').a (((p' (FactAt Tryd.prog (AO.any (famN G)) (Fc.look 46 nb (Value.string w) (Value.pointer (some (Addr.mk y2 0 none)))))).a t').a (((p' (StPre G (standC (chOf G y1) t false) y2)).a ((p' (VW [AV.ptr 1 0,AV.v (Value.pointer (some (Addr.mk y2 0 none))),b' false] [AV.ptr 1 0,AV.v (Value.pointer (some (Addr.mk y2 0 none))),b' false])).a ((p' (OW (AO.own (Md.front (standC (chOf G y1) t false)) (frHP (standC (chOf G y1) t false))) (AO.own (Md.front (standC (chOf G y1) t false)) (frHP (standC (chOf G y1) t false))))).a ((p' (OW (AO.any (famN G)) (AO.any (famN G)))).a t')))).a (((p' (Wk (z' (IntKind.i64.wrap (Int.ofNat i + Int.ofNat 1))) (i' (i + 1)))).a t').a t'))))))))))))))))))))) := by kernel_rfl
theorem oSp000_eq (ns : List Nat) (n : Nat) (lo : KMap Nat Int) (lc : Nat) (se : KMap Nat Int) (sc : Nat) (t : Fr) (G : List Nd) (w : ByteArray) (i b nb : Nat) (cl : Int) (F : HP) : wLoop [(fStand, cStO G 2)] (hSp i b nb cl false false false false false (.pointer none) (.pointer none)) [] default fStep (loopN fStep 3) (tms 0 64 (aSp n i w)) (oSp ns n lo lc se sc t G) [0, 1, 2, 3, 4, 5] [0, 1, 5, 13, 14, 15] F = VT.leaf (AX.normal,[AV.ptr 0 0,s' w,AV.ptr 1 0,AV.slice 3 0 n 1 (Cp.lo n),i' n,i' (i + 1)],64) [some (AO.cells [AV.slice 3 0 n 1 (Cp.lo n),AV.map 4,AV.map 5] 116),some (AO.own (Md.front t) (frHP t)),some (AO.any (famN G)),some (AO.cells (rowV encP ns) 84),some (AO.map (kE pk iv lo) lc),some (AO.map (kE pk iv se) sc)] 1100 (((p' (Wk (b' (decide (Int.ofNat i < Int.ofNat n))) (AV.lit true))).a t').a (((p' (i.blt n = true)).a t').a (((p' ((0 + i * 1).blt (rowV encP ns).length = true)).a ((p' (Wk ((rowV encP ns).getD (0 + i * 1) (u')) (AV.v (Value.pointer (some (Addr.mk b 0 none)))))).a t')).a (((p' (true = true)).a t').a (((p' (GoodAt (AO.any (famN G)) (AV.v (Value.pointer (some (Addr.mk b 0 none)))) (kE pk iv lo))).a ((p' (foundX (findS (AV.v (Value.pointer (some (Addr.mk b 0 none)))) (kE pk iv lo) 0) (Value.int IntKind.i64 (Int.ofNat 0)) = AV.v (Value.int IntKind.i64 (foundX (findS (AV.v (Value.pointer (some (Addr.mk b 0 none)))) (kE pk iv lo) 0) (Value.int IntKind.i64 (Int.ofNat 0))).intOf))).a ((p' (Wk (AV.v (Value.int IntKind.i64 (foundX (findS (AV.v (Value.pointer (some (Addr.mk b 0 none)))) (kE pk iv lo) 0) (Value.int IntKind.i64 (Int.ofNat 0))).intOf)) (z' cl))).a t'))).a (((p' (Wk (b' (decide (cl > Int.ofNat 0))) (AV.lit false))).a t').a (((p' (FactAt Tryd.prog (AO.any (famN G)) (Fc.load 46 (Addr.mk b 0 none) (Value.map (some nb))))).a t').a (((p' (FactAt Tryd.prog (AO.any (famN G)) (Fc.look 46 nb (Value.string (ByteArray.mk (Array.mk [42]))) (Value.pointer none)))).a t').a (((p' (Wk (b' false) (AV.lit false))).a t').a (((p' (Wk (AV.v (Value.bool !w.toList == [(ByteArray.mk (Array.mk [42])).get! 0])) (AV.lit false))).a t').a (((p' (Wk (AV.lit false) (AV.lit false))).a t').a (((p' (Wk (AV.lit false) (AV.lit false))).a t').a (((p' (Wk (z' (IntKind.i64.wrap (Int.ofNat i + Int.ofNat 1))) (i' (i + 1)))).a t').a t'))))))))))))) := by kernel_rfl
theorem oSp001_eq (ns : List Nat) (n : Nat) (lo : KMap Nat Int) (lc : Nat) (se : KMap Nat Int) (sc : Nat) (t : Fr) (G : List Nd) (w : ByteArray) (i b nb : Nat) (cl : Int) (F : HP) : wLoop [(fStand, cStO G 2)] (hSp i b nb cl false false true false false (.pointer none) (.pointer none)) [] default fStep (loopN fStep 3) (tms 0 64 (aSp n i w)) (oSp ns n lo lc se sc t G) [0, 1, 2, 3, 4, 5] [0, 1, 5, 13, 14, 15] F = VT.leaf (AX.normal,[AV.ptr 0 0,s' w,AV.ptr 1 0,AV.slice 3 0 n 1 (Cp.lo n),i' n,i' (i + 1)],64) [some (AO.cells [AV.slice 3 0 n 1 (Cp.lo n),AV.map 4,AV.map 5] 116),some (AO.own (Md.front t) (frHP t)),some (AO.any (famN G)),some (AO.cells (rowV encP ns) 84),some (AO.map (kE pk iv lo) lc),some (AO.map (kE pk iv se) sc)] 1100 (((p' (Wk (b' (decide (Int.ofNat i < Int.ofNat n))) (AV.lit true))).a t').a (((p' (i.blt n = true)).a t').a (((p' ((0 + i * 1).blt (rowV encP ns).length = true)).a ((p' (Wk ((rowV encP ns).getD (0 + i * 1) (u')) (AV.v (Value.pointer (some (Addr.mk b 0 none)))))).a t')).a (((p' (true = true)).a t').a (((p' (GoodAt (AO.any (famN G)) (AV.v (Value.pointer (some (Addr.mk b 0 none)))) (kE pk iv lo))).a ((p' (foundX (findS (AV.v (Value.pointer (some (Addr.mk b 0 none)))) (kE pk iv lo) 0) (Value.int IntKind.i64 (Int.ofNat 0)) = AV.v (Value.int IntKind.i64 (foundX (findS (AV.v (Value.pointer (some (Addr.mk b 0 none)))) (kE pk iv lo) 0) (Value.int IntKind.i64 (Int.ofNat 0))).intOf))).a ((p' (Wk (AV.v (Value.int IntKind.i64 (foundX (findS (AV.v (Value.pointer (some (Addr.mk b 0 none)))) (kE pk iv lo) 0) (Value.int IntKind.i64 (Int.ofNat 0))).intOf)) (z' cl))).a t'))).a (((p' (Wk (b' (decide (cl > Int.ofNat 0))) (AV.lit false))).a t').a (((p' (FactAt Tryd.prog (AO.any (famN G)) (Fc.load 46 (Addr.mk b 0 none) (Value.map (some nb))))).a t').a (((p' (FactAt Tryd.prog (AO.any (famN G)) (Fc.look 46 nb (Value.string (ByteArray.mk (Array.mk [42]))) (Value.pointer none)))).a t').a (((p' (Wk (b' false) (AV.lit false))).a t').a (((p' (Wk (AV.v (Value.bool !w.toList == [(ByteArray.mk (Array.mk [42])).get! 0])) (AV.lit true))).a t').a (((p' (Wk (AV.v (Value.bool !w.toList == [(ByteArray.mk (Array.mk [35])).get! 0])) (AV.lit false))).a t').a (((p' (Wk (AV.lit false) (AV.lit false))).a t').a (((p' (Wk (AV.lit false) (AV.lit false))).a t').a (((p' (Wk (z' (IntKind.i64.wrap (Int.ofNat i + Int.ofNat 1))) (i' (i + 1)))).a t').a t')))))))))))))) := by kernel_rfl
theorem oSp002_eq (ns : List Nat) (n : Nat) (lo : KMap Nat Int) (lc : Nat) (se : KMap Nat Int) (sc : Nat) (t : Fr) (G : List Nd) (w : ByteArray) (i b nb : Nat) (cl : Int) (F : HP) : wLoop [(fStand, cStO G 2)] (hSp i b nb cl false false true true false (.pointer none) (.pointer none)) [] default fStep (loopN fStep 3) (tms 0 64 (aSp n i w)) (oSp ns n lo lc se sc t G) [0, 1, 2, 3, 4, 5] [0, 1, 5, 13, 14, 15] F = VT.leaf (AX.normal,[AV.ptr 0 0,s' w,AV.ptr 1 0,AV.slice 3 0 n 1 (Cp.lo n),i' n,i' (i + 1)],64) [some (AO.cells [AV.slice 3 0 n 1 (Cp.lo n),AV.map 4,AV.map 5] 116),some (AO.own (Md.front t) (frHP t)),some (AO.any (famN G)),some (AO.cells (rowV encP ns) 84),some (AO.map (kE pk iv lo) lc),some (AO.map (kE pk iv se) sc)] 1100 (((p' (Wk (b' (decide (Int.ofNat i < Int.ofNat n))) (AV.lit true))).a t').a (((p' (i.blt n = true)).a t').a (((p' ((0 + i * 1).blt (rowV encP ns).length = true)).a ((p' (Wk ((rowV encP ns).getD (0 + i * 1) (u')) (AV.v (Value.pointer (some (Addr.mk b 0 none)))))).a t')).a (((p' (true = true)).a t').a (((p' (GoodAt (AO.any (famN G)) (AV.v (Value.pointer (some (Addr.mk b 0 none)))) (kE pk iv lo))).a ((p' (foundX (findS (AV.v (Value.pointer (some (Addr.mk b 0 none)))) (kE pk iv lo) 0) (Value.int IntKind.i64 (Int.ofNat 0)) = AV.v (Value.int IntKind.i64 (foundX (findS (AV.v (Value.pointer (some (Addr.mk b 0 none)))) (kE pk iv lo) 0) (Value.int IntKind.i64 (Int.ofNat 0))).intOf))).a ((p' (Wk (AV.v (Value.int IntKind.i64 (foundX (findS (AV.v (Value.pointer (some (Addr.mk b 0 none)))) (kE pk iv lo) 0) (Value.int IntKind.i64 (Int.ofNat 0))).intOf)) (z' cl))).a t'))).a (((p' (Wk (b' (decide (cl > Int.ofNat 0))) (AV.lit false))).a t').a (((p' (FactAt Tryd.prog (AO.any (famN G)) (Fc.load 46 (Addr.mk b 0 none) (Value.map (some nb))))).a t').a (((p' (FactAt Tryd.prog (AO.any (famN G)) (Fc.look 46 nb (Value.string (ByteArray.mk (Array.mk [42]))) (Value.pointer none)))).a t').a (((p' (Wk (b' false) (AV.lit false))).a t').a (((p' (Wk (AV.v (Value.bool !w.toList == [(ByteArray.mk (Array.mk [42])).get! 0])) (AV.lit true))).a t').a (((p' (Wk (AV.v (Value.bool !w.toList == [(ByteArray.mk (Array.mk [35])).get! 0])) (AV.lit true))).a t').a (((p' (Wk (AV.lit true) (AV.lit true))).a t').a (((p' (FactAt Tryd.prog (AO.any (famN G)) (Fc.load 46 (Addr.mk b 0 none) (Value.map (some nb))))).a t').a (((p' (FactAt Tryd.prog (AO.any (famN G)) (Fc.look 46 nb (Value.string w) (Value.pointer none)))).a t').a (((p' (Wk (b' false) (AV.lit false))).a t').a (((p' (Wk (AV.lit false) (AV.lit false))).a t').a (((p' (Wk (z' (IntKind.i64.wrap (Int.ofNat i + Int.ofNat 1))) (i' (i + 1)))).a t').a t'))))))))))))))))) := by kernel_rfl
theorem oSp003_eq (ns : List Nat) (n : Nat) (lo : KMap Nat Int) (lc : Nat) (se : KMap Nat Int) (sc : Nat) (t : Fr) (G : List Nd) (w : ByteArray) (i b nb : Nat) (cl : Int) (y2 : Nat) (F : HP) : wLoop [(fStand, cStO G 2)] (hSp i b nb cl false false true true true (.pointer none) (pk y2)) [] default fStep (loopN fStep 3) (tms 0 64 (aSp n i w)) (oSp ns n lo lc se sc t G) [0, 1, 2, 3, 4, 5] [0, 1, 5, 13, 14, 15] F = VT.leaf (AX.normal,[AV.ptr 0 0,s' w,AV.ptr 1 0,AV.slice 3 0 n 1 (Cp.lo n),i' n,i' (i + 1)],64) [some (AO.cells [AV.slice 3 0 n 1 (Cp.lo n),AV.map 4,AV.map 5] 116),some (AO.own (Md.front (standC (chOf G y2) t false)) (frHP (standC (chOf G y2) t false))),some (AO.any (famN G)),some (AO.cells (rowV encP ns) 84),some (AO.map (kE pk iv lo) lc),some (AO.map (kE pk iv se) sc)] 1100 (((p' (Wk (b' (decide (Int.ofNat i < Int.ofNat n))) (AV.lit true))).a t').a (((p' (i.blt n = true)).a t').a (((p' ((0 + i * 1).blt (rowV encP ns).length = true)).a ((p' (Wk ((rowV encP ns).getD (0 + i * 1) (u')) (AV.v (Value.pointer (some (Addr.mk b 0 none)))))).a t')).a (((p' (true = true)).a t').a (((p' (GoodAt (AO.any (famN G)) (AV.v (Value.pointer (some (Addr.mk b 0 none)))) (kE pk iv lo))).a ((p' (foundX (findS (AV.v (Value.pointer (some (Addr.mk b 0 none)))) (kE pk iv lo) 0) (Value.int IntKind.i64 (Int.ofNat 0)) = AV.v (Value.int IntKind.i64 (foundX (findS (AV.v (Value.pointer (some (Addr.mk b 0 none)))) (kE pk iv lo) 0) (Value.int IntKind.i64 (Int.ofNat 0))).intOf))).a ((p' (Wk (AV.v (Value.int IntKind.i64 (foundX (findS (AV.v (Value.pointer (some (Addr.mk b 0 none)))) (kE pk iv lo) 0) (Value.int IntKind.i64 (Int.ofNat 0))).intOf)) (z' cl))).a t'))).a (((p' (Wk (b' (decide (cl > Int.ofNat 0))) (AV.lit false))).a t').a (((p' (FactAt Tryd.prog (AO.any (famN G)) (Fc.load 46 (Addr.mk b 0 none) (Value.map (some nb))))).a t').a (((p' (FactAt Tryd.prog (AO.any (famN G)) (Fc.look 46 nb (Value.string (ByteArray.mk (Array.mk [42]))) (Value.pointer none)))).a t').a (((p' (Wk (b' false) (AV.lit false))).a t').a (((p' (Wk (AV.v (Value.bool !w.toList == [(ByteArray.mk (Array.mk [42])).get! 0])) (AV.lit true))).a t').a (((p' (Wk (AV.v (Value.bool !w.toList == [(ByteArray.mk (Array.mk [35])).get! 0])) (AV.lit true))).a t').a (((p' (Wk (AV.lit true) (AV.lit true))).a t').a (((p' (FactAt Tryd.prog (AO.any (famN G)) (Fc.load 46 (Addr.mk b 0 none) (Value.map (some nb))))).a t').a (((p' (FactAt Tryd.prog (AO.any (famN G)) (Fc.look 46 nb (Value.string w) (Value.pointer (some (Addr.mk y2 0 none)))))).a t').a (((p' (Wk (b' true) (AV.lit true))).a t').a (((p' (Wk (AV.lit true) (AV.lit true))).a t').a (((p' (FactAt Tryd.prog (AO.any (famN G)) (Fc.load 46 (Addr.mk b 0 none) (Value.map (some nb))))).a t').a (((p' (FactAt Tryd.prog (AO.any (famN G)) (Fc.look 46 nb (Value.string w) (Value.pointer (some (Addr.mk y2 0 none)))))).a t').a (((p' (StPre G t y2)).a ((p' (VW [AV.ptr 1 0,AV.v (Value.pointer (some (Addr.mk y2 0 none))),b' false] [AV.ptr 1 0,AV.v (Value.pointer (some (Addr.mk y2 0 none))),b' false])).a ((p' (OW (AO.own (Md.front t) (frHP t)) (AO.own (Md.front t) (frHP t)))).a ((p' (OW (AO.any (famN G)) (AO.any (famN G)))).a t')))).a (((p' (Wk (z' (IntKind.i64.wrap (Int.ofNat i + Int.ofNat 1))) (i' (i + 1)))).a t').a t')))))))))))))))))))) := by kernel_rfl
theorem oSpE_eq (ns : List Nat) (n : Nat) (lo : KMap Nat Int) (lc : Nat) (se : KMap Nat Int) (sc : Nat) (t : Fr) (G : List Nd) (w : ByteArray) (i : Nat) (F : HP) : wLoop [] (hintL [(fStep, 3, 0, hv (.lit false))]) [] default fStep (loopN fStep 3) (tms 0 64 (aSp n i w)) (oSp ns n lo lc se sc t G) [0, 1, 2, 3, 4, 5] [0, 1, 5, 13, 14, 15] F = VT.leaf (AX.exit 0,[AV.ptr 0 0,s' w,AV.ptr 1 0,AV.slice 3 0 n 1 (Cp.lo n),i' n,i' i],64) [some (AO.cells [AV.slice 3 0 n 1 (Cp.lo n),AV.map 4,AV.map 5] 116),some (AO.own (Md.front t) (frHP t)),some (AO.any (famN G)),some (AO.cells (rowV encP ns) 84),some (AO.map (kE pk iv lo) lc),some (AO.map (kE pk iv se) sc)] 1100 (((p' (Wk (b' (decide (Int.ofNat i < Int.ofNat n))) (AV.lit false))).a t').a t') := by kernel_rfl
end
end Go.Proofs.YtbmoancedlbhlaaDoor.Tpc

/- Topic: a front's step: its rounds. -/
set_option linter.unusedVariables false
set_option linter.unusedSimpArgs false
set_option maxRecDepth 100000
namespace Go.Proofs.YtbmoancedlbhlaaDoor.Tpc
open Go Go.RowKit Go.Proofs.YtbmoancedlbhlaaDoor.Eng Go.Proofs.YtbmoancedlbhlaaDoor.Kit
theorem gSt_ro : ∀ args, RO (gSt args) := by
  intro args
  unfold gSt
  split
  · refine RO.read _ _ fun o => ?_
    split
    · exact RO.ret _
    · exact RO.fail _
  · exact RO.fail _
theorem chain_uniq {G : List Nd} {b : Nat} (h : ∃ c, Chain G (b :: c)) : Chain G (chOf G b) ∧ ∃ c, chOf G b = b :: c := by
  unfold chOf
  rw [dif_pos h]
  exact ⟨h.choose_spec, _, rfl⟩
theorem cStO_ok (G : List Nd) (fm : Nat) (F : HP) : C1OK Tryd.prog F fStand (cStO G fm) :=
  mkC_ok (W := default) oldDef (fun _ => .tuple []) gSt_ro (fun _ => rfl) (fun p hp => by
    obtain ⟨h1, B, h2, h3, h4⟩ := hp
    obtain ⟨c, hc⟩ : ∃ c, chOf G p.b = p.b :: c := by
      unfold chOf
      split
      · exact ⟨_, rfl⟩
      · exact ⟨[], rfl⟩
    show Tri _ _ _ [.ptr 0 0, ptrV p.b, bv p.loop] [(0, frO p.f), (2, famO G)] (.tuple []) [(0, frO (standC (chOf G p.b) p.f p.loop)), (2, famO G)]
    rw [hc] at h1 h3 h4 ⊢
    exact Astand_tri h1 B p.f h2 h3 h4 p.loop) fun p => ⟨rfl, rfl, ⟨rfl, trivial, trivial, trivial⟩, all_cons trivial (all_cons trivial all_nil), ⟨trivial, trivial⟩, all_cons trivial (all_cons trivial all_nil)⟩
theorem bl_one (w : ByteArray) (c : UInt8) : (w.toList == [c]) = decide (w = ⟨⟨[c]⟩⟩) := by
  by_cases h : w = ⟨⟨[c]⟩⟩
  · subst h
    simp only [decide_true, beq_iff_eq]
    simp [ByteArray.toList_eq]
  · rw [decide_eq_false h, beq_eq_false_iff_ne]
    intro e
    apply h
    have e2 : w.data.toList = [c] := by rw [← e]; simp [ByteArray.toList_eq]
    cases w with | mk a => cases a with | mk l => exact congrArg (fun l => ByteArray.mk ⟨l⟩) e2
def SpOK (ns : List Nat) (n : Nat) (lo : KMap Nat Int) (lc : Nat) (se : KMap Nat Int) (sc : Nat) (t t' : Fr) (G : List Nd) (w : ByteArray) (i : Nat) : Prop := ∃ (con : ConsL) (hints : ClaimT) (lc0 : LcL), (∀ F, OldOK default F → ∀ x ∈ con, C1OK Tryd.prog F x.1 x.2) ∧ (∀ F, OldOK default F → ∀ x ∈ lc0, L1OK Tryd.prog F x.2.2.1 x.2.2.2) ∧
  ∀ F, VAll (fun r os _ => r.2.2 = 64 ∧ r.1 = .normal ∧ ∃ l, FitT [0, 1, 2, 3, 4, 5] [0, 1, 5, 13, 14, 15] r.2.1 os (aSp n (i + 1) w) (oSp ns n lo lc se sc t' G) l) (wLoop con hints lc0 default fStep (loopN fStep 3) (tms 0 64 (aSp n i w)) (oSp ns n lo lc se sc t G) [0, 1, 2, 3, 4, 5] [0, 1, 5, 13, 14, 15] F)
theorem look_nx_none {G : List Nd} {s : Nd} (hs : s ∈ G) {w : ByteArray} (hk : klook w s.nx = none) : FactAt Tryd.prog (famO G) (.look tNx s.nb (.string w) (.pointer none)) := by
  have := fc_look_nx hs w
  rw [nxV, hk] at this
  exact this
theorem look_nx_some {G : List Nd} {s : Nd} (hs : s ∈ G) {w : ByteArray} {b : Nat} (hk : klook w s.nx = some b) : FactAt Tryd.prog (famO G) (.look tNx s.nb (.string w) (pk b)) := by
  have := fc_look_nx hs w
  rw [nxV, hk] at this
  exact this
theorem rP_get (M : List Nat) (i : Nat) (hi : i < M.length) (d : AV) : (rowV encP M).getD (0 + i * 1) d = ptrV (M.getD i 0) := by
  have := row_getD encP_len M 0 i hi 0 (by decide) _ rfl d
  rwa [Nat.add_zero] at this
theorem rP_lt (M : List Nat) (i : Nat) (hi : i < M.length) : (0 + i * 1).blt (rowV encP M).length = true := by
  rw [rP_len, Nat.blt_eq]; omega
theorem ltT {i n : Nat} (h : i < n) : decide (Int.ofNat i < Int.ofNat n) = true := by rw [nat_lt]; exact decide_eq_true h
theorem ltF {n : Nat} : decide (Int.ofNat n < Int.ofNat n) = false := by rw [nat_lt]; exact decide_eq_false (Nat.lt_irrefl _)
theorem sp110 (ns : List Nat) (lo : KMap Nat Int) (lc : Nat) (se : KMap Nat Int) (sc : Nat) (t : Fr) (G : List Nd) (w : ByteArray) (i b : Nat) (s : Nd) (hs : s ∈ G) (hsb : s.b = b) (hi : i < ns.length) (hn : ns.length ≤ 8796093022208) (hb : ns.getD i 0 = b) (hlo : ∀ x ∈ lo, x.1 ∈ G.map (·.b)) (hq1 : 0 < cnt lo b) (y1 : Nat) (hy1 : klook star s.nx = some y1) (hw : w = star) (p0 : StPre G t b) (p1 : StPre G (standC (chOf G b) t true) y1) : SpOK ns ns.length lo lc se sc t (standC (chOf G y1) (standC (chOf G b) t true) false) G w i := by
  refine ⟨[(fStand, cStO G 2)], hSp i b s.nb (cnt lo b) true true false false false (pk y1) (.pointer none), [], fun F _ => one_c (cStO_ok G 2 F), fun _ _ => noL, fun F => ?_⟩
  refine cast (congrArg (VAll _) (oSp110_eq ns ns.length lo lc se sc t G w i b s.nb (cnt lo b) y1 F).symm) ⟨⟨?_, rfl, rfl, [], rfl, rfl, ⟨Wk.refl _, Wk.refl _, Wk.refl _, Wk.refl _, Wk.refl _, Wk.refl _, trivial⟩, ⟨_, rfl, OW.refl _⟩, ⟨_, rfl, OW.refl _⟩, ⟨_, rfl, OW.refl _⟩, ⟨_, rfl, rP_ow rfl rfl⟩, ⟨_, rfl, fmO_ow rfl rfl⟩, ⟨_, rfl, fmO_ow rfl rfl⟩, trivial⟩⟩
  have hbG : b ∈ G.map (·.b) := hsb ▸ List.mem_map_of_mem hs
  have g0 : ∀ d, (rowV encP ns).getD (0 + i * 1) d = ptrV b := fun d => by rw [rP_get ns i hi, hb]
  have g1 := rP_lt ns i hi
  have e1 := ltT hi
  have hwr := wrap_succ i (by omega)
  have k0 := good_keys (G := G) iv b lo hbG hlo
  have k1 := fc_nx (G := G) hs
  rw [hsb] at k1
  have k2 := look_nx_some hs hy1
  have d1 : decide (cnt lo b > Int.ofNat 0) = true := decide_eq_true hq1
  have s1 : (!w.toList == [(ByteArray.mk (Array.mk [42])).get! 0]) = false := by
    rw [show (ByteArray.mk (Array.mk [42])).get! 0 = 42 from rfl, bl_one]
    simp only [Bool.not_eq_eq_eq_not, Bool.not_true, Bool.not_false, decide_eq_false_iff_not, decide_eq_true_eq]
    exact hw
  simp only [Cnd.holds, fnd, g0, g1, e1, d1, s1, hi, Nat.blt_eq, true_and, and_true]
  and_intros
  all_goals first
    | exact k0
    | exact k1
    | exact k2
    | exact p0
    | exact p1
    | (with_reducible exact wk_int hwr) | (with_reducible first | exact trivial | exact rfl | exact Wk.refl _ | exact VW.refl _ | exact OW.refl _ | exact wk_lit _ | assumption) | exact rfl | exact Wk.refl _ | exact VW.refl _ | exact OW.refl _ | ((repeat (first | exact VW.nil | refine VW.cons (Wk.refl _) ?_ | refine VW.cons (Wk.any _) ?_ | refine VW.cons (wk_cap (Nat.le_refl _)) ?_)); done)
theorem sp111 (ns : List Nat) (lo : KMap Nat Int) (lc : Nat) (se : KMap Nat Int) (sc : Nat) (t : Fr) (G : List Nd) (w : ByteArray) (i b : Nat) (s : Nd) (hs : s ∈ G) (hsb : s.b = b) (hi : i < ns.length) (hn : ns.length ≤ 8796093022208) (hb : ns.getD i 0 = b) (hlo : ∀ x ∈ lo, x.1 ∈ G.map (·.b)) (hq1 : 0 < cnt lo b) (y1 : Nat) (hy1 : klook star s.nx = some y1) (hw : w ≠ star) (hv : w = hash) (p0 : StPre G t b) (p1 : StPre G (standC (chOf G b) t true) y1) : SpOK ns ns.length lo lc se sc t (standC (chOf G y1) (standC (chOf G b) t true) false) G w i := by
  refine ⟨[(fStand, cStO G 2)], hSp i b s.nb (cnt lo b) true true true false false (pk y1) (.pointer none), [], fun F _ => one_c (cStO_ok G 2 F), fun _ _ => noL, fun F => ?_⟩
  refine cast (congrArg (VAll _) (oSp111_eq ns ns.length lo lc se sc t G w i b s.nb (cnt lo b) y1 F).symm) ⟨⟨?_, rfl, rfl, [], rfl, rfl, ⟨Wk.refl _, Wk.refl _, Wk.refl _, Wk.refl _, Wk.refl _, Wk.refl _, trivial⟩, ⟨_, rfl, OW.refl _⟩, ⟨_, rfl, OW.refl _⟩, ⟨_, rfl, OW.refl _⟩, ⟨_, rfl, rP_ow rfl rfl⟩, ⟨_, rfl, fmO_ow rfl rfl⟩, ⟨_, rfl, fmO_ow rfl rfl⟩, trivial⟩⟩
  have hbG : b ∈ G.map (·.b) := hsb ▸ List.mem_map_of_mem hs
  have g0 : ∀ d, (rowV encP ns).getD (0 + i * 1) d = ptrV b := fun d => by rw [rP_get ns i hi, hb]
  have g1 := rP_lt ns i hi
  have e1 := ltT hi
  have hwr := wrap_succ i (by omega)
  have k0 := good_keys (G := G) iv b lo hbG hlo
  have k1 := fc_nx (G := G) hs
  rw [hsb] at k1
  have k2 := look_nx_some hs hy1
  have d1 : decide (cnt lo b > Int.ofNat 0) = true := decide_eq_true hq1
  have s1 : (!w.toList == [(ByteArray.mk (Array.mk [42])).get! 0]) = true := by
    rw [show (ByteArray.mk (Array.mk [42])).get! 0 = 42 from rfl, bl_one]
    simp only [Bool.not_eq_eq_eq_not, Bool.not_true, Bool.not_false, decide_eq_false_iff_not, decide_eq_true_eq]
    exact hw
  have s2 : (!w.toList == [(ByteArray.mk (Array.mk [35])).get! 0]) = false := by
    rw [show (ByteArray.mk (Array.mk [35])).get! 0 = 35 from rfl, bl_one]
    simp only [Bool.not_eq_eq_eq_not, Bool.not_true, Bool.not_false, decide_eq_false_iff_not, decide_eq_true_eq]
    exact hv
  simp only [Cnd.holds, fnd, g0, g1, e1, d1, s1, s2, hi, Nat.blt_eq, true_and, and_true]
  and_intros
  all_goals first
    | exact k0
    | exact k1
    | exact k2
    | exact p0
    | exact p1
    | (with_reducible exact wk_int hwr) | (with_reducible first | exact trivial | exact rfl | exact Wk.refl _ | exact VW.refl _ | exact OW.refl _ | exact wk_lit _ | assumption) | exact rfl | exact Wk.refl _ | exact VW.refl _ | exact OW.refl _ | ((repeat (first | exact VW.nil | refine VW.cons (Wk.refl _) ?_ | refine VW.cons (Wk.any _) ?_ | refine VW.cons (wk_cap (Nat.le_refl _)) ?_)); done)
theorem sp112 (ns : List Nat) (lo : KMap Nat Int) (lc : Nat) (se : KMap Nat Int) (sc : Nat) (t : Fr) (G : List Nd) (w : ByteArray) (i b : Nat) (s : Nd) (hs : s ∈ G) (hsb : s.b = b) (hi : i < ns.length) (hn : ns.length ≤ 8796093022208) (hb : ns.getD i 0 = b) (hlo : ∀ x ∈ lo, x.1 ∈ G.map (·.b)) (hq1 : 0 < cnt lo b) (y1 : Nat) (hy1 : klook star s.nx = some y1) (hw : w ≠ star) (hv : w ≠ hash) (hy2 : klook w s.nx = none) (p0 : StPre G t b) (p1 : StPre G (standC (chOf G b) t true) y1) : SpOK ns ns.length lo lc se sc t (standC (chOf G y1) (standC (chOf G b) t true) false) G w i := by
  refine ⟨[(fStand, cStO G 2)], hSp i b s.nb (cnt lo b) true true true true false (pk y1) (.pointer none), [], fun F _ => one_c (cStO_ok G 2 F), fun _ _ => noL, fun F => ?_⟩
  refine cast (congrArg (VAll _) (oSp112_eq ns ns.length lo lc se sc t G w i b s.nb (cnt lo b) y1 F).symm) ⟨⟨?_, rfl, rfl, [], rfl, rfl, ⟨Wk.refl _, Wk.refl _, Wk.refl _, Wk.refl _, Wk.refl _, Wk.refl _, trivial⟩, ⟨_, rfl, OW.refl _⟩, ⟨_, rfl, OW.refl _⟩, ⟨_, rfl, OW.refl _⟩, ⟨_, rfl, rP_ow rfl rfl⟩, ⟨_, rfl, fmO_ow rfl rfl⟩, ⟨_, rfl, fmO_ow rfl rfl⟩, trivial⟩⟩
  have hbG : b ∈ G.map (·.b) := hsb ▸ List.mem_map_of_mem hs
  have g0 : ∀ d, (rowV encP ns).getD (0 + i * 1) d = ptrV b := fun d => by rw [rP_get ns i hi, hb]
  have g1 := rP_lt ns i hi
  have e1 := ltT hi
  have hwr := wrap_succ i (by omega)
  have k0 := good_keys (G := G) iv b lo hbG hlo
  have k1 := fc_nx (G := G) hs
  rw [hsb] at k1
  have k2 := look_nx_some hs hy1
  have k3 := look_nx_none hs hy2
  have d1 : decide (cnt lo b > Int.ofNat 0) = true := decide_eq_true hq1
  have s1 : (!w.toList == [(ByteArray.mk (Array.mk [42])).get! 0]) = true := by
    rw [show (ByteArray.mk (Array.mk [42])).get! 0 = 42 from rfl, bl_one]
    simp only [Bool.not_eq_eq_eq_not, Bool.not_true, Bool.not_false, decide_eq_false_iff_not, decide_eq_true_eq]
    exact hw
  have s2 : (!w.toList == [(ByteArray.mk (Array.mk [35])).get! 0]) = true := by
    rw [show (ByteArray.mk (Array.mk [35])).get! 0 = 35 from rfl, bl_one]
    simp only [Bool.not_eq_eq_eq_not, Bool.not_true, Bool.not_false, decide_eq_false_iff_not, decide_eq_true_eq]
    exact hv
  simp only [Cnd.holds, fnd, g0, g1, e1, d1, s1, s2, hi, Nat.blt_eq, true_and, and_true]
  and_intros
  all_goals first
    | exact k0
    | exact k1
    | exact k2
    | exact k3
    | exact p0
    | exact p1
    | (with_reducible exact wk_int hwr) | (with_reducible first | exact trivial | exact rfl | exact Wk.refl _ | exact VW.refl _ | exact OW.refl _ | exact wk_lit _ | assumption) | exact rfl | exact Wk.refl _ | exact VW.refl _ | exact OW.refl _ | ((repeat (first | exact VW.nil | refine VW.cons (Wk.refl _) ?_ | refine VW.cons (Wk.any _) ?_ | refine VW.cons (wk_cap (Nat.le_refl _)) ?_)); done)
theorem sp113 (ns : List Nat) (lo : KMap Nat Int) (lc : Nat) (se : KMap Nat Int) (sc : Nat) (t : Fr) (G : List Nd) (w : ByteArray) (i b : Nat) (s : Nd) (hs : s ∈ G) (hsb : s.b = b) (hi : i < ns.length) (hn : ns.length ≤ 8796093022208) (hb : ns.getD i 0 = b) (hlo : ∀ x ∈ lo, x.1 ∈ G.map (·.b)) (hq1 : 0 < cnt lo b) (y1 : Nat) (hy1 : klook star s.nx = some y1) (hw : w ≠ star) (hv : w ≠ hash) (y2 : Nat) (hy2 : klook w s.nx = some y2) (p0 : StPre G t b) (p1 : StPre G (standC (chOf G b) t true) y1) (p2 : StPre G (standC (chOf G y1) (standC (chOf G b) t true) false) y2) : SpOK ns ns.length lo lc se sc t (standC (chOf G y2) (standC (chOf G y1) (standC (chOf G b) t true) false) false) G w i := by
  refine ⟨[(fStand, cStO G 2)], hSp i b s.nb (cnt lo b) true true true true true (pk y1) (pk y2), [], fun F _ => one_c (cStO_ok G 2 F), fun _ _ => noL, fun F => ?_⟩
  refine cast (congrArg (VAll _) (oSp113_eq ns ns.length lo lc se sc t G w i b s.nb (cnt lo b) y1 y2 F).symm) ⟨⟨?_, rfl, rfl, [], rfl, rfl, ⟨Wk.refl _, Wk.refl _, Wk.refl _, Wk.refl _, Wk.refl _, Wk.refl _, trivial⟩, ⟨_, rfl, OW.refl _⟩, ⟨_, rfl, OW.refl _⟩, ⟨_, rfl, OW.refl _⟩, ⟨_, rfl, rP_ow rfl rfl⟩, ⟨_, rfl, fmO_ow rfl rfl⟩, ⟨_, rfl, fmO_ow rfl rfl⟩, trivial⟩⟩
  have hbG : b ∈ G.map (·.b) := hsb ▸ List.mem_map_of_mem hs
  have g0 : ∀ d, (rowV encP ns).getD (0 + i * 1) d = ptrV b := fun d => by rw [rP_get ns i hi, hb]
  have g1 := rP_lt ns i hi
  have e1 := ltT hi
  have hwr := wrap_succ i (by omega)
  have k0 := good_keys (G := G) iv b lo hbG hlo
  have k1 := fc_nx (G := G) hs
  rw [hsb] at k1
  have k2 := look_nx_some hs hy1
  have k3 := look_nx_some hs hy2
  have d1 : decide (cnt lo b > Int.ofNat 0) = true := decide_eq_true hq1
  have s1 : (!w.toList == [(ByteArray.mk (Array.mk [42])).get! 0]) = true := by
    rw [show (ByteArray.mk (Array.mk [42])).get! 0 = 42 from rfl, bl_one]
    simp only [Bool.not_eq_eq_eq_not, Bool.not_true, Bool.not_false, decide_eq_false_iff_not, decide_eq_true_eq]
    exact hw
  have s2 : (!w.toList == [(ByteArray.mk (Array.mk [35])).get! 0]) = true := by
    rw [show (ByteArray.mk (Array.mk [35])).get! 0 = 35 from rfl, bl_one]
    simp only [Bool.not_eq_eq_eq_not, Bool.not_true, Bool.not_false, decide_eq_false_iff_not, decide_eq_true_eq]
    exact hv
  simp only [Cnd.holds, fnd, g0, g1, e1, d1, s1, s2, hi, Nat.blt_eq, true_and, and_true]
  and_intros
  all_goals first
    | exact k0
    | exact k1
    | exact k2
    | exact k3
    | exact p0
    | exact p1
    | exact p2
    | (with_reducible exact wk_int hwr) | (with_reducible first | exact trivial | exact rfl | exact Wk.refl _ | exact VW.refl _ | exact OW.refl _ | exact wk_lit _ | assumption) | exact rfl | exact Wk.refl _ | exact VW.refl _ | exact OW.refl _ | ((repeat (first | exact VW.nil | refine VW.cons (Wk.refl _) ?_ | refine VW.cons (Wk.any _) ?_ | refine VW.cons (wk_cap (Nat.le_refl _)) ?_)); done)
theorem sp100 (ns : List Nat) (lo : KMap Nat Int) (lc : Nat) (se : KMap Nat Int) (sc : Nat) (t : Fr) (G : List Nd) (w : ByteArray) (i b : Nat) (s : Nd) (hs : s ∈ G) (hsb : s.b = b) (hi : i < ns.length) (hn : ns.length ≤ 8796093022208) (hb : ns.getD i 0 = b) (hlo : ∀ x ∈ lo, x.1 ∈ G.map (·.b)) (hq1 : 0 < cnt lo b) (hy1 : klook star s.nx = none) (hw : w = star) (p0 : StPre G t b) : SpOK ns ns.length lo lc se sc t (standC (chOf G b) t true) G w i := by
  refine ⟨[(fStand, cStO G 2)], hSp i b s.nb (cnt lo b) true false false false false (.pointer none) (.pointer none), [], fun F _ => one_c (cStO_ok G 2 F), fun _ _ => noL, fun F => ?_⟩
  refine cast (congrArg (VAll _) (oSp100_eq ns ns.length lo lc se sc t G w i b s.nb (cnt lo b) F).symm) ⟨⟨?_, rfl, rfl, [], rfl, rfl, ⟨Wk.refl _, Wk.refl _, Wk.refl _, Wk.refl _, Wk.refl _, Wk.refl _, trivial⟩, ⟨_, rfl, OW.refl _⟩, ⟨_, rfl, OW.refl _⟩, ⟨_, rfl, OW.refl _⟩, ⟨_, rfl, rP_ow rfl rfl⟩, ⟨_, rfl, fmO_ow rfl rfl⟩, ⟨_, rfl, fmO_ow rfl rfl⟩, trivial⟩⟩
  have hbG : b ∈ G.map (·.b) := hsb ▸ List.mem_map_of_mem hs
  have g0 : ∀ d, (rowV encP ns).getD (0 + i * 1) d = ptrV b := fun d => by rw [rP_get ns i hi, hb]
  have g1 := rP_lt ns i hi
  have e1 := ltT hi
  have hwr := wrap_succ i (by omega)
  have k0 := good_keys (G := G) iv b lo hbG hlo
  have k1 := fc_nx (G := G) hs
  rw [hsb] at k1
  have k2 := look_nx_none hs hy1
  have d1 : decide (cnt lo b > Int.ofNat 0) = true := decide_eq_true hq1
  have s1 : (!w.toList == [(ByteArray.mk (Array.mk [42])).get! 0]) = false := by
    rw [show (ByteArray.mk (Array.mk [42])).get! 0 = 42 from rfl, bl_one]
    simp only [Bool.not_eq_eq_eq_not, Bool.not_true, Bool.not_false, decide_eq_false_iff_not, decide_eq_true_eq]
    exact hw
  simp only [Cnd.holds, fnd, g0, g1, e1, d1, s1, hi, Nat.blt_eq, true_and, and_true]
  and_intros
  all_goals first
    | exact k0
    | exact k1
    | exact k2
    | exact p0
    | (with_reducible exact wk_int hwr) | (with_reducible first | exact trivial | exact rfl | exact Wk.refl _ | exact VW.refl _ | exact OW.refl _ | exact wk_lit _ | assumption) | exact rfl | exact Wk.refl _ | exact VW.refl _ | exact OW.refl _ | ((repeat (first | exact VW.nil | refine VW.cons (Wk.refl _) ?_ | refine VW.cons (Wk.any _) ?_ | refine VW.cons (wk_cap (Nat.le_refl _)) ?_)); done)
theorem sp101 (ns : List Nat) (lo : KMap Nat Int) (lc : Nat) (se : KMap Nat Int) (sc : Nat) (t : Fr) (G : List Nd) (w : ByteArray) (i b : Nat) (s : Nd) (hs : s ∈ G) (hsb : s.b = b) (hi : i < ns.length) (hn : ns.length ≤ 8796093022208) (hb : ns.getD i 0 = b) (hlo : ∀ x ∈ lo, x.1 ∈ G.map (·.b)) (hq1 : 0 < cnt lo b) (hy1 : klook star s.nx = none) (hw : w ≠ star) (hv : w = hash) (p0 : StPre G t b) : SpOK ns ns.length lo lc se sc t (standC (chOf G b) t true) G w i := by
  refine ⟨[(fStand, cStO G 2)], hSp i b s.nb (cnt lo b) true false true false false (.pointer none) (.pointer none), [], fun F _ => one_c (cStO_ok G 2 F), fun _ _ => noL, fun F => ?_⟩
  refine cast (congrArg (VAll _) (oSp101_eq ns ns.length lo lc se sc t G w i b s.nb (cnt lo b) F).symm) ⟨⟨?_, rfl, rfl, [], rfl, rfl, ⟨Wk.refl _, Wk.refl _, Wk.refl _, Wk.refl _, Wk.refl _, Wk.refl _, trivial⟩, ⟨_, rfl, OW.refl _⟩, ⟨_, rfl, OW.refl _⟩, ⟨_, rfl, OW.refl _⟩, ⟨_, rfl, rP_ow rfl rfl⟩, ⟨_, rfl, fmO_ow rfl rfl⟩, ⟨_, rfl, fmO_ow rfl rfl⟩, trivial⟩⟩
  have hbG : b ∈ G.map (·.b) := hsb ▸ List.mem_map_of_mem hs
  have g0 : ∀ d, (rowV encP ns).getD (0 + i * 1) d = ptrV b := fun d => by rw [rP_get ns i hi, hb]
  have g1 := rP_lt ns i hi
  have e1 := ltT hi
  have hwr := wrap_succ i (by omega)
  have k0 := good_keys (G := G) iv b lo hbG hlo
  have k1 := fc_nx (G := G) hs
  rw [hsb] at k1
  have k2 := look_nx_none hs hy1
  have d1 : decide (cnt lo b > Int.ofNat 0) = true := decide_eq_true hq1
  have s1 : (!w.toList == [(ByteArray.mk (Array.mk [42])).get! 0]) = true := by
    rw [show (ByteArray.mk (Array.mk [42])).get! 0 = 42 from rfl, bl_one]
    simp only [Bool.not_eq_eq_eq_not, Bool.not_true, Bool.not_false, decide_eq_false_iff_not, decide_eq_true_eq]
    exact hw
  have s2 : (!w.toList == [(ByteArray.mk (Array.mk [35])).get! 0]) = false := by
    rw [show (ByteArray.mk (Array.mk [35])).get! 0 = 35 from rfl, bl_one]
    simp only [Bool.not_eq_eq_eq_not, Bool.not_true, Bool.not_false, decide_eq_false_iff_not, decide_eq_true_eq]
    exact hv
  simp only [Cnd.holds, fnd, g0, g1, e1, d1, s1, s2, hi, Nat.blt_eq, true_and, and_true]
  and_intros
  all_goals first
    | exact k0
    | exact k1
    | exact k2
    | exact p0
    | (with_reducible exact wk_int hwr) | (with_reducible first | exact trivial | exact rfl | exact Wk.refl _ | exact VW.refl _ | exact OW.refl _ | exact wk_lit _ | assumption) | exact rfl | exact Wk.refl _ | exact VW.refl _ | exact OW.refl _ | ((repeat (first | exact VW.nil | refine VW.cons (Wk.refl _) ?_ | refine VW.cons (Wk.any _) ?_ | refine VW.cons (wk_cap (Nat.le_refl _)) ?_)); done)
theorem sp102 (ns : List Nat) (lo : KMap Nat Int) (lc : Nat) (se : KMap Nat Int) (sc : Nat) (t : Fr) (G : List Nd) (w : ByteArray) (i b : Nat) (s : Nd) (hs : s ∈ G) (hsb : s.b = b) (hi : i < ns.length) (hn : ns.length ≤ 8796093022208) (hb : ns.getD i 0 = b) (hlo : ∀ x ∈ lo, x.1 ∈ G.map (·.b)) (hq1 : 0 < cnt lo b) (hy1 : klook star s.nx = none) (hw : w ≠ star) (hv : w ≠ hash) (hy2 : klook w s.nx = none) (p0 : StPre G t b) : SpOK ns ns.length lo lc se sc t (standC (chOf G b) t true) G w i := by
  refine ⟨[(fStand, cStO G 2)], hSp i b s.nb (cnt lo b) true false true true false (.pointer none) (.pointer none), [], fun F _ => one_c (cStO_ok G 2 F), fun _ _ => noL, fun F => ?_⟩
  refine cast (congrArg (VAll _) (oSp102_eq ns ns.length lo lc se sc t G w i b s.nb (cnt lo b) F).symm) ⟨⟨?_, rfl, rfl, [], rfl, rfl, ⟨Wk.refl _, Wk.refl _, Wk.refl _, Wk.refl _, Wk.refl _, Wk.refl _, trivial⟩, ⟨_, rfl, OW.refl _⟩, ⟨_, rfl, OW.refl _⟩, ⟨_, rfl, OW.refl _⟩, ⟨_, rfl, rP_ow rfl rfl⟩, ⟨_, rfl, fmO_ow rfl rfl⟩, ⟨_, rfl, fmO_ow rfl rfl⟩, trivial⟩⟩
  have hbG : b ∈ G.map (·.b) := hsb ▸ List.mem_map_of_mem hs
  have g0 : ∀ d, (rowV encP ns).getD (0 + i * 1) d = ptrV b := fun d => by rw [rP_get ns i hi, hb]
  have g1 := rP_lt ns i hi
  have e1 := ltT hi
  have hwr := wrap_succ i (by omega)
  have k0 := good_keys (G := G) iv b lo hbG hlo
  have k1 := fc_nx (G := G) hs
  rw [hsb] at k1
  have k2 := look_nx_none hs hy1
  have k3 := look_nx_none hs hy2
  have d1 : decide (cnt lo b > Int.ofNat 0) = true := decide_eq_true hq1
  have s1 : (!w.toList == [(ByteArray.mk (Array.mk [42])).get! 0]) = true := by
    rw [show (ByteArray.mk (Array.mk [42])).get! 0 = 42 from rfl, bl_one]
    simp only [Bool.not_eq_eq_eq_not, Bool.not_true, Bool.not_false, decide_eq_false_iff_not, decide_eq_true_eq]
    exact hw
  have s2 : (!w.toList == [(ByteArray.mk (Array.mk [35])).get! 0]) = true := by
    rw [show (ByteArray.mk (Array.mk [35])).get! 0 = 35 from rfl, bl_one]
    simp only [Bool.not_eq_eq_eq_not, Bool.not_true, Bool.not_false, decide_eq_false_iff_not, decide_eq_true_eq]
    exact hv
  simp only [Cnd.holds, fnd, g0, g1, e1, d1, s1, s2, hi, Nat.blt_eq, true_and, and_true]
  and_intros
  all_goals first
    | exact k0
    | exact k1
    | exact k2
    | exact k3
    | exact p0
    | (with_reducible exact wk_int hwr) | (with_reducible first | exact trivial | exact rfl | exact Wk.refl _ | exact VW.refl _ | exact OW.refl _ | exact wk_lit _ | assumption) | exact rfl | exact Wk.refl _ | exact VW.refl _ | exact OW.refl _ | ((repeat (first | exact VW.nil | refine VW.cons (Wk.refl _) ?_ | refine VW.cons (Wk.any _) ?_ | refine VW.cons (wk_cap (Nat.le_refl _)) ?_)); done)
theorem sp103 (ns : List Nat) (lo : KMap Nat Int) (lc : Nat) (se : KMap Nat Int) (sc : Nat) (t : Fr) (G : List Nd) (w : ByteArray) (i b : Nat) (s : Nd) (hs : s ∈ G) (hsb : s.b = b) (hi : i < ns.length) (hn : ns.length ≤ 8796093022208) (hb : ns.getD i 0 = b) (hlo : ∀ x ∈ lo, x.1 ∈ G.map (·.b)) (hq1 : 0 < cnt lo b) (hy1 : klook star s.nx = none) (hw : w ≠ star) (hv : w ≠ hash) (y2 : Nat) (hy2 : klook w s.nx = some y2) (p0 : StPre G t b) (p1 : StPre G (standC (chOf G b) t true) y2) : SpOK ns ns.length lo lc se sc t (standC (chOf G y2) (standC (chOf G b) t true) false) G w i := by
  refine ⟨[(fStand, cStO G 2)], hSp i b s.nb (cnt lo b) true false true true true (.pointer none) (pk y2), [], fun F _ => one_c (cStO_ok G 2 F), fun _ _ => noL, fun F => ?_⟩
  refine cast (congrArg (VAll _) (oSp103_eq ns ns.length lo lc se sc t G w i b s.nb (cnt lo b) y2 F).symm) ⟨⟨?_, rfl, rfl, [], rfl, rfl, ⟨Wk.refl _, Wk.refl _, Wk.refl _, Wk.refl _, Wk.refl _, Wk.refl _, trivial⟩, ⟨_, rfl, OW.refl _⟩, ⟨_, rfl, OW.refl _⟩, ⟨_, rfl, OW.refl _⟩, ⟨_, rfl, rP_ow rfl rfl⟩, ⟨_, rfl, fmO_ow rfl rfl⟩, ⟨_, rfl, fmO_ow rfl rfl⟩, trivial⟩⟩
  have hbG : b ∈ G.map (·.b) := hsb ▸ List.mem_map_of_mem hs
  have g0 : ∀ d, (rowV encP ns).getD (0 + i * 1) d = ptrV b := fun d => by rw [rP_get ns i hi, hb]
  have g1 := rP_lt ns i hi
  have e1 := ltT hi
  have hwr := wrap_succ i (by omega)
  have k0 := good_keys (G := G) iv b lo hbG hlo
  have k1 := fc_nx (G := G) hs
  rw [hsb] at k1
  have k2 := look_nx_none hs hy1
  have k3 := look_nx_some hs hy2
  have d1 : decide (cnt lo b > Int.ofNat 0) = true := decide_eq_true hq1
  have s1 : (!w.toList == [(ByteArray.mk (Array.mk [42])).get! 0]) = true := by
    rw [show (ByteArray.mk (Array.mk [42])).get! 0 = 42 from rfl, bl_one]
    simp only [Bool.not_eq_eq_eq_not, Bool.not_true, Bool.not_false, decide_eq_false_iff_not, decide_eq_true_eq]
    exact hw
  have s2 : (!w.toList == [(ByteArray.mk (Array.mk [35])).get! 0]) = true := by
    rw [show (ByteArray.mk (Array.mk [35])).get! 0 = 35 from rfl, bl_one]
    simp only [Bool.not_eq_eq_eq_not, Bool.not_true, Bool.not_false, decide_eq_false_iff_not, decide_eq_true_eq]
    exact hv
  simp only [Cnd.holds, fnd, g0, g1, e1, d1, s1, s2, hi, Nat.blt_eq, true_and, and_true]
  and_intros
  all_goals first
    | exact k0
    | exact k1
    | exact k2
    | exact k3
    | exact p0
    | exact p1
    | (with_reducible exact wk_int hwr) | (with_reducible first | exact trivial | exact rfl | exact Wk.refl _ | exact VW.refl _ | exact OW.refl _ | exact wk_lit _ | assumption) | exact rfl | exact Wk.refl _ | exact VW.refl _ | exact OW.refl _ | ((repeat (first | exact VW.nil | refine VW.cons (Wk.refl _) ?_ | refine VW.cons (Wk.any _) ?_ | refine VW.cons (wk_cap (Nat.le_refl _)) ?_)); done)
theorem sp010 (ns : List Nat) (lo : KMap Nat Int) (lc : Nat) (se : KMap Nat Int) (sc : Nat) (t : Fr) (G : List Nd) (w : ByteArray) (i b : Nat) (s : Nd) (hs : s ∈ G) (hsb : s.b = b) (hi : i < ns.length) (hn : ns.length ≤ 8796093022208) (hb : ns.getD i 0 = b) (hlo : ∀ x ∈ lo, x.1 ∈ G.map (·.b)) (hq1 : ¬ 0 < cnt lo b) (y1 : Nat) (hy1 : klook star s.nx = some y1) (hw : w = star) (p0 : StPre G t y1) : SpOK ns ns.length lo lc se sc t (standC (chOf G y1) t false) G w i := by
  refine ⟨[(fStand, cStO G 2)], hSp i b s.nb (cnt lo b) false true false false false (pk y1) (.pointer none), [], fun F _ => one_c (cStO_ok G 2 F), fun _ _ => noL, fun F => ?_⟩
  refine cast (congrArg (VAll _) (oSp010_eq ns ns.length lo lc se sc t G w i b s.nb (cnt lo b) y1 F).symm) ⟨⟨?_, rfl, rfl, [], rfl, rfl, ⟨Wk.refl _, Wk.refl _, Wk.refl _, Wk.refl _, Wk.refl _, Wk.refl _, trivial⟩, ⟨_, rfl, OW.refl _⟩, ⟨_, rfl, OW.refl _⟩, ⟨_, rfl, OW.refl _⟩, ⟨_, rfl, rP_ow rfl rfl⟩, ⟨_, rfl, fmO_ow rfl rfl⟩, ⟨_, rfl, fmO_ow rfl rfl⟩, trivial⟩⟩
  have hbG : b ∈ G.map (·.b) := hsb ▸ List.mem_map_of_mem hs
  have g0 : ∀ d, (rowV encP ns).getD (0 + i * 1) d = ptrV b := fun d => by rw [rP_get ns i hi, hb]
  have g1 := rP_lt ns i hi
  have e1 := ltT hi
  have hwr := wrap_succ i (by omega)
  have k0 := good_keys (G := G) iv b lo hbG hlo
  have k1 := fc_nx (G := G) hs
  rw [hsb] at k1
  have k2 := look_nx_some hs hy1
  have d1 : decide (cnt lo b > Int.ofNat 0) = false := decide_eq_false hq1
  have s1 : (!w.toList == [(ByteArray.mk (Array.mk [42])).get! 0]) = false := by
    rw [show (ByteArray.mk (Array.mk [42])).get! 0 = 42 from rfl, bl_one]
    simp only [Bool.not_eq_eq_eq_not, Bool.not_true, Bool.not_false, decide_eq_false_iff_not, decide_eq_true_eq]
    exact hw
  simp only [Cnd.holds, fnd, g0, g1, e1, d1, s1, hi, Nat.blt_eq, true_and, and_true]
  and_intros
  all_goals first
    | exact k0
    | exact k1
    | exact k2
    | exact p0
    | (with_reducible exact wk_int hwr) | (with_reducible first | exact trivial | exact rfl | exact Wk.refl _ | exact VW.refl _ | exact OW.refl _ | exact wk_lit _ | assumption) | exact rfl | exact Wk.refl _ | exact VW.refl _ | exact OW.refl _ | ((repeat (first | exact VW.nil | refine VW.cons (Wk.refl _) ?_ | refine VW.cons (Wk.any _) ?_ | refine VW.cons (wk_cap (Nat.le_refl _)) ?_)); done)
theorem sp011 (ns : List Nat) (lo : KMap Nat Int) (lc : Nat) (se : KMap Nat Int) (sc : Nat) (t : Fr) (G : List Nd) (w : ByteArray) (i b : Nat) (s : Nd) (hs : s ∈ G) (hsb : s.b = b) (hi : i < ns.length) (hn : ns.length ≤ 8796093022208) (hb : ns.getD i 0 = b) (hlo : ∀ x ∈ lo, x.1 ∈ G.map (·.b)) (hq1 : ¬ 0 < cnt lo b) (y1 : Nat) (hy1 : klook star s.nx = some y1) (hw : w ≠ star) (hv : w = hash) (p0 : StPre G t y1) : SpOK ns ns.length lo lc se sc t (standC (chOf G y1) t false) G w i := by
  refine ⟨[(fStand, cStO G 2)], hSp i b s.nb (cnt lo b) false true true false false (pk y1) (.pointer none), [], fun F _ => one_c (cStO_ok G 2 F), fun _ _ => noL, fun F => ?_⟩
  refine cast (congrArg (VAll _) (oSp011_eq ns ns.length lo lc se sc t G w i b s.nb (cnt lo b) y1 F).symm) ⟨⟨?_, rfl, rfl, [], rfl, rfl, ⟨Wk.refl _, Wk.refl _, Wk.refl _, Wk.refl _, Wk.refl _, Wk.refl _, trivial⟩, ⟨_, rfl, OW.refl _⟩, ⟨_, rfl, OW.refl _⟩, ⟨_, rfl, OW.refl _⟩, ⟨_, rfl, rP_ow rfl rfl⟩, ⟨_, rfl, fmO_ow rfl rfl⟩, ⟨_, rfl, fmO_ow rfl rfl⟩, trivial⟩⟩
  have hbG : b ∈ G.map (·.b) := hsb ▸ List.mem_map_of_mem hs
  have g0 : ∀ d, (rowV encP ns).getD (0 + i * 1) d = ptrV b := fun d => by rw [rP_get ns i hi, hb]
  have g1 := rP_lt ns i hi
  have e1 := ltT hi
  have hwr := wrap_succ i (by omega)
  have k0 := good_keys (G := G) iv b lo hbG hlo
  have k1 := fc_nx (G := G) hs
  rw [hsb] at k1
  have k2 := look_nx_some hs hy1
  have d1 : decide (cnt lo b > Int.ofNat 0) = false := decide_eq_false hq1
  have s1 : (!w.toList == [(ByteArray.mk (Array.mk [42])).get! 0]) = true := by
    rw [show (ByteArray.mk (Array.mk [42])).get! 0 = 42 from rfl, bl_one]
    simp only [Bool.not_eq_eq_eq_not, Bool.not_true, Bool.not_false, decide_eq_false_iff_not, decide_eq_true_eq]
    exact hw
  have s2 : (!w.toList == [(ByteArray.mk (Array.mk [35])).get! 0]) = false := by
    rw [show (ByteArray.mk (Array.mk [35])).get! 0 = 35 from rfl, bl_one]
    simp only [Bool.not_eq_eq_eq_not, Bool.not_true, Bool.not_false, decide_eq_false_iff_not, decide_eq_true_eq]
    exact hv
  simp only [Cnd.holds, fnd, g0, g1, e1, d1, s1, s2, hi, Nat.blt_eq, true_and, and_true]
  and_intros
  all_goals first
    | exact k0
    | exact k1
    | exact k2
    | exact p0
    | (with_reducible exact wk_int hwr) | (with_reducible first | exact trivial | exact rfl | exact Wk.refl _ | exact VW.refl _ | exact OW.refl _ | exact wk_lit _ | assumption) | exact rfl | exact Wk.refl _ | exact VW.refl _ | exact OW.refl _ | ((repeat (first | exact VW.nil | refine VW.cons (Wk.refl _) ?_ | refine VW.cons (Wk.any _) ?_ | refine VW.cons (wk_cap (Nat.le_refl _)) ?_)); done)
theorem sp012 (ns : List Nat) (lo : KMap Nat Int) (lc : Nat) (se : KMap Nat Int) (sc : Nat) (t : Fr) (G : List Nd) (w : ByteArray) (i b : Nat) (s : Nd) (hs : s ∈ G) (hsb : s.b = b) (hi : i < ns.length) (hn : ns.length ≤ 8796093022208) (hb : ns.getD i 0 = b) (hlo : ∀ x ∈ lo, x.1 ∈ G.map (·.b)) (hq1 : ¬ 0 < cnt lo b) (y1 : Nat) (hy1 : klook star s.nx = some y1) (hw : w ≠ star) (hv : w ≠ hash) (hy2 : klook w s.nx = none) (p0 : StPre G t y1) : SpOK ns ns.length lo lc se sc t (standC (chOf G y1) t false) G w i := by
  refine ⟨[(fStand, cStO G 2)], hSp i b s.nb (cnt lo b) false true true true false (pk y1) (.pointer none), [], fun F _ => one_c (cStO_ok G 2 F), fun _ _ => noL, fun F => ?_⟩
  refine cast (congrArg (VAll _) (oSp012_eq ns ns.length lo lc se sc t G w i b s.nb (cnt lo b) y1 F).symm) ⟨⟨?_, rfl, rfl, [], rfl, rfl, ⟨Wk.refl _, Wk.refl _, Wk.refl _, Wk.refl _, Wk.refl _, Wk.refl _, trivial⟩, ⟨_, rfl, OW.refl _⟩, ⟨_, rfl, OW.refl _⟩, ⟨_, rfl, OW.refl _⟩, ⟨_, rfl, rP_ow rfl rfl⟩, ⟨_, rfl, fmO_ow rfl rfl⟩, ⟨_, rfl, fmO_ow rfl rfl⟩, trivial⟩⟩
  have hbG : b ∈ G.map (·.b) := hsb ▸ List.mem_map_of_mem hs
  have g0 : ∀ d, (rowV encP ns).getD (0 + i * 1) d = ptrV b := fun d => by rw [rP_get ns i hi, hb]
  have g1 := rP_lt ns i hi
  have e1 := ltT hi
  have hwr := wrap_succ i (by omega)
  have k0 := good_keys (G := G) iv b lo hbG hlo
  have k1 := fc_nx (G := G) hs
  rw [hsb] at k1
  have k2 := look_nx_some hs hy1
  have k3 := look_nx_none hs hy2
  have d1 : decide (cnt lo b > Int.ofNat 0) = false := decide_eq_false hq1
  have s1 : (!w.toList == [(ByteArray.mk (Array.mk [42])).get! 0]) = true := by
    rw [show (ByteArray.mk (Array.mk [42])).get! 0 = 42 from rfl, bl_one]
    simp only [Bool.not_eq_eq_eq_not, Bool.not_true, Bool.not_false, decide_eq_false_iff_not, decide_eq_true_eq]
    exact hw
  have s2 : (!w.toList == [(ByteArray.mk (Array.mk [35])).get! 0]) = true := by
    rw [show (ByteArray.mk (Array.mk [35])).get! 0 = 35 from rfl, bl_one]
    simp only [Bool.not_eq_eq_eq_not, Bool.not_true, Bool.not_false, decide_eq_false_iff_not, decide_eq_true_eq]
    exact hv
  simp only [Cnd.holds, fnd, g0, g1, e1, d1, s1, s2, hi, Nat.blt_eq, true_and, and_true]
  and_intros
  all_goals first
    | exact k0
    | exact k1
    | exact k2
    | exact k3
    | exact p0
    | (with_reducible exact wk_int hwr) | (with_reducible first | exact trivial | exact rfl | exact Wk.refl _ | exact VW.refl _ | exact OW.refl _ | exact wk_lit _ | assumption) | exact rfl | exact Wk.refl _ | exact VW.refl _ | exact OW.refl _ | ((repeat (first | exact VW.nil | refine VW.cons (Wk.refl _) ?_ | refine VW.cons (Wk.any _) ?_ | refine VW.cons (wk_cap (Nat.le_refl _)) ?_)); done)
theorem sp013 (ns : List Nat) (lo : KMap Nat Int) (lc : Nat) (se : KMap Nat Int) (sc : Nat) (t : Fr) (G : List Nd) (w : ByteArray) (i b : Nat) (s : Nd) (hs : s ∈ G) (hsb : s.b = b) (hi : i < ns.length) (hn : ns.length ≤ 8796093022208) (hb : ns.getD i 0 = b) (hlo : ∀ x ∈ lo, x.1 ∈ G.map (·.b)) (hq1 : ¬ 0 < cnt lo b) (y1 : Nat) (hy1 : klook star s.nx = some y1) (hw : w ≠ star) (hv : w ≠ hash) (y2 : Nat) (hy2 : klook w s.nx = some y2) (p0 : StPre G t y1) (p1 : StPre G (standC (chOf G y1) t false) y2) : SpOK ns ns.length lo lc se sc t (standC (chOf G y2) (standC (chOf G y1) t false) false) G w i := by
  refine ⟨[(fStand, cStO G 2)], hSp i b s.nb (cnt lo b) false true true true true (pk y1) (pk y2), [], fun F _ => one_c (cStO_ok G 2 F), fun _ _ => noL, fun F => ?_⟩
  refine cast (congrArg (VAll _) (oSp013_eq ns ns.length lo lc se sc t G w i b s.nb (cnt lo b) y1 y2 F).symm) ⟨⟨?_, rfl, rfl, [], rfl, rfl, ⟨Wk.refl _, Wk.refl _, Wk.refl _, Wk.refl _, Wk.refl _, Wk.refl _, trivial⟩, ⟨_, rfl, OW.refl _⟩, ⟨_, rfl, OW.refl _⟩, ⟨_, rfl, OW.refl _⟩, ⟨_, rfl, rP_ow rfl rfl⟩, ⟨_, rfl, fmO_ow rfl rfl⟩, ⟨_, rfl, fmO_ow rfl rfl⟩, trivial⟩⟩
  have hbG : b ∈ G.map (·.b) := hsb ▸ List.mem_map_of_mem hs
  have g0 : ∀ d, (rowV encP ns).getD (0 + i * 1) d = ptrV b := fun d => by rw [rP_get ns i hi, hb]
  have g1 := rP_lt ns i hi
  have e1 := ltT hi
  have hwr := wrap_succ i (by omega)
  have k0 := good_keys (G := G) iv b lo hbG hlo
  have k1 := fc_nx (G := G) hs
  rw [hsb] at k1
  have k2 := look_nx_some hs hy1
  have k3 := look_nx_some hs hy2
  have d1 : decide (cnt lo b > Int.ofNat 0) = false := decide_eq_false hq1
  have s1 : (!w.toList == [(ByteArray.mk (Array.mk [42])).get! 0]) = true := by
    rw [show (ByteArray.mk (Array.mk [42])).get! 0 = 42 from rfl, bl_one]
    simp only [Bool.not_eq_eq_eq_not, Bool.not_true, Bool.not_false, decide_eq_false_iff_not, decide_eq_true_eq]
    exact hw
  have s2 : (!w.toList == [(ByteArray.mk (Array.mk [35])).get! 0]) = true := by
    rw [show (ByteArray.mk (Array.mk [35])).get! 0 = 35 from rfl, bl_one]
    simp only [Bool.not_eq_eq_eq_not, Bool.not_true, Bool.not_false, decide_eq_false_iff_not, decide_eq_true_eq]
    exact hv
  simp only [Cnd.holds, fnd, g0, g1, e1, d1, s1, s2, hi, Nat.blt_eq, true_and, and_true]
  and_intros
  all_goals first
    | exact k0
    | exact k1
    | exact k2
    | exact k3
    | exact p0
    | exact p1
    | (with_reducible exact wk_int hwr) | (with_reducible first | exact trivial | exact rfl | exact Wk.refl _ | exact VW.refl _ | exact OW.refl _ | exact wk_lit _ | assumption) | exact rfl | exact Wk.refl _ | exact VW.refl _ | exact OW.refl _ | ((repeat (first | exact VW.nil | refine VW.cons (Wk.refl _) ?_ | refine VW.cons (Wk.any _) ?_ | refine VW.cons (wk_cap (Nat.le_refl _)) ?_)); done)
theorem sp000 (ns : List Nat) (lo : KMap Nat Int) (lc : Nat) (se : KMap Nat Int) (sc : Nat) (t : Fr) (G : List Nd) (w : ByteArray) (i b : Nat) (s : Nd) (hs : s ∈ G) (hsb : s.b = b) (hi : i < ns.length) (hn : ns.length ≤ 8796093022208) (hb : ns.getD i 0 = b) (hlo : ∀ x ∈ lo, x.1 ∈ G.map (·.b)) (hq1 : ¬ 0 < cnt lo b) (hy1 : klook star s.nx = none) (hw : w = star) : SpOK ns ns.length lo lc se sc t t G w i := by
  refine ⟨[(fStand, cStO G 2)], hSp i b s.nb (cnt lo b) false false false false false (.pointer none) (.pointer none), [], fun F _ => one_c (cStO_ok G 2 F), fun _ _ => noL, fun F => ?_⟩
  refine cast (congrArg (VAll _) (oSp000_eq ns ns.length lo lc se sc t G w i b s.nb (cnt lo b) F).symm) ⟨⟨?_, rfl, rfl, [], rfl, rfl, ⟨Wk.refl _, Wk.refl _, Wk.refl _, Wk.refl _, Wk.refl _, Wk.refl _, trivial⟩, ⟨_, rfl, OW.refl _⟩, ⟨_, rfl, OW.refl _⟩, ⟨_, rfl, OW.refl _⟩, ⟨_, rfl, rP_ow rfl rfl⟩, ⟨_, rfl, fmO_ow rfl rfl⟩, ⟨_, rfl, fmO_ow rfl rfl⟩, trivial⟩⟩
  have hbG : b ∈ G.map (·.b) := hsb ▸ List.mem_map_of_mem hs
  have g0 : ∀ d, (rowV encP ns).getD (0 + i * 1) d = ptrV b := fun d => by rw [rP_get ns i hi, hb]
  have g1 := rP_lt ns i hi
  have e1 := ltT hi
  have hwr := wrap_succ i (by omega)
  have k0 := good_keys (G := G) iv b lo hbG hlo
  have k1 := fc_nx (G := G) hs
  rw [hsb] at k1
  have k2 := look_nx_none hs hy1
  have d1 : decide (cnt lo b > Int.ofNat 0) = false := decide_eq_false hq1
  have s1 : (!w.toList == [(ByteArray.mk (Array.mk [42])).get! 0]) = false := by
    rw [show (ByteArray.mk (Array.mk [42])).get! 0 = 42 from rfl, bl_one]
    simp only [Bool.not_eq_eq_eq_not, Bool.not_true, Bool.not_false, decide_eq_false_iff_not, decide_eq_true_eq]
    exact hw
  simp only [Cnd.holds, fnd, g0, g1, e1, d1, s1, hi, Nat.blt_eq, true_and, and_true]
  and_intros
  all_goals first
    | exact k0
    | exact k1
    | exact k2
    | (with_reducible exact wk_int hwr) | (with_reducible first | exact trivial | exact rfl | exact Wk.refl _ | exact VW.refl _ | exact OW.refl _ | exact wk_lit _ | assumption) | exact rfl | exact Wk.refl _ | exact VW.refl _ | exact OW.refl _ | ((repeat (first | exact VW.nil | refine VW.cons (Wk.refl _) ?_ | refine VW.cons (Wk.any _) ?_ | refine VW.cons (wk_cap (Nat.le_refl _)) ?_)); done)
theorem sp001 (ns : List Nat) (lo : KMap Nat Int) (lc : Nat) (se : KMap Nat Int) (sc : Nat) (t : Fr) (G : List Nd) (w : ByteArray) (i b : Nat) (s : Nd) (hs : s ∈ G) (hsb : s.b = b) (hi : i < ns.length) (hn : ns.length ≤ 8796093022208) (hb : ns.getD i 0 = b) (hlo : ∀ x ∈ lo, x.1 ∈ G.map (·.b)) (hq1 : ¬ 0 < cnt lo b) (hy1 : klook star s.nx = none) (hw : w ≠ star) (hv : w = hash) : SpOK ns ns.length lo lc se sc t t G w i := by
  refine ⟨[(fStand, cStO G 2)], hSp i b s.nb (cnt lo b) false false true false false (.pointer none) (.pointer none), [], fun F _ => one_c (cStO_ok G 2 F), fun _ _ => noL, fun F => ?_⟩
  refine cast (congrArg (VAll _) (oSp001_eq ns ns.length lo lc se sc t G w i b s.nb (cnt lo b) F).symm) ⟨⟨?_, rfl, rfl, [], rfl, rfl, ⟨Wk.refl _, Wk.refl _, Wk.refl _, Wk.refl _, Wk.refl _, Wk.refl _, trivial⟩, ⟨_, rfl, OW.refl _⟩, ⟨_, rfl, OW.refl _⟩, ⟨_, rfl, OW.refl _⟩, ⟨_, rfl, rP_ow rfl rfl⟩, ⟨_, rfl, fmO_ow rfl rfl⟩, ⟨_, rfl, fmO_ow rfl rfl⟩, trivial⟩⟩
  have hbG : b ∈ G.map (·.b) := hsb ▸ List.mem_map_of_mem hs
  have g0 : ∀ d, (rowV encP ns).getD (0 + i * 1) d = ptrV b := fun d => by rw [rP_get ns i hi, hb]
  have g1 := rP_lt ns i hi
  have e1 := ltT hi
  have hwr := wrap_succ i (by omega)
  have k0 := good_keys (G := G) iv b lo hbG hlo
  have k1 := fc_nx (G := G) hs
  rw [hsb] at k1
  have k2 := look_nx_none hs hy1
  have d1 : decide (cnt lo b > Int.ofNat 0) = false := decide_eq_false hq1
  have s1 : (!w.toList == [(ByteArray.mk (Array.mk [42])).get! 0]) = true := by
    rw [show (ByteArray.mk (Array.mk [42])).get! 0 = 42 from rfl, bl_one]
    simp only [Bool.not_eq_eq_eq_not, Bool.not_true, Bool.not_false, decide_eq_false_iff_not, decide_eq_true_eq]
    exact hw
  have s2 : (!w.toList == [(ByteArray.mk (Array.mk [35])).get! 0]) = false := by
    rw [show (ByteArray.mk (Array.mk [35])).get! 0 = 35 from rfl, bl_one]
    simp only [Bool.not_eq_eq_eq_not, Bool.not_true, Bool.not_false, decide_eq_false_iff_not, decide_eq_true_eq]
    exact hv
  simp only [Cnd.holds, fnd, g0, g1, e1, d1, s1, s2, hi, Nat.blt_eq, true_and, and_true]
  and_intros
  all_goals first
    | exact k0
    | exact k1
    | exact k2
    | (with_reducible exact wk_int hwr) | (with_reducible first | exact trivial | exact rfl | exact Wk.refl _ | exact VW.refl _ | exact OW.refl _ | exact wk_lit _ | assumption) | exact rfl | exact Wk.refl _ | exact VW.refl _ | exact OW.refl _ | ((repeat (first | exact VW.nil | refine VW.cons (Wk.refl _) ?_ | refine VW.cons (Wk.any _) ?_ | refine VW.cons (wk_cap (Nat.le_refl _)) ?_)); done)
theorem sp002 (ns : List Nat) (lo : KMap Nat Int) (lc : Nat) (se : KMap Nat Int) (sc : Nat) (t : Fr) (G : List Nd) (w : ByteArray) (i b : Nat) (s : Nd) (hs : s ∈ G) (hsb : s.b = b) (hi : i < ns.length) (hn : ns.length ≤ 8796093022208) (hb : ns.getD i 0 = b) (hlo : ∀ x ∈ lo, x.1 ∈ G.map (·.b)) (hq1 : ¬ 0 < cnt lo b) (hy1 : klook star s.nx = none) (hw : w ≠ star) (hv : w ≠ hash) (hy2 : klook w s.nx = none) : SpOK ns ns.length lo lc se sc t t G w i := by
  refine ⟨[(fStand, cStO G 2)], hSp i b s.nb (cnt lo b) false false true true false (.pointer none) (.pointer none), [], fun F _ => one_c (cStO_ok G 2 F), fun _ _ => noL, fun F => ?_⟩
  refine cast (congrArg (VAll _) (oSp002_eq ns ns.length lo lc se sc t G w i b s.nb (cnt lo b) F).symm) ⟨⟨?_, rfl, rfl, [], rfl, rfl, ⟨Wk.refl _, Wk.refl _, Wk.refl _, Wk.refl _, Wk.refl _, Wk.refl _, trivial⟩, ⟨_, rfl, OW.refl _⟩, ⟨_, rfl, OW.refl _⟩, ⟨_, rfl, OW.refl _⟩, ⟨_, rfl, rP_ow rfl rfl⟩, ⟨_, rfl, fmO_ow rfl rfl⟩, ⟨_, rfl, fmO_ow rfl rfl⟩, trivial⟩⟩
  have hbG : b ∈ G.map (·.b) := hsb ▸ List.mem_map_of_mem hs
  have g0 : ∀ d, (rowV encP ns).getD (0 + i * 1) d = ptrV b := fun d => by rw [rP_get ns i hi, hb]
  have g1 := rP_lt ns i hi
  have e1 := ltT hi
  have hwr := wrap_succ i (by omega)
  have k0 := good_keys (G := G) iv b lo hbG hlo
  have k1 := fc_nx (G := G) hs
  rw [hsb] at k1
  have k2 := look_nx_none hs hy1
  have k3 := look_nx_none hs hy2
  have d1 : decide (cnt lo b > Int.ofNat 0) = false := decide_eq_false hq1
  have s1 : (!w.toList == [(ByteArray.mk (Array.mk [42])).get! 0]) = true := by
    rw [show (ByteArray.mk (Array.mk [42])).get! 0 = 42 from rfl, bl_one]
    simp only [Bool.not_eq_eq_eq_not, Bool.not_true, Bool.not_false, decide_eq_false_iff_not, decide_eq_true_eq]
    exact hw
  have s2 : (!w.toList == [(ByteArray.mk (Array.mk [35])).get! 0]) = true := by
    rw [show (ByteArray.mk (Array.mk [35])).get! 0 = 35 from rfl, bl_one]
    simp only [Bool.not_eq_eq_eq_not, Bool.not_true, Bool.not_false, decide_eq_false_iff_not, decide_eq_true_eq]
    exact hv
  simp only [Cnd.holds, fnd, g0, g1, e1, d1, s1, s2, hi, Nat.blt_eq, true_and, and_true]
  and_intros
  all_goals first
    | exact k0
    | exact k1
    | exact k2
    | exact k3
    | (with_reducible exact wk_int hwr) | (with_reducible first | exact trivial | exact rfl | exact Wk.refl _ | exact VW.refl _ | exact OW.refl _ | exact wk_lit _ | assumption) | exact rfl | exact Wk.refl _ | exact VW.refl _ | exact OW.refl _ | ((repeat (first | exact VW.nil | refine VW.cons (Wk.refl _) ?_ | refine VW.cons (Wk.any _) ?_ | refine VW.cons (wk_cap (Nat.le_refl _)) ?_)); done)
theorem sp003 (ns : List Nat) (lo : KMap Nat Int) (lc : Nat) (se : KMap Nat Int) (sc : Nat) (t : Fr) (G : List Nd) (w : ByteArray) (i b : Nat) (s : Nd) (hs : s ∈ G) (hsb : s.b = b) (hi : i < ns.length) (hn : ns.length ≤ 8796093022208) (hb : ns.getD i 0 = b) (hlo : ∀ x ∈ lo, x.1 ∈ G.map (·.b)) (hq1 : ¬ 0 < cnt lo b) (hy1 : klook star s.nx = none) (hw : w ≠ star) (hv : w ≠ hash) (y2 : Nat) (hy2 : klook w s.nx = some y2) (p0 : StPre G t y2) : SpOK ns ns.length lo lc se sc t (standC (chOf G y2) t false) G w i := by
  refine ⟨[(fStand, cStO G 2)], hSp i b s.nb (cnt lo b) false false true true true (.pointer none) (pk y2), [], fun F _ => one_c (cStO_ok G 2 F), fun _ _ => noL, fun F => ?_⟩
  refine cast (congrArg (VAll _) (oSp003_eq ns ns.length lo lc se sc t G w i b s.nb (cnt lo b) y2 F).symm) ⟨⟨?_, rfl, rfl, [], rfl, rfl, ⟨Wk.refl _, Wk.refl _, Wk.refl _, Wk.refl _, Wk.refl _, Wk.refl _, trivial⟩, ⟨_, rfl, OW.refl _⟩, ⟨_, rfl, OW.refl _⟩, ⟨_, rfl, OW.refl _⟩, ⟨_, rfl, rP_ow rfl rfl⟩, ⟨_, rfl, fmO_ow rfl rfl⟩, ⟨_, rfl, fmO_ow rfl rfl⟩, trivial⟩⟩
  have hbG : b ∈ G.map (·.b) := hsb ▸ List.mem_map_of_mem hs
  have g0 : ∀ d, (rowV encP ns).getD (0 + i * 1) d = ptrV b := fun d => by rw [rP_get ns i hi, hb]
  have g1 := rP_lt ns i hi
  have e1 := ltT hi
  have hwr := wrap_succ i (by omega)
  have k0 := good_keys (G := G) iv b lo hbG hlo
  have k1 := fc_nx (G := G) hs
  rw [hsb] at k1
  have k2 := look_nx_none hs hy1
  have k3 := look_nx_some hs hy2
  have d1 : decide (cnt lo b > Int.ofNat 0) = false := decide_eq_false hq1
  have s1 : (!w.toList == [(ByteArray.mk (Array.mk [42])).get! 0]) = true := by
    rw [show (ByteArray.mk (Array.mk [42])).get! 0 = 42 from rfl, bl_one]
    simp only [Bool.not_eq_eq_eq_not, Bool.not_true, Bool.not_false, decide_eq_false_iff_not, decide_eq_true_eq]
    exact hw
  have s2 : (!w.toList == [(ByteArray.mk (Array.mk [35])).get! 0]) = true := by
    rw [show (ByteArray.mk (Array.mk [35])).get! 0 = 35 from rfl, bl_one]
    simp only [Bool.not_eq_eq_eq_not, Bool.not_true, Bool.not_false, decide_eq_false_iff_not, decide_eq_true_eq]
    exact hv
  simp only [Cnd.holds, fnd, g0, g1, e1, d1, s1, s2, hi, Nat.blt_eq, true_and, and_true]
  and_intros
  all_goals first
    | exact k0
    | exact k1
    | exact k2
    | exact k3
    | exact p0
    | (with_reducible exact wk_int hwr) | (with_reducible first | exact trivial | exact rfl | exact Wk.refl _ | exact VW.refl _ | exact OW.refl _ | exact wk_lit _ | assumption) | exact rfl | exact Wk.refl _ | exact VW.refl _ | exact OW.refl _ | ((repeat (first | exact VW.nil | refine VW.cons (Wk.refl _) ?_ | refine VW.cons (Wk.any _) ?_ | refine VW.cons (wk_cap (Nat.le_refl _)) ?_)); done)
end Go.Proofs.YtbmoancedlbhlaaDoor.Tpc

/- Topic: a front's step. -/
set_option linter.unusedVariables false
set_option linter.unusedSimpArgs false
set_option maxRecDepth 100000
namespace Go.Proofs.YtbmoancedlbhlaaDoor.Tpc
open Go Go.RowKit Go.Proofs.YtbmoancedlbhlaaDoor.Eng Go.Proofs.YtbmoancedlbhlaaDoor.Kit
def ndOf (G : List Nd) (b : Nat) : Nd := (G.find? fun s => s.b == b).getD ⟨[], 0, 0, 0, [], 0, [], 0⟩
theorem ndOf_mem {G : List Nd} {b : Nat} (h : b ∈ G.map (·.b)) : ndOf G b ∈ G ∧ (ndOf G b).b = b := by
  unfold ndOf
  obtain ⟨s, hs, he⟩ := List.mem_map.1 h
  cases hf : G.find? (fun s => s.b == b) with
  | none =>
    have := List.find?_eq_none.1 hf s hs
    simp only [beq_iff_eq] at this
    exact absurd he this
  | some t =>
    refine ⟨List.mem_of_find?_eq_some hf, ?_⟩
    have := List.find?_some hf
    simpa using this
noncomputable def stA (G : List Nd) (lo : KMap Nat Int) (t : Fr) (b : Nat) : Fr := if 0 < cnt lo b then standC (chOf G b) t true else t
noncomputable def stB (G : List Nd) (t : Fr) (o : Option Nat) : Fr := match o with
  | some c => standC (chOf G c) t false
  | none => t
noncomputable def stepOne (G : List Nd) (lo : KMap Nat Int) (w : ByteArray) (t : Fr) (b : Nat) : Fr :=
  let t2 := stB G (stA G lo t b) (klook star (ndOf G b).nx)
  if w = star then t2 else if w = hash then t2 else stB G t2 (klook w (ndOf G b).nx)
noncomputable def stepF (G : List Nd) (f : Fr) (w : ByteArray) : Fr := f.ns.foldl (stepOne G f.lo w) fr0
structure TreeOK (G : List Nd) (K : Nat) : Prop where
  ch : ∀ s ∈ G, ∃ c, Chain G (s.b :: c)
  len : ∀ b, b ∈ G.map (·.b) → (chOf G b).length ≤ K
  nx : ∀ s ∈ G, ∀ w c, klook w s.nx = some c → c ∈ G.map (·.b)
structure TInv (G : List Nd) (B : Int) (t : Fr) : Prop where
  fr : FrOK G B t
  len : (t.ns.length : Int) ≤ B
  mem : ∀ b ∈ t.ns, b ∈ G.map (·.b)
theorem TInv.zero (G : List Nd) : TInv G 0 fr0 := ⟨⟨fun x hx => (by cases hx), fun x hx => (by cases hx), fun b => ⟨Int.le_refl _, Int.le_refl _⟩, fun b => ⟨Int.le_refl _, Int.le_refl _⟩⟩, Int.le_refl _, fun b hb => by cases hb⟩
theorem TInv.mono {G : List Nd} {B B' : Int} {t : Fr} (h : TInv G B t) (hB : B ≤ B') : TInv G B' t := ⟨h.fr.mono hB, by have := h.len; omega, h.mem⟩
theorem stand_ns {G : List Nd} : ∀ {c : List Nat}, Chain G c → ∀ {f : Fr} {loop : Bool} {B : Int}, (f.ns.length : Int) ≤ B → (∀ b ∈ f.ns, b ∈ G.map (·.b)) → ((standC c f loop).ns.length : Int) ≤ B + c.length ∧ ∀ b ∈ (standC c f loop).ns, b ∈ G.map (·.b)
  | _, .last s hs hk, f, loop, B, hl, hm => by
    rw [standC]
    split
    · rw [standC]
      simp only [stN, st1_ns, List.length_append, List.length_cons, List.length_nil]
      refine ⟨by omega, fun b hb => ?_⟩
      rcases List.mem_append.1 hb with hb | hb
      · exact hm b hb
      · simp only [List.mem_singleton] at hb; subst hb; exact List.mem_map_of_mem hs
    · rw [st1_ns]; exact ⟨by simp only [List.length_cons]; omega, hm⟩
  | _, .more s hs y c hk hc, f, loop, B, hl, hm => by
    rw [standC]
    split
    · have := stand_ns hc (f := stN (st1 f s.b loop) s.b) (loop := true) (B := B + 1) (by simp only [stN, st1_ns, List.length_append, List.length_cons, List.length_nil]; omega) (fun b hb => by
        simp only [stN, st1_ns] at hb
        rcases List.mem_append.1 hb with hb | hb
        · exact hm b hb
        · simp only [List.mem_singleton] at hb; subst hb; exact List.mem_map_of_mem hs)
      refine ⟨?_, this.2⟩
      have h1 := this.1
      simp only [List.length_cons] at h1 ⊢; omega
    · rw [st1_ns]; exact ⟨by simp only [List.length_cons]; omega, hm⟩
theorem TInv.stand {G : List Nd} {B : Int} {t : Fr} (h : TInv G B t) {c : List Nat} (hc : Chain G c) (loop : Bool) : TInv G (B + c.length) (standC c t loop) := by
  obtain ⟨h1, h2⟩ := stand_ns hc (loop := loop) h.len h.mem
  exact ⟨standC_ok hc h.fr, h1, h2⟩
theorem TreeOK.chain {G : List Nd} {K : Nat} (h : TreeOK G K) {b : Nat} (hb : b ∈ G.map (·.b)) : Chain G (chOf G b) ∧ ∃ c, chOf G b = b :: c := by
  obtain ⟨s, hs, rfl⟩ := List.mem_map.1 hb
  exact chain_uniq (h.ch s hs)
theorem TInv.pre {G : List Nd} {K : Nat} (hT : TreeOK G K) {B : Int} {t : Fr} (h : TInv G B t) (hB : B + K ≤ 8796093022208) {b : Nat} (hb : b ∈ G.map (·.b)) : StPre G t b := by
  have hlen := hT.len b hb
  have hl := h.len
  refine ⟨(hT.chain hb).1, B, h.fr, by omega, ?_⟩
  unfold RoomP
  omega
theorem TInv.chOf {G : List Nd} {K : Nat} (hT : TreeOK G K) {B : Int} {t : Fr} (h : TInv G B t) {b : Nat} (hb : b ∈ G.map (·.b)) (loop : Bool) : TInv G (B + K) (standC (chOf G b) t loop) :=
  (h.stand (hT.chain hb).1 loop).mono (by have := hT.len b hb; omega)
theorem TInv.stA {G : List Nd} {K : Nat} (hT : TreeOK G K) {B : Int} {t : Fr} (h : TInv G B t) {b : Nat} (hb : b ∈ G.map (·.b)) (lo : KMap Nat Int) : TInv G (B + K) (stA G lo t b) := by
  unfold Tpc.stA
  split
  · exact h.chOf hT hb true
  · exact h.mono (by omega)
theorem TInv.stB {G : List Nd} {K : Nat} (hT : TreeOK G K) {B : Int} {t : Fr} (h : TInv G B t) {o : Option Nat} (ho : ∀ c, o = some c → c ∈ G.map (·.b)) : TInv G (B + K) (stB G t o) := by
  cases o with
  | none => exact h.mono (by omega)
  | some c => exact h.chOf hT (ho c rfl) false
theorem TInv.one {G : List Nd} {K : Nat} (hT : TreeOK G K) {B : Int} {t : Fr} (h : TInv G B t) {b : Nat} (hb : b ∈ G.map (·.b)) (lo : KMap Nat Int) (w : ByteArray) : TInv G (B + 3 * K) (stepOne G lo w t b) := by
  obtain ⟨hs, _⟩ := ndOf_mem hb
  have h2 := (h.stA hT hb lo).stB hT (o := klook star (ndOf G b).nx) fun c hc => hT.nx _ hs _ _ hc
  unfold stepOne
  split
  · exact h2.mono (by omega)
  · split
    · exact h2.mono (by omega)
    · exact (h2.stB hT (o := klook w (ndOf G b).nx) fun c hc => hT.nx _ hs _ _ hc).mono (by omega)
theorem sp_round {G : List Nd} {K : Nat} (hT : TreeOK G K) {B : Int} {t : Fr} (h : TInv G B t) (hB : B + 3 * K ≤ 8796093022208) (ns : List Nat) (lo : KMap Nat Int) (lc : Nat) (se : KMap Nat Int) (sc : Nat) (w : ByteArray) (i : Nat) (hi : i < ns.length) (hn : ns.length ≤ 8796093022208) (hm : ∀ b ∈ ns, b ∈ G.map (·.b)) (hlo : ∀ x ∈ lo, x.1 ∈ G.map (·.b)) :
    SpOK ns ns.length lo lc se sc t (stepOne G lo w t (ns.getD i 0)) G w i := by
  obtain ⟨b, hb⟩ : ∃ b, ns.getD i 0 = b := ⟨_, rfl⟩
  have hbG : b ∈ G.map (·.b) := hb ▸ hm _ (getD_lt hi)
  obtain ⟨hs, hsb⟩ := ndOf_mem hbG
  rw [hb]
  have p0 := h.pre hT (by omega) hbG
  have h1 := h.stA hT hbG lo
  have q1 : ∀ c, klook star (ndOf G b).nx = some c → StPre G (stA G lo t b) c := fun c hc => h1.pre hT (by omega) (hT.nx _ hs _ _ hc)
  have h2 := h1.stB hT (o := klook star (ndOf G b).nx) fun c hc => hT.nx _ hs _ _ hc
  have q2 : ∀ c, klook w (ndOf G b).nx = some c → StPre G (stB G (stA G lo t b) (klook star (ndOf G b).nx)) c := fun c hc => h2.pre hT (by omega) (hT.nx _ hs _ _ hc)
  clear h1 h2
  unfold stepOne
  unfold stA at *
  by_cases c1 : 0 < cnt lo b
  · simp only [if_pos c1] at q1 q2 ⊢
    cases c2 : klook star (ndOf G b).nx with
    | none =>
      simp only [c2, stB] at q2 ⊢
      by_cases c3 : w = star
      · rw [if_pos c3]; exact sp100 ns lo lc se sc t G w i b (ndOf G b) hs hsb hi hn hb hlo c1 c2 c3 p0 
      · rw [if_neg c3]
        by_cases c4 : w = hash
        · rw [if_pos c4]; exact sp101 ns lo lc se sc t G w i b (ndOf G b) hs hsb hi hn hb hlo c1 c2 c3 c4 p0 
        · rw [if_neg c4]
          cases c5 : klook w (ndOf G b).nx with
          | none => exact sp102 ns lo lc se sc t G w i b (ndOf G b) hs hsb hi hn hb hlo c1 c2 c3 c4 c5 p0 
          | some y2 => exact sp103 ns lo lc se sc t G w i b (ndOf G b) hs hsb hi hn hb hlo c1 c2 c3 c4 y2 c5 p0 (q2 y2 c5)
    | some y1 =>
      simp only [c2, stB] at q2 ⊢
      have p1 := q1 y1 c2
      by_cases c3 : w = star
      · rw [if_pos c3]; exact sp110 ns lo lc se sc t G w i b (ndOf G b) hs hsb hi hn hb hlo c1 y1 c2 c3 p0 p1 
      · rw [if_neg c3]
        by_cases c4 : w = hash
        · rw [if_pos c4]; exact sp111 ns lo lc se sc t G w i b (ndOf G b) hs hsb hi hn hb hlo c1 y1 c2 c3 c4 p0 p1 
        · rw [if_neg c4]
          cases c5 : klook w (ndOf G b).nx with
          | none => exact sp112 ns lo lc se sc t G w i b (ndOf G b) hs hsb hi hn hb hlo c1 y1 c2 c3 c4 c5 p0 p1 
          | some y2 => exact sp113 ns lo lc se sc t G w i b (ndOf G b) hs hsb hi hn hb hlo c1 y1 c2 c3 c4 y2 c5 p0 p1 (q2 y2 c5)
  · simp only [if_neg c1] at q1 q2 ⊢
    cases c2 : klook star (ndOf G b).nx with
    | none =>
      simp only [c2, stB] at q2 ⊢
      by_cases c3 : w = star
      · rw [if_pos c3]; exact sp000 ns lo lc se sc t G w i b (ndOf G b) hs hsb hi hn hb hlo c1 c2 c3 
      · rw [if_neg c3]
        by_cases c4 : w = hash
        · rw [if_pos c4]; exact sp001 ns lo lc se sc t G w i b (ndOf G b) hs hsb hi hn hb hlo c1 c2 c3 c4 
        · rw [if_neg c4]
          cases c5 : klook w (ndOf G b).nx with
          | none => exact sp002 ns lo lc se sc t G w i b (ndOf G b) hs hsb hi hn hb hlo c1 c2 c3 c4 c5 
          | some y2 => exact sp003 ns lo lc se sc t G w i b (ndOf G b) hs hsb hi hn hb hlo c1 c2 c3 c4 y2 c5 (q2 y2 c5)
    | some y1 =>
      simp only [c2, stB] at q2 ⊢
      have p1 := q1 y1 c2
      by_cases c3 : w = star
      · rw [if_pos c3]; exact sp010 ns lo lc se sc t G w i b (ndOf G b) hs hsb hi hn hb hlo c1 y1 c2 c3 p1 
      · rw [if_neg c3]
        by_cases c4 : w = hash
        · rw [if_pos c4]; exact sp011 ns lo lc se sc t G w i b (ndOf G b) hs hsb hi hn hb hlo c1 y1 c2 c3 c4 p1 
        · rw [if_neg c4]
          cases c5 : klook w (ndOf G b).nx with
          | none => exact sp012 ns lo lc se sc t G w i b (ndOf G b) hs hsb hi hn hb hlo c1 y1 c2 c3 c4 c5 p1 
          | some y2 => exact sp013 ns lo lc se sc t G w i b (ndOf G b) hs hsb hi hn hb hlo c1 y1 c2 c3 c4 y2 c5 p1 (q2 y2 c5)
theorem fold_next {β : Type} (g : β → Nat → β) (z : β) (l : List Nat) (i : Nat) (hi : i < l.length) : (l.take (i + 1)).foldl g z = g ((l.take i).foldl g z) (l.getD i 0) := by
  rw [take_next l 0 i hi, List.foldl_append]; rfl
theorem fold_inv {G : List Nd} {K : Nat} (hT : TreeOK G K) (lo : KMap Nat Int) (w : ByteArray) (ns : List Nat) (hm : ∀ b ∈ ns, b ∈ G.map (·.b)) : ∀ i, i ≤ ns.length → TInv G ((i : Int) * (3 * K)) ((ns.take i).foldl (stepOne G lo w) fr0)
  | 0, _ => by
    simp only [List.take_zero, List.foldl_nil]
    exact (TInv.zero G).mono (by simp)
  | i + 1, hi => by
    have hb : ns.getD i 0 ∈ G.map (·.b) := hm _ (getD_lt hi)
    rw [fold_next (hi := hi)]
    refine ((fold_inv hT lo w ns hm i (by omega)).one hT hb lo w).mono ?_
    rw [Int.natCast_add, Int.add_mul]; omega
def RoomS (n K : Nat) : Prop := (n + 1) * (3 * K) ≤ 8796093022208
theorem RoomS.le {n K i : Nat} (h : RoomS n K) (hi : i ≤ n) : (i : Int) * (3 * K) + 3 * K ≤ 8796093022208 := by
  unfold RoomS at h
  have h1 : (i + 1) * (3 * K) ≤ (n + 1) * (3 * K) := Nat.mul_le_mul_right _ (by omega)
  have h2 : ((i + 1) * (3 * K) : Nat) = i * (3 * K) + 3 * K := by rw [Nat.add_mul, Nat.one_mul]
  have h3 : (i : Int) * (3 * K) = ((i * (3 * K) : Nat) : Int) := by rw [Int.natCast_mul]; rfl
  rw [h3]
  omega
theorem sp_loop {G : List Nd} {K : Nat} (hT : TreeOK G K) (ns : List Nat) (lo : KMap Nat Int) (lc : Nat) (se : KMap Nat Int) (sc : Nat) (w : ByteArray) (hn : ns.length ≤ 8796093022208) (hR : RoomS ns.length K) (hm : ∀ b ∈ ns, b ∈ G.map (·.b)) (hlo : ∀ x ∈ lo, x.1 ∈ G.map (·.b)) :
    LTri Tryd.prog default (loopN fStep 3) (tms 0 64 (aSp ns.length 0 w)) (oSp ns ns.length lo lc se sc fr0 G) (.exit 0) (tms 0 64 [(5, .ptr 1 0)]) [(1, frO (ns.foldl (stepOne G lo w) fr0)), (2, famO G)] := by
  refine ltri_run (W := default) (g := fStep) (b := loopN fStep 3) (σ := {i : Nat // i ≤ ns.length}) 64 (fun i => aSp ns.length i.1 w) (fun i => oSp ns ns.length lo lc se sc ((ns.take i.1).foldl (stepOne G lo w) fr0) G) (.exit 0) [(5, .ptr 1 0)] [(1, frO (ns.foldl (stepOne G lo w) fr0)), (2, famO G)] (fun i => ns.length - i.1) [0, 1, 2, 3, 4, 5] [0, 1, 5, 13, 14, 15] (by intro h; cases h) (fun _ => rfl) rfl ?_ ⟨0, Nat.zero_le _⟩
  rintro ⟨i, hi⟩
  by_cases h1 : i < ns.length
  · have hin := fold_inv hT lo w ns hm i hi
    obtain ⟨con, hints, lc0, q1, q2, q3⟩ := sp_round hT hin (hR.le hi) ns lo lc se sc w i h1 hn hm hlo
    refine ⟨con, hints, lc0, q1, q2, fun F => (q3 F).mono ?_⟩
    rintro r os x ⟨e1, e2, l, hfit⟩
    refine ⟨e1, .inl ⟨e2, ⟨i + 1, h1⟩, sub_down h1, l, ?_⟩⟩
    show FitT _ _ _ _ (aSp ns.length (i + 1) w) (oSp ns ns.length lo lc se sc ((ns.take (i + 1)).foldl (stepOne G lo w) fr0) G) l
    rw [fold_next (hi := h1)]
    exact hfit
  · have hie : i = ns.length := by omega
    subst hie
    refine ⟨[], hintL [(fStep, 3, 0, hv (.lit false))], [], fun _ _ => noC, fun _ _ => noL, fun F => ?_⟩
    simp only [List.take_length]
    refine cast (congrArg (VAll _) (oSpE_eq ns ns.length lo lc se sc _ G w ns.length F).symm) ⟨⟨?_, rfl, .inr ⟨rfl, [], rfl, rfl, ⟨Wk.refl _, trivial⟩, ⟨_, rfl, OW.refl _⟩, ⟨_, rfl, OW.refl _⟩, trivial⟩⟩⟩
    simp only [Cnd.holds, and_true]
    exact wk_litE ltF
/-! The function. -/
noncomputable section
def cNewF : List AV → Option (AP AV) := mkC (fun _ => .ret ()) (fun _ => True) (fun _ i => i) (fun _ => []) (fun _ => []) (fun _ => .leaf .ret [.ptr 1000 0] [(1000, frO fr0)])
def gLp : List AV → AP (Nat × Nat × Nat × Nat × Nat) := fun tmps => match getL tmps 0 with
  | .ptr r0 _ => match getL tmps 5 with
    | .ptr r1 _ => .read r0 fun o => match o with
      | .cells [.slice r3 _ _ _ _, .map r4, .map r5] _ => .ret (r0, r1, r3, r4, r5)
      | _ => .fail "step"
    | _ => .fail "step"
  | _ => .fail "step"
def nm6 (a b c d e : Nat) : Nat → Nat := fun k => match Nat.beq k 0 with
  | true => a
  | false => match Nat.beq k 1 with
    | true => b
    | false => match Nat.beq k 2 with
      | true => 2
      | false => match Nat.beq k 3 with
        | true => c
        | false => match Nat.beq k 4 with
          | true => d
          | false => e
def lSp (ns : List Nat) (n : Nat) (lo : KMap Nat Int) (lc : Nat) (se : KMap Nat Int) (sc : Nat) (w : ByteArray) (t : Fr) (G : List Nd) : List AV → AP (AX × List AV) := mkL gLp (fun _ => True) (fun p => nm6 p.1 p.2.1 p.2.2.1 p.2.2.2.1 p.2.2.2.2) (fun _ => tms 0 64 (aSp n 0 w)) (fun _ => oSp ns n lo lc se sc fr0 G) (fun _ => .leaf (.exit 0) (tms 0 64 [(5, .ptr 1 0)]) [(1, frO t), (2, famO G)])
theorem oStepZ_eq (lo : KMap Nat Int) (lc : Nat) (se : KMap Nat Int) (sc : Nat) (G : List Nd) (w : ByteArray) (F : HP) : wRun [(fNewF, cNewF)] (hintL [(fStep, 3, 0, hv (.lit false))]) [] default fStep [.ptr 0 0, sv w] (uZ lo lc se sc G) [2, 1100, 1101] F = VT.leaf (AV.ptr 1100 0) [some (AO.any (famN G)),some (AO.own (Md.front fr0) (frHP fr0)),none] 1101 (((Cnd.p True).a ((p' (VW [] [])).a t')).a (((p' (true = true)).a t').a (((p' (Wk (b' false) (AV.lit false))).a t').a t'))) := by kernel_rfl
theorem oStepR_eq (ns : List Nat) (n : Nat) (lo : KMap Nat Int) (lc : Nat) (se : KMap Nat Int) (sc : Nat) (t : Fr) (G : List Nd) (w : ByteArray) (F : HP) : wRun [(fNewF, cNewF)] noHints [(fStep, 3, loopN fStep 3, lSp ns n lo lc se sc w t G)] default fStep [.ptr 0 0, sv w] (uR ns n lo lc se sc G) [2, 1100, 1101] F = VT.leaf (AV.ptr 1100 0) [some (AO.any (famN G)),some (AO.own (Md.front t) (frHP t)),none] 1101 (((Cnd.p True).a ((p' (VW [] [])).a t')).a (((p' (true = true)).a t').a ((p' ((fStep,3,loopN fStep 3,lSp ns n lo lc se sc w t G).snd.snd.fst = (fStep,3,loopN fStep 3,lSp ns n lo lc se sc w t G).snd.snd.fst)).a ((Cnd.p True).a ((p' (VW [AV.ptr 0 0,s' w,u',u',AV.v (Value.pointer none),AV.ptr 1100 0,u',u',u',AV.ptr 1100 0,AV.ptr 0 0,AV.ptr 0 0,AV.ptr 0 0,AV.slice 1001 0 n 1 (Cp.lo n),z' ↑n,i' 0,u',u',u',u',u',u',u',u',u',u',u',u',u',u',u',u',u',u',u',u',u',u',u',u',u',u',u',u',u',u',u',u',u',u',u',u',u',u',u',u',u',u',u',u',u',u',u',u'] [AV.ptr 0 0,s' w,a',a',a',AV.ptr 1100 0,a',a',a',a',a',a',a',AV.slice 1001 0 n 1 (Cp.lo n),i' n,i' 0,a',a',a',a',a',a',a',a',a',a',a',a',a',a',a',a',a',a',a',a',a',a',a',a',a',a',a',a',a',a',a',a',a',a',a',a',a',a',a',a',a',a',a',a',a',a',a',a'])).a ((p' (OW (AO.cells [AV.slice 1001 0 n 1 (Cp.lo n),AV.map 1002,AV.map 1003] 116) (AO.cells [AV.slice 1001 0 n 1 (Cp.lo n),AV.map 1002,AV.map 1003] 116))).a ((p' (OW (AO.own (Md.front fr0) (frHP fr0)) (AO.own (Md.front fr0) (frHP fr0)))).a ((p' (OW (AO.any (famN G)) (AO.any (famN G)))).a ((p' (OW (AO.cells (rowV encP ns) 84) (AO.cells (AV.rens (nm6 0 1100 1001 1002 1003) (rowV encP ns)) 84))).a ((p' (OW (AO.map (kE pk iv lo) lc) (AO.map (renE (nm6 0 1100 1001 1002 1003) (kE pk iv lo)) lc))).a ((p' (OW (AO.map (kE pk iv se) sc) (AO.map (renE (nm6 0 1100 1001 1002 1003) (kE pk iv se)) sc))).a t'))))))))))) := by kernel_rfl
end
theorem gLp_ro : ∀ args, RO (gLp args) := by
  intro args
  unfold gLp
  split
  · split
    · refine RO.read _ _ fun o => ?_
      split
      · exact RO.ret _
      · exact RO.fail _
    · exact RO.fail _
  · exact RO.fail _
theorem cNewF_ok (F : HP) : C1OK Tryd.prog F fNewF cNewF :=
  mkC_ok (W := default) oldDef (fun _ => .ptr 1000 0) (fun _ => RO.ret _) (fun _ => rfl) (fun _ _ => AnewF_tri) fun _ => ⟨rfl, rfl, trivial, all_nil, ⟨rfl, trivial⟩, all_cons trivial all_nil⟩
theorem lSp_ok {G : List Nd} {K : Nat} (hT : TreeOK G K) (ns : List Nat) (lo : KMap Nat Int) (lc : Nat) (se : KMap Nat Int) (sc : Nat) (w : ByteArray) (hn : ns.length ≤ 8796093022208) (hR : RoomS ns.length K) (hm : ∀ b ∈ ns, b ∈ G.map (·.b)) (hlo : ∀ x ∈ lo, x.1 ∈ G.map (·.b)) (F : HP) :
    L1OK Tryd.prog F (loopN fStep 3) (lSp ns ns.length lo lc se sc w (ns.foldl (stepOne G lo w) fr0) G) :=
  mkL_ok (W := default) oldDef gLp_ro (fun _ _ => sp_loop hT ns lo lc se sc w hn hR hm hlo) fun _ => by
    simp only [RT.pick]
    exact closedT rfl rfl (all_cons rfl (all_cons trivial (all_cons rfl (all_cons rfl (all_cons trivial (all_cons trivial all_nil)))))) (all_cons ⟨rfl, rfl, rfl, trivial⟩ (all_cons trivial (all_cons trivial (all_cons (rP_cl _ _) (all_cons (fmO_cl _ _ _) (all_cons (fmO_cl _ _ _) all_nil)))))) (all_cons rfl all_nil) (all_cons trivial (all_cons trivial all_nil))
theorem Astep_tri {G : List Nd} {K : Nat} (hT : TreeOK G K) (f : Fr) (w : ByteArray) (hn : f.ns.length ≤ 8796093022208) (hR : RoomS f.ns.length K) (hm : ∀ b ∈ f.ns, b ∈ G.map (·.b)) (hlo : ∀ x ∈ f.lo, x.1 ∈ G.map (·.b)) :
    Tri Tryd.prog default fStep [.ptr 0 0, sv w] [(0, frO f), (2, famO G)] (.ptr 1000 0) [(1000, frO (stepF G f w)), (2, famO G)] := by
  refine open_fr ?_
  by_cases hz : f.ns = []
  · rw [fL_z hz]
    refine tri_run (con := [(fNewF, cNewF)]) (hints := hintL [(fStep, 3, 0, hv (.lit false))]) (lc := []) [2, 1100, 1101] rfl (fun F _ => one_c (cNewF_ok F)) (fun _ _ => noL) fun F => ?_
    have e : stepF G f w = fr0 := by unfold stepF; rw [hz]; rfl
    rw [e]
    refine cast (congrArg (VAll _) (oStepZ_eq f.lo f.lc f.se f.sc G w F).symm) ⟨⟨?_, (fit_mk (vs' := [.ptr 1000 0]) (H' := [(1000, frO fr0), (2, famO G)]) [(1000, 1100)] rfl rfl (VW.refl _) ⟨⟨_, rfl, OW.refl _⟩, ⟨_, rfl, OW.refl _⟩, trivial⟩).fits rfl⟩⟩
    simp only [Cnd.holds, Nat.blt_eq, true_and, and_true]
    and_intros
    all_goals first | (with_reducible first | exact trivial | exact rfl | exact Wk.refl _ | exact VW.refl _ | exact OW.refl _ | exact wk_lit _ | assumption) | exact rfl | exact Wk.refl _ | exact VW.refl _ | exact OW.refl _ | ((repeat (first | exact VW.nil | refine VW.cons (Wk.refl _) ?_ | refine VW.cons (Wk.any _) ?_ | refine VW.cons (wk_cap (Nat.le_refl _)) ?_)); done)
  · rw [fL_ne hz]
    refine tri_run (con := [(fNewF, cNewF)]) (hints := noHints) (lc := [(fStep, 3, loopN fStep 3, lSp f.ns f.ns.length f.lo f.lc f.se f.sc w (stepF G f w) G)]) [2, 1100, 1101] rfl (fun F _ => one_c (cNewF_ok F)) (fun F _ => one_l (lSp_ok hT f.ns f.lo f.lc f.se f.sc w hn hR hm hlo F)) fun F => ?_
    refine cast (congrArg (VAll _) (oStepR_eq f.ns f.ns.length f.lo f.lc f.se f.sc (stepF G f w) G w F).symm) ⟨⟨?_, (fit_mk (vs' := [.ptr 1000 0]) (H' := [(1000, frO (stepF G f w)), (2, famO G)]) [(1000, 1100)] rfl rfl (VW.refl _) ⟨⟨_, rfl, OW.refl _⟩, ⟨_, rfl, OW.refl _⟩, trivial⟩).fits rfl⟩⟩
    clear hR hn
    simp only [Cnd.holds, Nat.blt_eq, true_and, and_true]
    and_intros
    all_goals first
      | exact ow_row rfl _
      | exact ow_fm _ _ _ | (with_reducible first | exact trivial | exact rfl | exact Wk.refl _ | exact VW.refl _ | exact OW.refl _ | exact wk_lit _ | assumption) | exact rfl | exact Wk.refl _ | exact VW.refl _ | exact OW.refl _ | ((repeat (first | exact VW.nil | refine VW.cons (Wk.refl _) ?_ | refine VW.cons (Wk.any _) ?_ | refine VW.cons (wk_cap (Nat.le_refl _)) ?_)); done)
end Go.Proofs.YtbmoancedlbhlaaDoor.Tpc

/- Topic: the tree of nodes; which nodes a front has. -/
set_option linter.unusedVariables false
set_option linter.unusedSimpArgs false
set_option maxRecDepth 100000
namespace Go.Proofs.YtbmoancedlbhlaaDoor.Tpc
open Go Go.RowKit Go.Proofs.YtbmoancedlbhlaaDoor.Eng Go.Proofs.YtbmoancedlbhlaaDoor.Kit
abbrev Path := List ByteArray
structure Shp (G X : List Nd) (g root : Nat) : Prop where
  bl : (blocks (G ++ X)).Nodup
  pp : (G.map (·.p)).Nodup
  rt : ∃ r ∈ G, r.p = [] ∧ r.b = root
  nx : ∀ s ∈ G, ∀ w c, klook w s.nx = some c → ∃ t ∈ G, t.p = s.p ++ [w] ∧ t.b = c
  par : ∀ t ∈ G, ∀ q w, t.p = q ++ [w] → ∃ s ∈ G, s.p = q ∧ klook w s.nx = some t.b
  dead : ∀ x ∈ X, x.nx = []
  gl : G.length ≤ g
  pl : ∀ s ∈ G, s.p.length < g
  ki : ∀ s ∈ G, KI s.nx s.nc
theorem blocks_inj {G : List Nd} (h : (blocks G).Nodup) {s t : Nd} (hs : s ∈ G) (ht : t ∈ G) (hb : s.b = t.b) : s = t := by
  induction G with
  | nil => cases hs
  | cons u G ih =>
    simp only [blocks, List.flatMap_cons] at h
    have hd := (List.nodup_append.1 h).2.2
    rcases List.mem_cons.1 hs with e1 | hs
    · rcases List.mem_cons.1 ht with e2 | ht
      · exact e1.trans e2.symm
      · exact absurd rfl (hd s.b (by rw [e1]; simp) s.b (by rw [hb]; exact (blocks_mem ht).1))
    · rcases List.mem_cons.1 ht with e2 | ht
      · exact absurd rfl (hd t.b (by rw [e2]; simp) t.b (by rw [← hb]; exact (blocks_mem hs).1))
      · exact ih (List.nodup_append.1 h).2.1 hs ht
theorem pp_inj {G : List Nd} (h : (G.map (·.p)).Nodup) {s t : Nd} (hs : s ∈ G) (ht : t ∈ G) (hp : s.p = t.p) : s = t := by
  induction G with
  | nil => cases hs
  | cons u G ih =>
    rw [List.map_cons, List.nodup_cons] at h
    rcases List.mem_cons.1 hs with e1 | hs
    · rcases List.mem_cons.1 ht with e2 | ht
      · exact e1.trans e2.symm
      · exact absurd (List.mem_map.2 ⟨t, ht, by rw [← hp, e1]⟩) h.1
    · rcases List.mem_cons.1 ht with e2 | ht
      · exact absurd (List.mem_map.2 ⟨s, hs, by rw [hp, e2]⟩) h.1
      · exact ih h.2 hs ht
section
variable {G X : List Nd} {g root : Nat}
theorem Shp.inj (h : Shp G X g root) {s t : Nd} (hs : s ∈ G) (ht : t ∈ G) (hb : s.b = t.b) : s = t := blocks_inj h.bl (List.mem_append_left _ hs) (List.mem_append_left _ ht) hb
theorem Shp.chainG (h : Shp G X g root) : ∀ (n : Nat) (s : Nd), s ∈ G → g ≤ s.p.length + n → ∃ c, Chain (G ++ X) (s.b :: c)
  | 0, s, hs, hn => by have := h.pl s hs; omega
  | n + 1, s, hs, hn => by
    cases hk : klook hash s.nx with
    | none => exact ⟨[], .last s (List.mem_append_left _ hs) hk⟩
    | some b =>
      obtain ⟨t, ht, hp, hb⟩ := h.nx s hs hash b hk
      obtain ⟨c, hc⟩ := h.chainG n t ht (by rw [hp, List.length_append]; simp only [List.length_cons, List.length_nil]; omega)
      rw [hb] at hc
      exact ⟨b :: c, .more s (List.mem_append_left _ hs) b c hk hc⟩
theorem Shp.chainX (h : Shp G X g root) {s : Nd} (hs : s ∈ X) : Chain (G ++ X) [s.b] := .last s (List.mem_append_right _ hs) (by rw [h.dead s hs]; rfl)
theorem Shp.clen (h : Shp G X g root) : ∀ {c : List Nat}, Chain (G ++ X) c → ∀ s ∈ G, ∀ c', c = s.b :: c' → c.length + s.p.length ≤ g := by
  intro c hc
  induction hc with
  | last u hu hk =>
    intro s hs c' he
    have := h.pl s hs
    simp only [List.length_cons, List.length_nil]; omega
  | more u hu b c hk hc ih =>
    intro s hs c' he
    obtain ⟨e1, -⟩ := List.cons.inj he
    obtain rfl : u = s := blocks_inj h.bl hu (List.mem_append_left _ hs) e1
    obtain ⟨t, ht, hp, hb⟩ := h.nx u hs hash b hk
    have := ih t ht c (by rw [hb])
    rw [hp, List.length_append] at this
    simp only [List.length_cons, List.length_nil] at this ⊢; omega
theorem Shp.pos (h : Shp G X g root) : 1 ≤ g := by
  obtain ⟨r, hr, _⟩ := h.rt
  have := h.pl r hr
  omega
theorem Shp.tree (h : Shp G X g root) : TreeOK (G ++ X) g where
  ch s hs := by
    rcases List.mem_append.1 hs with hs | hs
    · exact h.chainG g s hs (by omega)
    · exact ⟨[], h.chainX hs⟩
  len b hb := by
    obtain ⟨s, hs, rfl⟩ := List.mem_map.1 hb
    rcases List.mem_append.1 hs with hs | hs
    · obtain ⟨q1, c, q2⟩ := chain_uniq (h.chainG g s hs (by omega))
      have := h.clen q1 s hs c q2
      omega
    · obtain ⟨q1, c, q2⟩ := chain_uniq ⟨[], h.chainX hs⟩
      rw [q2] at q1 ⊢
      have hX : ∀ c, Chain (G ++ X) c → ∀ c', c = s.b :: c' → c' = [] := by
        intro c hc
        cases hc with
        | last u hu hk => intro c' e; exact (List.cons.inj e).2.symm
        | more u hu b c hk hc =>
          intro c' e
          have : u = s := blocks_inj h.bl hu (List.mem_append_right _ hs) (List.cons.inj e).1
          rw [this, h.dead s hs] at hk
          cases hk
      rw [hX _ q1 c rfl]
      have := h.pos
      simpa using this
  nx s hs w c hk := by
    rcases List.mem_append.1 hs with hs | hs
    · obtain ⟨t, ht, _, rfl⟩ := h.nx s hs w c hk
      exact List.mem_map_of_mem (List.mem_append_left _ ht)
    · rw [h.dead s hs] at hk; cases hk
def hs (i : Nat) : Path := List.replicate i hash
theorem hs_succ (i : Nat) : hs (i + 1) = hs i ++ [hash] := by unfold hs; rw [List.replicate_succ']
theorem hs_cons (i : Nat) : hs (i + 1) = hash :: hs i := by unfold hs; rw [List.replicate_succ]
theorem Shp.below (h : Shp G X g root) {s : Nd} (hs' : s ∈ G) : ∀ (i : Nat) (t : Nd), t ∈ G → ∀ w, t.p = s.p ++ w :: hs i → ∃ c, klook w s.nx = some c
  | 0, t, ht, w, hp => by
    obtain ⟨u, hu, e1, e2⟩ := h.par t ht s.p w hp
    rw [← pp_inj h.pp hu hs' e1]
    exact ⟨_, e2⟩
  | i + 1, t, ht, w, hp => by
    have e : t.p = (s.p ++ w :: hs i) ++ [hash] := by rw [hp, hs_succ]; simp
    obtain ⟨u, hu, e1, e2⟩ := h.par t ht _ _ e
    exact h.below hs' i u hu w e1
def EndH (p : Path) : Prop := ∃ q, p = q ++ [hash]
structure FI (G : List Nd) (f : Fr) (M : Path → Prop) : Prop where
  mem : ∀ b ∈ f.ns, ∃ s ∈ G, s.b = b ∧ M s.p
  all : ∀ s ∈ G, M s.p → s.b ∈ f.ns
  nd : f.ns.Nodup
  se0 : ∀ b, 0 ≤ cnt f.se b
  lo0 : ∀ b, 0 ≤ cnt f.lo b
  se : ∀ b, 0 < cnt f.se b ↔ b ∈ f.ns
  lo : ∀ s ∈ G, 0 < cnt f.lo s.b ↔ s.b ∈ f.ns ∧ EndH s.p
theorem FI.congr {f : Fr} {M M' : Path → Prop} (h : FI G f M) (hM : ∀ s ∈ G, M s.p ↔ M' s.p) : FI G f M' :=
  ⟨fun b hb => by obtain ⟨s, q1, q2, q3⟩ := h.mem b hb; exact ⟨s, q1, q2, (hM s q1).1 q3⟩, fun s q1 q2 => h.all s q1 ((hM s q1).2 q2), h.nd, h.se0, h.lo0, h.se, h.lo⟩
theorem FI.zero : FI G fr0 (fun _ => False) :=
  ⟨fun b hb => (by cases hb), fun s _ hs => hs.elim, List.nodup_nil, fun b => Int.le_refl _, fun b => Int.le_refl _, fun b => ⟨fun h => absurd h (by show ¬ (0 : Int) < 0; omega), fun h => (by cases h)⟩, fun s _ => ⟨fun h => absurd h (by show ¬ (0 : Int) < 0; omega), fun h => (by cases h.1)⟩⟩
theorem FI.iff (h : Shp G X g root) {f : Fr} {M : Path → Prop} (hf : FI G f M) {s : Nd} (hs : s ∈ G) : s.b ∈ f.ns ↔ M s.p := by
  constructor
  · intro hb
    obtain ⟨t, ht, e, hm⟩ := hf.mem _ hb
    rw [h.inj ht hs e] at hm
    exact hm
  · exact hf.all s hs
theorem FI.again (h : Shp G X g root) {f : Fr} {M : Path → Prop} (hf : FI G f M) {s : Nd} (hs : s ∈ G) (hm : s.b ∈ f.ns) {loop : Bool} (hl : loop = true ↔ EndH s.p) : FI G (st1 f s.b loop) M := by
  have hse : ∀ b, cnt (st1 f s.b loop).se b = if b = s.b then cnt f.se s.b + 1 else cnt f.se b := fun b => by
    cases loop <;> exact cnt_set _ _ _ _ _
  have h0 := hf.se0 s.b
  have hns := st1_ns f s.b loop
  refine ⟨by rw [hns]; exact hf.mem, by rw [hns]; exact hf.all, by rw [hns]; exact hf.nd, fun b => ?_, fun b => ?_, fun b => ?_, fun t ht => ?_⟩
  · rw [hse]; have := hf.se0 b; split <;> omega
  · cases loop with
    | false => exact hf.lo0 b
    | true =>
      show 0 ≤ cnt (kset _ _ _ _) _
      rw [cnt_set]; have := hf.lo0 b; have := hf.lo0 s.b; split <;> omega
  · rw [hse, hns, ← hf.se b]
    split
    · rename_i e
      subst e
      have := (hf.se s.b).2 hm
      constructor <;> intro <;> omega
    · rfl
  · rw [hns]
    cases loop with
    | false => exact hf.lo t ht
    | true =>
      show 0 < cnt (kset _ _ _ _) _ ↔ _
      rw [cnt_set]
      split
      · rename_i e
        obtain rfl : t = s := h.inj ht hs e
        have := hf.lo0 t.b
        exact ⟨fun _ => ⟨hm, hl.1 rfl⟩, fun _ => by omega⟩
      · exact hf.lo t ht
theorem FI.new (h : Shp G X g root) {f : Fr} {M : Path → Prop} (hf : FI G f M) {s : Nd} (hs : s ∈ G) (hm : s.b ∉ f.ns) {loop : Bool} (hl : loop = true ↔ EndH s.p) : FI G (stN (st1 f s.b loop) s.b) (fun p => M p ∨ p = s.p) := by
  have hse : ∀ b, cnt (stN (st1 f s.b loop) s.b).se b = if b = s.b then cnt f.se s.b + 1 else cnt f.se b := fun b => by
    cases loop <;> exact cnt_set _ _ _ _ _
  have h0 := hf.se0 s.b
  have hns : (stN (st1 f s.b loop) s.b).ns = f.ns ++ [s.b] := by simp only [stN, st1_ns]
  refine ⟨fun b hb => ?_, fun t ht hM => ?_, ?_, fun b => ?_, fun b => ?_, fun b => ?_, fun t ht => ?_⟩
  · rw [hns] at hb
    rcases List.mem_append.1 hb with hb | hb
    · obtain ⟨t, q1, q2, q3⟩ := hf.mem b hb; exact ⟨t, q1, q2, .inl q3⟩
    · simp only [List.mem_singleton] at hb; exact ⟨s, hs, hb.symm, .inr rfl⟩
  · rw [hns]
    rcases hM with hM | hM
    · exact List.mem_append_left _ (hf.all t ht hM)
    · rw [pp_inj h.pp ht hs hM]; simp
  · rw [hns, List.nodup_append]
    refine ⟨hf.nd, by simp, fun a ha b hb e => ?_⟩
    simp only [List.mem_singleton] at hb
    exact hm (by rw [← hb, ← e]; exact ha)
  · rw [hse]; have := hf.se0 b; split <;> omega
  · cases loop with
    | false => exact hf.lo0 b
    | true =>
      show 0 ≤ cnt (kset _ _ _ _) _
      rw [cnt_set]; have := hf.lo0 b; have := hf.lo0 s.b; split <;> omega
  · rw [hse, hns]
    split
    · rename_i e; subst e
      exact ⟨fun _ => by simp, fun _ => by omega⟩
    · rename_i e
      rw [hf.se b]
      simp [e]
  · rw [hns]
    have hlo0 : ∀ u ∈ G, u ≠ s → (0 < cnt f.lo u.b ↔ u.b ∈ f.ns ++ [s.b] ∧ EndH u.p) := fun u hu hne => by
      rw [hf.lo u hu]
      have : u.b ≠ s.b := fun e => hne (h.inj hu hs e)
      simp [this]
    by_cases e : t = s
    · subst e
      cases loop with
      | false =>
        show 0 < cnt f.lo _ ↔ _
        rw [hf.lo t ht]
        exact ⟨fun q => absurd q.1 hm, fun q => absurd (hl.2 q.2) (by simp)⟩
      | true =>
        show 0 < cnt (kset _ _ _ _) _ ↔ _
        rw [cnt_set, if_pos rfl]
        have := hf.lo0 t.b
        exact ⟨fun _ => ⟨by simp, hl.1 rfl⟩, fun _ => by omega⟩
    · cases loop with
      | false => exact hlo0 t ht e
      | true =>
        show 0 < cnt (kset _ _ _ _) _ ↔ _
        rw [cnt_set, if_neg fun e2 => e (h.inj ht hs e2)]
        exact hlo0 t ht e
theorem FI.stand (h : Shp G X g root) : ∀ {c : List Nat}, Chain (G ++ X) c → ∀ (s : Nd), s ∈ G → ∀ c', c = s.b :: c' → ∀ (f : Fr) (M : Path → Prop) (loop : Bool), FI G f M → (∀ i, M (s.p ++ hs i) → M (s.p ++ hs (i + 1))) → (loop = true ↔ EndH s.p) →
    FI G (standC c f loop) (fun p => M p ∨ ∃ i, p = s.p ++ hs i) := by
  intro c hc
  have seen : ∀ (s : Nd), s ∈ G → ∀ (f : Fr) (M : Path → Prop) (loop : Bool), FI G f M → (∀ i, M (s.p ++ hs i) → M (s.p ++ hs (i + 1))) → (loop = true ↔ EndH s.p) → ¬ cnt f.se s.b = 0 → FI G (st1 f s.b loop) (fun p => M p ∨ ∃ i, p = s.p ++ hs i) := by
    intro s hs' f M loop hf hcl hl h0
    have h1 := hf.se0 s.b
    have hm : s.b ∈ f.ns := (hf.se s.b).1 (by omega)
    refine (hf.again h hs' hm hl).congr fun t ht => ⟨.inl, fun q => ?_⟩
    rcases q with q | ⟨i, q⟩
    · exact q
    · rw [q]
      have hM0 := (hf.iff h hs').1 hm
      clear q
      induction i with
      | zero => simpa [hs] using hM0
      | succ i ih => exact hcl i ih
  induction hc with
  | last u hu hk =>
    intro s hs' c' he f M loop hf hcl hl
    obtain ⟨e1, -⟩ := List.cons.inj he
    obtain rfl : u = s := blocks_inj h.bl hu (List.mem_append_left _ hs') e1
    rw [standC]
    by_cases h0 : cnt f.se u.b = 0
    · rw [if_pos h0, standC]
      have hm : u.b ∉ f.ns := fun hb => by have := (hf.se u.b).2 hb; omega
      refine (hf.new h hs' hm hl).congr fun t ht => ⟨fun q => ?_, fun q => ?_⟩
      · rcases q with q | q
        · exact .inl q
        · exact .inr ⟨0, by rw [q]; simp [hs]⟩
      · rcases q with q | ⟨i, q⟩
        · exact .inl q
        · cases i with
          | zero => exact .inr (by simpa [hs] using q)
          | succ i =>
            rw [hs_cons] at q
            obtain ⟨c, hc⟩ := h.below hs' i t ht hash q
            rw [hk] at hc; cases hc
    · rw [if_neg h0]
      exact seen u hs' f M loop hf hcl hl h0
  | more u hu b c hk hc ih =>
    intro s hs' c' he f M loop hf hcl hl
    obtain ⟨e1, -⟩ := List.cons.inj he
    obtain rfl : u = s := blocks_inj h.bl hu (List.mem_append_left _ hs') e1
    rw [standC]
    by_cases h0 : cnt f.se u.b = 0
    · rw [if_pos h0]
      have hm : u.b ∉ f.ns := fun hb => by have := (hf.se u.b).2 hb; omega
      obtain ⟨t, ht, hp, hb⟩ := h.nx u hs' hash b hk
      have hpi : ∀ i, t.p ++ hs i = u.p ++ hs (i + 1) := fun i => by rw [hp, hs_cons]; simp
      refine (ih t ht c (by rw [hb]) _ _ true (hf.new h hs' hm hl) (fun i q => ?_) ⟨fun _ => ⟨u.p, hp⟩, fun _ => rfl⟩).congr fun v hv => ⟨fun q => ?_, fun q => ?_⟩
      · rw [hpi] at q ⊢
        rcases q with q | q
        · exact .inl (hcl _ q)
        · have := congrArg List.length q
          rw [List.length_append, hs_cons] at this
          simp only [List.length_cons] at this
          omega
      · rcases q with (q | q) | ⟨i, q⟩
        · exact .inl q
        · exact .inr ⟨0, by rw [q]; simp [hs]⟩
        · exact .inr ⟨i + 1, by rw [q, hpi]⟩
      · rcases q with q | ⟨i, q⟩
        · exact .inl (.inl q)
        · cases i with
          | zero => exact .inl (.inr (by simpa [hs] using q))
          | succ i => exact .inr ⟨i, by rw [q, hpi]⟩
    · rw [if_neg h0]
      exact seen u hs' f M loop hf hcl hl h0
end
end Go.Proofs.YtbmoancedlbhlaaDoor.Tpc

