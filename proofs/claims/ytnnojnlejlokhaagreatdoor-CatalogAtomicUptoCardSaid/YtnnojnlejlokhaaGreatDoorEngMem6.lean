/- The engine's maps do what the model does. No program. -/
import Derived.Test.YtnnojnlejlokhaaGreatDoorEngMem5
set_option linter.unusedVariables false
set_option linter.unusedSimpArgs false
namespace Go.Proofs.YtnnojnlejlokhaaGreatDoor.Eng
open Go Go.RowKit
variable {x a k m : AV} {t : TypeId} {vk vm : Value}
section
variable {P : Program} {E : Env} {W0 w : World} {N : A9'} {F : HP} {st : Bool} {h h' : T} {n n' : Nat} {lg lg' : Log} {c : Cnd}
theorem CF' (r : Rep W0 N F h w) {i : Nat} {es : List (AV × AV × Nat)} {k : Nat} (hf : h.find i = some (.map es k)) {l : Loc} (hl : N i = some l) :
  ∃ es', w.heap[l.blk]? = some (.map es' k) /\ ERs N es es'.toList := by
 obtain ⟨D, hO⟩ := r.obj hf; obtain ⟨l', es', h1, h2, h3, h4⟩ := hO; obtain rfl : l' = l := Option.some.inj (h1.symm.trans hl); exact ⟨es', h3, h4.1⟩
theorem CH' (r : Rep W0 N F h w) {i : Nat} {es es2 : List (AV × AV × Nat)} {k k2 : Nat} (hf : h.find i = some (.map es k)) {l : Loc} (hl : N i = some l) {es2' : Array MapEntry} (hes : ERs N es2 es2'.toList) :
  Rep W0 N F (T.set T.depth h i (.leaf (.map es2 k2))) { w with heap := w.heap.setIfInBounds l.blk (.map es2' k2) } := by
 refine r.turn hf rfl rfl rfl fun D hD => ?_
 obtain ⟨l', es', h1, h2, h3, h4⟩ := hD; obtain rfl : l' = l := Option.some.inj (h1.symm.trans hl); have hlt : l'.blk < w.heap.size := (Array.getElem?_eq_some_iff.1 h3).1
 exact ⟨fun b hb hd => Array.getElem?_setIfInBounds_ne (fun e => hd ((h2 b).2 e.symm)), fun x => x = l'.blk, ⟨l', es2', hl, fun _ => Iff.rfl, by simp [hlt], hes, h4.2⟩, fun b hb => .inl ((h2 b).2 hb)⟩
theorem BB' {b : Nat} {es : Array MapEntry} {k : Nat} (hb : w.heap[b]? = some (.map es k)) : (getObj b).run P w = .ok (.map es k) w := by simp [getObj, Sem.run, hb]
theorem C4' {b : Nat} {es es2 : Array MapEntry} {k k2 : Nat} (hb : w.heap[b]? = some (.map es k)) : (setObj b (.map es2 k2)).run P w = .ok () { w with heap := w.heap.setIfInBounds b (.map es2 k2) } := by simp [setObj, Sem.run, hb]
theorem FR.none {N : A9'} {r' : Option (Nat × Value)} (h : FR N none r') : r' = Option.none := by cases r' with | none => rfl | some x => cases h
theorem FR.some {N : A9'} {j : Nat} {r' : Option (Nat × Value)} (h : FR N (some (j, x)) r') : ∃ y, r' = Option.some (j, y) /\ VR N x y := by
 cases r' with
 | none => cases h
 | some p => obtain ⟨k, y⟩ := p; obtain ⟨rfl, h2⟩ := h; exact ⟨y, rfl, h2⟩
theorem GX' (hE : EnvOk P E) (r : Rep W0 N F h w) {v : Value} {ok : Bool} (hx : VR N x v) (hk : VR N k vk) (he : (JT' P E t x k ok).run st h n lg = .ok a h' n' lg' c) (hc : c.holds) :
  ∃ y, (Instr.lookup t v vk ok).run P w = .ok y w /\ VR N a y /\ h' = h /\ n' = n := by
 unfold JT' at he; obtain ⟨d, hd, he⟩ := AN' he; have hdr := B7' hE hd
 cases d with
 | map kt e =>
  obtain ⟨es, g1, n1, lg1, c1, c2, e1, he2, hcs⟩ := run_bind _ _ he; clear he
  -- the entries
  have hent : g1 = h /\ n1 = n /\ ((v = .map none /\ es = []) \/ ∃ b es' kk, v = .map (some b) /\ w.heap[b]? = some (.map es' kk) /\ ERs N es es'.toList) := by
   cases x with
   | map i =>
    simp only [VR] at hx; obtain ⟨l, hl, rfl⟩ := hx; have e2 : (D1' i >>= fun x => (pure x.1 : AP _)).run st h n lg = .ok es g1 n1 lg1 c1 := e1; obtain ⟨es0, k0, hf, e3⟩ := CJ' e2; obtain ⟨rfl, rfl, rfl⟩ := A7' e3; obtain ⟨es', h3, h4⟩ := CF' r hf hl; exact ⟨rfl, rfl, .inr ⟨_, es', _, rfl, h3, h4⟩⟩
   | v x =>
    rw [VR_v] at hx; subst hx
    cases v with
    | map o =>
     cases o with
     | none =>
      obtain ⟨rfl, rfl, rfl⟩ := A7' e1; exact ⟨rfl, rfl, .inl ⟨rfl, rfl⟩⟩
     | some _ => exact (A4' e1).elim
    | _ => exact (A4' e1).elim
   | _ => exact (A4' e1).elim
  obtain ⟨rfl, rfl, hent⟩ := hent; obtain ⟨dk, hkd, hchk, he3⟩ := I0' hk he2
  obtain ⟨lgx, cx, he3⟩ : ∃ lgx cx, (Eng.findKey P E kt k es 0 >>= fun r => match r with
   | some (_, v) => pure (if ok = true then AV.tuple [v, .v (.bool true)] else v)
   | none => E.zero e >>= fun z => pure (if ok = true then AV.tuple [.v z, .v (.bool false)] else .v z)).run st g1 n1 lg1 = .ok a h' n' lgx cx := by
   cases hs : E.strict with
   | true => simp only [hs] at he3; exact ⟨_, _, he3⟩
   | false =>
    simp only [hs] at he3; obtain ⟨c5, e5, rfl⟩ := AG' he3; have heq := ((Cnd.and_iff _ _).1 (hcs hc).2).1; have heq' : Eng.findKey P E kt k es 0 = .ret (B4' k es 0) := heq; obtain ⟨ti, z, hti, hz, he6⟩ := CI' e5; obtain ⟨rfl, rfl, rfl⟩ := A7' he6; rw [heq']
    cases hfs : B4' k es 0 with
    | some p => exact ⟨lg1, .t, by cases ok <;> rfl⟩
    | none =>
     refine ⟨lg1, .t, ?_⟩
     show ((E.zero e >>= fun z => (pure (if ok = true then AV.tuple [.v z, .v (.bool false)] else .v z) : AP AV)) : AP AV).run st h' n' lg1 = _
     unfold Env.zero; rw [hti]
     show ((AP.opt "zero" ti.zero >>= fun z => (pure (if ok = true then AV.tuple [.v z, .v (.bool false)] else .v z) : AP AV)) : AP AV).run st h' n' lg1 = _
     rw [hz]
     cases ok <;> rfl
  obtain ⟨fr, g2, n2, lg2, c3, c4, e2, he4, _⟩ := run_bind _ _ he3; clear he3 he2 e1
  -- the search
  have hfind : g2 = g1 /\ n2 = n1 /\ ∃ es' r', FR N fr r' /\ (Instr.findKey kt vk (es' : Array MapEntry).toList).run P w = .ok r' w /\ ((v = .map none /\ es' = #[]) \/ ∃ b kk, v = .map (some b) /\ w.heap[b]? = some (.map es' kk)) := by
   rcases hent with ⟨rfl, rfl⟩ | ⟨b, es', kk, rfl, hb, hes⟩
   ·obtain ⟨rfl, rfl, r', hfr, hfk, _⟩ := CP' (es := []) (es' := []) hE r hkd hk (by simp [ERs]) e2; exact ⟨rfl, rfl, #[], r', hfr, hfk, .inl ⟨rfl, rfl⟩⟩
   ·obtain ⟨rfl, rfl, r', hfr, hfk, _⟩ := CP' hE r hkd hk hes e2; exact ⟨rfl, rfl, es', r', hfr, hfk, .inr ⟨b, kk, rfl, hb⟩⟩
  obtain ⟨rfl, rfl, es', r', hfr, hfk, hv⟩ := hfind; clear e2 hent
  have hrun1 : ∀ j y, r' = some (j, y) -> (Instr.lookup t v vk ok).run P w = .ok (if ok then .tuple #[y, .bool true] else y) w := by
   rintro j y rfl
   rcases hv with ⟨rfl, rfl⟩ | ⟨b, kk, rfl, hb⟩
   ·simp [Instr.lookup, Sem.run_bind, hdr, hchk, hfk]
   ·simp [Instr.lookup, Sem.run_bind, hdr, hchk, hfk, BB' hb]
  have hrun2 : ∀ z, r' = none -> (zeroValue e).run P w = .ok z w -> (Instr.lookup t v vk ok).run P w = .ok (if ok then .tuple #[z, .bool false] else z) w := by
   rintro z rfl hz
   rcases hv with ⟨rfl, rfl⟩ | ⟨b, kk, rfl, hb⟩
   ·simp [Instr.lookup, Sem.run_bind, hdr, hchk, hfk, hz]
   ·simp [Instr.lookup, Sem.run_bind, hdr, hchk, hfk, BB' hb, hz]
  cases fr with
  | some p =>
   obtain ⟨j, z⟩ := p; obtain ⟨y, rfl, hzy⟩ := hfr.some; obtain ⟨rfl, rfl, rfl⟩ := A7' he4; refine ⟨_, hrun1 _ y rfl, ?_, rfl, rfl⟩; cases ok
   ·exact hzy
   ·simp only [if_true, VR]; exact ⟨_, AD'.2 ⟨hzy, AD'.2 ⟨VR_v.2 rfl, AX'⟩⟩, rfl⟩
  | none =>
   obtain rfl := hfr.none; obtain ⟨ti, z, hti, hz, he5⟩ := CI' he4; obtain ⟨rfl, rfl, rfl⟩ := A7' he5; refine ⟨_, hrun2 z rfl (EH' hE hti hz w), ?_, rfl, rfl⟩; cases ok
   ·exact VR_v.2 rfl
   ·simp only [if_true, VR]; exact ⟨_, AD'.2 ⟨VR_v.2 rfl, AD'.2 ⟨VR_v.2 rfl, AX'⟩⟩, rfl⟩
 | _ => exact (A4' he).elim
theorem LT' {z : Value} {y : Value} (hx : VR N x y) (he : (etaM z x).run st h n lg = .ok a h' n' lg' c) (hc : c.holds) : VR N a y /\ h' = h /\ n' = n := by
 unfold etaM at he; split at he
 ·obtain ⟨rfl, rfl, rfl⟩ := AB' he; exact ⟨hx, rfl, rfl⟩
 ·exact OR' hx he hc
theorem ST' {z : Value} {y : Value} (hx : VR N x y) (he : (etaL z x).run st h n lg = .ok a h' n' lg' c) (hc : c.holds) : VR N a y /\ h' = h /\ n' = n := by
 unfold etaL at he; split at he
 ·obtain ⟨x1, g1, n1, lg1, c1, c2, e1, e2, k1⟩ := run_bind _ _ he; obtain ⟨rfl, rfl, rfl⟩ := AB' e2; simp only [VR, VRs] at hx ⊢; obtain ⟨_, ⟨y1, _, h1, ⟨y2, _, h2, rfl, rfl⟩, rfl⟩, rfl⟩ := hx; obtain ⟨hv, rfl, rfl⟩ := LT' h1 e1 (k1 hc).1; exact ⟨⟨_, ⟨y1, _, hv, ⟨y2, _, h2, rfl, rfl⟩, rfl⟩, rfl⟩, rfl, rfl⟩
 ·exact IQ' hx he hc
theorem MV' (hE : EnvOk P E) (r : Rep W0 N E.F h w) {v : Value} {ok : Bool} (hx : VR N x v) (hk : VR N k vk) (he : (QJ' P E t x k ok).run st h n lg = .ok a h' n' lg' c) (hc : c.holds) :
  ∃ y, (Instr.lookup t v vk ok).run P w = .ok y w /\ VR N a y /\ h' = h /\ n' = n := by
 unfold QJ' at he
 cases hst : E.strict with
 | true => rw [hst] at he; exact GX' hE r hx hk he hc
 | false =>
  rw [hst] at he; obtain ⟨b, g1, n1, lg1, c1, c2, e1, e2, k1⟩ := run_bind _ _ he; obtain ⟨y, hl, hv, rfl, rfl⟩ := GX' hE r hx hk e1 (k1 hc).1; split at e2
  ·cases ok with
   | true =>
    obtain ⟨hv2, rfl, rfl⟩ := ST' hv e2 (k1 hc).2; exact ⟨y, hl, hv2, rfl, rfl⟩
   | false =>
    obtain ⟨hv2, rfl, rfl⟩ := LT' hv e2 (k1 hc).2; exact ⟨y, hl, hv2, rfl, rfl⟩
  ·obtain ⟨rfl, rfl, rfl⟩ := AB' e2; exact ⟨y, hl, hv, rfl, rfl⟩
theorem NN' {a b : Value} (h : Instr.sameBits 10000 a b = true) (w : World) : (Instr.keyThatStays a b).run P w = .ok b w := by
 unfold Instr.keyThatStays; rw [if_pos h]; rfl
theorem DC' (es : Array MapEntry) (j : Nat) (f : MapEntry -> MapEntry) {e : MapEntry} (he : es.toList[j]? = some e) : (es.modify j f).toList = es.toList.set j (f e) := by
 have hj : j < es.toList.length := (List.getElem?_eq_some_iff.1 he).1; have he' : es.toList[j] = e := (List.getElem?_eq_some_iff.1 he).2; rw [Array.toList_modify]; apply List.ext_getElem?; intro m; rw [List.getElem?_modify, List.getElem?_set]
 by_cases hm : j = m
 ·subst hm; simp [he]; simpa using hj
 ·simp [hm]
theorem EW' (hE : EnvOk P E) (r : Rep W0 N F h w) {vx : Value} {u : Unit} (hm : VR N m vm) (hk : VR N k vk) (hx : VR N x vx) (he : (GL' P E t m k x).run st h n lg = .ok u h' n' lg' c) (hc : c.holds) :
  ∃ w', (Instr.mapUpdate t vm vk vx).run P w = .ok () w' /\ Rep W0 N F h' w' /\ n' = n := by
 unfold GL' at he; obtain ⟨d, hd, he⟩ := AN' he; have hdr := B7' hE hd
 cases d with
 | map kt e =>
  cases m with
  | map i =>
   simp only [VR] at hm; obtain ⟨l, hl, rfl⟩ := hm; obtain ⟨es, kk, hf, he1⟩ := CJ' he; clear he; obtain ⟨dk, hkd, hchk, he2⟩ := I0' hk he1; clear he1; obtain ⟨es', hb, hes⟩ := CF' r hf hl
   obtain ⟨lgx, cx, he2⟩ : ∃ lgx cx, (Eng.findKey P E kt k es 0 >>= fun r => match r with
    | some (j, _) => AP.opt "entry" es[j]? >>= fun y => AJ' (CO' y.1 k) "which key stays" >>= fun _ => .write i (.map (es.set j (k, x, y.2.2)) kk) (.ret ())
    | none => .write i (.map (es ++ [(k, x, kk)]) (kk + 1)) (.ret ())).run st h n ((i, false) :: lg) = .ok u h' n' lgx cx := by
    cases hs : E.strict with
    | true => simp only [hs] at he2; exact ⟨_, _, he2⟩
    | false =>
     simp only [hs] at he2; obtain ⟨c5, e5, rfl⟩ := AG' he2; obtain ⟨heq, hc5⟩ := (Cnd.and_iff _ _).1 hc; have heq' : Eng.findKey P E kt k es 0 = .ret (B4' k es 0) := heq; obtain ⟨c6, e6, rfl⟩ := AG' e5; have hst : D6' k es := ((Cnd.and_iff _ _).1 hc5).1; rw [heq']
     cases hfs : B4' k es 0 with
     | some p =>
      obtain ⟨j, z⟩ := p; obtain ⟨e0, hj0, hk0⟩ := hst j z hfs; simp only [setE, GC', hfs, hj0] at e6; refine ⟨_, _, Eq.trans ?_ e6⟩
      show ((AP.opt "entry" es[j]? >>= fun y => AJ' (CO' y.1 k) "which key stays" >>= fun _ => AP.write i (.map (es.set j (k, x, y.2.2)) kk) (.ret ())) : AP Unit).run st h n ((i, false) :: lg) = _
      rw [hj0]
      show ((AJ' (CO' e0.1 k) "which key stays" >>= fun _ => AP.write i (.map (es.set j (k, x, e0.2.2)) kk) (.ret ())) : AP Unit).run st h n ((i, false) :: lg) = _
      rw [hk0]; rfl
     | none =>
      simp only [setE, GC', hfs] at e6; exact ⟨_, _, e6⟩
   obtain ⟨fr, g2, n2, lg2, c3, c4, e2, he4, _⟩ := run_bind (Eng.findKey P E kt k es 0) _ he2; clear he2; obtain ⟨rfl, rfl, r', hfr, hfk, hat⟩ := CP' hE r hkd hk hes e2; clear e2
   cases fr with
   | some p =>
    obtain ⟨j, z⟩ := p; obtain ⟨y, rfl, hzy⟩ := hfr.some; obtain ⟨⟨a, z', born⟩, hj, he5⟩ := BK' he4; clear he4; obtain ⟨hsame, he5⟩ := A8' he5; obtain ⟨e0, he0, her⟩ := hes.get hj; obtain ⟨o0, ho0, he6⟩ := B2' he5; clear he5; obtain ⟨_, rfl, rfl⟩ := AB' he6; have hkey := GS' (P := P) hsame her.1 hk w
    have hset : ERs N (es.set j (k, x, born)) (es'.modify j fun e => { e with key := vk, val := vx }).toList := by
     rw [DC' _ _ _ he0]; exact hes.set ⟨hk, hx, her.2.2⟩
    refine ⟨_, ?_, CH' r hf hl hset, rfl⟩
    have he0' : es'[j]? = some e0 := by simpa using he0
    simp [Instr.mapUpdate, Sem.run_bind, hdr, BB' hb, hchk, hfk, he0', hkey, C4' hb]
   | none =>
    obtain rfl := hfr.none; obtain ⟨o0, ho0, he6⟩ := B2' he4; clear he4; obtain ⟨_, rfl, rfl⟩ := AB' he6
    have hset : ERs N (es ++ [(k, x, kk)]) (es'.push { key := vk, val := vx, born := kk }).toList := by
     rw [Array.toList_push]; exact hes.push ⟨hk, hx, rfl⟩
    refine ⟨_, ?_, CH' r hf hl hset, rfl⟩; simp [Instr.mapUpdate, Sem.run_bind, hdr, BB' hb, hchk, hfk, C4' hb]
  | _ => exact (A4' he).elim
 | _ => exact (A4' he).elim
theorem N6' (hE : EnvOk P E) (r : Rep W0 N F h w) {tx ty : TypeId} (hm : VR N m vm) (hk : VR N k vk) (he : (QN' P E t m k).run st h n lg = .ok a h' n' lg' c) (hc : c.holds) :
  ∃ w' y, (Builtin.delete_ #[t, tx] ty #[vm, vk]).run P w = .ok y w' /\ Rep W0 N F h' w' /\ n' = n /\ VR N a y := by
 unfold QN' at he; obtain ⟨d, hd, he⟩ := AN' he; have hdr := B7' hE hd
 cases d with
 | map kt e =>
  cases m with
  | map i =>
   simp only [VR] at hm; obtain ⟨l, hl, rfl⟩ := hm; obtain ⟨es, kk, hf, he1⟩ := CJ' he; clear he; obtain ⟨dk, hkd, hchk, he2⟩ := I0' hk he1; clear he1; obtain ⟨es', hb, hes⟩ := CF' r hf hl
   obtain ⟨lgx, cx, he2⟩ : ∃ lgx cx, (Eng.findKey P E kt k es 0 >>= fun r => match r with
    | some (j, _) => AP.write i (.map (es.eraseIdx j) kk) (.ret (AV.tuple []))
    | none => AP.write i (.map es kk) (.ret (AV.tuple []))).run st h n ((i, false) :: lg) = .ok a h' n' lgx cx := by
    cases hs : E.strict with
    | true => simp only [hs] at he2; exact ⟨_, _, he2⟩
    | false =>
     simp only [hs] at he2; obtain ⟨c5, e5, rfl⟩ := AG' he2; have heq' : Eng.findKey P E kt k es 0 = .ret (B4' k es 0) := ((Cnd.and_iff _ _).1 hc).1; rw [heq']
     cases hfs : B4' k es 0 with
     | some p => simp only [delE, hfs] at e5; exact ⟨_, _, e5⟩
     | none => simp only [delE, hfs] at e5; exact ⟨_, _, e5⟩
   obtain ⟨fr, g2, n2, lg2, c3, c4, e2, he4, _⟩ := run_bind (Eng.findKey P E kt k es 0) _ he2; clear he2; obtain ⟨rfl, rfl, r', hfr, hfk, hat⟩ := CP' hE r hkd hk hes e2; clear e2
   cases fr with
   | some p =>
    obtain ⟨j, z⟩ := p; obtain ⟨y, rfl, hzy⟩ := hfr.some; obtain ⟨o0, ho0, he6⟩ := B2' he4; clear he4; obtain ⟨rfl, rfl, rfl⟩ := AB' he6
    have hset : ERs N (es.eraseIdx j) (es'.eraseIdxIfInBounds j).toList := by
     have : (es'.eraseIdxIfInBounds j).toList = es'.toList.eraseIdx j := by simp
     rw [this]; exact hes.erase j
    refine ⟨_, .tuple #[], ?_, CH' r hf hl hset, rfl, by simp only [VR]; exact ⟨[], AX', rfl⟩⟩
    simp [Builtin.delete_, Sem.run_bind, hdr, BB' hb, hchk, hfk, C4' hb]
   | none =>
    obtain rfl := hfr.none; obtain ⟨o0, ho0, he6⟩ := B2' he4; clear he4; obtain ⟨rfl, rfl, rfl⟩ := AB' he6
    refine ⟨_, .tuple #[], ?_, CH' r hf hl hes, rfl, by simp only [VR]; exact ⟨[], AX', rfl⟩⟩
    simp [Builtin.delete_, Sem.run_bind, hdr, BB' hb, hchk, hfk, C4' hb]
  | _ => exact (A4' he).elim
 | _ => exact (A4' he).elim
theorem KY' (hE : EnvOk P E) (r : Rep W0 N F h w) (hm : VR N m vm) (hk : VR N k vk) (he : (KZ' P E t m k).run st h n lg = .ok a h' n' lg' c) (hc : c.holds) :
  ∃ w' y, (Instr.mapEntry t vm vk).run P w = .ok y w' /\ Rep W0 N F h' w' /\ n' = n /\ VR N a y := by
 unfold KZ' at he; obtain ⟨d, hd, he⟩ := AN' he; have hdr := B7' hE hd
 cases d with
 | map kt e =>
  cases m with
  | map i =>
   simp only [VR] at hm; obtain ⟨l, hl, rfl⟩ := hm; obtain ⟨es, kk, hf, he1⟩ := CJ' he; clear he; obtain ⟨dk, hkd, hchk, he2⟩ := I0' hk he1; clear he1; obtain ⟨es', hb, hes⟩ := CF' r hf hl
   obtain ⟨lgx, cx, he2⟩ : ∃ lgx cx, (Eng.findKey P E kt k es 0 >>= fun r => match r with
    | some (j, v) => AP.opt "entry" es[j]? >>= fun y => AJ' (CO' y.1 k) "which key stays" >>= fun _ => .write i (.map (es.set j (k, y.2.1, y.2.2)) kk) (.ret (.tuple [v, .v (.int .i64 y.2.2)]))
    | none => E.zero e >>= fun z => .write i (.map (es ++ [(k, .v z, kk)]) (kk + 1)) (.ret (.tuple [.v z, .v (.int .i64 kk)]))).run st h n ((i, false) :: lg) = .ok a h' n' lgx cx := by
    cases hs : E.strict with
    | true => simp only [hs] at he2; exact ⟨_, _, he2⟩
    | false =>
     simp only [hs] at he2; obtain ⟨c5, e5, rfl⟩ := AG' he2; obtain ⟨heq, hc5⟩ := (Cnd.and_iff _ _).1 hc; have heq' : Eng.findKey P E kt k es 0 = .ret (B4' k es 0) := heq; obtain ⟨c6, e6, rfl⟩ := AG' e5; have hst : D6' k es := ((Cnd.and_iff _ _).1 hc5).1; obtain ⟨ti, z, hti, hz, e7⟩ := CI' e6; rw [heq']
     cases hfs : B4' k es 0 with
     | some p =>
      obtain ⟨j, v⟩ := p; obtain ⟨⟨e0, e1, e2⟩, hj0, hk0⟩ := hst j v hfs; simp only [ensE, GC', valE, TR', hfs, hj0] at e7; refine ⟨_, _, Eq.trans ?_ e7⟩
      show ((AP.opt "entry" es[j]? >>= fun y => AJ' (CO' y.1 k) "which key stays" >>= fun _ => AP.write i (.map (es.set j (k, y.2.1, y.2.2)) kk) (.ret (.tuple [v, .v (.int .i64 y.2.2)]))) : AP AV).run st h n ((i, false) :: lg) = _
      rw [hj0]
      show ((AJ' (CO' e0 k) "which key stays" >>= fun _ => AP.write i (.map (es.set j (k, e1, e2)) kk) (.ret (.tuple [v, .v (.int .i64 e2)]))) : AP AV).run st h n ((i, false) :: lg) = _
      simp only at hk0; rw [hk0]; rfl
     | none =>
      simp only [ensE, GC', valE, TR', hfs] at e7; refine ⟨_, _, Eq.trans ?_ e7⟩
      show ((E.zero e >>= fun z => AP.write i (.map (es ++ [(k, .v z, kk)]) (kk + 1)) (.ret (.tuple [.v z, .v (.int .i64 kk)]))) : AP AV).run st h n ((i, false) :: lg) = _
      unfold Env.zero; rw [hti]
      show ((AP.opt "zero" ti.zero >>= fun z => AP.write i (.map (es ++ [(k, .v z, kk)]) (kk + 1)) (.ret (.tuple [.v z, .v (.int .i64 kk)]))) : AP AV).run st h n ((i, false) :: lg) = _
      rw [hz]; rfl
   obtain ⟨fr, g2, n2, lg2, c3, c4, e2, he4, _⟩ := run_bind (Eng.findKey P E kt k es 0) _ he2; clear he2; obtain ⟨rfl, rfl, r', hfr, hfk, hat⟩ := CP' hE r hkd hk hes e2; clear e2
   cases fr with
   | some p =>
    obtain ⟨j, z⟩ := p; obtain ⟨y, rfl, hzy⟩ := hfr.some; obtain ⟨⟨a0, z', born⟩, hj, he5⟩ := BK' he4; clear he4; obtain ⟨hsame, he5⟩ := A8' he5; obtain ⟨e0, he0, her⟩ := hes.get hj; obtain ⟨o0, ho0, he6⟩ := B2' he5; clear he5; obtain ⟨rfl, rfl, rfl⟩ := AB' he6; have hkey := GS' (P := P) hsame her.1 hk w
    have hset : ERs N (es.set j (k, z', born)) (es'.modify j fun e => { e with key := vk }).toList := by
     rw [DC' _ _ _ he0]; exact hes.set ⟨hk, her.2.1, her.2.2⟩
    have he0' : es'[j]? = some e0 := by simpa using he0
    have hborn : e0.born = born := her.2.2
    refine ⟨_, .tuple #[y, goInt born], ?_, CH' r hf hl hset, rfl, by simp only [VR]; exact ⟨_, AD'.2 ⟨hzy, AD'.2 ⟨VR_v.2 rfl, AX'⟩⟩, rfl⟩⟩
    simp [Instr.mapEntry, Sem.run_bind, hdr, BB' hb, hchk, hfk, he0', hkey, C4' hb, hborn]
   | none =>
    obtain rfl := hfr.none; obtain ⟨ti, z, hti, hz, he5⟩ := CI' he4; clear he4; obtain ⟨o0, ho0, he6⟩ := B2' he5; clear he5; obtain ⟨rfl, rfl, rfl⟩ := AB' he6
    have hset : ERs N (es ++ [(k, .v z, kk)]) (es'.push { key := vk, val := z, born := kk }).toList := by
     rw [Array.toList_push]; exact hes.push ⟨hk, VR_v.2 rfl, rfl⟩
    refine ⟨_, .tuple #[z, goInt kk], ?_, CH' r hf hl hset, rfl, by simp only [VR]; exact ⟨_, AD'.2 ⟨VR_v.2 rfl, AD'.2 ⟨VR_v.2 rfl, AX'⟩⟩, rfl⟩⟩
    simp [Instr.mapEntry, Sem.run_bind, hdr, BB' hb, hchk, hfk, EH' hE hti hz, C4' hb]
  | _ => exact (A4' he).elim
 | _ => exact (A4' he).elim
theorem J7' {N : A9'} (born : Nat) : ∀ (es : List (AV × AV × Nat)) (es' : List MapEntry) (i : Nat) {j : Nat}, ERs N es es' -> GW' born es i = some j ->
  i <= j /\ es'.findIdx? (fun e => (e.born : Int) == (born : Int)) = some (j - i)
 | [], _, _, _, _, h => by cases h
 | (a, x, b) :: es, es', i, j, hes, h => by
  obtain ⟨e, r, ⟨_, _, h3⟩, h4, rfl⟩ := hes; simp only at h3; rw [GW'] at h
  cases hb : Nat.beq b born with
  | true =>
   rw [hb] at h; cases h
   have : e.born = born := by rw [h3]; exact Nat.eq_of_beq_eq_true hb
   exact ⟨Nat.le_refl _, by rw [List.findIdx?_cons]; simp [this]⟩
  | false =>
   rw [hb] at h; obtain ⟨h5, h6⟩ := J7' born es r (i + 1) h4 h
   have hne : ¬ e.born = born := by rw [h3]; exact Nat.ne_of_beq_eq_false hb
   refine ⟨ω, ?_⟩; rw [List.findIdx?_cons, h6]; have : ((e.born : Int) == (born : Int)) = false := beq_eq_false_iff_ne.2 (fun hh => hne (Int.ofNat.inj hh)); simp [this]; omega
theorem J0' (r : Rep W0 N F h w) {s : AV} {vs vx : Value} {u : Unit} (hm : VR N m vm) (hs : VR N s vs) (hx : VR N x vx) {sb : Bool} (he : (HG' sb m s x).run st h n lg = .ok u h' n' lg' c) (hc : c.holds) :
  ∃ w', (Instr.entryStore t vm vs vx).run P w = .ok () w' /\ Rep W0 N F h' w' /\ n' = n := by
 unfold HG' at he
 cases m with
 | map i =>
  simp only [VR] at hm; obtain ⟨l, hl, rfl⟩ := hm; obtain ⟨es, kk, hf, he1⟩ := CJ' he; clear he; obtain ⟨ki, b, rfl, he2⟩ := CZ' he1; clear he1; rw [VR_v] at hs; subst hs
  obtain ⟨lgx, cx, he2⟩ : ∃ lgx cx, (AP.opt "entry" (GW' b es 0) >>= fun j => AP.opt "entry" es[j]? >>= fun y => (AP.write i (.map (es.set j (y.1, x, y.2.2)) kk) (.ret ()) : AP Unit)).run st h n ((i, false) :: lg) = .ok u h' n' lgx cx := by
   cases sb with
   | true => exact ⟨_, _, he2⟩
   | false =>
    obtain ⟨c5, e5, rfl⟩ := AG' he2; have hsome : (GW' b es 0).isSome = true := ((Cnd.and_iff _ _).1 hc).1; obtain ⟨j, hj⟩ := Option.isSome_iff_exists.1 hsome
    obtain ⟨e0, he0⟩ : ∃ e0, es[j]? = some e0 := by
     have hl : ∀ (l : List (AV × AV × Nat)) (i j : Nat), GW' b l i = some j -> i <= j /\ j < i + l.length := by
      intro l
      induction l with
      | nil => intro i j h; cases h
      | cons y l ih =>
       intro i j h; obtain ⟨y1, y2, y3⟩ := y; rw [GW'] at h
       cases hb : Nat.beq y3 b with
       | true => rw [hb] at h; cases h; simp
       | false => rw [hb] at h; have := ih _ _ h; simp only [List.length_cons]; omega
     have := hl es 0 j hj; exact ⟨es[j], List.getElem?_eq_getElem ω⟩
    obtain ⟨a1, a2, a3⟩ := e0; simp only [YK', hj, he0] at e5; refine ⟨_, _, Eq.trans ?_ e5⟩; rw [hj]
    show ((AP.opt "entry" es[j]? >>= fun y => (AP.write i (.map (es.set j (y.1, x, y.2.2)) kk) (.ret ()) : AP Unit)) : AP Unit).run st h n ((i, false) :: lg) = _
    rw [he0]; rfl
  obtain ⟨j, hj, he3⟩ := BK' he2; obtain ⟨⟨k, z, born⟩, hg, he4⟩ := BK' he3; clear he2 he3; obtain ⟨o0, ho0, he6⟩ := B2' he4; clear he4; obtain ⟨_, rfl, rfl⟩ := AB' he6; obtain ⟨es', hb, hes⟩ := CF' r hf hl; obtain ⟨_, hfi⟩ := J7' b es es'.toList 0 hes hj; obtain ⟨e0, he0, her⟩ := hes.get hg
  have hset : ERs N (es.set j (k, x, born)) (es'.modify j fun e => { e with val := vx }).toList := by
   rw [DC' _ _ _ he0]; exact hes.set ⟨her.1, hx, her.2.2⟩
  refine ⟨_, ?_, CH' r hf hl hset, rfl⟩
  have hfi' : es'.findIdx? (fun e => (e.born : Int) == (b : Int)) = some j := by
   rw [<- List.findIdx?_toArray] at hfi; simpa using hfi
  simp [Instr.entryStore, Sem.run_bind, BB' hb, Go.asInt, asIntOf, hfi', C4' hb]
 | _ => exact (A4' he).elim
end
end Go.Proofs.YtnnojnlejlokhaaGreatDoor.Eng
