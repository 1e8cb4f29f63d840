/- Maps with pointers as keys, where it is known what blocks they stand for. No program. -/
import Derived.Test.YtnnojnlejlokhaaGreatDoorEngMem6
set_option linter.unusedVariables false
set_option linter.unusedSimpArgs false
namespace Go.Proofs.YtnnojnlejlokhaaGreatDoor.Eng
open Go Go.RowKit
open List renaming mem_cons_self -> ms'
variable {k x : AV} {kt el : TypeId} {vk : Value}
section
variable {P : Program} {E : Env} {W0 w : World} {N : A9'} {F : HP} {st : Bool} {h h' : T} {n n' : Nat} {lg lg' : Log} {c : Cnd}
def QW' (w : World) (v : AV) : Prop := ∃ b arr e, v = .v (.pointer (some ⟨b, 0, none⟩)) /\ w.heap[b]? = some (.cells arr e (0, 0))
theorem OG' (hE : EnvOk P E) (r : Rep W0 N F h w) {α : Type} {q : α} {es : List (AV × AV × Nat)} {f : Unit -> AP α} (he : (hO' E k es >>= f).run st h n lg = .ok q h' n' lg' c) (hc : c.holds) :
  (∀ v, v ∈ k :: es.map (·.1) -> QW' w v) /\ ∃ lg1 c1, (f ()).run st h n lg1 = .ok q h' n' lg' c1 /\ c1.holds := by
 have he' : (AP.read 2 fun a => .need (E.gd a k es) (f ())).run st h n lg = .ok q h' n' lg' c := he; obtain ⟨a, ha, he1⟩ := BM' he'; obtain ⟨c1, he4, rfl⟩ := AG' he1; obtain ⟨hg, hc1⟩ := (Cnd.and_iff _ _).1 hc; obtain ⟨D0, D, h1, h2, h3⟩ := r.sat
 exact ⟨fun v hv => hE.gd _ _ _ hg N (D 2) w (h2 2 a ha).1 v hv, _, c1, he4, hc1⟩
theorem fY' (hd : P.underlying kt = some (.pointer el)) {ti : TypeInfo} (hi : P.info? el = some ti) (h0 : 0 < ti.size) {y : AV} {vx vy : Value} (hx : QW' w x) (hy : QW' w y) (rx : VR N x vx) (ry : VR N y vy) :
  (Op.equal kt vx vy).run P w = .ok (keyQ x y) w /\ Instr.sameNow (.pointer el) vx vy = none /\ (keyQ x y = true -> Instr.sameBits 10000 vy vx = true) := by
 obtain ⟨b, arr, e, rfl, hb⟩ := hx; obtain ⟨b', arr', e', rfl, hb'⟩ := hy; rw [VR_v] at rx ry; subst rx ry
 refine ⟨?_, rfl, fun hq => ?_⟩
 ·by_cases hbb : b = b'
  ·subst hbb; rw [GU' hd hi h0]; simp [keyQ, valQ]
  ·rw [G8' hd hi h0 (a := ⟨b, 0, none⟩) (b := ⟨b', 0, none⟩) (fun e => hbb (Addr.mk.inj e).1) hb hb']; simp [keyQ, valQ, hbb]
 ·simp [keyQ, valQ] at hq; subst hq; simp [Instr.sameBits]
theorem OH' {kt el : TypeId} (hd : P.underlying kt = some (.pointer el)) {ti : TypeInfo} (hi : P.info? el = some ti) (h0 : 0 < ti.size) {k : AV} {vk : Value} (hk : QW' w k) (rk : VR N k vk) :
  ∀ (es : List (AV × AV × Nat)) (es' : List MapEntry) (i : Nat), ERs N es es' -> (∀ v, v ∈ es.map (·.1) -> QW' w v) ->
   ∃ r', FR N (B4' k es i) r' /\ (Instr.findAsking kt vk es' i).run P w = .ok r' w /\ (∀ r'', Instr.findNow (.pointer el) vk es' i = some r'' -> r'' = r') /\
    ∀ j x, B4' k es i = some (j, x) -> i <= j /\ ∃ e e', es[j - i]? = some e /\ es'[j - i]? = some e' /\ Instr.sameBits 10000 e'.key vk = true
 | [], es', i, hes, _ => by
  simp only [ERs] at hes; subst hes
  exact ⟨none, trivial, rfl, fun r'' h => by cases h; rfl, fun j x h => by cases h⟩
 | (a, x, b) :: es, es', i, hes, hg => by
  obtain ⟨e, es'', ⟨h1, h2, h3⟩, h4, rfl⟩ := hes; obtain ⟨q1, q2, q3⟩ := fY' hd hi h0 hk (hg a (by simp)) rk h1; rw [B4']
  cases hq : keyQ k a with
  | true =>
   rw [hq] at q1
   refine ⟨some (i, e.val), ⟨rfl, h2⟩, ?_, fun r'' hr => ?_, fun j y hj => ?_⟩
   ·simp [Instr.findAsking, Sem.run_bind, q1]
   ·simp only [Instr.findNow, q2] at hr; cases hr
   ·cases hj
    exact ⟨Nat.le_refl _, (a, x, b), e, by simp, by simp, q3 hq⟩
  | false =>
   rw [hq] at q1; obtain ⟨r', f1, f2, f3, f4⟩ := OH' hd hi h0 hk rk es es'' (i + 1) h4 (fun v hv => hg v (List.mem_cons_of_mem _ hv))
   refine ⟨r', f1, ?_, fun r'' hr => ?_, fun j y hj => ?_⟩
   ·simp [Instr.findAsking, Sem.run_bind, q1, f2]
   ·simp only [Instr.findNow, q2] at hr; cases hr
   ·obtain ⟨k1, e0, e1, k2, k3, k4⟩ := f4 j y hj; refine ⟨ω, e0, e1, ?_, ?_, k4⟩
    ·rw [show j - i = (j - (i + 1)) + 1 from ω]; simpa using k2
    ·rw [show j - i = (j - (i + 1)) + 1 from ω]; simpa using k3
theorem J6' (hd : P.underlying kt = some (.pointer el)) {ti : TypeInfo} (hi : P.info? el = some ti) (h0 : 0 < ti.size) (hk : QW' w k) (rk : VR N k vk) {es : List (AV × AV × Nat)} {es' : List MapEntry} (hes : ERs N es es') (hg : ∀ v, v ∈ es.map (·.1) -> QW' w v) :
  ∃ r', FR N (B4' k es 0) r' /\ (Instr.findKey kt vk es').run P w = .ok r' w /\ ∀ j x, B4' k es 0 = some (j, x) -> ∃ e e', es[j]? = some e /\ es'[j]? = some e' /\ Instr.sameBits 10000 e'.key vk = true := by
 obtain ⟨r', f1, f2, f3, f4⟩ := OH' hd hi h0 hk rk es es' 0 hes hg
 refine ⟨r', f1, ?_, fun j x hj => by obtain ⟨_, e, e', k1, k2, k3⟩ := f4 j x hj; exact ⟨e, e', by simpa using k1, by simpa using k2, k3⟩⟩
 simp only [Instr.findKey, Sem.run_bind, run_underlying hd, Result.andThen_ok]
 cases hn : Instr.findNow (.pointer el) vk es' 0 with
 | some r0 => simp only [f3 _ hn, Sem.run_pure]
 | none => exact f2
theorem LP' (hd : P.underlying kt = some (.pointer el)) (a : Option Addr) (b : Bool) (w : World) : (Instr.checkKey b 10000 kt (.pointer a)).run P w = .ok () w := by
 have : ∀ m, (Instr.checkKey b (m + 1) kt (.pointer a)).run P w = .ok () w := fun m => by
  simp only [Instr.checkKey, Sem.run_bind, run_underlying hd, Result.andThen_ok, Sem.run_pure]
 exact this 9999
theorem LA' (hE : EnvOk P E) (r : Rep W0 N F h w) {t : TypeId} {a : AV} {v : Value} (hx : VR N x v) (hk : VR N k vk) (he : (MW' E t x k).run st h n lg = .ok a h' n' lg' c) (hc : c.holds) :
  ∃ y, (Instr.lookup t v vk false).run P w = .ok y w /\ VR N a y /\ h' = h /\ n' = n := by
 unfold MW' at he; obtain ⟨d, hd, he⟩ := AN' he; have hdr := B7' hE hd
 cases d with
 | map kt e =>
  cases x with
  | map i =>
   simp only [VR] at hx; obtain ⟨l, hl, rfl⟩ := hx; obtain ⟨es, kk, hf, he1⟩ := CJ' he; obtain ⟨dk, hdk, he2⟩ := AN' he1; have hku := hE.under hdk
   cases dk with
   | pointer el =>
    obtain ⟨ti, hti, he3⟩ := B3' he2; obtain ⟨hs, he4⟩ := A8' he3
    have h0 : 0 < ti.size := by simpa [Nat.blt_eq] using hs
    obtain ⟨hgood, lg1, c1, he5, hc1⟩ := OG' hE r he4 hc; obtain ⟨tz, z, htz, hz, he6⟩ := CI' he5; obtain ⟨es', hb, hes⟩ := CF' r hf hl; obtain ⟨r', hfr, hfk, _⟩ := J6' hku (hE.info _ _ hti) h0 (hgood k (ms')) hk hes (fun v hv => hgood v (List.mem_cons_of_mem _ hv))
    have hchk : ∀ b, (Instr.checkKey b 10000 kt vk).run P w = .ok () w := fun b => by
     obtain ⟨bb, _, _, rfl, _⟩ := hgood k (ms'); rw [VR_v] at hk; subst hk; exact LP' hku _ b w
    have hzr := EH' hE htz hz w
    have hval : ∃ y, (Instr.lookup t (.map (some l.blk)) vk false).run P w = .ok y w /\ VR N (D2' (B4' k es 0) z) y := by
     cases hfs : B4' k es 0 with
     | some p =>
      obtain ⟨j, xx⟩ := p; rw [hfs] at hfr; obtain ⟨y, rfl, hy⟩ := hfr.some
      exact ⟨y, by simp [Instr.lookup, Sem.run_bind, hdr, hchk, hfk, BB' hb], hy⟩
     | none =>
      rw [hfs] at hfr; obtain rfl := hfr.none
      exact ⟨z, by simp [Instr.lookup, Sem.run_bind, hdr, hchk, hfk, BB' hb, hzr], VR_v.2 rfl⟩
    obtain ⟨y, hy1, hy2⟩ := hval; obtain ⟨q1, rfl, rfl⟩ := IQ' hy2 he6 hc1; exact ⟨y, hy1, q1, rfl, rfl⟩
   | _ => exact (A4' he2).elim
  | _ => exact (A4' he).elim
 | _ => exact (A4' he).elim
theorem IW' (hE : EnvOk P E) (r : Rep W0 N F h w) {t : TypeId} {m : AV} {vm vx : Value} {u : Unit} (hm : VR N m vm) (hk : VR N k vk) (hx : VR N x vx) (he : (HE' E t m k x).run st h n lg = .ok u h' n' lg' c) (hc : c.holds) :
  ∃ w', (Instr.mapUpdate t vm vk vx).run P w = .ok () w' /\ Rep W0 N F h' w' /\ n' = n := by
 unfold HE' at he; obtain ⟨d, hd, he⟩ := AN' he; have hdr := B7' hE hd
 cases d with
 | map kt e =>
  cases m with
  | map i =>
   simp only [VR] at hm; obtain ⟨l, hl, rfl⟩ := hm; obtain ⟨es, kk, hf, he1⟩ := CJ' he; obtain ⟨dk, hdk, he2⟩ := AN' he1; have hku := hE.under hdk
   cases dk with
   | pointer el =>
    obtain ⟨ti, hti, he3⟩ := B3' he2; obtain ⟨hs, he4⟩ := A8' he3
    have h0 : 0 < ti.size := by simpa [Nat.blt_eq] using hs
    obtain ⟨hgood, lg1, c1, he5, hc1⟩ := OG' hE r he4 hc; obtain ⟨es', hb, hes⟩ := CF' r hf hl; obtain ⟨r', hfr, hfk, hat⟩ := J6' hku (hE.info _ _ hti) h0 (hgood k (ms')) hk hes (fun v hv => hgood v (List.mem_cons_of_mem _ hv))
    have hchk : ∀ b, (Instr.checkKey b 10000 kt vk).run P w = .ok () w := fun b => by
     obtain ⟨bb, _, _, rfl, _⟩ := hgood k (ms'); rw [VR_v] at hk; subst hk; exact LP' hku _ b w
    obtain ⟨o0, ho0, he6⟩ := B2' he5; obtain ⟨_, rfl, rfl⟩ := AB' he6
    cases hfs : B4' k es 0 with
    | some p =>
     obtain ⟨j, z⟩ := p; rw [hfs] at hfr; obtain ⟨y, rfl, hy⟩ := hfr.some; obtain ⟨e1, e0, hj, he0, hbits⟩ := hat j z hfs; have her := hes.get hj; obtain ⟨e0', he0', her⟩ := her; obtain rfl : e0' = e0 := Option.some.inj (he0'.symm.trans he0); have hkey := NN' (P := P) hbits w
     have hset : ERs N (setE k x es kk) (es'.modify j fun e => { e with key := vk, val := vx }).toList := by
      rw [DC' _ _ _ he0, setE, hfs]; simp only [hj, Option.map_some, Option.getD_some]; exact hes.set ⟨hk, hx, her.2.2⟩
     have hbump : GC' k es kk = kk := by rw [GC', hfs]
     rw [hbump]; refine ⟨_, ?_, CH' r hf hl hset, rfl⟩
     have he0'' : es'[j]? = some e0' := by simpa using he0
     simp [Instr.mapUpdate, Sem.run_bind, hdr, BB' hb, hchk, hfk, he0'', hkey, C4' hb]
    | none =>
     rw [hfs] at hfr; obtain rfl := hfr.none
     have hset : ERs N (setE k x es kk) (es'.push { key := vk, val := vx, born := kk }).toList := by
      rw [Array.toList_push, setE, hfs]; exact hes.push ⟨hk, hx, rfl⟩
     have hbump : GC' k es kk = kk + 1 := by rw [GC', hfs]
     rw [hbump]; refine ⟨_, ?_, CH' r hf hl hset, rfl⟩; simp [Instr.mapUpdate, Sem.run_bind, hdr, BB' hb, hchk, hfk, C4' hb]
   | _ => exact (A4' he2).elim
  | _ => exact (A4' he).elim
 | _ => exact (A4' he).elim
end
end Go.Proofs.YtnnojnlejlokhaaGreatDoor.Eng
