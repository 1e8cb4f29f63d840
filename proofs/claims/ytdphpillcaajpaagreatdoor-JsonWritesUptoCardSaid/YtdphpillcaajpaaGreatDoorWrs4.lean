/- Parts of the proof, merged. -/
import Derived.Test.YtdphpillcaajpaaGreatDoorWrs3
import Derived.Test.YtdphpillcaajpaaGreatDoorEngKit
import Derived.Test.YtdphpillcaajpaaGreatDoorEngXWrs
set_option linter.unusedVariables false
set_option linter.unusedSimpArgs false
set_option maxRecDepth 100000
set_option linter.unusedSectionVars false
namespace Go.Proofs.YtdphpillcaajpaaGreatDoor.Js
open Go Go.RowKit Eng Kit
noncomputable section
abbrev fCh : Nat := 64
def aCh (s : ByteArray) (i c n m k : Nat) : List (Nat × AV) := [(0, sv s), (1, iv (Int.ofNat i)), (5, iv (Int.ofNat c)), (6, iv (Int.ofNat n)), (7, iv (Int.ofNat m)), (8, iv (Int.ofNat k))]
def zCh (v n m : Nat) : List (Nat × AV) := [(5, iv (Int.ofNat v)), (6, iv (Int.ofNat n)), (7, iv (Int.ofNat m))]
def iCh : List Nat := [0, 1, 4, 5, 6, 7, 8]
def hCh (x : UInt8) (i c k : Nat) (lo hi : Bool) : B8' := A9' [(fCh, 14, 2, hv (.lit true)), (fCh, 16, 3, hv (iv (Int.ofNat (i + k)))), (fCh, 16, 4, h0v (byv x)), (fCh, 16, 5, hv (iv (Int.ofNat x.toNat))), (fCh, 17, 1, hv (.lit lo)), (fCh, 17, 4, hv (.lit hi)), (fCh, 19, 1, hv (iv (Int.ofNat (c * 64)))), (fCh, 19, 3, hv (iv (Int.ofNat (c * 64 + x.toNat)))), (fCh, 19, 4, hv (iv (Int.ofNat (c * 64 + x.toNat - 128)))), (fCh, 15, 1, hv (iv (Int.ofNat (k + 1))))]
noncomputable section
abbrev k17' (q0 : Nat) : Cnd := (f' (Wk (b' (decide (Int.ofNat q0 < Int.ofNat q0))) g'))
end
theorem d9' (s : ByteArray) (i c n m : Nat) (F : HP) : AR' [] (A9' [(fCh, 14, 2, hv (.lit false))]) [] default fCh (A2' fCh 14) (tms 0 92 (aCh s i c n m n)) [] [] iCh F = VT.leaf (AX.exit 1,[s' s,i' i,a',i' c,i' n,i' m,i' n],92) [] 1100 ((k17' n).a t') := by kernel_rfl
noncomputable section
abbrev k18' (q0 q1 : Nat) : Cnd := (f' (Wk (b' (decide (Int.ofNat q0 < Int.ofNat q1))) j'))
abbrev k19' (q0 q1 : Nat) : Cnd := (f' (Wk (z' (IntKind.i64.wrap (Int.ofNat q0 + Int.ofNat q1))) (i' (q0 + q1))))
abbrev k20' (q0 q1 : Nat) (q2 : ByteArray) (q3 : UInt8) : Cnd := ((p' (q0 + q1 < q2.size)).a (f' (Wk (AV.v (Value.int IntKind.u8 ↑(q2.data.toList.getD (q0 + q1) 0).toNat)) (AV.v (Value.int IntKind.u8 ↑q3.toNat)))))
abbrev k21' (q0 : UInt8) : Cnd := (f' (Wk (z' (IntKind.i64.wrap ↑q0.toNat)) (i' q0.toNat)))
abbrev k22' (q0 : UInt8) : Cnd := (f' (Wk (b' (decide (Int.ofNat q0.toNat < Int.ofNat 128))) g'))
end
theorem d6' (s : ByteArray) (i c n m k : Nat) (x : UInt8) (F : HP) : AR' [] (hCh x i c k false false) [] default fCh (A2' fCh 14) (tms 0 92 (aCh s i c n m k)) [] [] iCh F = VT.leaf (AX.normal,[s' s,i' i,a',i' (c * 64 + x.toNat - 128),i' n,i' m,i' (k + 1)],92) [] 1100 ((k18' k n).a ((k19' i k).a ((k20' i k s x).a ((k21' x).a ((k22' x).a ((f' (Wk (b' (decide (Int.ofNat x.toNat > Int.ofNat 191))) g')).a ((f' (Wk (z' (IntKind.i64.wrap (Int.ofNat c * Int.ofNat 64))) (i' (c * 64)))).a ((f' (Wk (z' (IntKind.i64.wrap (Int.ofNat (c * 64) + Int.ofNat x.toNat))) (i' (c * 64 + x.toNat)))).a ((f' (Wk (z' (IntKind.i64.wrap (Int.ofNat (c * 64 + x.toNat) - Int.ofNat 128))) (i' (c * 64 + x.toNat - 128)))).a ((k7' k).a t')))))))))) := by kernel_rfl
noncomputable section
abbrev k23' (q0 : UInt8) : Cnd := (f' (Wk (b' (decide (Int.ofNat q0.toNat < Int.ofNat 128))) j'))
end
theorem d7' (s : ByteArray) (i c n m k : Nat) (x : UInt8) (F : HP) : AR' [] (hCh x i c k true false) [] default fCh (A2' fCh 14) (tms 0 92 (aCh s i c n m k)) [] [] iCh F = VT.leaf (AX.ret,[s' s,i' i,i' 0,i' c,i' n,i' m,i' k],92) [] 1100 ((k18' k n).a ((k19' i k).a ((k20' i k s x).a ((k21' x).a ((k23' x).a t'))))) := by kernel_rfl
theorem d8' (s : ByteArray) (i c n m k : Nat) (x : UInt8) (F : HP) : AR' [] (hCh x i c k false true) [] default fCh (A2' fCh 14) (tms 0 92 (aCh s i c n m k)) [] [] iCh F = VT.leaf (AX.ret,[s' s,i' i,i' 0,i' c,i' n,i' m,i' k],92) [] 1100 ((k18' k n).a ((k19' i k).a ((k20' i k s x).a ((k21' x).a ((k22' x).a ((f' (Wk (b' (decide (Int.ofNat x.toNat > Int.ofNat 191))) j')).a t')))))) := by kernel_rfl
def lChE (s : ByteArray) (i c n m v : Nat) : List AV → AP (AX × List AV) := mkL (fun _ => .ret ()) (fun _ => True) (fun _ k => k) (fun _ => tms 0 92 (aCh s i c n m 1)) (fun _ => []) (fun _ => .leaf (.exit 1) (tms 0 92 (zCh v n m)) [])
def lChR (s : ByteArray) (i c n m : Nat) : List AV → AP (AX × List AV) := mkL (fun _ => .ret ()) (fun _ => True) (fun _ k => k) (fun _ => tms 0 92 (aCh s i c n m 1)) (fun _ => []) (fun _ => .leaf .ret (tms 0 92 [(4, iv 0)]) [])
theorem d5' (s : ByteArray) (i : Nat) (c : UInt8) (F : HP) : wRun [] (A9' [(fCh, 1, 2, h0v (byv c)), (fCh, 1, 3, hv (iv (Int.ofNat (c.toNat)))), (fCh, 3, 1, hv (.lit true))]) [] default fCh [sv s, iv (Int.ofNat i)] [] [] F = VT.leaf (i' 1) [] 1100 ((k4' i s c).a ((k21' c).a ((k23' c).a t'))) := by kernel_rfl
noncomputable section
abbrev k24' : Cnd := (f' (Wk (b' true) j'))
end
theorem d0' (s : ByteArray) (i : Nat) (c : UInt8) (F : HP) : wRun [] (A9' [(fCh, 1, 2, h0v (byv c)), (fCh, 1, 3, hv (iv (Int.ofNat (c.toNat)))), (fCh, 3, 1, hv (.lit false)), (fCh, 5, 1, hv (.lit false)), (fCh, 7, 1, hv (.lit false)), (fCh, 9, 1, hv (.lit false)), (fCh, 11, 1, hv (.lit true))]) [] default fCh [sv s, iv (Int.ofNat i)] [] [] F = VT.leaf (i' 0) [] 1100 ((k4' i s c).a ((k21' c).a ((k22' c).a ((f' (Wk (b' (decide (Int.ofNat c.toNat ≥ Int.ofNat 192))) g')).a ((f' (Wk (b' (decide (Int.ofNat c.toNat ≥ Int.ofNat 224))) g')).a ((f' (Wk (b' (decide (Int.ofNat c.toNat ≥ Int.ofNat 240))) g')).a (k24'.a t'))))))) := by kernel_rfl
noncomputable section
abbrev k25' (q0 : UInt8) : Cnd := (f' (Wk (b' (decide (Int.ofNat q0.toNat ≥ Int.ofNat 192))) j'))
abbrev k26' (q0 : UInt8) : Cnd := (f' (Wk (b' (decide (Int.ofNat q0.toNat < Int.ofNat 224))) g'))
abbrev k27' (q0 : UInt8) : Cnd := (f' (Wk (b' (decide (Int.ofNat q0.toNat ≥ Int.ofNat 224))) j'))
abbrev k28' (q0 : UInt8) : Cnd := (f' (Wk (b' (decide (Int.ofNat q0.toNat < Int.ofNat 240))) g'))
abbrev k29' (q0 : UInt8) : Cnd := (f' (Wk (b' (decide (Int.ofNat q0.toNat ≥ Int.ofNat 240))) j'))
end
theorem d3' (s : ByteArray) (i : Nat) (c : UInt8) (F : HP) : wRun [] (A9' [(fCh, 1, 2, h0v (byv c)), (fCh, 1, 3, hv (iv (Int.ofNat (c.toNat)))), (fCh, 3, 1, hv (.lit false)), (fCh, 5, 1, hv (.lit true)), (fCh, 5, 4, hv (.lit false)), (fCh, 7, 1, hv (.lit true)), (fCh, 7, 4, hv (.lit false)), (fCh, 9, 1, hv (.lit true)), (fCh, 9, 4, hv (.lit false)), (fCh, 11, 1, hv (.lit true))]) [] default fCh [sv s, iv (Int.ofNat i)] [] [] F = VT.leaf (i' 0) [] 1100 ((k4' i s c).a ((k21' c).a ((k22' c).a ((k25' c).a ((k26' c).a ((k27' c).a ((k28' c).a ((k29' c).a ((f' (Wk (b' (decide (Int.ofNat c.toNat < Int.ofNat 248))) g')).a (k24'.a t')))))))))) := by kernel_rfl
noncomputable section
abbrev k30' (q0 : UInt8) : Cnd := (f' (Wk (b' (decide (Int.ofNat q0.toNat < Int.ofNat 224))) j'))
abbrev k31' (q0 : UInt8) : Cnd := (f' (Wk (z' (IntKind.i64.wrap (Int.ofNat q0.toNat - Int.ofNat 192))) (i' (q0.toNat - 192))))
abbrev k32' : Cnd := (f' (Wk (b' false) g'))
end
theorem X5' (s : ByteArray) (i : Nat) (c : UInt8) (F : HP) : wRun [] (A9' [(fCh, 1, 2, h0v (byv c)), (fCh, 1, 3, hv (iv (Int.ofNat (c.toNat)))), (fCh, 3, 1, hv (.lit false)), (fCh, 5, 1, hv (.lit true)), (fCh, 5, 4, hv (.lit true)), (fCh, 6, 1, hv (iv (Int.ofNat (c.toNat - 192)))), (fCh, 11, 1, hv (.lit false)), (fCh, 11, 8, hv (.lit true))]) [] default fCh [sv s, iv (Int.ofNat i)] [] [] F = VT.leaf (i' 0) [] 1100 ((k4' i s c).a ((k21' c).a ((k22' c).a ((k25' c).a ((k30' c).a ((k31' c).a (k32'.a ((f' (Wk (b' (decide (Int.ofNat 2 > IntKind.i64.wrap (↑s.size - Int.ofNat i)))) j')).a t')))))))) := by kernel_rfl
theorem X6' (s : ByteArray) (i : Nat) (c : UInt8) (F : HP) : wRun [] (A9' [(fCh, 1, 2, h0v (byv c)), (fCh, 1, 3, hv (iv (Int.ofNat (c.toNat)))), (fCh, 3, 1, hv (.lit false)), (fCh, 5, 1, hv (.lit true)), (fCh, 5, 4, hv (.lit true)), (fCh, 6, 1, hv (iv (Int.ofNat (c.toNat - 192)))), (fCh, 11, 1, hv (.lit false)), (fCh, 11, 8, hv (.lit false))]) [(fCh, 14, A2' fCh 14, lChR s i (c.toNat - 192) 2 128)] default fCh [sv s, iv (Int.ofNat i)] [] [] F = VT.leaf (i' 0) [] 1100 ((k4' i s c).a ((k21' c).a ((k22' c).a ((k25' c).a ((k30' c).a ((k31' c).a (k32'.a ((f' (Wk (b' (decide (Int.ofNat 2 > IntKind.i64.wrap (↑s.size - Int.ofNat i)))) g')).a ((p' ((fCh,14,A2' fCh 14,lChR s i (c.toNat - 192) 2 128).snd.snd.fst = (fCh,14,A2' fCh 14,lChR s i (c.toNat - 192) 2 128).snd.snd.fst)).a (k12'.a (f' (VW (s' s::i' i::u'::u'::i' 0::i' (c.toNat - 192)::i' 2::i' 128::i' 1::u'::s' s::i' i::AV.v (Value.int IntKind.u8 ↑c.toNat)::i' c.toNat::g'::i' c.toNat::g'::j'::i' c.toNat::j'::j'::i' c.toNat::j'::j'::i' c.toNat::i' (c.toNat - 192)::ru16 (u'::u'::i' 2::g'::g'::i' 2::s' s::z' ↑s.size::i' i::z' (IntKind.i64.wrap (↑s.size - Int.ofNat i))::g'::g'::ru16 (ru16 (ru4 (u'::u'::[]))))) (s' s::i' i::a'::a'::a'::i' (c.toNat - 192)::i' 2::i' 128::i' 1::ra16 (ra16 (ra16 (ra16 (ra16 (a'::a'::a'::[])))))))))))))))))) := by kernel_rfl
theorem X7' (s : ByteArray) (i v : Nat) (c : UInt8) (F : HP) : wRun [] (A9' [(fCh, 1, 2, h0v (byv c)), (fCh, 1, 3, hv (iv (Int.ofNat (c.toNat)))), (fCh, 3, 1, hv (.lit false)), (fCh, 5, 1, hv (.lit true)), (fCh, 5, 4, hv (.lit true)), (fCh, 6, 1, hv (iv (Int.ofNat (c.toNat - 192)))), (fCh, 11, 1, hv (.lit false)), (fCh, 11, 8, hv (.lit false))]) [(fCh, 14, A2' fCh 14, lChE s i (c.toNat - 192) 2 128 v)] default fCh [sv s, iv (Int.ofNat i)] [] [] F = VT.ite (decide (Int.ofNat v < Int.ofNat 128)) (VT.leaf (i' 0) [] 1100 (((p' (i < s.size)).a (f' (Wk (AV.v (Value.int IntKind.u8 ↑(s.data.toList.getD i 0).toNat)) (AV.v (Value.int IntKind.u8 ↑c.toNat))))).a ((f' (Wk (z' (IntKind.i64.wrap ↑c.toNat)) (i' c.toNat))).a ((f' (Wk (b' (decide (Int.ofNat c.toNat < Int.ofNat 128))) g')).a ((f' (Wk (b' (decide (Int.ofNat c.toNat ≥ Int.ofNat 192))) j')).a ((f' (Wk (b' (decide (Int.ofNat c.toNat < Int.ofNat 224))) j')).a ((f' (Wk (z' (IntKind.i64.wrap (Int.ofNat c.toNat - Int.ofNat 192))) (i' (c.toNat - 192)))).a ((f' (Wk (b' false) g')).a ((f' (Wk (b' (decide (Int.ofNat 2 > IntKind.i64.wrap (↑s.size - Int.ofNat i)))) g')).a ((p' ((fCh,14,A2' fCh 14,lChE s i (c.toNat - 192) 2 128 v).snd.snd.fst = (fCh,14,A2' fCh 14,lChE s i (c.toNat - 192) 2 128 v).snd.snd.fst)).a ((Cnd.p True).a (f' (VW (s' s::i' i::u'::u'::i' 0::i' (c.toNat - 192)::i' 2::i' 128::i' 1::u'::s' s::i' i::AV.v (Value.int IntKind.u8 ↑c.toNat)::i' c.toNat::g'::i' c.toNat::g'::j'::i' c.toNat::j'::j'::i' c.toNat::j'::j'::i' c.toNat::i' (c.toNat - 192)::ru16 (u'::u'::i' 2::g'::g'::i' 2::s' s::z' ↑s.size::i' i::z' (IntKind.i64.wrap (↑s.size - Int.ofNat i))::g'::g'::ru16 (ru16 (ru4 (u'::u'::[]))))) (s' s::i' i::a'::a'::a'::i' (c.toNat - 192)::i' 2::i' 128::i' 1::ra16 (ra16 (ra16 (ra16 (ra16 (a'::a'::a'::[]))))))))))))))))))) (VT.ite (decide (Int.ofNat v > Int.ofNat 1114111)) (VT.leaf (i' 0) [] 1100 (((p' (i < s.size)).a (f' (Wk (AV.v (Value.int IntKind.u8 ↑(s.data.toList.getD i 0).toNat)) (AV.v (Value.int IntKind.u8 ↑c.toNat))))).a ((f' (Wk (z' (IntKind.i64.wrap ↑c.toNat)) (i' c.toNat))).a ((f' (Wk (b' (decide (Int.ofNat c.toNat < Int.ofNat 128))) g')).a ((f' (Wk (b' (decide (Int.ofNat c.toNat ≥ Int.ofNat 192))) j')).a ((f' (Wk (b' (decide (Int.ofNat c.toNat < Int.ofNat 224))) j')).a ((f' (Wk (z' (IntKind.i64.wrap (Int.ofNat c.toNat - Int.ofNat 192))) (i' (c.toNat - 192)))).a ((f' (Wk (b' false) g')).a ((f' (Wk (b' (decide (Int.ofNat 2 > IntKind.i64.wrap (↑s.size - Int.ofNat i)))) g')).a ((p' ((fCh,14,A2' fCh 14,lChE s i (c.toNat - 192) 2 128 v).snd.snd.fst = (fCh,14,A2' fCh 14,lChE s i (c.toNat - 192) 2 128 v).snd.snd.fst)).a ((Cnd.p True).a (f' (VW (s' s::i' i::u'::u'::i' 0::i' (c.toNat - 192)::i' 2::i' 128::i' 1::u'::s' s::i' i::AV.v (Value.int IntKind.u8 ↑c.toNat)::i' c.toNat::g'::i' c.toNat::g'::j'::i' c.toNat::j'::j'::i' c.toNat::j'::j'::i' c.toNat::i' (c.toNat - 192)::ru16 (u'::u'::i' 2::g'::g'::i' 2::s' s::z' ↑s.size::i' i::z' (IntKind.i64.wrap (↑s.size - Int.ofNat i))::g'::g'::ru16 (ru16 (ru4 (u'::u'::[]))))) (s' s::i' i::a'::a'::a'::i' (c.toNat - 192)::i' 2::i' 128::i' 1::ra16 (ra16 (ra16 (ra16 (ra16 (a'::a'::a'::[]))))))))))))))))))) (VT.ite (decide (Int.ofNat v ≥ Int.ofNat 55296)) (VT.ite (decide (Int.ofNat v ≤ Int.ofNat 57343)) (VT.leaf (i' 0) [] 1100 (((p' (i < s.size)).a (f' (Wk (AV.v (Value.int IntKind.u8 ↑(s.data.toList.getD i 0).toNat)) (AV.v (Value.int IntKind.u8 ↑c.toNat))))).a ((f' (Wk (z' (IntKind.i64.wrap ↑c.toNat)) (i' c.toNat))).a ((f' (Wk (b' (decide (Int.ofNat c.toNat < Int.ofNat 128))) g')).a ((f' (Wk (b' (decide (Int.ofNat c.toNat ≥ Int.ofNat 192))) j')).a ((f' (Wk (b' (decide (Int.ofNat c.toNat < Int.ofNat 224))) j')).a ((f' (Wk (z' (IntKind.i64.wrap (Int.ofNat c.toNat - Int.ofNat 192))) (i' (c.toNat - 192)))).a ((f' (Wk (b' false) g')).a ((f' (Wk (b' (decide (Int.ofNat 2 > IntKind.i64.wrap (↑s.size - Int.ofNat i)))) g')).a ((p' ((fCh,14,A2' fCh 14,lChE s i (c.toNat - 192) 2 128 v).snd.snd.fst = (fCh,14,A2' fCh 14,lChE s i (c.toNat - 192) 2 128 v).snd.snd.fst)).a ((Cnd.p True).a (f' (VW (s' s::i' i::u'::u'::i' 0::i' (c.toNat - 192)::i' 2::i' 128::i' 1::u'::s' s::i' i::AV.v (Value.int IntKind.u8 ↑c.toNat)::i' c.toNat::g'::i' c.toNat::g'::j'::i' c.toNat::j'::j'::i' c.toNat::j'::j'::i' c.toNat::i' (c.toNat - 192)::ru16 (u'::u'::i' 2::g'::g'::i' 2::s' s::z' ↑s.size::i' i::z' (IntKind.i64.wrap (↑s.size - Int.ofNat i))::g'::g'::ru16 (ru16 (ru4 (u'::u'::[]))))) (s' s::i' i::a'::a'::a'::i' (c.toNat - 192)::i' 2::i' 128::i' 1::ra16 (ra16 (ra16 (ra16 (ra16 (a'::a'::a'::[]))))))))))))))))))) (VT.leaf (i' 2) [] 1100 (((p' (i < s.size)).a (f' (Wk (AV.v (Value.int IntKind.u8 ↑(s.data.toList.getD i 0).toNat)) (AV.v (Value.int IntKind.u8 ↑c.toNat))))).a ((f' (Wk (z' (IntKind.i64.wrap ↑c.toNat)) (i' c.toNat))).a ((f' (Wk (b' (decide (Int.ofNat c.toNat < Int.ofNat 128))) g')).a ((f' (Wk (b' (decide (Int.ofNat c.toNat ≥ Int.ofNat 192))) j')).a ((f' (Wk (b' (decide (Int.ofNat c.toNat < Int.ofNat 224))) j')).a ((f' (Wk (z' (IntKind.i64.wrap (Int.ofNat c.toNat - Int.ofNat 192))) (i' (c.toNat - 192)))).a ((f' (Wk (b' false) g')).a ((f' (Wk (b' (decide (Int.ofNat 2 > IntKind.i64.wrap (↑s.size - Int.ofNat i)))) g')).a ((p' ((fCh,14,A2' fCh 14,lChE s i (c.toNat - 192) 2 128 v).snd.snd.fst = (fCh,14,A2' fCh 14,lChE s i (c.toNat - 192) 2 128 v).snd.snd.fst)).a ((Cnd.p True).a (f' (VW (s' s::i' i::u'::u'::i' 0::i' (c.toNat - 192)::i' 2::i' 128::i' 1::u'::s' s::i' i::AV.v (Value.int IntKind.u8 ↑c.toNat)::i' c.toNat::g'::i' c.toNat::g'::j'::i' c.toNat::j'::j'::i' c.toNat::j'::j'::i' c.toNat::i' (c.toNat - 192)::ru16 (u'::u'::i' 2::g'::g'::i' 2::s' s::z' ↑s.size::i' i::z' (IntKind.i64.wrap (↑s.size - Int.ofNat i))::g'::g'::ru16 (ru16 (ru4 (u'::u'::[]))))) (s' s::i' i::a'::a'::a'::i' (c.toNat - 192)::i' 2::i' 128::i' 1::ra16 (ra16 (ra16 (ra16 (ra16 (a'::a'::a'::[])))))))))))))))))))) (VT.leaf (i' 2) [] 1100 (((p' (i < s.size)).a (f' (Wk (AV.v (Value.int IntKind.u8 ↑(s.data.toList.getD i 0).toNat)) (AV.v (Value.int IntKind.u8 ↑c.toNat))))).a ((f' (Wk (z' (IntKind.i64.wrap ↑c.toNat)) (i' c.toNat))).a ((f' (Wk (b' (decide (Int.ofNat c.toNat < Int.ofNat 128))) g')).a ((f' (Wk (b' (decide (Int.ofNat c.toNat ≥ Int.ofNat 192))) j')).a ((f' (Wk (b' (decide (Int.ofNat c.toNat < Int.ofNat 224))) j')).a ((f' (Wk (z' (IntKind.i64.wrap (Int.ofNat c.toNat - Int.ofNat 192))) (i' (c.toNat - 192)))).a ((f' (Wk (b' false) g')).a ((f' (Wk (b' (decide (Int.ofNat 2 > IntKind.i64.wrap (↑s.size - Int.ofNat i)))) g')).a ((p' ((fCh,14,A2' fCh 14,lChE s i (c.toNat - 192) 2 128 v).snd.snd.fst = (fCh,14,A2' fCh 14,lChE s i (c.toNat - 192) 2 128 v).snd.snd.fst)).a ((Cnd.p True).a (f' (VW (s' s::i' i::u'::u'::i' 0::i' (c.toNat - 192)::i' 2::i' 128::i' 1::u'::s' s::i' i::AV.v (Value.int IntKind.u8 ↑c.toNat)::i' c.toNat::g'::i' c.toNat::g'::j'::i' c.toNat::j'::j'::i' c.toNat::j'::j'::i' c.toNat::i' (c.toNat - 192)::ru16 (u'::u'::i' 2::g'::g'::i' 2::s' s::z' ↑s.size::i' i::z' (IntKind.i64.wrap (↑s.size - Int.ofNat i))::g'::g'::ru16 (ru16 (ru4 (u'::u'::[]))))) (s' s::i' i::a'::a'::a'::i' (c.toNat - 192)::i' 2::i' 128::i' 1::ra16 (ra16 (ra16 (ra16 (ra16 (a'::a'::a'::[]))))))))))))))))))))) := by kernel_rfl
noncomputable section
abbrev k33' (q0 : UInt8) : Cnd := (f' (Wk (b' (decide (Int.ofNat q0.toNat < Int.ofNat 240))) j'))
abbrev k34' (q0 : UInt8) : Cnd := (f' (Wk (z' (IntKind.i64.wrap (Int.ofNat q0.toNat - Int.ofNat 224))) (i' (q0.toNat - 224))))
end
theorem X2' (s : ByteArray) (i : Nat) (c : UInt8) (F : HP) : wRun [] (A9' [(fCh, 1, 2, h0v (byv c)), (fCh, 1, 3, hv (iv (Int.ofNat (c.toNat)))), (fCh, 3, 1, hv (.lit false)), (fCh, 5, 1, hv (.lit true)), (fCh, 5, 4, hv (.lit false)), (fCh, 7, 1, hv (.lit true)), (fCh, 7, 4, hv (.lit true)), (fCh, 8, 1, hv (iv (Int.ofNat (c.toNat - 224)))), (fCh, 11, 1, hv (.lit false)), (fCh, 11, 8, hv (.lit true))]) [] default fCh [sv s, iv (Int.ofNat i)] [] [] F = VT.leaf (i' 0) [] 1100 ((k4' i s c).a ((k21' c).a ((k22' c).a ((k25' c).a ((k26' c).a ((k27' c).a ((k33' c).a ((k34' c).a (k32'.a ((f' (Wk (b' (decide (Int.ofNat 3 > IntKind.i64.wrap (↑s.size - Int.ofNat i)))) j')).a t')))))))))) := by kernel_rfl
theorem X3' (s : ByteArray) (i : Nat) (c : UInt8) (F : HP) : wRun [] (A9' [(fCh, 1, 2, h0v (byv c)), (fCh, 1, 3, hv (iv (Int.ofNat (c.toNat)))), (fCh, 3, 1, hv (.lit false)), (fCh, 5, 1, hv (.lit true)), (fCh, 5, 4, hv (.lit false)), (fCh, 7, 1, hv (.lit true)), (fCh, 7, 4, hv (.lit true)), (fCh, 8, 1, hv (iv (Int.ofNat (c.toNat - 224)))), (fCh, 11, 1, hv (.lit false)), (fCh, 11, 8, hv (.lit false))]) [(fCh, 14, A2' fCh 14, lChR s i (c.toNat - 224) 3 2048)] default fCh [sv s, iv (Int.ofNat i)] [] [] F = VT.leaf (i' 0) [] 1100 ((k4' i s c).a ((k21' c).a ((k22' c).a ((k25' c).a ((k26' c).a ((k27' c).a ((k33' c).a ((k34' c).a (k32'.a ((f' (Wk (b' (decide (Int.ofNat 3 > IntKind.i64.wrap (↑s.size - Int.ofNat i)))) g')).a ((p' ((fCh,14,A2' fCh 14,lChR s i (c.toNat - 224) 3 2048).snd.snd.fst = (fCh,14,A2' fCh 14,lChR s i (c.toNat - 224) 3 2048).snd.snd.fst)).a (k12'.a (f' (VW (s' s::i' i::u'::u'::i' 0::i' (c.toNat - 224)::i' 3::i' 2048::i' 1::u'::s' s::i' i::AV.v (Value.int IntKind.u8 ↑c.toNat)::i' c.toNat::g'::i' c.toNat::g'::g'::i' c.toNat::j'::j'::i' c.toNat::g'::g'::u'::u'::j'::i' c.toNat::j'::j'::i' c.toNat::j'::j'::i' c.toNat::i' (c.toNat - 224)::ru8 (u'::i' 3::g'::g'::i' 3::s' s::z' ↑s.size::i' i::z' (IntKind.i64.wrap (↑s.size - Int.ofNat i))::g'::g'::ru16 (ru16 (ru4 (u'::u'::[]))))) (s' s::i' i::a'::a'::a'::i' (c.toNat - 224)::i' 3::i' 2048::i' 1::ra16 (ra16 (ra16 (ra16 (ra16 (a'::a'::a'::[])))))))))))))))))))) := by kernel_rfl
theorem X4' (s : ByteArray) (i v : Nat) (c : UInt8) (F : HP) : wRun [] (A9' [(fCh, 1, 2, h0v (byv c)), (fCh, 1, 3, hv (iv (Int.ofNat (c.toNat)))), (fCh, 3, 1, hv (.lit false)), (fCh, 5, 1, hv (.lit true)), (fCh, 5, 4, hv (.lit false)), (fCh, 7, 1, hv (.lit true)), (fCh, 7, 4, hv (.lit true)), (fCh, 8, 1, hv (iv (Int.ofNat (c.toNat - 224)))), (fCh, 11, 1, hv (.lit false)), (fCh, 11, 8, hv (.lit false))]) [(fCh, 14, A2' fCh 14, lChE s i (c.toNat - 224) 3 2048 v)] default fCh [sv s, iv (Int.ofNat i)] [] [] F = VT.ite (decide (Int.ofNat v < Int.ofNat 2048)) (VT.leaf (i' 0) [] 1100 (((p' (i < s.size)).a (f' (Wk (AV.v (Value.int IntKind.u8 ↑(s.data.toList.getD i 0).toNat)) (AV.v (Value.int IntKind.u8 ↑c.toNat))))).a ((f' (Wk (z' (IntKind.i64.wrap ↑c.toNat)) (i' c.toNat))).a ((f' (Wk (b' (decide (Int.ofNat c.toNat < Int.ofNat 128))) g')).a ((f' (Wk (b' (decide (Int.ofNat c.toNat ≥ Int.ofNat 192))) j')).a ((f' (Wk (b' (decide (Int.ofNat c.toNat < Int.ofNat 224))) g')).a ((f' (Wk (b' (decide (Int.ofNat c.toNat ≥ Int.ofNat 224))) j')).a ((f' (Wk (b' (decide (Int.ofNat c.toNat < Int.ofNat 240))) j')).a ((f' (Wk (z' (IntKind.i64.wrap (Int.ofNat c.toNat - Int.ofNat 224))) (i' (c.toNat - 224)))).a ((f' (Wk (b' false) g')).a ((f' (Wk (b' (decide (Int.ofNat 3 > IntKind.i64.wrap (↑s.size - Int.ofNat i)))) g')).a ((p' ((fCh,14,A2' fCh 14,lChE s i (c.toNat - 224) 3 2048 v).snd.snd.fst = (fCh,14,A2' fCh 14,lChE s i (c.toNat - 224) 3 2048 v).snd.snd.fst)).a ((Cnd.p True).a (f' (VW (s' s::i' i::u'::u'::i' 0::i' (c.toNat - 224)::i' 3::i' 2048::i' 1::u'::s' s::i' i::AV.v (Value.int IntKind.u8 ↑c.toNat)::i' c.toNat::g'::i' c.toNat::g'::g'::i' c.toNat::j'::j'::i' c.toNat::g'::g'::u'::u'::j'::i' c.toNat::j'::j'::i' c.toNat::j'::j'::i' c.toNat::i' (c.toNat - 224)::ru8 (u'::i' 3::g'::g'::i' 3::s' s::z' ↑s.size::i' i::z' (IntKind.i64.wrap (↑s.size - Int.ofNat i))::g'::g'::ru16 (ru16 (ru4 (u'::u'::[]))))) (s' s::i' i::a'::a'::a'::i' (c.toNat - 224)::i' 3::i' 2048::i' 1::ra16 (ra16 (ra16 (ra16 (ra16 (a'::a'::a'::[]))))))))))))))))))))) (VT.ite (decide (Int.ofNat v > Int.ofNat 1114111)) (VT.leaf (i' 0) [] 1100 (((p' (i < s.size)).a (f' (Wk (AV.v (Value.int IntKind.u8 ↑(s.data.toList.getD i 0).toNat)) (AV.v (Value.int IntKind.u8 ↑c.toNat))))).a ((f' (Wk (z' (IntKind.i64.wrap ↑c.toNat)) (i' c.toNat))).a ((f' (Wk (b' (decide (Int.ofNat c.toNat < Int.ofNat 128))) g')).a ((f' (Wk (b' (decide (Int.ofNat c.toNat ≥ Int.ofNat 192))) j')).a ((f' (Wk (b' (decide (Int.ofNat c.toNat < Int.ofNat 224))) g')).a ((f' (Wk (b' (decide (Int.ofNat c.toNat ≥ Int.ofNat 224))) j')).a ((f' (Wk (b' (decide (Int.ofNat c.toNat < Int.ofNat 240))) j')).a ((f' (Wk (z' (IntKind.i64.wrap (Int.ofNat c.toNat - Int.ofNat 224))) (i' (c.toNat - 224)))).a ((f' (Wk (b' false) g')).a ((f' (Wk (b' (decide (Int.ofNat 3 > IntKind.i64.wrap (↑s.size - Int.ofNat i)))) g')).a ((p' ((fCh,14,A2' fCh 14,lChE s i (c.toNat - 224) 3 2048 v).snd.snd.fst = (fCh,14,A2' fCh 14,lChE s i (c.toNat - 224) 3 2048 v).snd.snd.fst)).a ((Cnd.p True).a (f' (VW (s' s::i' i::u'::u'::i' 0::i' (c.toNat - 224)::i' 3::i' 2048::i' 1::u'::s' s::i' i::AV.v (Value.int IntKind.u8 ↑c.toNat)::i' c.toNat::g'::i' c.toNat::g'::g'::i' c.toNat::j'::j'::i' c.toNat::g'::g'::u'::u'::j'::i' c.toNat::j'::j'::i' c.toNat::j'::j'::i' c.toNat::i' (c.toNat - 224)::ru8 (u'::i' 3::g'::g'::i' 3::s' s::z' ↑s.size::i' i::z' (IntKind.i64.wrap (↑s.size - Int.ofNat i))::g'::g'::ru16 (ru16 (ru4 (u'::u'::[]))))) (s' s::i' i::a'::a'::a'::i' (c.toNat - 224)::i' 3::i' 2048::i' 1::ra16 (ra16 (ra16 (ra16 (ra16 (a'::a'::a'::[]))))))))))))))))))))) (VT.ite (decide (Int.ofNat v ≥ Int.ofNat 55296)) (VT.ite (decide (Int.ofNat v ≤ Int.ofNat 57343)) (VT.leaf (i' 0) [] 1100 (((p' (i < s.size)).a (f' (Wk (AV.v (Value.int IntKind.u8 ↑(s.data.toList.getD i 0).toNat)) (AV.v (Value.int IntKind.u8 ↑c.toNat))))).a ((f' (Wk (z' (IntKind.i64.wrap ↑c.toNat)) (i' c.toNat))).a ((f' (Wk (b' (decide (Int.ofNat c.toNat < Int.ofNat 128))) g')).a ((f' (Wk (b' (decide (Int.ofNat c.toNat ≥ Int.ofNat 192))) j')).a ((f' (Wk (b' (decide (Int.ofNat c.toNat < Int.ofNat 224))) g')).a ((f' (Wk (b' (decide (Int.ofNat c.toNat ≥ Int.ofNat 224))) j')).a ((f' (Wk (b' (decide (Int.ofNat c.toNat < Int.ofNat 240))) j')).a ((f' (Wk (z' (IntKind.i64.wrap (Int.ofNat c.toNat - Int.ofNat 224))) (i' (c.toNat - 224)))).a ((f' (Wk (b' false) g')).a ((f' (Wk (b' (decide (Int.ofNat 3 > IntKind.i64.wrap (↑s.size - Int.ofNat i)))) g')).a ((p' ((fCh,14,A2' fCh 14,lChE s i (c.toNat - 224) 3 2048 v).snd.snd.fst = (fCh,14,A2' fCh 14,lChE s i (c.toNat - 224) 3 2048 v).snd.snd.fst)).a ((Cnd.p True).a (f' (VW (s' s::i' i::u'::u'::i' 0::i' (c.toNat - 224)::i' 3::i' 2048::i' 1::u'::s' s::i' i::AV.v (Value.int IntKind.u8 ↑c.toNat)::i' c.toNat::g'::i' c.toNat::g'::g'::i' c.toNat::j'::j'::i' c.toNat::g'::g'::u'::u'::j'::i' c.toNat::j'::j'::i' c.toNat::j'::j'::i' c.toNat::i' (c.toNat - 224)::ru8 (u'::i' 3::g'::g'::i' 3::s' s::z' ↑s.size::i' i::z' (IntKind.i64.wrap (↑s.size - Int.ofNat i))::g'::g'::ru16 (ru16 (ru4 (u'::u'::[]))))) (s' s::i' i::a'::a'::a'::i' (c.toNat - 224)::i' 3::i' 2048::i' 1::ra16 (ra16 (ra16 (ra16 (ra16 (a'::a'::a'::[]))))))))))))))))))))) (VT.leaf (i' 3) [] 1100 (((p' (i < s.size)).a (f' (Wk (AV.v (Value.int IntKind.u8 ↑(s.data.toList.getD i 0).toNat)) (AV.v (Value.int IntKind.u8 ↑c.toNat))))).a ((f' (Wk (z' (IntKind.i64.wrap ↑c.toNat)) (i' c.toNat))).a ((f' (Wk (b' (decide (Int.ofNat c.toNat < Int.ofNat 128))) g')).a ((f' (Wk (b' (decide (Int.ofNat c.toNat ≥ Int.ofNat 192))) j')).a ((f' (Wk (b' (decide (Int.ofNat c.toNat < Int.ofNat 224))) g')).a ((f' (Wk (b' (decide (Int.ofNat c.toNat ≥ Int.ofNat 224))) j')).a ((f' (Wk (b' (decide (Int.ofNat c.toNat < Int.ofNat 240))) j')).a ((f' (Wk (z' (IntKind.i64.wrap (Int.ofNat c.toNat - Int.ofNat 224))) (i' (c.toNat - 224)))).a ((f' (Wk (b' false) g')).a ((f' (Wk (b' (decide (Int.ofNat 3 > IntKind.i64.wrap (↑s.size - Int.ofNat i)))) g')).a ((p' ((fCh,14,A2' fCh 14,lChE s i (c.toNat - 224) 3 2048 v).snd.snd.fst = (fCh,14,A2' fCh 14,lChE s i (c.toNat - 224) 3 2048 v).snd.snd.fst)).a ((Cnd.p True).a (f' (VW (s' s::i' i::u'::u'::i' 0::i' (c.toNat - 224)::i' 3::i' 2048::i' 1::u'::s' s::i' i::AV.v (Value.int IntKind.u8 ↑c.toNat)::i' c.toNat::g'::i' c.toNat::g'::g'::i' c.toNat::j'::j'::i' c.toNat::g'::g'::u'::u'::j'::i' c.toNat::j'::j'::i' c.toNat::j'::j'::i' c.toNat::i' (c.toNat - 224)::ru8 (u'::i' 3::g'::g'::i' 3::s' s::z' ↑s.size::i' i::z' (IntKind.i64.wrap (↑s.size - Int.ofNat i))::g'::g'::ru16 (ru16 (ru4 (u'::u'::[]))))) (s' s::i' i::a'::a'::a'::i' (c.toNat - 224)::i' 3::i' 2048::i' 1::ra16 (ra16 (ra16 (ra16 (ra16 (a'::a'::a'::[])))))))))))))))))))))) (VT.leaf (i' 3) [] 1100 (((p' (i < s.size)).a (f' (Wk (AV.v (Value.int IntKind.u8 ↑(s.data.toList.getD i 0).toNat)) (AV.v (Value.int IntKind.u8 ↑c.toNat))))).a ((f' (Wk (z' (IntKind.i64.wrap ↑c.toNat)) (i' c.toNat))).a ((f' (Wk (b' (decide (Int.ofNat c.toNat < Int.ofNat 128))) g')).a ((f' (Wk (b' (decide (Int.ofNat c.toNat ≥ Int.ofNat 192))) j')).a ((f' (Wk (b' (decide (Int.ofNat c.toNat < Int.ofNat 224))) g')).a ((f' (Wk (b' (decide (Int.ofNat c.toNat ≥ Int.ofNat 224))) j')).a ((f' (Wk (b' (decide (Int.ofNat c.toNat < Int.ofNat 240))) j')).a ((f' (Wk (z' (IntKind.i64.wrap (Int.ofNat c.toNat - Int.ofNat 224))) (i' (c.toNat - 224)))).a ((f' (Wk (b' false) g')).a ((f' (Wk (b' (decide (Int.ofNat 3 > IntKind.i64.wrap (↑s.size - Int.ofNat i)))) g')).a ((p' ((fCh,14,A2' fCh 14,lChE s i (c.toNat - 224) 3 2048 v).snd.snd.fst = (fCh,14,A2' fCh 14,lChE s i (c.toNat - 224) 3 2048 v).snd.snd.fst)).a ((Cnd.p True).a (f' (VW (s' s::i' i::u'::u'::i' 0::i' (c.toNat - 224)::i' 3::i' 2048::i' 1::u'::s' s::i' i::AV.v (Value.int IntKind.u8 ↑c.toNat)::i' c.toNat::g'::i' c.toNat::g'::g'::i' c.toNat::j'::j'::i' c.toNat::g'::g'::u'::u'::j'::i' c.toNat::j'::j'::i' c.toNat::j'::j'::i' c.toNat::i' (c.toNat - 224)::ru8 (u'::i' 3::g'::g'::i' 3::s' s::z' ↑s.size::i' i::z' (IntKind.i64.wrap (↑s.size - Int.ofNat i))::g'::g'::ru16 (ru16 (ru4 (u'::u'::[]))))) (s' s::i' i::a'::a'::a'::i' (c.toNat - 224)::i' 3::i' 2048::i' 1::ra16 (ra16 (ra16 (ra16 (ra16 (a'::a'::a'::[]))))))))))))))))))))))) := by kernel_rfl
noncomputable section
abbrev k35' (q0 : UInt8) : Cnd := (f' (Wk (b' (decide (Int.ofNat q0.toNat < Int.ofNat 248))) j'))
abbrev k36' (q0 : UInt8) : Cnd := (f' (Wk (z' (IntKind.i64.wrap (Int.ofNat q0.toNat - Int.ofNat 240))) (i' (q0.toNat - 240))))
end
theorem WZ' (s : ByteArray) (i : Nat) (c : UInt8) (F : HP) : wRun [] (A9' [(fCh, 1, 2, h0v (byv c)), (fCh, 1, 3, hv (iv (Int.ofNat (c.toNat)))), (fCh, 3, 1, hv (.lit false)), (fCh, 5, 1, hv (.lit true)), (fCh, 5, 4, hv (.lit false)), (fCh, 7, 1, hv (.lit true)), (fCh, 7, 4, hv (.lit false)), (fCh, 9, 1, hv (.lit true)), (fCh, 9, 4, hv (.lit true)), (fCh, 10, 1, hv (iv (Int.ofNat (c.toNat - 240)))), (fCh, 11, 1, hv (.lit false)), (fCh, 11, 8, hv (.lit true))]) [] default fCh [sv s, iv (Int.ofNat i)] [] [] F = VT.leaf (i' 0) [] 1100 ((k4' i s c).a ((k21' c).a ((k22' c).a ((k25' c).a ((k26' c).a ((k27' c).a ((k28' c).a ((k29' c).a ((k35' c).a ((k36' c).a (k32'.a ((f' (Wk (b' (decide (Int.ofNat 4 > IntKind.i64.wrap (↑s.size - Int.ofNat i)))) j')).a t')))))))))))) := by kernel_rfl
theorem X0' (s : ByteArray) (i : Nat) (c : UInt8) (F : HP) : wRun [] (A9' [(fCh, 1, 2, h0v (byv c)), (fCh, 1, 3, hv (iv (Int.ofNat (c.toNat)))), (fCh, 3, 1, hv (.lit false)), (fCh, 5, 1, hv (.lit true)), (fCh, 5, 4, hv (.lit false)), (fCh, 7, 1, hv (.lit true)), (fCh, 7, 4, hv (.lit false)), (fCh, 9, 1, hv (.lit true)), (fCh, 9, 4, hv (.lit true)), (fCh, 10, 1, hv (iv (Int.ofNat (c.toNat - 240)))), (fCh, 11, 1, hv (.lit false)), (fCh, 11, 8, hv (.lit false))]) [(fCh, 14, A2' fCh 14, lChR s i (c.toNat - 240) 4 65536)] default fCh [sv s, iv (Int.ofNat i)] [] [] F = VT.leaf (i' 0) [] 1100 ((k4' i s c).a ((k21' c).a ((k22' c).a ((k25' c).a ((k26' c).a ((k27' c).a ((k28' c).a ((k29' c).a ((k35' c).a ((k36' c).a (k32'.a ((f' (Wk (b' (decide (Int.ofNat 4 > IntKind.i64.wrap (↑s.size - Int.ofNat i)))) g')).a ((p' ((fCh,14,A2' fCh 14,lChR s i (c.toNat - 240) 4 65536).snd.snd.fst = (fCh,14,A2' fCh 14,lChR s i (c.toNat - 240) 4 65536).snd.snd.fst)).a (k12'.a (f' (VW (s' s::i' i::u'::u'::i' 0::i' (c.toNat - 240)::i' 4::i' 65536::i' 1::u'::s' s::i' i::AV.v (Value.int IntKind.u8 ↑c.toNat)::i' c.toNat::g'::i' c.toNat::g'::g'::i' c.toNat::j'::j'::i' c.toNat::g'::g'::u'::u'::g'::i' c.toNat::j'::j'::i' c.toNat::g'::g'::u'::u'::j'::i' c.toNat::j'::j'::i' c.toNat::j'::j'::i' c.toNat::i' (c.toNat - 240)::i' 4::g'::g'::i' 4::s' s::z' ↑s.size::i' i::z' (IntKind.i64.wrap (↑s.size - Int.ofNat i))::g'::g'::ru16 (ru16 (ru4 (u'::u'::[])))) (s' s::i' i::a'::a'::a'::i' (c.toNat - 240)::i' 4::i' 65536::i' 1::ra16 (ra16 (ra16 (ra16 (ra16 (a'::a'::a'::[])))))))))))))))))))))) := by kernel_rfl
theorem X1' (s : ByteArray) (i v : Nat) (c : UInt8) (F : HP) : wRun [] (A9' [(fCh, 1, 2, h0v (byv c)), (fCh, 1, 3, hv (iv (Int.ofNat (c.toNat)))), (fCh, 3, 1, hv (.lit false)), (fCh, 5, 1, hv (.lit true)), (fCh, 5, 4, hv (.lit false)), (fCh, 7, 1, hv (.lit true)), (fCh, 7, 4, hv (.lit false)), (fCh, 9, 1, hv (.lit true)), (fCh, 9, 4, hv (.lit true)), (fCh, 10, 1, hv (iv (Int.ofNat (c.toNat - 240)))), (fCh, 11, 1, hv (.lit false)), (fCh, 11, 8, hv (.lit false))]) [(fCh, 14, A2' fCh 14, lChE s i (c.toNat - 240) 4 65536 v)] default fCh [sv s, iv (Int.ofNat i)] [] [] F = VT.ite (decide (Int.ofNat v < Int.ofNat 65536)) (VT.leaf (i' 0) [] 1100 (((p' (i < s.size)).a (f' (Wk (AV.v (Value.int IntKind.u8 ↑(s.data.toList.getD i 0).toNat)) (AV.v (Value.int IntKind.u8 ↑c.toNat))))).a ((f' (Wk (z' (IntKind.i64.wrap ↑c.toNat)) (i' c.toNat))).a ((f' (Wk (b' (decide (Int.ofNat c.toNat < Int.ofNat 128))) g')).a ((f' (Wk (b' (decide (Int.ofNat c.toNat ≥ Int.ofNat 192))) j')).a ((f' (Wk (b' (decide (Int.ofNat c.toNat < Int.ofNat 224))) g')).a ((f' (Wk (b' (decide (Int.ofNat c.toNat ≥ Int.ofNat 224))) j')).a ((f' (Wk (b' (decide (Int.ofNat c.toNat < Int.ofNat 240))) g')).a ((f' (Wk (b' (decide (Int.ofNat c.toNat ≥ Int.ofNat 240))) j')).a ((f' (Wk (b' (decide (Int.ofNat c.toNat < Int.ofNat 248))) j')).a ((f' (Wk (z' (IntKind.i64.wrap (Int.ofNat c.toNat - Int.ofNat 240))) (i' (c.toNat - 240)))).a ((f' (Wk (b' false) g')).a ((f' (Wk (b' (decide (Int.ofNat 4 > IntKind.i64.wrap (↑s.size - Int.ofNat i)))) g')).a ((p' ((fCh,14,A2' fCh 14,lChE s i (c.toNat - 240) 4 65536 v).snd.snd.fst = (fCh,14,A2' fCh 14,lChE s i (c.toNat - 240) 4 65536 v).snd.snd.fst)).a ((Cnd.p True).a (f' (VW (s' s::i' i::u'::u'::i' 0::i' (c.toNat - 240)::i' 4::i' 65536::i' 1::u'::s' s::i' i::AV.v (Value.int IntKind.u8 ↑c.toNat)::i' c.toNat::g'::i' c.toNat::g'::g'::i' c.toNat::j'::j'::i' c.toNat::g'::g'::u'::u'::g'::i' c.toNat::j'::j'::i' c.toNat::g'::g'::u'::u'::j'::i' c.toNat::j'::j'::i' c.toNat::j'::j'::i' c.toNat::i' (c.toNat - 240)::i' 4::g'::g'::i' 4::s' s::z' ↑s.size::i' i::z' (IntKind.i64.wrap (↑s.size - Int.ofNat i))::g'::g'::ru16 (ru16 (ru4 (u'::u'::[])))) (s' s::i' i::a'::a'::a'::i' (c.toNat - 240)::i' 4::i' 65536::i' 1::ra16 (ra16 (ra16 (ra16 (ra16 (a'::a'::a'::[]))))))))))))))))))))))) (VT.ite (decide (Int.ofNat v > Int.ofNat 1114111)) (VT.leaf (i' 0) [] 1100 (((p' (i < s.size)).a (f' (Wk (AV.v (Value.int IntKind.u8 ↑(s.data.toList.getD i 0).toNat)) (AV.v (Value.int IntKind.u8 ↑c.toNat))))).a ((f' (Wk (z' (IntKind.i64.wrap ↑c.toNat)) (i' c.toNat))).a ((f' (Wk (b' (decide (Int.ofNat c.toNat < Int.ofNat 128))) g')).a ((f' (Wk (b' (decide (Int.ofNat c.toNat ≥ Int.ofNat 192))) j')).a ((f' (Wk (b' (decide (Int.ofNat c.toNat < Int.ofNat 224))) g')).a ((f' (Wk (b' (decide (Int.ofNat c.toNat ≥ Int.ofNat 224))) j')).a ((f' (Wk (b' (decide (Int.ofNat c.toNat < Int.ofNat 240))) g')).a ((f' (Wk (b' (decide (Int.ofNat c.toNat ≥ Int.ofNat 240))) j')).a ((f' (Wk (b' (decide (Int.ofNat c.toNat < Int.ofNat 248))) j')).a ((f' (Wk (z' (IntKind.i64.wrap (Int.ofNat c.toNat - Int.ofNat 240))) (i' (c.toNat - 240)))).a ((f' (Wk (b' false) g')).a ((f' (Wk (b' (decide (Int.ofNat 4 > IntKind.i64.wrap (↑s.size - Int.ofNat i)))) g')).a ((p' ((fCh,14,A2' fCh 14,lChE s i (c.toNat - 240) 4 65536 v).snd.snd.fst = (fCh,14,A2' fCh 14,lChE s i (c.toNat - 240) 4 65536 v).snd.snd.fst)).a ((Cnd.p True).a (f' (VW (s' s::i' i::u'::u'::i' 0::i' (c.toNat - 240)::i' 4::i' 65536::i' 1::u'::s' s::i' i::AV.v (Value.int IntKind.u8 ↑c.toNat)::i' c.toNat::g'::i' c.toNat::g'::g'::i' c.toNat::j'::j'::i' c.toNat::g'::g'::u'::u'::g'::i' c.toNat::j'::j'::i' c.toNat::g'::g'::u'::u'::j'::i' c.toNat::j'::j'::i' c.toNat::j'::j'::i' c.toNat::i' (c.toNat - 240)::i' 4::g'::g'::i' 4::s' s::z' ↑s.size::i' i::z' (IntKind.i64.wrap (↑s.size - Int.ofNat i))::g'::g'::ru16 (ru16 (ru4 (u'::u'::[])))) (s' s::i' i::a'::a'::a'::i' (c.toNat - 240)::i' 4::i' 65536::i' 1::ra16 (ra16 (ra16 (ra16 (ra16 (a'::a'::a'::[]))))))))))))))))))))))) (VT.ite (decide (Int.ofNat v ≥ Int.ofNat 55296)) (VT.ite (decide (Int.ofNat v ≤ Int.ofNat 57343)) (VT.leaf (i' 0) [] 1100 (((p' (i < s.size)).a (f' (Wk (AV.v (Value.int IntKind.u8 ↑(s.data.toList.getD i 0).toNat)) (AV.v (Value.int IntKind.u8 ↑c.toNat))))).a ((f' (Wk (z' (IntKind.i64.wrap ↑c.toNat)) (i' c.toNat))).a ((f' (Wk (b' (decide (Int.ofNat c.toNat < Int.ofNat 128))) g')).a ((f' (Wk (b' (decide (Int.ofNat c.toNat ≥ Int.ofNat 192))) j')).a ((f' (Wk (b' (decide (Int.ofNat c.toNat < Int.ofNat 224))) g')).a ((f' (Wk (b' (decide (Int.ofNat c.toNat ≥ Int.ofNat 224))) j')).a ((f' (Wk (b' (decide (Int.ofNat c.toNat < Int.ofNat 240))) g')).a ((f' (Wk (b' (decide (Int.ofNat c.toNat ≥ Int.ofNat 240))) j')).a ((f' (Wk (b' (decide (Int.ofNat c.toNat < Int.ofNat 248))) j')).a ((f' (Wk (z' (IntKind.i64.wrap (Int.ofNat c.toNat - Int.ofNat 240))) (i' (c.toNat - 240)))).a ((f' (Wk (b' false) g')).a ((f' (Wk (b' (decide (Int.ofNat 4 > IntKind.i64.wrap (↑s.size - Int.ofNat i)))) g')).a ((p' ((fCh,14,A2' fCh 14,lChE s i (c.toNat - 240) 4 65536 v).snd.snd.fst = (fCh,14,A2' fCh 14,lChE s i (c.toNat - 240) 4 65536 v).snd.snd.fst)).a ((Cnd.p True).a (f' (VW (s' s::i' i::u'::u'::i' 0::i' (c.toNat - 240)::i' 4::i' 65536::i' 1::u'::s' s::i' i::AV.v (Value.int IntKind.u8 ↑c.toNat)::i' c.toNat::g'::i' c.toNat::g'::g'::i' c.toNat::j'::j'::i' c.toNat::g'::g'::u'::u'::g'::i' c.toNat::j'::j'::i' c.toNat::g'::g'::u'::u'::j'::i' c.toNat::j'::j'::i' c.toNat::j'::j'::i' c.toNat::i' (c.toNat - 240)::i' 4::g'::g'::i' 4::s' s::z' ↑s.size::i' i::z' (IntKind.i64.wrap (↑s.size - Int.ofNat i))::g'::g'::ru16 (ru16 (ru4 (u'::u'::[])))) (s' s::i' i::a'::a'::a'::i' (c.toNat - 240)::i' 4::i' 65536::i' 1::ra16 (ra16 (ra16 (ra16 (ra16 (a'::a'::a'::[]))))))))))))))))))))))) (VT.leaf (i' 4) [] 1100 (((p' (i < s.size)).a (f' (Wk (AV.v (Value.int IntKind.u8 ↑(s.data.toList.getD i 0).toNat)) (AV.v (Value.int IntKind.u8 ↑c.toNat))))).a ((f' (Wk (z' (IntKind.i64.wrap ↑c.toNat)) (i' c.toNat))).a ((f' (Wk (b' (decide (Int.ofNat c.toNat < Int.ofNat 128))) g')).a ((f' (Wk (b' (decide (Int.ofNat c.toNat ≥ Int.ofNat 192))) j')).a ((f' (Wk (b' (decide (Int.ofNat c.toNat < Int.ofNat 224))) g')).a ((f' (Wk (b' (decide (Int.ofNat c.toNat ≥ Int.ofNat 224))) j')).a ((f' (Wk (b' (decide (Int.ofNat c.toNat < Int.ofNat 240))) g')).a ((f' (Wk (b' (decide (Int.ofNat c.toNat ≥ Int.ofNat 240))) j')).a ((f' (Wk (b' (decide (Int.ofNat c.toNat < Int.ofNat 248))) j')).a ((f' (Wk (z' (IntKind.i64.wrap (Int.ofNat c.toNat - Int.ofNat 240))) (i' (c.toNat - 240)))).a ((f' (Wk (b' false) g')).a ((f' (Wk (b' (decide (Int.ofNat 4 > IntKind.i64.wrap (↑s.size - Int.ofNat i)))) g')).a ((p' ((fCh,14,A2' fCh 14,lChE s i (c.toNat - 240) 4 65536 v).snd.snd.fst = (fCh,14,A2' fCh 14,lChE s i (c.toNat - 240) 4 65536 v).snd.snd.fst)).a ((Cnd.p True).a (f' (VW (s' s::i' i::u'::u'::i' 0::i' (c.toNat - 240)::i' 4::i' 65536::i' 1::u'::s' s::i' i::AV.v (Value.int IntKind.u8 ↑c.toNat)::i' c.toNat::g'::i' c.toNat::g'::g'::i' c.toNat::j'::j'::i' c.toNat::g'::g'::u'::u'::g'::i' c.toNat::j'::j'::i' c.toNat::g'::g'::u'::u'::j'::i' c.toNat::j'::j'::i' c.toNat::j'::j'::i' c.toNat::i' (c.toNat - 240)::i' 4::g'::g'::i' 4::s' s::z' ↑s.size::i' i::z' (IntKind.i64.wrap (↑s.size - Int.ofNat i))::g'::g'::ru16 (ru16 (ru4 (u'::u'::[])))) (s' s::i' i::a'::a'::a'::i' (c.toNat - 240)::i' 4::i' 65536::i' 1::ra16 (ra16 (ra16 (ra16 (ra16 (a'::a'::a'::[])))))))))))))))))))))))) (VT.leaf (i' 4) [] 1100 (((p' (i < s.size)).a (f' (Wk (AV.v (Value.int IntKind.u8 ↑(s.data.toList.getD i 0).toNat)) (AV.v (Value.int IntKind.u8 ↑c.toNat))))).a ((f' (Wk (z' (IntKind.i64.wrap ↑c.toNat)) (i' c.toNat))).a ((f' (Wk (b' (decide (Int.ofNat c.toNat < Int.ofNat 128))) g')).a ((f' (Wk (b' (decide (Int.ofNat c.toNat ≥ Int.ofNat 192))) j')).a ((f' (Wk (b' (decide (Int.ofNat c.toNat < Int.ofNat 224))) g')).a ((f' (Wk (b' (decide (Int.ofNat c.toNat ≥ Int.ofNat 224))) j')).a ((f' (Wk (b' (decide (Int.ofNat c.toNat < Int.ofNat 240))) g')).a ((f' (Wk (b' (decide (Int.ofNat c.toNat ≥ Int.ofNat 240))) j')).a ((f' (Wk (b' (decide (Int.ofNat c.toNat < Int.ofNat 248))) j')).a ((f' (Wk (z' (IntKind.i64.wrap (Int.ofNat c.toNat - Int.ofNat 240))) (i' (c.toNat - 240)))).a ((f' (Wk (b' false) g')).a ((f' (Wk (b' (decide (Int.ofNat 4 > IntKind.i64.wrap (↑s.size - Int.ofNat i)))) g')).a ((p' ((fCh,14,A2' fCh 14,lChE s i (c.toNat - 240) 4 65536 v).snd.snd.fst = (fCh,14,A2' fCh 14,lChE s i (c.toNat - 240) 4 65536 v).snd.snd.fst)).a ((Cnd.p True).a (f' (VW (s' s::i' i::u'::u'::i' 0::i' (c.toNat - 240)::i' 4::i' 65536::i' 1::u'::s' s::i' i::AV.v (Value.int IntKind.u8 ↑c.toNat)::i' c.toNat::g'::i' c.toNat::g'::g'::i' c.toNat::j'::j'::i' c.toNat::g'::g'::u'::u'::g'::i' c.toNat::j'::j'::i' c.toNat::g'::g'::u'::u'::j'::i' c.toNat::j'::j'::i' c.toNat::j'::j'::i' c.toNat::i' (c.toNat - 240)::i' 4::g'::g'::i' 4::s' s::z' ↑s.size::i' i::z' (IntKind.i64.wrap (↑s.size - Int.ofNat i))::g'::g'::ru16 (ru16 (ru4 (u'::u'::[])))) (s' s::i' i::a'::a'::a'::i' (c.toNat - 240)::i' 4::i' 65536::i' 1::ra16 (ra16 (ra16 (ra16 (ra16 (a'::a'::a'::[]))))))))))))))))))))))))) := by kernel_rfl
end
def chK (l : List UInt8) (i : Nat) : Nat → Nat → Nat → Option Nat
 | 0, _, c => some c
 | m + 1, k, c => if (l.getD (i + k) 0).toNat < 128 then none else if 191 < (l.getD (i + k) 0).toNat then none else chK l i m (k + 1) (c * 64 + (l.getD (i + k) 0).toNat - 128)
def finN (v m n : Nat) : Nat := if decide (Int.ofNat v < Int.ofNat m) = true then 0 else if decide (Int.ofNat v > Int.ofNat 1114111) = true then 0 else if decide (Int.ofNat v ≥ Int.ofNat 55296) = true then (if decide (Int.ofNat v ≤ Int.ofNat 57343) = true then 0 else n) else n
def finO (o : Option Nat) (m n : Nat) : Nat := (o.map fun v => finN v m n).getD 0
def chF (l : List UInt8) (i n m c : Nat) : Nat := if l.length - i < n then 0 else finO (chK l i (n - 1) 1 c) m n
def KI' (l : List UInt8) (i : Nat) : Nat := if (l.getD i 0).toNat < 128 then 1 else if (l.getD i 0).toNat < 192 then 0 else if (l.getD i 0).toNat < 224 then chF l i 2 128 ((l.getD i 0).toNat - 192) else if (l.getD i 0).toNat < 240 then chF l i 3 2048 ((l.getD i 0).toNat - 224) else if (l.getD i 0).toNat < 248 then chF l i 4 65536 ((l.getD i 0).toNat - 240) else 0
theorem geT {a b : Nat} (h : b ≤ a) : decide (Int.ofNat a ≥ Int.ofNat b) = true := decide_eq_true (by simp only [Z0]; omega)
theorem geF {a b : Nat} (h : a < b) : decide (Int.ofNat a ≥ Int.ofNat b) = false := decide_eq_false (by simp only [Z0]; omega)
theorem ltT {a b : Nat} (h : a < b) : decide (Int.ofNat a < Int.ofNat b) = true := decide_eq_true (by simp only [Z0]; omega)
theorem ltF {a b : Nat} (h : b ≤ a) : decide (Int.ofNat a < Int.ofNat b) = false := decide_eq_false (by simp only [Z0]; omega)
theorem gtT {a b : Nat} (h : b < a) : decide (Int.ofNat a > Int.ofNat b) = true := decide_eq_true (by simp only [Z0]; omega)
theorem gtF {a b : Nat} (h : a ≤ b) : decide (Int.ofNat a > Int.ofNat b) = false := decide_eq_false (by simp only [Z0]; omega)
def numF (l : List UInt8) (i : Nat) : Nat × Bool := if sgn [48] l (sgE [45] l i) then num2 l (sgE [45] l i + 1) else if sgE [45] l i < digE l (sgE [45] l i) then num2 l (digE l (sgE [45] l i)) else (digE l (sgE [45] l i), false)
end Go.Proofs.YtdphpillcaajpaaGreatDoor.Js
namespace Go.Proofs.YtdphpillcaajpaaGreatDoor.Eng
open Go Go.RowKit
section
variable {P : Program} {W : World} {ρ σ : Type}
theorem CTri.seqE {c1 c2 : Code} {A : List AV} {H : LH} {ax1 : σ → AX} {A1 : σ → List AV} {H1 : σ → LH} {ax : ρ → AX} {A' : ρ → List AV} {H' : ρ → LH} (h1 : CTri P W c1 A H ax1 A1 H1)
  (h2 : ∀ s, (ax1 s = .normal ∧ CTri P W c2 (A1 s) (H1 s) ax A' H') ∨ (ax1 s ≠ .normal ∧ ∃ r, ax r = ax1 s ∧ Goes (A1 s) (H1 s) (A' r) (H' r))) : CTri P W (.seq c1 c2) A H ax A' H' := by
 intro W0 F N w a Q hF hN r ha hK
 refine wp_seq (h1 W0 F N w a _ hF hN r ha fun s a' w' hs hd => ?_)
 rcases h2 s with ⟨e, h2⟩ | ⟨e, q, e2, hg⟩
 ·obtain ⟨N1, g1, g2, g3, g4⟩ := hs
  rw [e]
  exact h2 W0 F N1 w' a' Q hF g2 g3 g4 fun q a2 w2 ⟨N2, k1, k2, k3, k4⟩ hd2 => hK q a2 w2 ⟨N2, fun i hi => (k1 i hi).trans (g1 i hi), k2, k3, k4⟩ (hd2.trans hd)
 ·have hfin := hK q a' w' (hg _ _ _ _ _ hs) hd
  rw [e2] at hfin
  cases hx : ax1 s with
  | normal => exact absurd hx e
  | exit id => rw [hx] at hfin; exact hfin
  | ret => rw [hx] at hfin; exact hfin
theorem Tri.body2 {f : FuncId} {fn : Func} {cd : Code} {t1 t2 m : Nat} {A A0 : List AV} {H H' : LH} {v1 v2 : AV} {ax : AX} (hfn : P.funcs[f]? = some fn) (hcd : fn.body = some cd) (hres : fn.results = #[.tmp t1, .tmp t2]) (hm : fn.ntmps = m) (hA0 : A ++ List.replicate (m - A.length) AV.undef = A0) (hax : ax = .ret ∨ ax = .normal) (ht1 : t1 < m) (ht2 : t2 < m) (h12 : t1 ≠ t2)
  (h : CTri P W cd A0 H (fun _ : Unit => ax) (fun _ => tms 0 m [(t1, v1), (t2, v2)]) (fun _ => H')) : Tri P W f A H (.tuple [v1, v2]) H' := by
 intro W0 F N w vargs hF hN r ha
 have hlen : A.length = vargs.size := by rw [ha.len]; simp
 refine calls_of_wp hfn hcd ?_
 refine h W0 F N w _ _ hF hN r ?_ fun _ a' w' hs hd => ?_
 ·subst hA0
  rw [Array.toList_append, Array.toList_replicate, hm, hlen]
  refine ha.append ?_
  generalize m - vargs.size = k
  induction k with
  | zero => exact AN'
  | succ k ih => exact AB'.2 ⟨DD', ih⟩
 ·obtain ⟨N1, g1, g2, g3, g4⟩ := hs
  have hv : ∀ (t : Nat) (v : AV) (_ : ∀ q, q = t → (tms q 1 [(t1, v1), (t2, v2)]) = [v]) (k j : Nat) (l : List Value), k ≤ t → t < k + j → VRs N1 (tms k j [(t1, v1), (t2, v2)]) l → ∃ y, l[t - k]? = some y ∧ VR N1 v y := by
   intro t v he k j
   induction j generalizing k with
   | zero => intro l h1 h2; omega
   | succ j ih =>
    intro l h1 h2 hl
    rw [tms] at hl
    simp only [VRs] at hl
    obtain ⟨y, l', q1, q2, rfl⟩ := hl
    by_cases e : k = t
    ·have := he k e
     rw [tms] at this
     have h0 := (List.cons.inj this).1
     rw [h0] at q1
     exact ⟨y, by rw [e]; simp, q1⟩
    ·obtain ⟨z, z1, z2⟩ := ih (k + 1) l' (by omega) (by omega) q2
     exact ⟨z, by rw [show t - k = (t - (k + 1)) + 1 from by omega, List.getElem?_cons_succ]; exact z1, z2⟩
  have e1 : ∀ q, q = t1 → (tms q 1 [(t1, v1), (t2, v2)]) = [v1] := fun q hq => by subst hq; simp [tms, getK]
  have e2 : ∀ q, q = t2 → (tms q 1 [(t1, v1), (t2, v2)]) = [v2] := fun q hq => by subst hq; simp [tms, getK, h12, Ne.symm h12]
  obtain ⟨y1, hy1, hvy1⟩ := hv t1 v1 e1 0 m _ (Nat.zero_le _) (by omega) g4
  obtain ⟨y2, hy2, hvy2⟩ := hv t2 v2 e2 0 m _ (Nat.zero_le _) (by omega) g4
  have hr : (results fn a'.tmps).run P w' = .ok (.tuple #[y1, y2]) w' := by
   unfold results
   rw [hres]
   have k1 : a'.tmps.getD t1 Go.undef = y1 := by
    rw [Nat.sub_zero, Array.getElem?_toList] at hy1
    simp [Array.getD_eq_getD_getElem?, hy1]
   have k2 : a'.tmps.getD t2 Go.undef = y2 := by
    rw [Nat.sub_zero, Array.getElem?_toList] at hy2
    simp [Array.getD_eq_getD_getElem?, hy2]
   rw [Array.getD_eq_getD_getElem?] at k1 k2
   simp [k1, k2]
  have hpost : a'.defers = [] ∧ ∃ y, (results fn a'.tmps).run P w' = .ok y w' ∧ ∃ z, Ending.returned y = .returned z ∧ St W0 F N H' [.tuple [v1, v2]] [z] w' := ⟨hd, _, hr, _, rfl, N1, g1, g2, g3, AB'.2 ⟨⟨[y1, y2], AB'.2 ⟨hvy1, AB'.2 ⟨hvy2, AN'⟩⟩, rfl⟩, AN'⟩⟩
  rcases hax with rfl | rfl
  ·exact hpost
  ·exact hpost
theorem ZL' {f : FuncId} {A : List AV} {H H' : LH} {v : AV} {c : List AV → Option (AP AV)} {p : AP AV} (ks : List Nat) (hH : AF' 1100 H = true) (hcon : ∀ F, AK' W F → C1OK P F f c) (hp : c A = some p)
  (hrun : ((p.run2 (AX' H) 1100 []).view ks).all fun u os _ => Fits ks [u] os [v] H') : Tri P W f A H v H' := by
 intro W0 F N w vargs hF hN r ha
 obtain ⟨u, h', n', lg', c, he, hc, hfit⟩ := VT.all_pick hrun
 rw [DT'] at he
 refine (hcon F hF _ _ _ _ _ _ _ _ _ _ _ _ _ _ _ hp he hc r ha (fun i h1 h2 => hN.nothing hH h1)).mono ?_
 rintro e w' ⟨y, N1, rfl, r1, hv, hx⟩
 exact ⟨y, rfl, hfit.state r1 hx (DS' _ he (by decide)) (fun i hi => hN.nothing hH hi) (AB'.2 ⟨hv, AN'⟩)⟩
noncomputable def cRun (c : Option (AP AV)) (H : LH) (ks : List Nat) : VT AV := ((c.getD (.fail "none")).run2 (AX' H) 1100 []).view ks
theorem VX' {f : FuncId} {A : List AV} {H H' : LH} {v : AV} {c : List AV → Option (AP AV)} (ks : List Nat) (hH : AF' 1100 H = true) (hcon : ∀ F, AK' W F → C1OK P F f c) (hp : (c A).isSome = true)
  (hrun : VAll (fun u os _ => Fits ks [u] os [v] H') (cRun (c A) H ks)) : Tri P W f A H v H' := by
 obtain ⟨p, hp⟩ := Option.isSome_iff_exists.1 hp
 refine ZL' ks hH hcon hp ?_
 have := hrun.out
 unfold cRun at this
 rw [hp] at this
 exact this
end
end Go.Proofs.YtdphpillcaajpaaGreatDoor.Eng
namespace Go.Proofs.YtdphpillcaajpaaGreatDoor.Js
open Go Go.RowKit Eng Kit
noncomputable section
abbrev fRNm : Nat := 51
def nmB : Code := bodyN fRNm
def nm0 : Code := fst nmB
def nm1 : Code := fst (snd nmB)
def nm2 : Code := fst (snd (snd nmB))
def nm3 : Code := fst (snd (snd (snd nmB)))
def nm4 : Code := fst (snd (snd (snd (snd nmB))))
def nm5 : Code := fst (snd (snd (snd (snd (snd nmB)))))
def nm6 : Code := snd (snd (snd (snd (snd (snd nmB)))))
theorem nmB_eq : (Tryz.prog.funcs[fRNm]?).bind (fun fn => fn.body) = some (.seq nm0 (.seq nm1 (.seq nm2 (.seq nm3 (.seq nm4 (.seq nm5 nm6)))))) := by kernel_rfl
def aN (s : ByteArray) (i : Nat) : List (Nat × AV) := [(0, sv s), (1, iv (Int.ofNat i))]
def rN (i : Nat) (b : Bool) : List (Nat × AV) := [(4, iv (Int.ofNat i)), (5, bv b)]
theorem oN0_eq (s : ByteArray) (i : Nat) (F : HP) : AR' [] DL' [] default fRNm nm0 ([sv s, iv (Int.ofNat i)] ++ List.replicate 95 AV.undef) [] [] [0, 1] F = VT.leaf (AX.normal,[s' s,i' i],97) [] 1100 t' := by kernel_rfl
theorem oN6_eq (s : ByteArray) (i : Nat) (F : HP) : AR' [] DL' [] default fRNm nm6 (tms 0 97 (aN s i)) [] [] [4, 5] F = VT.leaf (AX.ret,[i' i,b' true],97) [] 1100 t' := by kernel_rfl
theorem bB' (s : ByteArray) (i : Nat) (x : UInt8) (F : HP) : AR' [(fRDg, cRDg), (AV', BB')] (A9' [(fRNm, 1, 3, hv (.lit false))]) [] default fRNm nm1 (tms 0 97 (aN s i)) [] [] [0, 1] F = VT.leaf (AX.normal,[s' s,i' i],97) [] 1100 ((k11' i s).a t') := by kernel_rfl
noncomputable section
abbrev k37' (q0 : UInt8) : Cnd := (f' (Wk (b' (↑q0.toNat == Int.ofNat 45)) g'))
end
theorem bA' (s : ByteArray) (i : Nat) (x : UInt8) (F : HP) : AR' [(fRDg, cRDg), (AV', BB')] (A9' [(fRNm, 1, 3, hv (.lit true)), (fRNm, 1, 7, h0v (byv x)), (fRNm, 1, 8, hv (.lit false))]) [] default fRNm nm1 (tms 0 97 (aN s i)) [] [] [0, 1] F = VT.leaf (AX.normal,[s' s,i' i],97) [] 1100 ((k3' i s).a ((k4' i s x).a ((k37' x).a t'))) := by kernel_rfl
noncomputable section
abbrev k38' (q0 : UInt8) : Cnd := (f' (Wk (b' (↑q0.toNat == Int.ofNat 45)) j'))
end
theorem b9' (s : ByteArray) (i : Nat) (x : UInt8) (F : HP) : AR' [(fRDg, cRDg), (AV', BB')] (A9' [(fRNm, 1, 3, hv (.lit true)), (fRNm, 1, 7, h0v (byv x)), (fRNm, 1, 8, hv (.lit true)), (fRNm, 2, 1, hv (iv (Int.ofNat (i + 1))))]) [] default fRNm nm1 (tms 0 97 (aN s i)) [] [] [0, 1] F = VT.leaf (AX.normal,[s' s,i' (i + 1)],97) [] 1100 ((k3' i s).a ((k4' i s x).a ((k38' x).a ((k7' i).a t')))) := by kernel_rfl
theorem b8' (s : ByteArray) (i : Nat) (x : UInt8) (F : HP) : AR' [(fRDg, cRDg), (AV', BB')] (A9' [(fRNm, 3, 2, hv (.lit false)), (fRNm, 3, 3, hv (.lit true))]) [] default fRNm nm2 (tms 0 97 (aN s i)) [] [] [4, 5] F = VT.leaf (AX.ret,[i' i,b' false],97) [] 1100 ((k15' i s).a (k24'.a t')) := by kernel_rfl
theorem b7' (s : ByteArray) (i : Nat) (x : UInt8) (F : HP) : AR' [(fRDg, cRDg), (AV', BB')] (A9' [(fRNm, 3, 2, hv (.lit true)), (fRNm, 3, 3, hv (.lit false))]) [] default fRNm nm2 (tms 0 97 (aN s i)) [] [] [0, 1] F = VT.leaf (AX.normal,[s' s,i' i],97) [] 1100 ((k14' i s).a (k32'.a t')) := by kernel_rfl
theorem b5' (s : ByteArray) (i : Nat) (x : UInt8) (F : HP) : AR' [(fRDg, cRDg), (AV', BB')] (A9' [(fRNm, 5, 2, h0v (byv x)), (fRNm, 5, 3, hv (.lit true)), (fRNm, 6, 1, hv (iv (Int.ofNat (i + 1))))]) [] default fRNm nm3 (tms 0 97 (aN s i)) [] [] [0, 1] F = VT.leaf (AX.normal,[s' s,i' (i + 1)],97) [] 1100 ((k4' i s x).a ((f' (Wk (b' (↑x.toNat == Int.ofNat 48)) j')).a ((k7' i).a t'))) := by kernel_rfl
theorem b6' (s : ByteArray) (i : Nat) (x : UInt8) (F : HP) : AR' [(fRDg, cRDg), (AV', BB')] (A9' [(fRNm, 5, 2, h0v (byv x)), (fRNm, 5, 3, hv (.lit false))]) [] default fRNm nm3 (tms 0 97 (aN s i)) [] [] [0, 1] F = VT.leaf (AX.normal,[s' s,i' (digE (bts s) i)],97) [] 1100 ((k4' i s x).a ((f' (Wk (b' (↑x.toNat == Int.ofNat 48)) g')).a (((p' (i ≤ s.size ∧ Few s.size)).a (f' (VW [s' s,i' i] [s' s,i' i]))).a t'))) := by kernel_rfl
theorem b4' (s : ByteArray) (i : Nat) (x : UInt8) (F : HP) : AR' [(fRDg, cRDg), (AV', BB')] (A9' [(fRNm, 8, 3, hv (.lit false))]) [] default fRNm nm4 (tms 0 97 (aN s i)) [] [] [0, 1] F = VT.leaf (AX.normal,[s' s,i' i],97) [] 1100 ((k11' i s).a t') := by kernel_rfl
theorem b3' (s : ByteArray) (i : Nat) (x : UInt8) (F : HP) : AR' [(fRDg, cRDg), (AV', BB')] (A9' [(fRNm, 8, 3, hv (.lit true)), (fRNm, 8, 7, h0v (byv x)), (fRNm, 8, 8, hv (.lit false))]) [] default fRNm nm4 (tms 0 97 (aN s i)) [] [] [0, 1] F = VT.leaf (AX.normal,[s' s,i' i],97) [] 1100 ((k3' i s).a ((k4' i s x).a ((f' (Wk (b' (↑x.toNat == Int.ofNat 46)) g')).a t'))) := by kernel_rfl
noncomputable section
abbrev k39' (q0 : UInt8) : Cnd := (f' (Wk (b' (↑q0.toNat == Int.ofNat 46)) j'))
abbrev k40' (q0 : Nat) (q1 : ByteArray) : Cnd := ((p' (q0 + 1 ≤ q1.size)).a ((p' (VW [s' q1,i' (q0 + 1)] [s' q1,i' (q0 + 1)])).a (f' (Wk (b' (BI' (bts q1) (q0 + 1))) g'))))
end
theorem WN' (s : ByteArray) (i : Nat) (x : UInt8) (F : HP) : AR' [(fRDg, cRDg), (AV', BB')] (A9' [(fRNm, 8, 3, hv (.lit true)), (fRNm, 8, 7, h0v (byv x)), (fRNm, 8, 8, hv (.lit true)), (fRNm, 9, 1, hv (iv (Int.ofNat (i + 1)))), (fRNm, 10, 2, hv (.lit false)), (fRNm, 10, 3, hv (.lit true))]) [] default fRNm nm4 (tms 0 97 (aN s i)) [] [] [4, 5] F = VT.leaf (AX.ret,[i' (i + 1),b' false],97) [] 1100 ((k3' i s).a ((k4' i s x).a ((k39' x).a ((k7' i).a ((k40' i s).a (k24'.a t')))))) := by kernel_rfl
noncomputable section
abbrev k41' (q0 : Nat) (q1 : ByteArray) : Cnd := ((p' (q0 + 1 ≤ q1.size)).a ((p' (VW [s' q1,i' (q0 + 1)] [s' q1,i' (q0 + 1)])).a (f' (Wk (b' (BI' (bts q1) (q0 + 1))) j'))))
abbrev k42' (q0 : Nat) (q1 : ByteArray) : Cnd := ((p' (q0 + 1 ≤ q1.size ∧ Few q1.size)).a (f' (VW [s' q1,i' (q0 + 1)] [s' q1,i' (q0 + 1)])))
end
theorem WM' (s : ByteArray) (i : Nat) (x : UInt8) (F : HP) : AR' [(fRDg, cRDg), (AV', BB')] (A9' [(fRNm, 8, 3, hv (.lit true)), (fRNm, 8, 7, h0v (byv x)), (fRNm, 8, 8, hv (.lit true)), (fRNm, 9, 1, hv (iv (Int.ofNat (i + 1)))), (fRNm, 10, 2, hv (.lit true)), (fRNm, 10, 3, hv (.lit false))]) [] default fRNm nm4 (tms 0 97 (aN s i)) [] [] [0, 1] F = VT.leaf (AX.normal,[s' s,i' (digE (bts s) (i + 1))],97) [] 1100 ((k3' i s).a ((k4' i s x).a ((k39' x).a ((k7' i).a ((k41' i s).a (k32'.a ((k42' i s).a t'))))))) := by kernel_rfl
theorem b2' (s : ByteArray) (i : Nat) (x : UInt8) (F : HP) : AR' [(fRDg, cRDg), (AV', BB')] (A9' [(fRNm, 13, 3, hv (.lit false))]) [] default fRNm nm5 (tms 0 97 (aN s i)) [] [] [0, 1] F = VT.leaf (AX.normal,[s' s,i' i],97) [] 1100 ((k11' i s).a t') := by kernel_rfl
noncomputable section
abbrev k43' (q0 : UInt8) : Cnd := (f' (Wk (b' (↑q0.toNat == Int.ofNat 101)) g'))
end
theorem b1' (s : ByteArray) (i : Nat) (x : UInt8) (F : HP) : AR' [(fRDg, cRDg), (AV', BB')] (A9' [(fRNm, 13, 3, hv (.lit true)), (fRNm, 13, 7, h0v (byv x)), (fRNm, 13, 8, hv (.lit false)), (fRNm, 13, 12, h0v (byv x)), (fRNm, 13, 13, hv (.lit false))]) [] default fRNm nm5 (tms 0 97 (aN s i)) [] [] [0, 1] F = VT.leaf (AX.normal,[s' s,i' i],97) [] 1100 ((k3' i s).a ((k4' i s x).a ((k43' x).a ((k4' i s x).a ((f' (Wk (b' (↑x.toNat == Int.ofNat 69)) g')).a t'))))) := by kernel_rfl
noncomputable section
abbrev k44' (q0 : UInt8) : Cnd := (f' (Wk (b' (↑q0.toNat == Int.ofNat 101)) j'))
abbrev k45' (q0 : Nat) (q1 : ByteArray) : Cnd := (f' (Wk (b' (decide (Int.ofNat (q0 + 1) < ↑q1.size))) g'))
end
theorem TD' (s : ByteArray) (i : Nat) (x y : UInt8) (F : HP) : AR' [(fRDg, cRDg), (AV', BB')] (A9' [(fRNm, 13, 3, hv (.lit true)), (fRNm, 13, 7, h0v (byv x)), (fRNm, 13, 8, hv (.lit true)), (fRNm, 14, 1, hv (iv (Int.ofNat (i + 1)))), (fRNm, 15, 3, hv (.lit false)), (fRNm, 17, 2, hv (.lit false)), (fRNm, 17, 3, hv (.lit true))]) [] default fRNm nm5 (tms 0 97 (aN s i)) [] [] [4, 5] F = VT.leaf (AX.ret,[i' (i + 1),b' false],97) [] 1100 ((k3' i s).a ((k4' i s x).a ((k44' x).a ((k7' i).a ((k45' i s).a ((k40' i s).a (k24'.a t'))))))) := by kernel_rfl
noncomputable section
abbrev k46' (q0 : Nat) (q1 : ByteArray) : Cnd := (f' (Wk (b' (decide (Int.ofNat (q0 + 1) < ↑q1.size))) j'))
abbrev k47' (q0 : Nat) (q1 : ByteArray) (q2 : UInt8) : Cnd := ((p' (q0 + 1 < q1.size)).a (f' (Wk (AV.v (Value.int IntKind.u8 ↑(q1.data.toList.getD (q0 + 1) 0).toNat)) (AV.v (Value.int IntKind.u8 ↑q2.toNat)))))
abbrev k48' (q0 : UInt8) : Cnd := (f' (Wk (b' (↑q0.toNat == Int.ofNat 43)) g'))
end
theorem TA' (s : ByteArray) (i : Nat) (x y : UInt8) (F : HP) : AR' [(fRDg, cRDg), (AV', BB')] (A9' [(fRNm, 13, 3, hv (.lit true)), (fRNm, 13, 7, h0v (byv x)), (fRNm, 13, 8, hv (.lit true)), (fRNm, 14, 1, hv (iv (Int.ofNat (i + 1)))), (fRNm, 15, 3, hv (.lit true)), (fRNm, 15, 7, h0v (byv y)), (fRNm, 15, 8, hv (.lit false)), (fRNm, 15, 12, h0v (byv y)), (fRNm, 15, 13, hv (.lit false)), (fRNm, 17, 2, hv (.lit false)), (fRNm, 17, 3, hv (.lit true))]) [] default fRNm nm5 (tms 0 97 (aN s i)) [] [] [4, 5] F = VT.leaf (AX.ret,[i' (i + 1),b' false],97) [] 1100 ((k3' i s).a ((k4' i s x).a ((k44' x).a ((k7' i).a ((k46' i s).a ((k47' i s y).a ((k48' y).a ((k47' i s y).a ((k37' y).a ((k40' i s).a (k24'.a t'))))))))))) := by kernel_rfl
theorem T9' (s : ByteArray) (i : Nat) (x y : UInt8) (F : HP) : AR' [(fRDg, cRDg), (AV', BB')] (A9' [(fRNm, 13, 3, hv (.lit true)), (fRNm, 13, 7, h0v (byv x)), (fRNm, 13, 8, hv (.lit true)), (fRNm, 14, 1, hv (iv (Int.ofNat (i + 1)))), (fRNm, 15, 3, hv (.lit true)), (fRNm, 15, 7, h0v (byv y)), (fRNm, 15, 8, hv (.lit false)), (fRNm, 15, 12, h0v (byv y)), (fRNm, 15, 13, hv (.lit false)), (fRNm, 17, 2, hv (.lit true)), (fRNm, 17, 3, hv (.lit false))]) [] default fRNm nm5 (tms 0 97 (aN s i)) [] [] [0, 1] F = VT.leaf (AX.normal,[s' s,i' (digE (bts s) (i + 1))],97) [] 1100 ((k3' i s).a ((k4' i s x).a ((k44' x).a ((k7' i).a ((k46' i s).a ((k47' i s y).a ((k48' y).a ((k47' i s y).a ((k37' y).a ((k41' i s).a (k32'.a ((k42' i s).a t')))))))))))) := by kernel_rfl
noncomputable section
abbrev k49' (q0 : UInt8) : Cnd := (f' (Wk (b' (↑q0.toNat == Int.ofNat 43)) j'))
abbrev k50' (q0 : Nat) : Cnd := (f' (Wk (z' (IntKind.i64.wrap (Int.ofNat (q0 + 1) + Int.ofNat 1))) (i' (q0 + 1 + 1))))
abbrev k51' (q0 : Nat) (q1 : ByteArray) : Cnd := ((p' (q0 + 1 + 1 ≤ q1.size)).a ((p' (VW [s' q1,i' (q0 + 1 + 1)] [s' q1,i' (q0 + 1 + 1)])).a (f' (Wk (b' (BI' (bts q1) (q0 + 1 + 1))) g'))))
end
theorem T8' (s : ByteArray) (i : Nat) (x y : UInt8) (F : HP) : AR' [(fRDg, cRDg), (AV', BB')] (A9' [(fRNm, 13, 3, hv (.lit true)), (fRNm, 13, 7, h0v (byv x)), (fRNm, 13, 8, hv (.lit true)), (fRNm, 14, 1, hv (iv (Int.ofNat (i + 1)))), (fRNm, 15, 3, hv (.lit true)), (fRNm, 15, 7, h0v (byv y)), (fRNm, 15, 8, hv (.lit true)), (fRNm, 16, 1, hv (iv (Int.ofNat (i + 1 + 1)))), (fRNm, 17, 2, hv (.lit false)), (fRNm, 17, 3, hv (.lit true))]) [] default fRNm nm5 (tms 0 97 (aN s i)) [] [] [4, 5] F = VT.leaf (AX.ret,[i' (i + 1 + 1),b' false],97) [] 1100 ((k3' i s).a ((k4' i s x).a ((k44' x).a ((k7' i).a ((k46' i s).a ((k47' i s y).a ((k49' y).a ((k50' i).a ((k51' i s).a (k24'.a t')))))))))) := by kernel_rfl
noncomputable section
abbrev k52' (q0 : Nat) (q1 : ByteArray) : Cnd := ((p' (q0 + 1 + 1 ≤ q1.size)).a ((p' (VW [s' q1,i' (q0 + 1 + 1)] [s' q1,i' (q0 + 1 + 1)])).a (f' (Wk (b' (BI' (bts q1) (q0 + 1 + 1))) j'))))
abbrev k53' (q0 : Nat) (q1 : ByteArray) : Cnd := ((p' (q0 + 1 + 1 ≤ q1.size ∧ Few q1.size)).a (f' (VW [s' q1,i' (q0 + 1 + 1)] [s' q1,i' (q0 + 1 + 1)])))
end
theorem T7' (s : ByteArray) (i : Nat) (x y : UInt8) (F : HP) : AR' [(fRDg, cRDg), (AV', BB')] (A9' [(fRNm, 13, 3, hv (.lit true)), (fRNm, 13, 7, h0v (byv x)), (fRNm, 13, 8, hv (.lit true)), (fRNm, 14, 1, hv (iv (Int.ofNat (i + 1)))), (fRNm, 15, 3, hv (.lit true)), (fRNm, 15, 7, h0v (byv y)), (fRNm, 15, 8, hv (.lit true)), (fRNm, 16, 1, hv (iv (Int.ofNat (i + 1 + 1)))), (fRNm, 17, 2, hv (.lit true)), (fRNm, 17, 3, hv (.lit false))]) [] default fRNm nm5 (tms 0 97 (aN s i)) [] [] [0, 1] F = VT.leaf (AX.normal,[s' s,i' (digE (bts s) (i + 1 + 1))],97) [] 1100 ((k3' i s).a ((k4' i s x).a ((k44' x).a ((k7' i).a ((k46' i s).a ((k47' i s y).a ((k49' y).a ((k50' i).a ((k52' i s).a (k32'.a ((k53' i s).a t'))))))))))) := by kernel_rfl
theorem TC' (s : ByteArray) (i : Nat) (x y : UInt8) (F : HP) : AR' [(fRDg, cRDg), (AV', BB')] (A9' [(fRNm, 13, 3, hv (.lit true)), (fRNm, 13, 7, h0v (byv x)), (fRNm, 13, 8, hv (.lit true)), (fRNm, 14, 1, hv (iv (Int.ofNat (i + 1)))), (fRNm, 15, 3, hv (.lit true)), (fRNm, 15, 7, h0v (byv y)), (fRNm, 15, 8, hv (.lit false)), (fRNm, 15, 12, h0v (byv y)), (fRNm, 15, 13, hv (.lit true)), (fRNm, 16, 1, hv (iv (Int.ofNat (i + 1 + 1)))), (fRNm, 17, 2, hv (.lit false)), (fRNm, 17, 3, hv (.lit true))]) [] default fRNm nm5 (tms 0 97 (aN s i)) [] [] [4, 5] F = VT.leaf (AX.ret,[i' (i + 1 + 1),b' false],97) [] 1100 ((k3' i s).a ((k4' i s x).a ((k44' x).a ((k7' i).a ((k46' i s).a ((k47' i s y).a ((k48' y).a ((k47' i s y).a ((k38' y).a ((k50' i).a ((k51' i s).a (k24'.a t')))))))))))) := by kernel_rfl
theorem TB' (s : ByteArray) (i : Nat) (x y : UInt8) (F : HP) : AR' [(fRDg, cRDg), (AV', BB')] (A9' [(fRNm, 13, 3, hv (.lit true)), (fRNm, 13, 7, h0v (byv x)), (fRNm, 13, 8, hv (.lit true)), (fRNm, 14, 1, hv (iv (Int.ofNat (i + 1)))), (fRNm, 15, 3, hv (.lit true)), (fRNm, 15, 7, h0v (byv y)), (fRNm, 15, 8, hv (.lit false)), (fRNm, 15, 12, h0v (byv y)), (fRNm, 15, 13, hv (.lit true)), (fRNm, 16, 1, hv (iv (Int.ofNat (i + 1 + 1)))), (fRNm, 17, 2, hv (.lit true)), (fRNm, 17, 3, hv (.lit false))]) [] default fRNm nm5 (tms 0 97 (aN s i)) [] [] [0, 1] F = VT.leaf (AX.normal,[s' s,i' (digE (bts s) (i + 1 + 1))],97) [] 1100 ((k3' i s).a ((k4' i s x).a ((k44' x).a ((k7' i).a ((k46' i s).a ((k47' i s y).a ((k48' y).a ((k47' i s y).a ((k38' y).a ((k50' i).a ((k52' i s).a (k32'.a ((k53' i s).a t'))))))))))))) := by kernel_rfl
noncomputable section
abbrev k54' (q0 : UInt8) : Cnd := (f' (Wk (b' (↑q0.toNat == Int.ofNat 69)) j'))
end
theorem TK' (s : ByteArray) (i : Nat) (x y : UInt8) (F : HP) : AR' [(fRDg, cRDg), (AV', BB')] (A9' [(fRNm, 13, 3, hv (.lit true)), (fRNm, 13, 7, h0v (byv x)), (fRNm, 13, 8, hv (.lit false)), (fRNm, 13, 12, h0v (byv x)), (fRNm, 13, 13, hv (.lit true)), (fRNm, 14, 1, hv (iv (Int.ofNat (i + 1)))), (fRNm, 15, 3, hv (.lit false)), (fRNm, 17, 2, hv (.lit false)), (fRNm, 17, 3, hv (.lit true))]) [] default fRNm nm5 (tms 0 97 (aN s i)) [] [] [4, 5] F = VT.leaf (AX.ret,[i' (i + 1),b' false],97) [] 1100 ((k3' i s).a ((k4' i s x).a ((k43' x).a ((k4' i s x).a ((k54' x).a ((k7' i).a ((k45' i s).a ((k40' i s).a (k24'.a t'))))))))) := by kernel_rfl
theorem TH' (s : ByteArray) (i : Nat) (x y : UInt8) (F : HP) : AR' [(fRDg, cRDg), (AV', BB')] (A9' [(fRNm, 13, 3, hv (.lit true)), (fRNm, 13, 7, h0v (byv x)), (fRNm, 13, 8, hv (.lit false)), (fRNm, 13, 12, h0v (byv x)), (fRNm, 13, 13, hv (.lit true)), (fRNm, 14, 1, hv (iv (Int.ofNat (i + 1)))), (fRNm, 15, 3, hv (.lit true)), (fRNm, 15, 7, h0v (byv y)), (fRNm, 15, 8, hv (.lit false)), (fRNm, 15, 12, h0v (byv y)), (fRNm, 15, 13, hv (.lit false)), (fRNm, 17, 2, hv (.lit false)), (fRNm, 17, 3, hv (.lit true))]) [] default fRNm nm5 (tms 0 97 (aN s i)) [] [] [4, 5] F = VT.leaf (AX.ret,[i' (i + 1),b' false],97) [] 1100 ((k3' i s).a ((k4' i s x).a ((k43' x).a ((k4' i s x).a ((k54' x).a ((k7' i).a ((k46' i s).a ((k47' i s y).a ((k48' y).a ((k47' i s y).a ((k37' y).a ((k40' i s).a (k24'.a t'))))))))))))) := by kernel_rfl
theorem TG' (s : ByteArray) (i : Nat) (x y : UInt8) (F : HP) : AR' [(fRDg, cRDg), (AV', BB')] (A9' [(fRNm, 13, 3, hv (.lit true)), (fRNm, 13, 7, h0v (byv x)), (fRNm, 13, 8, hv (.lit false)), (fRNm, 13, 12, h0v (byv x)), (fRNm, 13, 13, hv (.lit true)), (fRNm, 14, 1, hv (iv (Int.ofNat (i + 1)))), (fRNm, 15, 3, hv (.lit true)), (fRNm, 15, 7, h0v (byv y)), (fRNm, 15, 8, hv (.lit false)), (fRNm, 15, 12, h0v (byv y)), (fRNm, 15, 13, hv (.lit false)), (fRNm, 17, 2, hv (.lit true)), (fRNm, 17, 3, hv (.lit false))]) [] default fRNm nm5 (tms 0 97 (aN s i)) [] [] [0, 1] F = VT.leaf (AX.normal,[s' s,i' (digE (bts s) (i + 1))],97) [] 1100 ((k3' i s).a ((k4' i s x).a ((k43' x).a ((k4' i s x).a ((k54' x).a ((k7' i).a ((k46' i s).a ((k47' i s y).a ((k48' y).a ((k47' i s y).a ((k37' y).a ((k41' i s).a (k32'.a ((k42' i s).a t')))))))))))))) := by kernel_rfl
theorem TF' (s : ByteArray) (i : Nat) (x y : UInt8) (F : HP) : AR' [(fRDg, cRDg), (AV', BB')] (A9' [(fRNm, 13, 3, hv (.lit true)), (fRNm, 13, 7, h0v (byv x)), (fRNm, 13, 8, hv (.lit false)), (fRNm, 13, 12, h0v (byv x)), (fRNm, 13, 13, hv (.lit true)), (fRNm, 14, 1, hv (iv (Int.ofNat (i + 1)))), (fRNm, 15, 3, hv (.lit true)), (fRNm, 15, 7, h0v (byv y)), (fRNm, 15, 8, hv (.lit true)), (fRNm, 16, 1, hv (iv (Int.ofNat (i + 1 + 1)))), (fRNm, 17, 2, hv (.lit false)), (fRNm, 17, 3, hv (.lit true))]) [] default fRNm nm5 (tms 0 97 (aN s i)) [] [] [4, 5] F = VT.leaf (AX.ret,[i' (i + 1 + 1),b' false],97) [] 1100 ((k3' i s).a ((k4' i s x).a ((k43' x).a ((k4' i s x).a ((k54' x).a ((k7' i).a ((k46' i s).a ((k47' i s y).a ((k49' y).a ((k50' i).a ((k51' i s).a (k24'.a t')))))))))))) := by kernel_rfl
theorem TE' (s : ByteArray) (i : Nat) (x y : UInt8) (F : HP) : AR' [(fRDg, cRDg), (AV', BB')] (A9' [(fRNm, 13, 3, hv (.lit true)), (fRNm, 13, 7, h0v (byv x)), (fRNm, 13, 8, hv (.lit false)), (fRNm, 13, 12, h0v (byv x)), (fRNm, 13, 13, hv (.lit true)), (fRNm, 14, 1, hv (iv (Int.ofNat (i + 1)))), (fRNm, 15, 3, hv (.lit true)), (fRNm, 15, 7, h0v (byv y)), (fRNm, 15, 8, hv (.lit true)), (fRNm, 16, 1, hv (iv (Int.ofNat (i + 1 + 1)))), (fRNm, 17, 2, hv (.lit true)), (fRNm, 17, 3, hv (.lit false))]) [] default fRNm nm5 (tms 0 97 (aN s i)) [] [] [0, 1] F = VT.leaf (AX.normal,[s' s,i' (digE (bts s) (i + 1 + 1))],97) [] 1100 ((k3' i s).a ((k4' i s x).a ((k43' x).a ((k4' i s x).a ((k54' x).a ((k7' i).a ((k46' i s).a ((k47' i s y).a ((k49' y).a ((k50' i).a ((k52' i s).a (k32'.a ((k53' i s).a t'))))))))))))) := by kernel_rfl
theorem TJ' (s : ByteArray) (i : Nat) (x y : UInt8) (F : HP) : AR' [(fRDg, cRDg), (AV', BB')] (A9' [(fRNm, 13, 3, hv (.lit true)), (fRNm, 13, 7, h0v (byv x)), (fRNm, 13, 8, hv (.lit false)), (fRNm, 13, 12, h0v (byv x)), (fRNm, 13, 13, hv (.lit true)), (fRNm, 14, 1, hv (iv (Int.ofNat (i + 1)))), (fRNm, 15, 3, hv (.lit true)), (fRNm, 15, 7, h0v (byv y)), (fRNm, 15, 8, hv (.lit false)), (fRNm, 15, 12, h0v (byv y)), (fRNm, 15, 13, hv (.lit true)), (fRNm, 16, 1, hv (iv (Int.ofNat (i + 1 + 1)))), (fRNm, 17, 2, hv (.lit false)), (fRNm, 17, 3, hv (.lit true))]) [] default fRNm nm5 (tms 0 97 (aN s i)) [] [] [4, 5] F = VT.leaf (AX.ret,[i' (i + 1 + 1),b' false],97) [] 1100 ((k3' i s).a ((k4' i s x).a ((k43' x).a ((k4' i s x).a ((k54' x).a ((k7' i).a ((k46' i s).a ((k47' i s y).a ((k48' y).a ((k47' i s y).a ((k38' y).a ((k50' i).a ((k51' i s).a (k24'.a t')))))))))))))) := by kernel_rfl
theorem TI' (s : ByteArray) (i : Nat) (x y : UInt8) (F : HP) : AR' [(fRDg, cRDg), (AV', BB')] (A9' [(fRNm, 13, 3, hv (.lit true)), (fRNm, 13, 7, h0v (byv x)), (fRNm, 13, 8, hv (.lit false)), (fRNm, 13, 12, h0v (byv x)), (fRNm, 13, 13, hv (.lit true)), (fRNm, 14, 1, hv (iv (Int.ofNat (i + 1)))), (fRNm, 15, 3, hv (.lit true)), (fRNm, 15, 7, h0v (byv y)), (fRNm, 15, 8, hv (.lit false)), (fRNm, 15, 12, h0v (byv y)), (fRNm, 15, 13, hv (.lit true)), (fRNm, 16, 1, hv (iv (Int.ofNat (i + 1 + 1)))), (fRNm, 17, 2, hv (.lit true)), (fRNm, 17, 3, hv (.lit false))]) [] default fRNm nm5 (tms 0 97 (aN s i)) [] [] [0, 1] F = VT.leaf (AX.normal,[s' s,i' (digE (bts s) (i + 1 + 1))],97) [] 1100 ((k3' i s).a ((k4' i s x).a ((k43' x).a ((k4' i s x).a ((k54' x).a ((k7' i).a ((k46' i s).a ((k47' i s y).a ((k48' y).a ((k47' i s y).a ((k38' y).a ((k50' i).a ((k52' i s).a (k32'.a ((k53' i s).a t'))))))))))))))) := by kernel_rfl
end
theorem H0' {ks l : List UInt8} {n : Nat} (h : l[n]? = none) : sgn ks l n = false := by unfold sgn; rw [h]
theorem C1' {ks l : List UInt8} {n : Nat} {x : UInt8} (h : l[n]? = some x) : sgn ks l n = ks.contains x := by unfold sgn; rw [h]
theorem eqB {x c : UInt8} {n : Nat} (hn : n < 256) (hc : UInt8.ofNat n = c) : x = c → ((x.toNat : Int) == Int.ofNat n) = true := fun h => (c_eq hn).2 (h.trans hc.symm)
theorem neB {x c : UInt8} {n : Nat} (hn : n < 256) (hc : UInt8.ofNat n = c) : x ≠ c → ((x.toNat : Int) == Int.ofNat n) = false := fun h => Bool.eq_false_iff.2 fun e => h (((c_eq hn).1 e).trans hc)
theorem BH' {s : ByteArray} {n : Nat} {x : UInt8} (hx : (bts s)[n]? = some x) : Wk (AV.v (.int .u8 (s.data.toList.getD n 0).toNat)) (byv x) := HJ' (by rw [List.getD_eq_getElem?_getD, hx]; rfl)
theorem AE' {s : ByteArray} {n : Nat} {x : UInt8} (hx : (bts s)[n]? = some x) : n < s.size := (List.getElem?_eq_some_iff.1 hx).1
theorem JT' {s : ByteArray} {n : Nat} (h : (bts s)[n]? = none) : decide (Int.ofNat n < (s.size : Int)) = false := by
 have : (bts s).length ≤ n := List.getElem?_eq_none_iff.1 h
 rw [BJ'] at this
 exact decide_eq_false (by simp only [Z0]; omega)
theorem IY' {l : List UInt8} {n : Nat} (h : BI' l n = true) : n < digE l n ∧ n < l.length := by
 unfold BI' at h
 split at h
 ·rename_i c hc
  have hn := (List.getElem?_eq_some_iff.1 hc).1
  refine ⟨?_, hn⟩
  rw [K0' hc h]
  unfold digE; omega
 ·cases h
theorem HH' {l : List UInt8} {n : Nat} (h : BI' l n = false) : digE l n = n := by
 unfold BI' at h
 split at h
 ·rename_i c hc; exact JZ' hc h
 ·rename_i hc; exact LY' (List.getElem?_eq_none_iff.1 hc)
variable {s : ByteArray} {i : Nat} {x y : UInt8}
theorem pN1E (hs : Few s.size) (hi : i ≤ s.size) (h0 : (bts s)[i]? = none) : CTri Tryz.prog default nm1 (tms 0 97 (aN s i)) [] (fun _ : Unit => .normal) (fun _ => tms 0 97 (aN s (i))) (fun _ => []) := by
 have e0 := JT' h0
 refine BP' (W := default) (g := fRNm) (ρ := Unit) (con := [(fRDg, cRDg), (AV', BB')]) (hints := A9' [(fRNm, 1, 3, hv (.lit false))]) (lc := []) 97 (A' := fun _ => aN s (i)) [] [0, 1] rfl (fun F hF => AC' (B7' F hF) (AO' (B0' F hF))) (fun _ _ => noL) fun F => ?_
 refine Yj (bB' s i 0 F) ⟨⟨?_, rfl, FitT.det (told := aN s (i)) (H := []) (l := []) ⟨rfl, rfl, ⟨Ya, Ya, Ye⟩, Ye⟩ rfl () rfl (Goes.refl _ _)⟩⟩
 simp only [Cnd.holds, Nat.blt_eq, true_and, and_true]
 and_intros
 all_goals first
  | exact A0' e0
  | exact hi
  | exact ⟨hi, hs⟩ | (with_reducible first | exact Ye | exact Yf | exact A4' _ | assumption) | exact Yf | ((repeat (first | exact VW.nil | refine Yg ?_ | refine Yh ?_ | refine Yi ?_)); done)
theorem pN1N (hs : Few s.size) (hi : i ≤ s.size) (h0 : (bts s)[i]? = some x) (h1 : x ≠ 45) : CTri Tryz.prog default nm1 (tms 0 97 (aN s i)) [] (fun _ : Unit => .normal) (fun _ => tms 0 97 (aN s (i))) (fun _ => []) := by
 have e0 := ltTC (AE' h0)
 have b0 := BH' h0
 have l0 := AE' h0
 have e1 : ((x.toNat : Int) == Int.ofNat 45) = false := neB (by decide) rfl h1
 refine BP' (W := default) (g := fRNm) (ρ := Unit) (con := [(fRDg, cRDg), (AV', BB')]) (hints := A9' [(fRNm, 1, 3, hv (.lit true)), (fRNm, 1, 7, h0v (byv x)), (fRNm, 1, 8, hv (.lit false))]) (lc := []) 97 (A' := fun _ => aN s (i)) [] [0, 1] rfl (fun F hF => AC' (B7' F hF) (AO' (B0' F hF))) (fun _ _ => noL) fun F => ?_
 refine Yj (bA' s i x F) ⟨⟨?_, rfl, FitT.det (told := aN s (i)) (H := []) (l := []) ⟨rfl, rfl, ⟨Ya, Ya, Ye⟩, Ye⟩ rfl () rfl (Goes.refl _ _)⟩⟩
 simp only [Cnd.holds, Nat.blt_eq, true_and, and_true]
 and_intros
 all_goals first
  | exact A0' e0
  | exact b0
  | exact l0
  | exact Nat.le_of_lt l0
  | exact A0' e1
  | exact hi
  | exact ⟨hi, hs⟩
  | exact l0
  | exact ⟨l0, hs⟩ | (with_reducible first | exact Ye | exact Yf | exact A4' _ | assumption) | exact Yf | ((repeat (first | exact VW.nil | refine Yg ?_ | refine Yh ?_ | refine Yi ?_)); done)
theorem pN1Y (hs : Few s.size) (hi : i ≤ s.size) (h0 : (bts s)[i]? = some x) (h1 : x = 45) : CTri Tryz.prog default nm1 (tms 0 97 (aN s i)) [] (fun _ : Unit => .normal) (fun _ => tms 0 97 (aN s (i + 1))) (fun _ => []) := by
 have e0 := ltTC (AE' h0)
 have b0 := BH' h0
 have l0 := AE' h0
 have e1 : ((x.toNat : Int) == Int.ofNat 45) = true := eqB (by decide) rfl h1
 have w2 := AU' hs (AE' h0)
 refine BP' (W := default) (g := fRNm) (ρ := Unit) (con := [(fRDg, cRDg), (AV', BB')]) (hints := A9' [(fRNm, 1, 3, hv (.lit true)), (fRNm, 1, 7, h0v (byv x)), (fRNm, 1, 8, hv (.lit true)), (fRNm, 2, 1, hv (iv (Int.ofNat (i + 1))))]) (lc := []) 97 (A' := fun _ => aN s (i + 1)) [] [0, 1] rfl (fun F hF => AC' (B7' F hF) (AO' (B0' F hF))) (fun _ _ => noL) fun F => ?_
 refine Yj (b9' s i x F) ⟨⟨?_, rfl, FitT.det (told := aN s (i + 1)) (H := []) (l := []) ⟨rfl, rfl, ⟨Ya, Ya, Ye⟩, Ye⟩ rfl () rfl (Goes.refl _ _)⟩⟩
 simp only [Cnd.holds, Nat.blt_eq, true_and, and_true]
 and_intros
 all_goals first
  | exact A0' e0
  | exact b0
  | exact l0
  | exact Nat.le_of_lt l0
  | exact A0' e1
  | (with_reducible exact AP' w2)
  | exact hi
  | exact ⟨hi, hs⟩
  | exact l0
  | exact ⟨l0, hs⟩ | (with_reducible first | exact Ye | exact Yf | exact A4' _ | assumption) | exact Yf | ((repeat (first | exact VW.nil | refine Yg ?_ | refine Yh ?_ | refine Yi ?_)); done)
theorem pN2F (hs : Few s.size) (hi : i ≤ s.size) (h0 : BI' (bts s) (i) = false) : CTri Tryz.prog default nm2 (tms 0 97 (aN s i)) [] (fun _ : Unit => .ret) (fun _ => tms 0 97 (rN (i) false)) (fun _ => []) := by
 refine BP' (W := default) (g := fRNm) (ρ := Unit) (con := [(fRDg, cRDg), (AV', BB')]) (hints := A9' [(fRNm, 3, 2, hv (.lit false)), (fRNm, 3, 3, hv (.lit true))]) (lc := []) 97 (A' := fun _ => rN (i) false) [] [4, 5] rfl (fun F hF => AC' (B7' F hF) (AO' (B0' F hF))) (fun _ _ => noL) fun F => ?_
 refine Yj (b8' s i 0 F) ⟨⟨?_, rfl, FitT.det (told := rN (i) false) (H := []) (l := []) ⟨rfl, rfl, ⟨Ya, Ya, Ye⟩, Ye⟩ rfl () rfl (Goes.refl _ _)⟩⟩
 simp only [Cnd.holds, Nat.blt_eq, true_and, and_true]
 and_intros
 all_goals first
  | exact A0' h0
  | exact A4' _
  | exact hi
  | exact ⟨hi, hs⟩ | (with_reducible first | exact Ye | exact Yf | exact A4' _ | assumption) | exact Yf | ((repeat (first | exact VW.nil | refine Yg ?_ | refine Yh ?_ | refine Yi ?_)); done)
theorem pN2T (hs : Few s.size) (hi : i ≤ s.size) (h0 : BI' (bts s) (i) = true) : CTri Tryz.prog default nm2 (tms 0 97 (aN s i)) [] (fun _ : Unit => .normal) (fun _ => tms 0 97 (aN s (i))) (fun _ => []) := by
 refine BP' (W := default) (g := fRNm) (ρ := Unit) (con := [(fRDg, cRDg), (AV', BB')]) (hints := A9' [(fRNm, 3, 2, hv (.lit true)), (fRNm, 3, 3, hv (.lit false))]) (lc := []) 97 (A' := fun _ => aN s (i)) [] [0, 1] rfl (fun F hF => AC' (B7' F hF) (AO' (B0' F hF))) (fun _ _ => noL) fun F => ?_
 refine Yj (b7' s i 0 F) ⟨⟨?_, rfl, FitT.det (told := aN s (i)) (H := []) (l := []) ⟨rfl, rfl, ⟨Ya, Ya, Ye⟩, Ye⟩ rfl () rfl (Goes.refl _ _)⟩⟩
 simp only [Cnd.holds, Nat.blt_eq, true_and, and_true]
 and_intros
 all_goals first
  | exact A0' h0
  | exact A4' _
  | exact hi
  | exact ⟨hi, hs⟩ | (with_reducible first | exact Ye | exact Yf | exact A4' _ | assumption) | exact Yf | ((repeat (first | exact VW.nil | refine Yg ?_ | refine Yh ?_ | refine Yi ?_)); done)
theorem pN3Z (hs : Few s.size) (hi : i ≤ s.size) (h0 : (bts s)[i]? = some x) (h1 : x = 48) : CTri Tryz.prog default nm3 (tms 0 97 (aN s i)) [] (fun _ : Unit => .normal) (fun _ => tms 0 97 (aN s (i + 1))) (fun _ => []) := by
 have e0 := ltTC (AE' h0)
 have b0 := BH' h0
 have l0 := AE' h0
 have e1 : ((x.toNat : Int) == Int.ofNat 48) = true := eqB (by decide) rfl h1
 have w2 := AU' hs (AE' h0)
 refine BP' (W := default) (g := fRNm) (ρ := Unit) (con := [(fRDg, cRDg), (AV', BB')]) (hints := A9' [(fRNm, 5, 2, h0v (byv x)), (fRNm, 5, 3, hv (.lit true)), (fRNm, 6, 1, hv (iv (Int.ofNat (i + 1))))]) (lc := []) 97 (A' := fun _ => aN s (i + 1)) [] [0, 1] rfl (fun F hF => AC' (B7' F hF) (AO' (B0' F hF))) (fun _ _ => noL) fun F => ?_
 refine Yj (b5' s i x F) ⟨⟨?_, rfl, FitT.det (told := aN s (i + 1)) (H := []) (l := []) ⟨rfl, rfl, ⟨Ya, Ya, Ye⟩, Ye⟩ rfl () rfl (Goes.refl _ _)⟩⟩
 simp only [Cnd.holds, Nat.blt_eq, true_and, and_true]
 and_intros
 all_goals first
  | exact A0' e0
  | exact b0
  | exact l0
  | exact Nat.le_of_lt l0
  | exact A0' e1
  | (with_reducible exact AP' w2)
  | exact hi
  | exact ⟨hi, hs⟩
  | exact l0
  | exact ⟨l0, hs⟩ | (with_reducible first | exact Ye | exact Yf | exact A4' _ | assumption) | exact Yf | ((repeat (first | exact VW.nil | refine Yg ?_ | refine Yh ?_ | refine Yi ?_)); done)
theorem pN3D (hs : Few s.size) (hi : i ≤ s.size) (h0 : (bts s)[i]? = some x) (h1 : x ≠ 48) : CTri Tryz.prog default nm3 (tms 0 97 (aN s i)) [] (fun _ : Unit => .normal) (fun _ => tms 0 97 (aN s (digE (bts s) i))) (fun _ => []) := by
 have e0 := ltTC (AE' h0)
 have b0 := BH' h0
 have l0 := AE' h0
 have e1 : ((x.toNat : Int) == Int.ofNat 48) = false := neB (by decide) rfl h1
 refine BP' (W := default) (g := fRNm) (ρ := Unit) (con := [(fRDg, cRDg), (AV', BB')]) (hints := A9' [(fRNm, 5, 2, h0v (byv x)), (fRNm, 5, 3, hv (.lit false))]) (lc := []) 97 (A' := fun _ => aN s (digE (bts s) i)) [] [0, 1] rfl (fun F hF => AC' (B7' F hF) (AO' (B0' F hF))) (fun _ _ => noL) fun F => ?_
 refine Yj (b6' s i x F) ⟨⟨?_, rfl, FitT.det (told := aN s (digE (bts s) i)) (H := []) (l := []) ⟨rfl, rfl, ⟨Ya, Ya, Ye⟩, Ye⟩ rfl () rfl (Goes.refl _ _)⟩⟩
 simp only [Cnd.holds, Nat.blt_eq, true_and, and_true]
 and_intros
 all_goals first
  | exact A0' e0
  | exact b0
  | exact l0
  | exact Nat.le_of_lt l0
  | exact A0' e1
  | exact hi
  | exact ⟨hi, hs⟩
  | exact l0
  | exact ⟨l0, hs⟩ | (with_reducible first | exact Ye | exact Yf | exact A4' _ | assumption) | exact Yf | ((repeat (first | exact VW.nil | refine Yg ?_ | refine Yh ?_ | refine Yi ?_)); done)
theorem pN4E (hs : Few s.size) (hi : i ≤ s.size) (h0 : (bts s)[i]? = none) : CTri Tryz.prog default nm4 (tms 0 97 (aN s i)) [] (fun _ : Unit => .normal) (fun _ => tms 0 97 (aN s (i))) (fun _ => []) := by
 have e0 := JT' h0
 refine BP' (W := default) (g := fRNm) (ρ := Unit) (con := [(fRDg, cRDg), (AV', BB')]) (hints := A9' [(fRNm, 8, 3, hv (.lit false))]) (lc := []) 97 (A' := fun _ => aN s (i)) [] [0, 1] rfl (fun F hF => AC' (B7' F hF) (AO' (B0' F hF))) (fun _ _ => noL) fun F => ?_
 refine Yj (b4' s i 0 F) ⟨⟨?_, rfl, FitT.det (told := aN s (i)) (H := []) (l := []) ⟨rfl, rfl, ⟨Ya, Ya, Ye⟩, Ye⟩ rfl () rfl (Goes.refl _ _)⟩⟩
 simp only [Cnd.holds, Nat.blt_eq, true_and, and_true]
 and_intros
 all_goals first
  | exact A0' e0
  | exact hi
  | exact ⟨hi, hs⟩ | (with_reducible first | exact Ye | exact Yf | exact A4' _ | assumption) | exact Yf | ((repeat (first | exact VW.nil | refine Yg ?_ | refine Yh ?_ | refine Yi ?_)); done)
theorem pN4N (hs : Few s.size) (hi : i ≤ s.size) (h0 : (bts s)[i]? = some x) (h1 : x ≠ 46) : CTri Tryz.prog default nm4 (tms 0 97 (aN s i)) [] (fun _ : Unit => .normal) (fun _ => tms 0 97 (aN s (i))) (fun _ => []) := by
 have e0 := ltTC (AE' h0)
 have b0 := BH' h0
 have l0 := AE' h0
 have e1 : ((x.toNat : Int) == Int.ofNat 46) = false := neB (by decide) rfl h1
 refine BP' (W := default) (g := fRNm) (ρ := Unit) (con := [(fRDg, cRDg), (AV', BB')]) (hints := A9' [(fRNm, 8, 3, hv (.lit true)), (fRNm, 8, 7, h0v (byv x)), (fRNm, 8, 8, hv (.lit false))]) (lc := []) 97 (A' := fun _ => aN s (i)) [] [0, 1] rfl (fun F hF => AC' (B7' F hF) (AO' (B0' F hF))) (fun _ _ => noL) fun F => ?_
 refine Yj (b3' s i x F) ⟨⟨?_, rfl, FitT.det (told := aN s (i)) (H := []) (l := []) ⟨rfl, rfl, ⟨Ya, Ya, Ye⟩, Ye⟩ rfl () rfl (Goes.refl _ _)⟩⟩
 simp only [Cnd.holds, Nat.blt_eq, true_and, and_true]
 and_intros
 all_goals first
  | exact A0' e0
  | exact b0
  | exact l0
  | exact Nat.le_of_lt l0
  | exact A0' e1
  | exact hi
  | exact ⟨hi, hs⟩
  | exact l0
  | exact ⟨l0, hs⟩ | (with_reducible first | exact Ye | exact Yf | exact A4' _ | assumption) | exact Yf | ((repeat (first | exact VW.nil | refine Yg ?_ | refine Yh ?_ | refine Yi ?_)); done)
theorem pN4YF (hs : Few s.size) (hi : i ≤ s.size) (h0 : (bts s)[i]? = some x) (h1 : x = 46) (h3 : BI' (bts s) (i + 1) = false) : CTri Tryz.prog default nm4 (tms 0 97 (aN s i)) [] (fun _ : Unit => .ret) (fun _ => tms 0 97 (rN (i + 1) false)) (fun _ => []) := by
 have e0 := ltTC (AE' h0)
 have b0 := BH' h0
 have l0 := AE' h0
 have e1 : ((x.toNat : Int) == Int.ofNat 46) = true := eqB (by decide) rfl h1
 have w2 := AU' hs (AE' h0)
 refine BP' (W := default) (g := fRNm) (ρ := Unit) (con := [(fRDg, cRDg), (AV', BB')]) (hints := A9' [(fRNm, 8, 3, hv (.lit true)), (fRNm, 8, 7, h0v (byv x)), (fRNm, 8, 8, hv (.lit true)), (fRNm, 9, 1, hv (iv (Int.ofNat (i + 1)))), (fRNm, 10, 2, hv (.lit false)), (fRNm, 10, 3, hv (.lit true))]) (lc := []) 97 (A' := fun _ => rN (i + 1) false) [] [4, 5] rfl (fun F hF => AC' (B7' F hF) (AO' (B0' F hF))) (fun _ _ => noL) fun F => ?_
 refine Yj (WN' s i x F) ⟨⟨?_, rfl, FitT.det (told := rN (i + 1) false) (H := []) (l := []) ⟨rfl, rfl, ⟨Ya, Ya, Ye⟩, Ye⟩ rfl () rfl (Goes.refl _ _)⟩⟩
 simp only [Cnd.holds, Nat.blt_eq, true_and, and_true]
 and_intros
 all_goals first
  | exact A0' e0
  | exact b0
  | exact l0
  | exact Nat.le_of_lt l0
  | exact A0' e1
  | (with_reducible exact AP' w2)
  | exact A0' h3
  | exact A4' _
  | exact hi
  | exact ⟨hi, hs⟩
  | exact l0
  | exact ⟨l0, hs⟩ | (with_reducible first | exact Ye | exact Yf | exact A4' _ | assumption) | exact Yf | ((repeat (first | exact VW.nil | refine Yg ?_ | refine Yh ?_ | refine Yi ?_)); done)
theorem pN4YT (hs : Few s.size) (hi : i ≤ s.size) (h0 : (bts s)[i]? = some x) (h1 : x = 46) (h3 : BI' (bts s) (i + 1) = true) : CTri Tryz.prog default nm4 (tms 0 97 (aN s i)) [] (fun _ : Unit => .normal) (fun _ => tms 0 97 (aN s (digE (bts s) (i + 1)))) (fun _ => []) := by
 have e0 := ltTC (AE' h0)
 have b0 := BH' h0
 have l0 := AE' h0
 have e1 : ((x.toNat : Int) == Int.ofNat 46) = true := eqB (by decide) rfl h1
 have w2 := AU' hs (AE' h0)
 refine BP' (W := default) (g := fRNm) (ρ := Unit) (con := [(fRDg, cRDg), (AV', BB')]) (hints := A9' [(fRNm, 8, 3, hv (.lit true)), (fRNm, 8, 7, h0v (byv x)), (fRNm, 8, 8, hv (.lit true)), (fRNm, 9, 1, hv (iv (Int.ofNat (i + 1)))), (fRNm, 10, 2, hv (.lit true)), (fRNm, 10, 3, hv (.lit false))]) (lc := []) 97 (A' := fun _ => aN s (digE (bts s) (i + 1))) [] [0, 1] rfl (fun F hF => AC' (B7' F hF) (AO' (B0' F hF))) (fun _ _ => noL) fun F => ?_
 refine Yj (WM' s i x F) ⟨⟨?_, rfl, FitT.det (told := aN s (digE (bts s) (i + 1))) (H := []) (l := []) ⟨rfl, rfl, ⟨Ya, Ya, Ye⟩, Ye⟩ rfl () rfl (Goes.refl _ _)⟩⟩
 simp only [Cnd.holds, Nat.blt_eq, true_and, and_true]
 and_intros
 all_goals first
  | exact A0' e0
  | exact b0
  | exact l0
  | exact Nat.le_of_lt l0
  | exact A0' e1
  | (with_reducible exact AP' w2)
  | exact A0' h3
  | exact A4' _
  | exact hi
  | exact ⟨hi, hs⟩
  | exact l0
  | exact ⟨l0, hs⟩ | (with_reducible first | exact Ye | exact Yf | exact A4' _ | assumption) | exact Yf | ((repeat (first | exact VW.nil | refine Yg ?_ | refine Yh ?_ | refine Yi ?_)); done)
theorem pN5E (hs : Few s.size) (hi : i ≤ s.size) (h0 : (bts s)[i]? = none) : CTri Tryz.prog default nm5 (tms 0 97 (aN s i)) [] (fun _ : Unit => .normal) (fun _ => tms 0 97 (aN s (i))) (fun _ => []) := by
 have e0 := JT' h0
 refine BP' (W := default) (g := fRNm) (ρ := Unit) (con := [(fRDg, cRDg), (AV', BB')]) (hints := A9' [(fRNm, 13, 3, hv (.lit false))]) (lc := []) 97 (A' := fun _ => aN s (i)) [] [0, 1] rfl (fun F hF => AC' (B7' F hF) (AO' (B0' F hF))) (fun _ _ => noL) fun F => ?_
 refine Yj (b2' s i 0 F) ⟨⟨?_, rfl, FitT.det (told := aN s (i)) (H := []) (l := []) ⟨rfl, rfl, ⟨Ya, Ya, Ye⟩, Ye⟩ rfl () rfl (Goes.refl _ _)⟩⟩
 simp only [Cnd.holds, Nat.blt_eq, true_and, and_true]
 and_intros
 all_goals first
  | exact A0' e0
  | exact hi
  | exact ⟨hi, hs⟩ | (with_reducible first | exact Ye | exact Yf | exact A4' _ | assumption) | exact Yf | ((repeat (first | exact VW.nil | refine Yg ?_ | refine Yh ?_ | refine Yi ?_)); done)
theorem pN5N (hs : Few s.size) (hi : i ≤ s.size) (h0 : (bts s)[i]? = some x) (h1 : x ≠ 101) (h2 : x ≠ 69) : CTri Tryz.prog default nm5 (tms 0 97 (aN s i)) [] (fun _ : Unit => .normal) (fun _ => tms 0 97 (aN s (i))) (fun _ => []) := by
 have e0 := ltTC (AE' h0)
 have b0 := BH' h0
 have l0 := AE' h0
 have e1 : ((x.toNat : Int) == Int.ofNat 101) = false := neB (by decide) rfl h1
 have e2 : ((x.toNat : Int) == Int.ofNat 69) = false := neB (by decide) rfl h2
 refine BP' (W := default) (g := fRNm) (ρ := Unit) (con := [(fRDg, cRDg), (AV', BB')]) (hints := A9' [(fRNm, 13, 3, hv (.lit true)), (fRNm, 13, 7, h0v (byv x)), (fRNm, 13, 8, hv (.lit false)), (fRNm, 13, 12, h0v (byv x)), (fRNm, 13, 13, hv (.lit false))]) (lc := []) 97 (A' := fun _ => aN s (i)) [] [0, 1] rfl (fun F hF => AC' (B7' F hF) (AO' (B0' F hF))) (fun _ _ => noL) fun F => ?_
 refine Yj (b1' s i x F) ⟨⟨?_, rfl, FitT.det (told := aN s (i)) (H := []) (l := []) ⟨rfl, rfl, ⟨Ya, Ya, Ye⟩, Ye⟩ rfl () rfl (Goes.refl _ _)⟩⟩
 simp only [Cnd.holds, Nat.blt_eq, true_and, and_true]
 and_intros
 all_goals first
  | exact A0' e0
  | exact b0
  | exact l0
  | exact Nat.le_of_lt l0
  | exact A0' e1
  | exact A0' e2
  | exact hi
  | exact ⟨hi, hs⟩
  | exact l0
  | exact ⟨l0, hs⟩ | (with_reducible first | exact Ye | exact Yf | exact A4' _ | assumption) | exact Yf | ((repeat (first | exact VW.nil | refine Yg ?_ | refine Yh ?_ | refine Yi ?_)); done)
theorem pN5eEF (hs : Few s.size) (hi : i ≤ s.size) (h0 : (bts s)[i]? = some x) (h1 : x = 101) (h3 : (bts s)[i + 1]? = none) (h4 : BI' (bts s) (i + 1) = false) : CTri Tryz.prog default nm5 (tms 0 97 (aN s i)) [] (fun _ : Unit => .ret) (fun _ => tms 0 97 (rN (i + 1) false)) (fun _ => []) := by
 have e0 := ltTC (AE' h0)
 have b0 := BH' h0
 have l0 := AE' h0
 have e1 : ((x.toNat : Int) == Int.ofNat 101) = true := eqB (by decide) rfl h1
 have w2 := AU' hs (AE' h0)
 have e3 := JT' h3
 refine BP' (W := default) (g := fRNm) (ρ := Unit) (con := [(fRDg, cRDg), (AV', BB')]) (hints := A9' [(fRNm, 13, 3, hv (.lit true)), (fRNm, 13, 7, h0v (byv x)), (fRNm, 13, 8, hv (.lit true)), (fRNm, 14, 1, hv (iv (Int.ofNat (i + 1)))), (fRNm, 15, 3, hv (.lit false)), (fRNm, 17, 2, hv (.lit false)), (fRNm, 17, 3, hv (.lit true))]) (lc := []) 97 (A' := fun _ => rN (i + 1) false) [] [4, 5] rfl (fun F hF => AC' (B7' F hF) (AO' (B0' F hF))) (fun _ _ => noL) fun F => ?_
 refine Yj (TD' s i x 0 F) ⟨⟨?_, rfl, FitT.det (told := rN (i + 1) false) (H := []) (l := []) ⟨rfl, rfl, ⟨Ya, Ya, Ye⟩, Ye⟩ rfl () rfl (Goes.refl _ _)⟩⟩
 simp only [Cnd.holds, Nat.blt_eq, true_and, and_true]
 and_intros
 all_goals first
  | exact A0' e0
  | exact b0
  | exact l0
  | exact Nat.le_of_lt l0
  | exact A0' e1
  | (with_reducible exact AP' w2)
  | exact A0' e3
  | exact A0' h4
  | exact A4' _
  | exact hi
  | exact ⟨hi, hs⟩
  | exact l0
  | exact ⟨l0, hs⟩ | (with_reducible first | exact Ye | exact Yf | exact A4' _ | assumption) | exact Yf | ((repeat (first | exact VW.nil | refine Yg ?_ | refine Yh ?_ | refine Yi ?_)); done)
theorem pN5eNF (hs : Few s.size) (hi : i ≤ s.size) (h0 : (bts s)[i]? = some x) (h1 : x = 101) (h3 : (bts s)[i + 1]? = some y) (h4 : y ≠ 43) (h5 : y ≠ 45) (h6 : BI' (bts s) (i + 1) = false) : CTri Tryz.prog default nm5 (tms 0 97 (aN s i)) [] (fun _ : Unit => .ret) (fun _ => tms 0 97 (rN (i + 1) false)) (fun _ => []) := by
 have e0 := ltTC (AE' h0)
 have b0 := BH' h0
 have l0 := AE' h0
 have e1 : ((x.toNat : Int) == Int.ofNat 101) = true := eqB (by decide) rfl h1
 have w2 := AU' hs (AE' h0)
 have e3 := ltTC (AE' h3)
 have b3 := BH' h3
 have l3 := AE' h3
 have e4 : ((y.toNat : Int) == Int.ofNat 43) = false := neB (by decide) rfl h4
 have e5 : ((y.toNat : Int) == Int.ofNat 45) = false := neB (by decide) rfl h5
 refine BP' (W := default) (g := fRNm) (ρ := Unit) (con := [(fRDg, cRDg), (AV', BB')]) (hints := A9' [(fRNm, 13, 3, hv (.lit true)), (fRNm, 13, 7, h0v (byv x)), (fRNm, 13, 8, hv (.lit true)), (fRNm, 14, 1, hv (iv (Int.ofNat (i + 1)))), (fRNm, 15, 3, hv (.lit true)), (fRNm, 15, 7, h0v (byv y)), (fRNm, 15, 8, hv (.lit false)), (fRNm, 15, 12, h0v (byv y)), (fRNm, 15, 13, hv (.lit false)), (fRNm, 17, 2, hv (.lit false)), (fRNm, 17, 3, hv (.lit true))]) (lc := []) 97 (A' := fun _ => rN (i + 1) false) [] [4, 5] rfl (fun F hF => AC' (B7' F hF) (AO' (B0' F hF))) (fun _ _ => noL) fun F => ?_
 refine Yj (TA' s i x y F) ⟨⟨?_, rfl, FitT.det (told := rN (i + 1) false) (H := []) (l := []) ⟨rfl, rfl, ⟨Ya, Ya, Ye⟩, Ye⟩ rfl () rfl (Goes.refl _ _)⟩⟩
 simp only [Cnd.holds, Nat.blt_eq, true_and, and_true]
 and_intros
 all_goals first
  | exact A0' e0
  | exact b0
  | exact l0
  | exact Nat.le_of_lt l0
  | exact A0' e1
  | (with_reducible exact AP' w2)
  | exact A0' e3
  | exact b3
  | exact l3
  | exact Nat.le_of_lt l3
  | exact A0' e4
  | exact A0' e5
  | exact A0' h6
  | exact A4' _
  | exact hi
  | exact ⟨hi, hs⟩
  | exact l0
  | exact ⟨l0, hs⟩
  | exact l3
  | exact ⟨l3, hs⟩ | (with_reducible first | exact Ye | exact Yf | exact A4' _ | assumption) | exact Yf | ((repeat (first | exact VW.nil | refine Yg ?_ | refine Yh ?_ | refine Yi ?_)); done)
theorem pN5eNT (hs : Few s.size) (hi : i ≤ s.size) (h0 : (bts s)[i]? = some x) (h1 : x = 101) (h3 : (bts s)[i + 1]? = some y) (h4 : y ≠ 43) (h5 : y ≠ 45) (h6 : BI' (bts s) (i + 1) = true) : CTri Tryz.prog default nm5 (tms 0 97 (aN s i)) [] (fun _ : Unit => .normal) (fun _ => tms 0 97 (aN s (digE (bts s) (i + 1)))) (fun _ => []) := by
 have e0 := ltTC (AE' h0)
 have b0 := BH' h0
 have l0 := AE' h0
 have e1 : ((x.toNat : Int) == Int.ofNat 101) = true := eqB (by decide) rfl h1
 have w2 := AU' hs (AE' h0)
 have e3 := ltTC (AE' h3)
 have b3 := BH' h3
 have l3 := AE' h3
 have e4 : ((y.toNat : Int) == Int.ofNat 43) = false := neB (by decide) rfl h4
 have e5 : ((y.toNat : Int) == Int.ofNat 45) = false := neB (by decide) rfl h5
 refine BP' (W := default) (g := fRNm) (ρ := Unit) (con := [(fRDg, cRDg), (AV', BB')]) (hints := A9' [(fRNm, 13, 3, hv (.lit true)), (fRNm, 13, 7, h0v (byv x)), (fRNm, 13, 8, hv (.lit true)), (fRNm, 14, 1, hv (iv (Int.ofNat (i + 1)))), (fRNm, 15, 3, hv (.lit true)), (fRNm, 15, 7, h0v (byv y)), (fRNm, 15, 8, hv (.lit false)), (fRNm, 15, 12, h0v (byv y)), (fRNm, 15, 13, hv (.lit false)), (fRNm, 17, 2, hv (.lit true)), (fRNm, 17, 3, hv (.lit false))]) (lc := []) 97 (A' := fun _ => aN s (digE (bts s) (i + 1))) [] [0, 1] rfl (fun F hF => AC' (B7' F hF) (AO' (B0' F hF))) (fun _ _ => noL) fun F => ?_
 refine Yj (T9' s i x y F) ⟨⟨?_, rfl, FitT.det (told := aN s (digE (bts s) (i + 1))) (H := []) (l := []) ⟨rfl, rfl, ⟨Ya, Ya, Ye⟩, Ye⟩ rfl () rfl (Goes.refl _ _)⟩⟩
 simp only [Cnd.holds, Nat.blt_eq, true_and, and_true]
 and_intros
 all_goals first
  | exact A0' e0
  | exact b0
  | exact l0
  | exact Nat.le_of_lt l0
  | exact A0' e1
  | (with_reducible exact AP' w2)
  | exact A0' e3
  | exact b3
  | exact l3
  | exact Nat.le_of_lt l3
  | exact A0' e4
  | exact A0' e5
  | exact A0' h6
  | exact A4' _
  | exact hi
  | exact ⟨hi, hs⟩
  | exact l0
  | exact ⟨l0, hs⟩
  | exact l3
  | exact ⟨l3, hs⟩ | (with_reducible first | exact Ye | exact Yf | exact A4' _ | assumption) | exact Yf | ((repeat (first | exact VW.nil | refine Yg ?_ | refine Yh ?_ | refine Yi ?_)); done)
theorem pN5ePF (hs : Few s.size) (hi : i ≤ s.size) (h0 : (bts s)[i]? = some x) (h1 : x = 101) (h3 : (bts s)[i + 1]? = some y) (h4 : y = 43) (h6 : BI' (bts s) (i + 1 + 1) = false) : CTri Tryz.prog default nm5 (tms 0 97 (aN s i)) [] (fun _ : Unit => .ret) (fun _ => tms 0 97 (rN (i + 1 + 1) false)) (fun _ => []) := by
 have e0 := ltTC (AE' h0)
 have b0 := BH' h0
 have l0 := AE' h0
 have e1 : ((x.toNat : Int) == Int.ofNat 101) = true := eqB (by decide) rfl h1
 have w2 := AU' hs (AE' h0)
 have e3 := ltTC (AE' h3)
 have b3 := BH' h3
 have l3 := AE' h3
 have e4 : ((y.toNat : Int) == Int.ofNat 43) = true := eqB (by decide) rfl h4
 have w5 := AU' hs (AE' h3)
 refine BP' (W := default) (g := fRNm) (ρ := Unit) (con := [(fRDg, cRDg), (AV', BB')]) (hints := A9' [(fRNm, 13, 3, hv (.lit true)), (fRNm, 13, 7, h0v (byv x)), (fRNm, 13, 8, hv (.lit true)), (fRNm, 14, 1, hv (iv (Int.ofNat (i + 1)))), (fRNm, 15, 3, hv (.lit true)), (fRNm, 15, 7, h0v (byv y)), (fRNm, 15, 8, hv (.lit true)), (fRNm, 16, 1, hv (iv (Int.ofNat (i + 1 + 1)))), (fRNm, 17, 2, hv (.lit false)), (fRNm, 17, 3, hv (.lit true))]) (lc := []) 97 (A' := fun _ => rN (i + 1 + 1) false) [] [4, 5] rfl (fun F hF => AC' (B7' F hF) (AO' (B0' F hF))) (fun _ _ => noL) fun F => ?_
 refine Yj (T8' s i x y F) ⟨⟨?_, rfl, FitT.det (told := rN (i + 1 + 1) false) (H := []) (l := []) ⟨rfl, rfl, ⟨Ya, Ya, Ye⟩, Ye⟩ rfl () rfl (Goes.refl _ _)⟩⟩
 simp only [Cnd.holds, Nat.blt_eq, true_and, and_true]
 and_intros
 all_goals first
  | exact A0' e0
  | exact b0
  | exact l0
  | exact Nat.le_of_lt l0
  | exact A0' e1
  | (with_reducible exact AP' w2)
  | exact A0' e3
  | exact b3
  | exact l3
  | exact Nat.le_of_lt l3
  | exact A0' e4
  | (with_reducible exact AP' w5)
  | exact A0' h6
  | exact A4' _
  | exact hi
  | exact ⟨hi, hs⟩
  | exact l0
  | exact ⟨l0, hs⟩
  | exact l3
  | exact ⟨l3, hs⟩ | (with_reducible first | exact Ye | exact Yf | exact A4' _ | assumption) | exact Yf | ((repeat (first | exact VW.nil | refine Yg ?_ | refine Yh ?_ | refine Yi ?_)); done)
theorem pN5ePT (hs : Few s.size) (hi : i ≤ s.size) (h0 : (bts s)[i]? = some x) (h1 : x = 101) (h3 : (bts s)[i + 1]? = some y) (h4 : y = 43) (h6 : BI' (bts s) (i + 1 + 1) = true) : CTri Tryz.prog default nm5 (tms 0 97 (aN s i)) [] (fun _ : Unit => .normal) (fun _ => tms 0 97 (aN s (digE (bts s) (i + 1 + 1)))) (fun _ => []) := by
 have e0 := ltTC (AE' h0)
 have b0 := BH' h0
 have l0 := AE' h0
 have e1 : ((x.toNat : Int) == Int.ofNat 101) = true := eqB (by decide) rfl h1
 have w2 := AU' hs (AE' h0)
 have e3 := ltTC (AE' h3)
 have b3 := BH' h3
 have l3 := AE' h3
 have e4 : ((y.toNat : Int) == Int.ofNat 43) = true := eqB (by decide) rfl h4
 have w5 := AU' hs (AE' h3)
 refine BP' (W := default) (g := fRNm) (ρ := Unit) (con := [(fRDg, cRDg), (AV', BB')]) (hints := A9' [(fRNm, 13, 3, hv (.lit true)), (fRNm, 13, 7, h0v (byv x)), (fRNm, 13, 8, hv (.lit true)), (fRNm, 14, 1, hv (iv (Int.ofNat (i + 1)))), (fRNm, 15, 3, hv (.lit true)), (fRNm, 15, 7, h0v (byv y)), (fRNm, 15, 8, hv (.lit true)), (fRNm, 16, 1, hv (iv (Int.ofNat (i + 1 + 1)))), (fRNm, 17, 2, hv (.lit true)), (fRNm, 17, 3, hv (.lit false))]) (lc := []) 97 (A' := fun _ => aN s (digE (bts s) (i + 1 + 1))) [] [0, 1] rfl (fun F hF => AC' (B7' F hF) (AO' (B0' F hF))) (fun _ _ => noL) fun F => ?_
 refine Yj (T7' s i x y F) ⟨⟨?_, rfl, FitT.det (told := aN s (digE (bts s) (i + 1 + 1))) (H := []) (l := []) ⟨rfl, rfl, ⟨Ya, Ya, Ye⟩, Ye⟩ rfl () rfl (Goes.refl _ _)⟩⟩
 simp only [Cnd.holds, Nat.blt_eq, true_and, and_true]
 and_intros
 all_goals first
  | exact A0' e0
  | exact b0
  | exact l0
  | exact Nat.le_of_lt l0
  | exact A0' e1
  | (with_reducible exact AP' w2)
  | exact A0' e3
  | exact b3
  | exact l3
  | exact Nat.le_of_lt l3
  | exact A0' e4
  | (with_reducible exact AP' w5)
  | exact A0' h6
  | exact A4' _
  | exact hi
  | exact ⟨hi, hs⟩
  | exact l0
  | exact ⟨l0, hs⟩
  | exact l3
  | exact ⟨l3, hs⟩ | (with_reducible first | exact Ye | exact Yf | exact A4' _ | assumption) | exact Yf | ((repeat (first | exact VW.nil | refine Yg ?_ | refine Yh ?_ | refine Yi ?_)); done)
theorem pN5eMF (hs : Few s.size) (hi : i ≤ s.size) (h0 : (bts s)[i]? = some x) (h1 : x = 101) (h3 : (bts s)[i + 1]? = some y) (h4 : y ≠ 43) (h5 : y = 45) (h7 : BI' (bts s) (i + 1 + 1) = false) : CTri Tryz.prog default nm5 (tms 0 97 (aN s i)) [] (fun _ : Unit => .ret) (fun _ => tms 0 97 (rN (i + 1 + 1) false)) (fun _ => []) := by
 have e0 := ltTC (AE' h0)
 have b0 := BH' h0
 have l0 := AE' h0
 have e1 : ((x.toNat : Int) == Int.ofNat 101) = true := eqB (by decide) rfl h1
 have w2 := AU' hs (AE' h0)
 have e3 := ltTC (AE' h3)
 have b3 := BH' h3
 have l3 := AE' h3
 have e4 : ((y.toNat : Int) == Int.ofNat 43) = false := neB (by decide) rfl h4
 have e5 : ((y.toNat : Int) == Int.ofNat 45) = true := eqB (by decide) rfl h5
 have w6 := AU' hs (AE' h3)
 refine BP' (W := default) (g := fRNm) (ρ := Unit) (con := [(fRDg, cRDg), (AV', BB')]) (hints := A9' [(fRNm, 13, 3, hv (.lit true)), (fRNm, 13, 7, h0v (byv x)), (fRNm, 13, 8, hv (.lit true)), (fRNm, 14, 1, hv (iv (Int.ofNat (i + 1)))), (fRNm, 15, 3, hv (.lit true)), (fRNm, 15, 7, h0v (byv y)), (fRNm, 15, 8, hv (.lit false)), (fRNm, 15, 12, h0v (byv y)), (fRNm, 15, 13, hv (.lit true)), (fRNm, 16, 1, hv (iv (Int.ofNat (i + 1 + 1)))), (fRNm, 17, 2, hv (.lit false)), (fRNm, 17, 3, hv (.lit true))]) (lc := []) 97 (A' := fun _ => rN (i + 1 + 1) false) [] [4, 5] rfl (fun F hF => AC' (B7' F hF) (AO' (B0' F hF))) (fun _ _ => noL) fun F => ?_
 refine Yj (TC' s i x y F) ⟨⟨?_, rfl, FitT.det (told := rN (i + 1 + 1) false) (H := []) (l := []) ⟨rfl, rfl, ⟨Ya, Ya, Ye⟩, Ye⟩ rfl () rfl (Goes.refl _ _)⟩⟩
 simp only [Cnd.holds, Nat.blt_eq, true_and, and_true]
 and_intros
 all_goals first
  | exact A0' e0
  | exact b0
  | exact l0
  | exact Nat.le_of_lt l0
  | exact A0' e1
  | (with_reducible exact AP' w2)
  | exact A0' e3
  | exact b3
  | exact l3
  | exact Nat.le_of_lt l3
  | exact A0' e4
  | exact A0' e5
  | (with_reducible exact AP' w6)
  | exact A0' h7
  | exact A4' _
  | exact hi
  | exact ⟨hi, hs⟩
  | exact l0
  | exact ⟨l0, hs⟩
  | exact l3
  | exact ⟨l3, hs⟩ | (with_reducible first | exact Ye | exact Yf | exact A4' _ | assumption) | exact Yf | ((repeat (first | exact VW.nil | refine Yg ?_ | refine Yh ?_ | refine Yi ?_)); done)
theorem pN5eMT (hs : Few s.size) (hi : i ≤ s.size) (h0 : (bts s)[i]? = some x) (h1 : x = 101) (h3 : (bts s)[i + 1]? = some y) (h4 : y ≠ 43) (h5 : y = 45) (h7 : BI' (bts s) (i + 1 + 1) = true) : CTri Tryz.prog default nm5 (tms 0 97 (aN s i)) [] (fun _ : Unit => .normal) (fun _ => tms 0 97 (aN s (digE (bts s) (i + 1 + 1)))) (fun _ => []) := by
 have e0 := ltTC (AE' h0)
 have b0 := BH' h0
 have l0 := AE' h0
 have e1 : ((x.toNat : Int) == Int.ofNat 101) = true := eqB (by decide) rfl h1
 have w2 := AU' hs (AE' h0)
 have e3 := ltTC (AE' h3)
 have b3 := BH' h3
 have l3 := AE' h3
 have e4 : ((y.toNat : Int) == Int.ofNat 43) = false := neB (by decide) rfl h4
 have e5 : ((y.toNat : Int) == Int.ofNat 45) = true := eqB (by decide) rfl h5
 have w6 := AU' hs (AE' h3)
 refine BP' (W := default) (g := fRNm) (ρ := Unit) (con := [(fRDg, cRDg), (AV', BB')]) (hints := A9' [(fRNm, 13, 3, hv (.lit true)), (fRNm, 13, 7, h0v (byv x)), (fRNm, 13, 8, hv (.lit true)), (fRNm, 14, 1, hv (iv (Int.ofNat (i + 1)))), (fRNm, 15, 3, hv (.lit true)), (fRNm, 15, 7, h0v (byv y)), (fRNm, 15, 8, hv (.lit false)), (fRNm, 15, 12, h0v (byv y)), (fRNm, 15, 13, hv (.lit true)), (fRNm, 16, 1, hv (iv (Int.ofNat (i + 1 + 1)))), (fRNm, 17, 2, hv (.lit true)), (fRNm, 17, 3, hv (.lit false))]) (lc := []) 97 (A' := fun _ => aN s (digE (bts s) (i + 1 + 1))) [] [0, 1] rfl (fun F hF => AC' (B7' F hF) (AO' (B0' F hF))) (fun _ _ => noL) fun F => ?_
 refine Yj (TB' s i x y F) ⟨⟨?_, rfl, FitT.det (told := aN s (digE (bts s) (i + 1 + 1))) (H := []) (l := []) ⟨rfl, rfl, ⟨Ya, Ya, Ye⟩, Ye⟩ rfl () rfl (Goes.refl _ _)⟩⟩
 simp only [Cnd.holds, Nat.blt_eq, true_and, and_true]
 and_intros
 all_goals first
  | exact A0' e0
  | exact b0
  | exact l0
  | exact Nat.le_of_lt l0
  | exact A0' e1
  | (with_reducible exact AP' w2)
  | exact A0' e3
  | exact b3
  | exact l3
  | exact Nat.le_of_lt l3
  | exact A0' e4
  | exact A0' e5
  | (with_reducible exact AP' w6)
  | exact A0' h7
  | exact A4' _
  | exact hi
  | exact ⟨hi, hs⟩
  | exact l0
  | exact ⟨l0, hs⟩
  | exact l3
  | exact ⟨l3, hs⟩ | (with_reducible first | exact Ye | exact Yf | exact A4' _ | assumption) | exact Yf | ((repeat (first | exact VW.nil | refine Yg ?_ | refine Yh ?_ | refine Yi ?_)); done)
theorem pN5UEF (hs : Few s.size) (hi : i ≤ s.size) (h0 : (bts s)[i]? = some x) (h1 : x ≠ 101) (h2 : x = 69) (h4 : (bts s)[i + 1]? = none) (h5 : BI' (bts s) (i + 1) = false) : CTri Tryz.prog default nm5 (tms 0 97 (aN s i)) [] (fun _ : Unit => .ret) (fun _ => tms 0 97 (rN (i + 1) false)) (fun _ => []) := by
 have e0 := ltTC (AE' h0)
 have b0 := BH' h0
 have l0 := AE' h0
 have e1 : ((x.toNat : Int) == Int.ofNat 101) = false := neB (by decide) rfl h1
 have e2 : ((x.toNat : Int) == Int.ofNat 69) = true := eqB (by decide) rfl h2
 have w3 := AU' hs (AE' h0)
 have e4 := JT' h4
 refine BP' (W := default) (g := fRNm) (ρ := Unit) (con := [(fRDg, cRDg), (AV', BB')]) (hints := A9' [(fRNm, 13, 3, hv (.lit true)), (fRNm, 13, 7, h0v (byv x)), (fRNm, 13, 8, hv (.lit false)), (fRNm, 13, 12, h0v (byv x)), (fRNm, 13, 13, hv (.lit true)), (fRNm, 14, 1, hv (iv (Int.ofNat (i + 1)))), (fRNm, 15, 3, hv (.lit false)), (fRNm, 17, 2, hv (.lit false)), (fRNm, 17, 3, hv (.lit true))]) (lc := []) 97 (A' := fun _ => rN (i + 1) false) [] [4, 5] rfl (fun F hF => AC' (B7' F hF) (AO' (B0' F hF))) (fun _ _ => noL) fun F => ?_
 refine Yj (TK' s i x 0 F) ⟨⟨?_, rfl, FitT.det (told := rN (i + 1) false) (H := []) (l := []) ⟨rfl, rfl, ⟨Ya, Ya, Ye⟩, Ye⟩ rfl () rfl (Goes.refl _ _)⟩⟩
 simp only [Cnd.holds, Nat.blt_eq, true_and, and_true]
 and_intros
 all_goals first
  | exact A0' e0
  | exact b0
  | exact l0
  | exact Nat.le_of_lt l0
  | exact A0' e1
  | exact A0' e2
  | (with_reducible exact AP' w3)
  | exact A0' e4
  | exact A0' h5
  | exact A4' _
  | exact hi
  | exact ⟨hi, hs⟩
  | exact l0
  | exact ⟨l0, hs⟩ | (with_reducible first | exact Ye | exact Yf | exact A4' _ | assumption) | exact Yf | ((repeat (first | exact VW.nil | refine Yg ?_ | refine Yh ?_ | refine Yi ?_)); done)
theorem pN5UNF (hs : Few s.size) (hi : i ≤ s.size) (h0 : (bts s)[i]? = some x) (h1 : x ≠ 101) (h2 : x = 69) (h4 : (bts s)[i + 1]? = some y) (h5 : y ≠ 43) (h6 : y ≠ 45) (h7 : BI' (bts s) (i + 1) = false) : CTri Tryz.prog default nm5 (tms 0 97 (aN s i)) [] (fun _ : Unit => .ret) (fun _ => tms 0 97 (rN (i + 1) false)) (fun _ => []) := by
 have e0 := ltTC (AE' h0)
 have b0 := BH' h0
 have l0 := AE' h0
 have e1 : ((x.toNat : Int) == Int.ofNat 101) = false := neB (by decide) rfl h1
 have e2 : ((x.toNat : Int) == Int.ofNat 69) = true := eqB (by decide) rfl h2
 have w3 := AU' hs (AE' h0)
 have e4 := ltTC (AE' h4)
 have b4 := BH' h4
 have l4 := AE' h4
 have e5 : ((y.toNat : Int) == Int.ofNat 43) = false := neB (by decide) rfl h5
 have e6 : ((y.toNat : Int) == Int.ofNat 45) = false := neB (by decide) rfl h6
 refine BP' (W := default) (g := fRNm) (ρ := Unit) (con := [(fRDg, cRDg), (AV', BB')]) (hints := A9' [(fRNm, 13, 3, hv (.lit true)), (fRNm, 13, 7, h0v (byv x)), (fRNm, 13, 8, hv (.lit false)), (fRNm, 13, 12, h0v (byv x)), (fRNm, 13, 13, hv (.lit true)), (fRNm, 14, 1, hv (iv (Int.ofNat (i + 1)))), (fRNm, 15, 3, hv (.lit true)), (fRNm, 15, 7, h0v (byv y)), (fRNm, 15, 8, hv (.lit false)), (fRNm, 15, 12, h0v (byv y)), (fRNm, 15, 13, hv (.lit false)), (fRNm, 17, 2, hv (.lit false)), (fRNm, 17, 3, hv (.lit true))]) (lc := []) 97 (A' := fun _ => rN (i + 1) false) [] [4, 5] rfl (fun F hF => AC' (B7' F hF) (AO' (B0' F hF))) (fun _ _ => noL) fun F => ?_
 refine Yj (TH' s i x y F) ⟨⟨?_, rfl, FitT.det (told := rN (i + 1) false) (H := []) (l := []) ⟨rfl, rfl, ⟨Ya, Ya, Ye⟩, Ye⟩ rfl () rfl (Goes.refl _ _)⟩⟩
 simp only [Cnd.holds, Nat.blt_eq, true_and, and_true]
 and_intros
 all_goals first
  | exact A0' e0
  | exact b0
  | exact l0
  | exact Nat.le_of_lt l0
  | exact A0' e1
  | exact A0' e2
  | (with_reducible exact AP' w3)
  | exact A0' e4
  | exact b4
  | exact l4
  | exact Nat.le_of_lt l4
  | exact A0' e5
  | exact A0' e6
  | exact A0' h7
  | exact A4' _
  | exact hi
  | exact ⟨hi, hs⟩
  | exact l0
  | exact ⟨l0, hs⟩
  | exact l4
  | exact ⟨l4, hs⟩ | (with_reducible first | exact Ye | exact Yf | exact A4' _ | assumption) | exact Yf | ((repeat (first | exact VW.nil | refine Yg ?_ | refine Yh ?_ | refine Yi ?_)); done)
theorem pN5UNT (hs : Few s.size) (hi : i ≤ s.size) (h0 : (bts s)[i]? = some x) (h1 : x ≠ 101) (h2 : x = 69) (h4 : (bts s)[i + 1]? = some y) (h5 : y ≠ 43) (h6 : y ≠ 45) (h7 : BI' (bts s) (i + 1) = true) : CTri Tryz.prog default nm5 (tms 0 97 (aN s i)) [] (fun _ : Unit => .normal) (fun _ => tms 0 97 (aN s (digE (bts s) (i + 1)))) (fun _ => []) := by
 have e0 := ltTC (AE' h0)
 have b0 := BH' h0
 have l0 := AE' h0
 have e1 : ((x.toNat : Int) == Int.ofNat 101) = false := neB (by decide) rfl h1
 have e2 : ((x.toNat : Int) == Int.ofNat 69) = true := eqB (by decide) rfl h2
 have w3 := AU' hs (AE' h0)
 have e4 := ltTC (AE' h4)
 have b4 := BH' h4
 have l4 := AE' h4
 have e5 : ((y.toNat : Int) == Int.ofNat 43) = false := neB (by decide) rfl h5
 have e6 : ((y.toNat : Int) == Int.ofNat 45) = false := neB (by decide) rfl h6
 refine BP' (W := default) (g := fRNm) (ρ := Unit) (con := [(fRDg, cRDg), (AV', BB')]) (hints := A9' [(fRNm, 13, 3, hv (.lit true)), (fRNm, 13, 7, h0v (byv x)), (fRNm, 13, 8, hv (.lit false)), (fRNm, 13, 12, h0v (byv x)), (fRNm, 13, 13, hv (.lit true)), (fRNm, 14, 1, hv (iv (Int.ofNat (i + 1)))), (fRNm, 15, 3, hv (.lit true)), (fRNm, 15, 7, h0v (byv y)), (fRNm, 15, 8, hv (.lit false)), (fRNm, 15, 12, h0v (byv y)), (fRNm, 15, 13, hv (.lit false)), (fRNm, 17, 2, hv (.lit true)), (fRNm, 17, 3, hv (.lit false))]) (lc := []) 97 (A' := fun _ => aN s (digE (bts s) (i + 1))) [] [0, 1] rfl (fun F hF => AC' (B7' F hF) (AO' (B0' F hF))) (fun _ _ => noL) fun F => ?_
 refine Yj (TG' s i x y F) ⟨⟨?_, rfl, FitT.det (told := aN s (digE (bts s) (i + 1))) (H := []) (l := []) ⟨rfl, rfl, ⟨Ya, Ya, Ye⟩, Ye⟩ rfl () rfl (Goes.refl _ _)⟩⟩
 simp only [Cnd.holds, Nat.blt_eq, true_and, and_true]
 and_intros
 all_goals first
  | exact A0' e0
  | exact b0
  | exact l0
  | exact Nat.le_of_lt l0
  | exact A0' e1
  | exact A0' e2
  | (with_reducible exact AP' w3)
  | exact A0' e4
  | exact b4
  | exact l4
  | exact Nat.le_of_lt l4
  | exact A0' e5
  | exact A0' e6
  | exact A0' h7
  | exact A4' _
  | exact hi
  | exact ⟨hi, hs⟩
  | exact l0
  | exact ⟨l0, hs⟩
  | exact l4
  | exact ⟨l4, hs⟩ | (with_reducible first | exact Ye | exact Yf | exact A4' _ | assumption) | exact Yf | ((repeat (first | exact VW.nil | refine Yg ?_ | refine Yh ?_ | refine Yi ?_)); done)
theorem pN5UPF (hs : Few s.size) (hi : i ≤ s.size) (h0 : (bts s)[i]? = some x) (h1 : x ≠ 101) (h2 : x = 69) (h4 : (bts s)[i + 1]? = some y) (h5 : y = 43) (h7 : BI' (bts s) (i + 1 + 1) = false) : CTri Tryz.prog default nm5 (tms 0 97 (aN s i)) [] (fun _ : Unit => .ret) (fun _ => tms 0 97 (rN (i + 1 + 1) false)) (fun _ => []) := by
 have e0 := ltTC (AE' h0)
 have b0 := BH' h0
 have l0 := AE' h0
 have e1 : ((x.toNat : Int) == Int.ofNat 101) = false := neB (by decide) rfl h1
 have e2 : ((x.toNat : Int) == Int.ofNat 69) = true := eqB (by decide) rfl h2
 have w3 := AU' hs (AE' h0)
 have e4 := ltTC (AE' h4)
 have b4 := BH' h4
 have l4 := AE' h4
 have e5 : ((y.toNat : Int) == Int.ofNat 43) = true := eqB (by decide) rfl h5
 have w6 := AU' hs (AE' h4)
 refine BP' (W := default) (g := fRNm) (ρ := Unit) (con := [(fRDg, cRDg), (AV', BB')]) (hints := A9' [(fRNm, 13, 3, hv (.lit true)), (fRNm, 13, 7, h0v (byv x)), (fRNm, 13, 8, hv (.lit false)), (fRNm, 13, 12, h0v (byv x)), (fRNm, 13, 13, hv (.lit true)), (fRNm, 14, 1, hv (iv (Int.ofNat (i + 1)))), (fRNm, 15, 3, hv (.lit true)), (fRNm, 15, 7, h0v (byv y)), (fRNm, 15, 8, hv (.lit true)), (fRNm, 16, 1, hv (iv (Int.ofNat (i + 1 + 1)))), (fRNm, 17, 2, hv (.lit false)), (fRNm, 17, 3, hv (.lit true))]) (lc := []) 97 (A' := fun _ => rN (i + 1 + 1) false) [] [4, 5] rfl (fun F hF => AC' (B7' F hF) (AO' (B0' F hF))) (fun _ _ => noL) fun F => ?_
 refine Yj (TF' s i x y F) ⟨⟨?_, rfl, FitT.det (told := rN (i + 1 + 1) false) (H := []) (l := []) ⟨rfl, rfl, ⟨Ya, Ya, Ye⟩, Ye⟩ rfl () rfl (Goes.refl _ _)⟩⟩
 simp only [Cnd.holds, Nat.blt_eq, true_and, and_true]
 and_intros
 all_goals first
  | exact A0' e0
  | exact b0
  | exact l0
  | exact Nat.le_of_lt l0
  | exact A0' e1
  | exact A0' e2
  | (with_reducible exact AP' w3)
  | exact A0' e4
  | exact b4
  | exact l4
  | exact Nat.le_of_lt l4
  | exact A0' e5
  | (with_reducible exact AP' w6)
  | exact A0' h7
  | exact A4' _
  | exact hi
  | exact ⟨hi, hs⟩
  | exact l0
  | exact ⟨l0, hs⟩
  | exact l4
  | exact ⟨l4, hs⟩ | (with_reducible first | exact Ye | exact Yf | exact A4' _ | assumption) | exact Yf | ((repeat (first | exact VW.nil | refine Yg ?_ | refine Yh ?_ | refine Yi ?_)); done)
theorem pN5UPT (hs : Few s.size) (hi : i ≤ s.size) (h0 : (bts s)[i]? = some x) (h1 : x ≠ 101) (h2 : x = 69) (h4 : (bts s)[i + 1]? = some y) (h5 : y = 43) (h7 : BI' (bts s) (i + 1 + 1) = true) : CTri Tryz.prog default nm5 (tms 0 97 (aN s i)) [] (fun _ : Unit => .normal) (fun _ => tms 0 97 (aN s (digE (bts s) (i + 1 + 1)))) (fun _ => []) := by
 have e0 := ltTC (AE' h0)
 have b0 := BH' h0
 have l0 := AE' h0
 have e1 : ((x.toNat : Int) == Int.ofNat 101) = false := neB (by decide) rfl h1
 have e2 : ((x.toNat : Int) == Int.ofNat 69) = true := eqB (by decide) rfl h2
 have w3 := AU' hs (AE' h0)
 have e4 := ltTC (AE' h4)
 have b4 := BH' h4
 have l4 := AE' h4
 have e5 : ((y.toNat : Int) == Int.ofNat 43) = true := eqB (by decide) rfl h5
 have w6 := AU' hs (AE' h4)
 refine BP' (W := default) (g := fRNm) (ρ := Unit) (con := [(fRDg, cRDg), (AV', BB')]) (hints := A9' [(fRNm, 13, 3, hv (.lit true)), (fRNm, 13, 7, h0v (byv x)), (fRNm, 13, 8, hv (.lit false)), (fRNm, 13, 12, h0v (byv x)), (fRNm, 13, 13, hv (.lit true)), (fRNm, 14, 1, hv (iv (Int.ofNat (i + 1)))), (fRNm, 15, 3, hv (.lit true)), (fRNm, 15, 7, h0v (byv y)), (fRNm, 15, 8, hv (.lit true)), (fRNm, 16, 1, hv (iv (Int.ofNat (i + 1 + 1)))), (fRNm, 17, 2, hv (.lit true)), (fRNm, 17, 3, hv (.lit false))]) (lc := []) 97 (A' := fun _ => aN s (digE (bts s) (i + 1 + 1))) [] [0, 1] rfl (fun F hF => AC' (B7' F hF) (AO' (B0' F hF))) (fun _ _ => noL) fun F => ?_
 refine Yj (TE' s i x y F) ⟨⟨?_, rfl, FitT.det (told := aN s (digE (bts s) (i + 1 + 1))) (H := []) (l := []) ⟨rfl, rfl, ⟨Ya, Ya, Ye⟩, Ye⟩ rfl () rfl (Goes.refl _ _)⟩⟩
 simp only [Cnd.holds, Nat.blt_eq, true_and, and_true]
 and_intros
 all_goals first
  | exact A0' e0
  | exact b0
  | exact l0
  | exact Nat.le_of_lt l0
  | exact A0' e1
  | exact A0' e2
  | (with_reducible exact AP' w3)
  | exact A0' e4
  | exact b4
  | exact l4
  | exact Nat.le_of_lt l4
  | exact A0' e5
  | (with_reducible exact AP' w6)
  | exact A0' h7
  | exact A4' _
  | exact hi
  | exact ⟨hi, hs⟩
  | exact l0
  | exact ⟨l0, hs⟩
  | exact l4
  | exact ⟨l4, hs⟩ | (with_reducible first | exact Ye | exact Yf | exact A4' _ | assumption) | exact Yf | ((repeat (first | exact VW.nil | refine Yg ?_ | refine Yh ?_ | refine Yi ?_)); done)
theorem pN5UMF (hs : Few s.size) (hi : i ≤ s.size) (h0 : (bts s)[i]? = some x) (h1 : x ≠ 101) (h2 : x = 69) (h4 : (bts s)[i + 1]? = some y) (h5 : y ≠ 43) (h6 : y = 45) (h8 : BI' (bts s) (i + 1 + 1) = false) : CTri Tryz.prog default nm5 (tms 0 97 (aN s i)) [] (fun _ : Unit => .ret) (fun _ => tms 0 97 (rN (i + 1 + 1) false)) (fun _ => []) := by
 have e0 := ltTC (AE' h0)
 have b0 := BH' h0
 have l0 := AE' h0
 have e1 : ((x.toNat : Int) == Int.ofNat 101) = false := neB (by decide) rfl h1
 have e2 : ((x.toNat : Int) == Int.ofNat 69) = true := eqB (by decide) rfl h2
 have w3 := AU' hs (AE' h0)
 have e4 := ltTC (AE' h4)
 have b4 := BH' h4
 have l4 := AE' h4
 have e5 : ((y.toNat : Int) == Int.ofNat 43) = false := neB (by decide) rfl h5
 have e6 : ((y.toNat : Int) == Int.ofNat 45) = true := eqB (by decide) rfl h6
 have w7 := AU' hs (AE' h4)
 refine BP' (W := default) (g := fRNm) (ρ := Unit) (con := [(fRDg, cRDg), (AV', BB')]) (hints := A9' [(fRNm, 13, 3, hv (.lit true)), (fRNm, 13, 7, h0v (byv x)), (fRNm, 13, 8, hv (.lit false)), (fRNm, 13, 12, h0v (byv x)), (fRNm, 13, 13, hv (.lit true)), (fRNm, 14, 1, hv (iv (Int.ofNat (i + 1)))), (fRNm, 15, 3, hv (.lit true)), (fRNm, 15, 7, h0v (byv y)), (fRNm, 15, 8, hv (.lit false)), (fRNm, 15, 12, h0v (byv y)), (fRNm, 15, 13, hv (.lit true)), (fRNm, 16, 1, hv (iv (Int.ofNat (i + 1 + 1)))), (fRNm, 17, 2, hv (.lit false)), (fRNm, 17, 3, hv (.lit true))]) (lc := []) 97 (A' := fun _ => rN (i + 1 + 1) false) [] [4, 5] rfl (fun F hF => AC' (B7' F hF) (AO' (B0' F hF))) (fun _ _ => noL) fun F => ?_
 refine Yj (TJ' s i x y F) ⟨⟨?_, rfl, FitT.det (told := rN (i + 1 + 1) false) (H := []) (l := []) ⟨rfl, rfl, ⟨Ya, Ya, Ye⟩, Ye⟩ rfl () rfl (Goes.refl _ _)⟩⟩
 simp only [Cnd.holds, Nat.blt_eq, true_and, and_true]
 and_intros
 all_goals first
  | exact A0' e0
  | exact b0
  | exact l0
  | exact Nat.le_of_lt l0
  | exact A0' e1
  | exact A0' e2
  | (with_reducible exact AP' w3)
  | exact A0' e4
  | exact b4
  | exact l4
  | exact Nat.le_of_lt l4
  | exact A0' e5
  | exact A0' e6
  | (with_reducible exact AP' w7)
  | exact A0' h8
  | exact A4' _
  | exact hi
  | exact ⟨hi, hs⟩
  | exact l0
  | exact ⟨l0, hs⟩
  | exact l4
  | exact ⟨l4, hs⟩ | (with_reducible first | exact Ye | exact Yf | exact A4' _ | assumption) | exact Yf | ((repeat (first | exact VW.nil | refine Yg ?_ | refine Yh ?_ | refine Yi ?_)); done)
theorem pN5UMT (hs : Few s.size) (hi : i ≤ s.size) (h0 : (bts s)[i]? = some x) (h1 : x ≠ 101) (h2 : x = 69) (h4 : (bts s)[i + 1]? = some y) (h5 : y ≠ 43) (h6 : y = 45) (h8 : BI' (bts s) (i + 1 + 1) = true) : CTri Tryz.prog default nm5 (tms 0 97 (aN s i)) [] (fun _ : Unit => .normal) (fun _ => tms 0 97 (aN s (digE (bts s) (i + 1 + 1)))) (fun _ => []) := by
 have e0 := ltTC (AE' h0)
 have b0 := BH' h0
 have l0 := AE' h0
 have e1 : ((x.toNat : Int) == Int.ofNat 101) = false := neB (by decide) rfl h1
 have e2 : ((x.toNat : Int) == Int.ofNat 69) = true := eqB (by decide) rfl h2
 have w3 := AU' hs (AE' h0)
 have e4 := ltTC (AE' h4)
 have b4 := BH' h4
 have l4 := AE' h4
 have e5 : ((y.toNat : Int) == Int.ofNat 43) = false := neB (by decide) rfl h5
 have e6 : ((y.toNat : Int) == Int.ofNat 45) = true := eqB (by decide) rfl h6
 have w7 := AU' hs (AE' h4)
 refine BP' (W := default) (g := fRNm) (ρ := Unit) (con := [(fRDg, cRDg), (AV', BB')]) (hints := A9' [(fRNm, 13, 3, hv (.lit true)), (fRNm, 13, 7, h0v (byv x)), (fRNm, 13, 8, hv (.lit false)), (fRNm, 13, 12, h0v (byv x)), (fRNm, 13, 13, hv (.lit true)), (fRNm, 14, 1, hv (iv (Int.ofNat (i + 1)))), (fRNm, 15, 3, hv (.lit true)), (fRNm, 15, 7, h0v (byv y)), (fRNm, 15, 8, hv (.lit false)), (fRNm, 15, 12, h0v (byv y)), (fRNm, 15, 13, hv (.lit true)), (fRNm, 16, 1, hv (iv (Int.ofNat (i + 1 + 1)))), (fRNm, 17, 2, hv (.lit true)), (fRNm, 17, 3, hv (.lit false))]) (lc := []) 97 (A' := fun _ => aN s (digE (bts s) (i + 1 + 1))) [] [0, 1] rfl (fun F hF => AC' (B7' F hF) (AO' (B0' F hF))) (fun _ _ => noL) fun F => ?_
 refine Yj (TI' s i x y F) ⟨⟨?_, rfl, FitT.det (told := aN s (digE (bts s) (i + 1 + 1))) (H := []) (l := []) ⟨rfl, rfl, ⟨Ya, Ya, Ye⟩, Ye⟩ rfl () rfl (Goes.refl _ _)⟩⟩
 simp only [Cnd.holds, Nat.blt_eq, true_and, and_true]
 and_intros
 all_goals first
  | exact A0' e0
  | exact b0
  | exact l0
  | exact Nat.le_of_lt l0
  | exact A0' e1
  | exact A0' e2
  | (with_reducible exact AP' w3)
  | exact A0' e4
  | exact b4
  | exact l4
  | exact Nat.le_of_lt l4
  | exact A0' e5
  | exact A0' e6
  | (with_reducible exact AP' w7)
  | exact A0' h8
  | exact A4' _
  | exact hi
  | exact ⟨hi, hs⟩
  | exact l0
  | exact ⟨l0, hs⟩
  | exact l4
  | exact ⟨l4, hs⟩ | (with_reducible first | exact Ye | exact Yf | exact A4' _ | assumption) | exact Yf | ((repeat (first | exact VW.nil | refine Yg ?_ | refine Yh ?_ | refine Yi ?_)); done)
theorem n1 (hs : Few s.size) (hi : i ≤ s.size) : CTri Tryz.prog default nm1 (tms 0 97 (aN s i)) [] (fun _ : Unit => .normal) (fun _ => tms 0 97 (aN s (sgE [45] (bts s) i))) (fun _ => []) := by
 cases h : (bts s)[i]? with
 | none => rw [LJ' (H0' h)]; exact pN1E hs hi h
 | some x =>
  by_cases hx : x = 45
  ·rw [N2' ((C1' h).trans (by rw [hx]; rfl))]; exact pN1Y hs hi h hx
  ·rw [LJ' ((C1' h).trans (by simp [hx]))]; exact pN1N hs hi h hx
theorem n3 (hs : Few s.size) (hi : i ≤ s.size) (hd : BI' (bts s) i = true) : CTri Tryz.prog default nm3 (tms 0 97 (aN s i)) [] (fun _ : Unit => .normal) (fun _ => tms 0 97 (aN s (if sgn [48] (bts s) i then i + 1 else digE (bts s) i))) (fun _ => []) := by
 cases h : (bts s)[i]? with
 | none => unfold BI' at hd; rw [h] at hd; cases hd
 | some x =>
  by_cases hx : x = 48
  ·rw [if_pos ((C1' h).trans (by rw [hx]; rfl))]; exact pN3Z hs hi h hx
  ·rw [if_neg (by rw [C1' h]; simp [hx])]; exact pN3D hs hi h hx
theorem n4n (hs : Few s.size) (hi : i ≤ s.size) (hg : sgn [46] (bts s) i = false) : CTri Tryz.prog default nm4 (tms 0 97 (aN s i)) [] (fun _ : Unit => .normal) (fun _ => tms 0 97 (aN s i)) (fun _ => []) := by
 cases h : (bts s)[i]? with
 | none => exact pN4E hs hi h
 | some x =>
  rw [C1' h] at hg
  exact pN4N hs hi h (by intro e; rw [e] at hg; cases hg)
theorem SU' {l : List UInt8} {c : UInt8} {n : Nat} (h : sgn [c] l n = true) : l[n]? = some c := by
 unfold sgn at h
 split at h
 ·rename_i x hx; rw [hx]; simp at h; rw [h]
 ·cases h
theorem n4y (hs : Few s.size) (hi : i ≤ s.size) (hg : sgn [46] (bts s) i = true) (hd : BI' (bts s) (i + 1) = true) : CTri Tryz.prog default nm4 (tms 0 97 (aN s i)) [] (fun _ : Unit => .normal) (fun _ => tms 0 97 (aN s (digE (bts s) (i + 1)))) (fun _ => []) :=
 pN4YT hs hi (SU' hg) rfl hd
theorem n4f (hs : Few s.size) (hi : i ≤ s.size) (hg : sgn [46] (bts s) i = true) (hd : BI' (bts s) (i + 1) = false) : CTri Tryz.prog default nm4 (tms 0 97 (aN s i)) [] (fun _ : Unit => .ret) (fun _ => tms 0 97 (rN (i + 1) false)) (fun _ => []) :=
 pN4YF hs hi (SU' hg) rfl hd
theorem n5n (hs : Few s.size) (hi : i ≤ s.size) (hg : sgn [101, 69] (bts s) i = false) : CTri Tryz.prog default nm5 (tms 0 97 (aN s i)) [] (fun _ : Unit => .normal) (fun _ => tms 0 97 (aN s i)) (fun _ => []) := by
 cases h : (bts s)[i]? with
 | none => exact pN5E hs hi h
 | some x =>
  rw [C1' h] at hg
  simp at hg
  exact pN5N hs hi h hg.1 hg.2
theorem n5y (hs : Few s.size) (hi : i ≤ s.size) (hg : sgn [101, 69] (bts s) i = true) (hd : BI' (bts s) (sgE [43, 45] (bts s) (i + 1)) = true) : CTri Tryz.prog default nm5 (tms 0 97 (aN s i)) [] (fun _ : Unit => .normal) (fun _ => tms 0 97 (aN s (digE (bts s) (sgE [43, 45] (bts s) (i + 1))))) (fun _ => []) := by
 cases h : (bts s)[i]? with
 | none => rw [H0' h] at hg; cases hg
 | some x =>
  rw [C1' h] at hg
  simp at hg
  cases h2 : (bts s)[i + 1]? with
  | none =>
   rw [LJ' (H0' h2)] at hd
   unfold BI' at hd; rw [h2] at hd; cases hd
  | some y =>
   by_cases hp : y = 43
   ·have e := N2' (ks := [43, 45]) ((C1' h2).trans (by rw [hp]; rfl))
    rw [e] at hd ⊢
    by_cases hx : x = 101
    ·exact pN5ePT hs hi h hx h2 hp hd
    ·exact pN5UPT hs hi h hx (hg.resolve_left hx) h2 hp hd
   ·by_cases hm : y = 45
    ·have e := N2' (ks := [43, 45]) ((C1' h2).trans (by rw [hm]; rfl))
     rw [e] at hd ⊢
     by_cases hx : x = 101
     ·exact pN5eMT hs hi h hx h2 hp hm hd
     ·exact pN5UMT hs hi h hx (hg.resolve_left hx) h2 hp hm hd
    ·have e := LJ' (ks := [43, 45]) ((C1' h2).trans (by simp [hp, hm]))
     rw [e] at hd ⊢
     by_cases hx : x = 101
     ·exact pN5eNT hs hi h hx h2 hp hm hd
     ·exact pN5UNT hs hi h hx (hg.resolve_left hx) h2 hp hm hd
theorem n5f (hs : Few s.size) (hi : i ≤ s.size) (hg : sgn [101, 69] (bts s) i = true) (hd : BI' (bts s) (sgE [43, 45] (bts s) (i + 1)) = false) : CTri Tryz.prog default nm5 (tms 0 97 (aN s i)) [] (fun _ : Unit => .ret) (fun _ => tms 0 97 (rN (sgE [43, 45] (bts s) (i + 1)) false)) (fun _ => []) := by
 cases h : (bts s)[i]? with
 | none => rw [H0' h] at hg; cases hg
 | some x =>
  rw [C1' h] at hg
  simp at hg
  cases h2 : (bts s)[i + 1]? with
  | none =>
   rw [LJ' (H0' h2)] at hd ⊢
   by_cases hx : x = 101
   ·exact pN5eEF hs hi h hx h2 hd
   ·exact pN5UEF hs hi h hx (hg.resolve_left hx) h2 hd
  | some y =>
   by_cases hp : y = 43
   ·have e := N2' (ks := [43, 45]) ((C1' h2).trans (by rw [hp]; rfl))
    rw [e] at hd ⊢
    by_cases hx : x = 101
    ·exact pN5ePF hs hi h hx h2 hp hd
    ·exact pN5UPF hs hi h hx (hg.resolve_left hx) h2 hp hd
   ·by_cases hm : y = 45
    ·have e := N2' (ks := [43, 45]) ((C1' h2).trans (by rw [hm]; rfl))
     rw [e] at hd ⊢
     by_cases hx : x = 101
     ·exact pN5eMF hs hi h hx h2 hp hm hd
     ·exact pN5UMF hs hi h hx (hg.resolve_left hx) h2 hp hm hd
    ·have e := LJ' (ks := [43, 45]) ((C1' h2).trans (by simp [hp, hm]))
     rw [e] at hd ⊢
     by_cases hx : x = 101
     ·exact pN5eNF hs hi h hx h2 hp hm hd
     ·exact pN5UNF hs hi h hx (hg.resolve_left hx) h2 hp hm hd
theorem n6 : CTri Tryz.prog default nm6 (tms 0 97 (aN s i)) [] (fun _ : Unit => .ret) (fun _ => tms 0 97 (rN i true)) (fun _ => []) := by
 refine BP' (W := default) (g := fRNm) (ρ := Unit) (con := []) (hints := DL') (lc := []) 97 (A' := fun _ => rN i true) [] [4, 5] rfl (fun _ _ => noC) (fun _ _ => noL) fun F => ?_
 refine Yj (oN6_eq s i F) ⟨⟨Ye, rfl, FitT.det (told := rN i true) (H := []) (l := []) ⟨rfl, rfl, ⟨Ya, Ya, Ye⟩, Ye⟩ rfl () rfl (Goes.refl _ _)⟩⟩
theorem EQ' {c1 c2 : Code} {A A1 A2 : List AV} (h1 : CTri Tryz.prog default c1 A [] (fun _ : Unit => .normal) (fun _ => A1) (fun _ => [])) (h2 : CTri Tryz.prog default c2 A1 [] (fun _ : Unit => .ret) (fun _ => A2) (fun _ => [])) : CTri Tryz.prog default (.seq c1 c2) A [] (fun _ : Unit => .ret) (fun _ => A2) (fun _ => []) := CTri.seq h1 fun _ => h2
theorem US' {c1 c2 : Code} {A A2 : List AV} (h1 : CTri Tryz.prog default c1 A [] (fun _ : Unit => .ret) (fun _ => A2) (fun _ => [])) : CTri Tryz.prog default (.seq c1 c2) A [] (fun _ : Unit => .ret) (fun _ => A2) (fun _ => []) :=
 CTri.seqE h1 fun _ => .inr ⟨(fun h => by cases h), (), rfl, Goes.refl _ _⟩
def rNP (p : Nat × Bool) : List (Nat × AV) := rN p.1 p.2
theorem n56 (hs : Few s.size) (hi : i ≤ s.size) : CTri Tryz.prog default (.seq nm5 nm6) (tms 0 97 (aN s i)) [] (fun _ : Unit => .ret) (fun _ => tms 0 97 (rNP (num3 (bts s) i))) (fun _ => []) := by
 unfold num3
 cases hg : sgn [101, 69] (bts s) i with
 | false => rw [if_neg (by decide)]; exact EQ' (n5n hs hi hg) n6
 | true =>
  rw [if_pos rfl]
  cases hd : BI' (bts s) (sgE [43, 45] (bts s) (i + 1)) with
  | true => rw [decide_eq_true (IY' hd).1]; exact EQ' (n5y hs hi hg hd) n6
  | false => rw [HH' hd, decide_eq_false (Nat.lt_irrefl _)]; exact US' (n5f hs hi hg hd)
theorem n456 (hs : Few s.size) (hi : i ≤ s.size) : CTri Tryz.prog default (.seq nm4 (.seq nm5 nm6)) (tms 0 97 (aN s i)) [] (fun _ : Unit => .ret) (fun _ => tms 0 97 (rNP (num2 (bts s) i))) (fun _ => []) := by
 unfold num2
 cases hg : sgn [46] (bts s) i with
 | false => rw [if_neg (by decide)]; exact EQ' (n4n hs hi hg) (n56 hs hi)
 | true =>
  rw [if_pos rfl]
  cases hd : BI' (bts s) (i + 1) with
  | true =>
   rw [if_pos (IY' hd).1]
   refine EQ' (n4y hs hi hg hd) (n56 hs ?_)
   have := PI' (l := bts s) (n := i + 1) (Nat.le_of_lt (IY' hd).2)
   exact this
  | false => rw [if_neg (by rw [HH' hd]; exact Nat.lt_irrefl _), HH' hd]; exact US' (n4f hs hi hg hd)
theorem VS' {l : List UInt8} {n : Nat} (h : sgn [48] l n = true) : BI' l n = true := by
 unfold BI'
 rw [SU' h]
 rfl
theorem n_all (hs : Few s.size) (hi : i ≤ s.size) : CTri Tryz.prog default (.seq nm0 (.seq nm1 (.seq nm2 (.seq nm3 (.seq nm4 (.seq nm5 nm6)))))) ([sv s, iv (Int.ofNat i)] ++ List.replicate 95 AV.undef) [] (fun _ : Unit => .ret) (fun _ => tms 0 97 (rNP (numF (bts s) i))) (fun _ => []) := by
 refine EQ' (A1 := tms 0 97 (aN s i)) ?_ (EQ' (n1 hs hi) ?_)
 ·refine BP' (W := default) (g := fRNm) (ρ := Unit) (con := []) (hints := DL') (lc := []) 97 (A' := fun _ => aN s i) [] [0, 1] rfl (fun _ _ => noC) (fun _ _ => noL) fun F => ?_
  refine Yj (oN0_eq s i F) ⟨⟨Ye, rfl, FitT.det (told := aN s i) (H := []) (l := []) ⟨rfl, rfl, ⟨Ya, Ya, Ye⟩, Ye⟩ rfl () rfl (Goes.refl _ _)⟩⟩
 have hj : sgE [45] (bts s) i ≤ s.size := SV' hi
 unfold numF
 generalize sgE [45] (bts s) i = j at hj ⊢
 cases hd : BI' (bts s) j with
 | false =>
  rw [if_neg (fun h => by rw [VS' h] at hd; cases hd), if_neg (by rw [HH' hd]; exact Nat.lt_irrefl _), HH' hd]
  exact US' (pN2F hs hj hd)
 | true =>
  refine EQ' (pN2T hs hj hd) (EQ' (n3 hs hj hd) ?_)
  obtain ⟨q1, q2⟩ := IY' hd
  cases hz : sgn [48] (bts s) j with
  | true => rw [if_pos rfl, if_pos rfl]; exact n456 hs q2
  | false => rw [if_neg (by decide), if_neg (by decide), if_pos q1]; exact n456 hs (PI' (l := bts s) (n := j) hj)
theorem Y6' (s : ByteArray) (i : Nat) (hs : Few s.size) (hi : i ≤ s.size) : Tri Tryz.prog default fRNm [sv s, iv (Int.ofNat i)] [] (.tuple [iv (Int.ofNat (numF (bts s) i).1), bv (numF (bts s) i).2]) [] := by
 obtain ⟨fn, hfn, hcd⟩ : ∃ fn, Tryz.prog.funcs[fRNm]? = some fn ∧ fn.body = some (.seq nm0 (.seq nm1 (.seq nm2 (.seq nm3 (.seq nm4 (.seq nm5 nm6)))))) := by
  have h := nmB_eq
  cases hq : Tryz.prog.funcs[fRNm]? with
  | none => rw [hq] at h; cases h
  | some fn => rw [hq] at h; exact ⟨fn, rfl, h⟩
 have hrn : fn.results = #[.tmp 4, .tmp 5] ∧ fn.ntmps = 97 := by
  have h : (Tryz.prog.funcs[fRNm]?).map (fun fn => (fn.results, fn.ntmps)) = some (#[.tmp 4, .tmp 5], 97) := by kernel_rfl
  rw [hfn] at h
  have h := Option.some.inj h
  exact ⟨congrArg Prod.fst h, congrArg Prod.snd h⟩
 exact Tri.body2 (t1 := 4) (t2 := 5) (m := 97) (ax := .ret) hfn hcd hrn.1 hrn.2 rfl (.inl rfl) (by decide) (by decide) (by decide) (n_all hs hi)
theorem numF_0 (l : List UInt8) : numF l 0 = num l := rfl
noncomputable section
abbrev fSa : Nat := 9
abbrev tJs : TypeId := 2 * 25
def cSa (r r' : Rj) : List AV → Option (AP AV) := mkC (fun _ => .ret ()) (fun _ => True) (fun _ k => k) (fun _ => [aggJ r, aggJ r']) (fun _ => []) (fun _ => .leaf .ret [bv true] [])
def oSa (r r' : Rj) : LH := [(1000, .cells (vmap r.cells) tJs), (1001, .cells (vmap r'.cells) tJs)]
def aSn (i : Nat) : List (Nat × AV) := [(2, .ptr 1000 0), (3, .ptr 1001 0), (5, iv (Int.ofNat i))]
def aSl (i : Nat) : List (Nat × AV) := [(2, .ptr 1000 0), (3, .ptr 1001 0), (6, iv (Int.ofNat i))]
def hSn (i : Nat) (nm : ByteArray) : B8' := A9' [(fSa, 4, 4, hv (.lit true)), (fSa, 6, 4, hv (sv nm)), (fSa, 6, 9, hv (sv nm)), (fSa, 6, 10, hv (.lit false)), (fSa, 5, 1, hv (iv (Int.ofNat (i + 1))))]
def hSl (i : Nat) (x x' : Rj) : B8' := A9' [(fSa, 9, 4, hv (.lit true)), (fSa, 11, 4, hv (aggJ x)), (fSa, 11, 9, hv (aggJ x')), (fSa, 11, 11, hv (.lit false)), (fSa, 10, 1, hv (iv (Int.ofNat (i + 1))))]
noncomputable section
abbrev k55' (q0 : Nat) (q1 : Rj) : Cnd := (f' (q0.blt q1.nl = true))
abbrev k56' (q0 : World) (q1 : Addr) (q2 : Nat) (q3 : ByteArray) : Cnd := ((p' ((q0.cell? (q1.add (q2 * 1))).isSome = true)).a ((p' (AV.v ((q0.cell? (q1.add (q2 * 1))).getD (Value.tuple (Array.mk []))) = AV.v (Value.string (AV.v ((q0.cell? (q1.add (q2 * 1))).getD (Value.tuple (Array.mk [])))).strOf))).a (f' (Wk (AV.v (Value.string (AV.v ((q0.cell? (q1.add (q2 * 1))).getD (Value.tuple (Array.mk [])))).strOf)) (s' q3)))))
end
theorem aH' (W : World) (r r' : Rj) (nm : ByteArray) (a b : Addr) (i : Nat) (F : HP) : AR' [] (hSn i nm) [] W fSa (A2' fSa 4) (tms 0 81 (aSn i)) (oSa { r with na := some a } { r' with na := some b }) [1000, 1001] [2, 3, 5] F = VT.leaf (AX.normal,[AV.ptr 1000 0,AV.ptr 1001 0,i' (i + 1)],81) [some (AO.cells [z' r.k,z' r.n,s' r.t,AV.v (Value.slice r.la r.ll r.lc),AV.v (Value.slice (some a) r.nl r.nc)] 50),some (AO.cells [z' r'.k,z' r'.n,s' r'.t,AV.v (Value.slice r'.la r'.ll r'.lc),AV.v (Value.slice (some b) r'.nl r'.nc)] 50)] 1100 (k8'.a ((f' (Wk (b' (decide (Int.ofNat i < ↑r.nl))) j')).a (k8'.a ((k55' i r).a ((k56' W a i nm).a (k8'.a ((k55' i r').a ((k56' W b i nm).a ((f' (Wk (AV.v (Value.bool !nm.toList == nm.toList)) g')).a ((k7' i).a t')))))))))) := by kernel_rfl
theorem aI' (W : World) (r r' : Rj) (F : HP) : AR' [] (A9' [(fSa, 4, 4, hv (.lit false))]) [] W fSa (A2' fSa 4) (tms 0 81 (aSn r.nl)) (oSa r r') [1000, 1001] [2, 3, 5] F = VT.leaf (AX.exit 0,[AV.ptr 1000 0,AV.ptr 1001 0,i' r.nl],81) [some (AO.cells [z' r.k,z' r.n,s' r.t,AV.v (Value.slice r.la r.ll r.lc),AV.v (Value.slice r.na r.nl r.nc)] 50),some (AO.cells [z' r'.k,z' r'.n,s' r'.t,AV.v (Value.slice r'.la r'.ll r'.lc),AV.v (Value.slice r'.na r'.nl r'.nc)] 50)] 1100 (k8'.a ((f' (Wk (b' (decide (Int.ofNat r.nl < ↑r.nl))) g')).a t')) := by kernel_rfl
noncomputable section
abbrev k57' (q0 : Nat) (q1 : Rj) : Cnd := (f' (Wk (b' (decide (Int.ofNat q0 < ↑q1.ll))) j'))
abbrev k58' (q0 : Nat) (q1 : Rj) : Cnd := (f' (q0.blt q1.ll = true))
abbrev k59' (q0 : World) (q1 : Addr) (q2 : Nat) (q3 : Rj) : Cnd := ((p' (([0,1,2,3,4].all fun j => (q0.cell? ((q1.add (q2 * 5)).add j)).isSome) = true)).a ((p' ([AV.v ((q0.cell? ((q1.add (q2 * 5)).add 0)).getD (Value.tuple (Array.mk []))),AV.v ((q0.cell? (Addr.mk (q1.add (q2 * 5)).block ((q1.add (q2 * 5)).off + 1) none)).getD (Value.tuple (Array.mk []))),AV.v ((q0.cell? (Addr.mk (q1.add (q2 * 5)).block ((q1.add (q2 * 5)).off + 2) none)).getD (Value.tuple (Array.mk []))),AV.v ((q0.cell? (Addr.mk (q1.add (q2 * 5)).block ((q1.add (q2 * 5)).off + 3) none)).getD (Value.tuple (Array.mk []))),AV.v ((q0.cell? (Addr.mk (q1.add (q2 * 5)).block ((q1.add (q2 * 5)).off + 4) none)).getD (Value.tuple (Array.mk [])))] = [AV.v (Value.int IntKind.i64 (AV.v ((q0.cell? ((q1.add (q2 * 5)).add 0)).getD (Value.tuple (Array.mk [])))).intOf),AV.v (Value.int IntKind.i64 (AV.v ((q0.cell? (Addr.mk (q1.add (q2 * 5)).block ((q1.add (q2 * 5)).off + 1) none)).getD (Value.tuple (Array.mk [])))).intOf),AV.v (Value.string (AV.v ((q0.cell? (Addr.mk (q1.add (q2 * 5)).block ((q1.add (q2 * 5)).off + 2) none)).getD (Value.tuple (Array.mk [])))).strOf),AV.v ((q0.cell? (Addr.mk (q1.add (q2 * 5)).block ((q1.add (q2 * 5)).off + 3) none)).getD (Value.tuple (Array.mk []))),AV.v ((q0.cell? (Addr.mk (q1.add (q2 * 5)).block ((q1.add (q2 * 5)).off + 4) none)).getD (Value.tuple (Array.mk [])))])).a (f' (Wk (AV.agg [AV.v (Value.int IntKind.i64 (AV.v ((q0.cell? ((q1.add (q2 * 5)).add 0)).getD (Value.tuple (Array.mk [])))).intOf),AV.v (Value.int IntKind.i64 (AV.v ((q0.cell? (Addr.mk (q1.add (q2 * 5)).block ((q1.add (q2 * 5)).off + 1) none)).getD (Value.tuple (Array.mk [])))).intOf),AV.v (Value.string (AV.v ((q0.cell? (Addr.mk (q1.add (q2 * 5)).block ((q1.add (q2 * 5)).off + 2) none)).getD (Value.tuple (Array.mk [])))).strOf),AV.v ((q0.cell? (Addr.mk (q1.add (q2 * 5)).block ((q1.add (q2 * 5)).off + 3) none)).getD (Value.tuple (Array.mk []))),AV.v ((q0.cell? (Addr.mk (q1.add (q2 * 5)).block ((q1.add (q2 * 5)).off + 4) none)).getD (Value.tuple (Array.mk [])))]) (AV.agg [z' q3.k,z' q3.n,s' q3.t,AV.v (Value.slice q3.la q3.ll q3.lc),AV.v (Value.slice q3.na q3.nl q3.nc)])))))
end
theorem aJ' (W : World) (r r' x x' : Rj) (a b : Addr) (i : Nat) (F : HP) : AR' [(fSa, cSa x x')] (hSl i x x') [] W fSa (A2' fSa 9) (tms 0 81 (aSl i)) (oSa { r with la := some a } { r' with la := some b }) [1000, 1001] [2, 3, 6] F = VT.leaf (AX.normal,[AV.ptr 1000 0,AV.ptr 1001 0,i' (i + 1)],81) [some (AO.cells [z' r.k,z' r.n,s' r.t,AV.v (Value.slice (some a) r.ll r.lc),AV.v (Value.slice r.na r.nl r.nc)] 50),some (AO.cells [z' r'.k,z' r'.n,s' r'.t,AV.v (Value.slice (some b) r'.ll r'.lc),AV.v (Value.slice r'.na r'.nl r'.nc)] 50)] 1100 (k8'.a ((k57' i r).a (k8'.a ((k58' i r).a ((k59' W a i x).a (k8'.a ((k58' i r').a ((k59' W b i x').a (((Cnd.p True).a (f' (VW [AV.agg [z' x.k,z' x.n,s' x.t,AV.v (Value.slice x.la x.ll x.lc),AV.v (Value.slice x.na x.nl x.nc)],AV.agg [z' x'.k,z' x'.n,s' x'.t,AV.v (Value.slice x'.la x'.ll x'.lc),AV.v (Value.slice x'.na x'.nl x'.nc)]] [AV.agg [z' x.k,z' x.n,s' x.t,AV.v (Value.slice x.la x.ll x.lc),AV.v (Value.slice x.na x.nl x.nc)],AV.agg [z' x'.k,z' x'.n,s' x'.t,AV.v (Value.slice x'.la x'.ll x'.lc),AV.v (Value.slice x'.na x'.nl x'.nc)]]))).a (k32'.a ((k7' i).a t'))))))))))) := by kernel_rfl
noncomputable section
abbrev k60' (q0 : Rj) : Cnd := (f' (Wk (b' (decide (Int.ofNat q0.ll < ↑q0.ll))) g'))
end
theorem aK' (W : World) (r r' : Rj) (F : HP) : AR' [] (A9' [(fSa, 9, 4, hv (.lit false))]) [] W fSa (A2' fSa 9) (tms 0 81 (aSl r.ll)) (oSa r r') [1000, 1001] [2, 3, 6] F = VT.leaf (AX.exit 2,[AV.ptr 1000 0,AV.ptr 1001 0,i' r.ll],81) [some (AO.cells [z' r.k,z' r.n,s' r.t,AV.v (Value.slice r.la r.ll r.lc),AV.v (Value.slice r.na r.nl r.nc)] 50),some (AO.cells [z' r'.k,z' r'.n,s' r'.t,AV.v (Value.slice r'.la r'.ll r'.lc),AV.v (Value.slice r'.na r'.nl r'.nc)] 50)] 1100 (k8'.a ((k60' r).a t')) := by kernel_rfl
def gSaP (tmps : List AV) : AP (Nat × Nat) := match getL tmps 2 with
 | .ptr a _ => match getL tmps 3 with
  | .ptr b _ => .ret (a, b)
  | _ => .fail "same"
 | _ => .fail "same"
def nmSa (a b : Nat) : Nat → Nat := fun k => match Nat.beq k 1000 with
 | true => a
 | false => b
def lSn (r r' : Rj) : List AV → AP (AX × List AV) := mkL gSaP (fun _ => True) (fun q => nmSa q.1 q.2) (fun _ => tms 0 81 (aSn 0)) (fun _ => oSa r r') (fun _ => .leaf (.exit 0) (tms 0 81 [(2, .ptr 1000 0), (3, .ptr 1001 0)]) (oSa r r'))
def lSl (r r' : Rj) : List AV → AP (AX × List AV) := mkL gSaP (fun _ => True) (fun q => nmSa q.1 q.2) (fun _ => tms 0 81 (aSl 0)) (fun _ => oSa r r') (fun _ => .leaf (.exit 2) (tms 0 81 [(2, .ptr 1000 0), (3, .ptr 1001 0)]) (oSa r r'))
def hSaF : B8' := A9' [(fSa, 1, 4, hv (.lit false)), (fSa, 1, 10, hv (.lit false)), (fSa, 1, 17, hv (.lit false)), (fSa, 1, 26, hv (.lit false)), (fSa, 1, 35, hv (.lit false))]
noncomputable section
abbrev k61' (q0 : Rj) : Cnd := ((p' (true = true)).a (f' (z' q0.k = z' q0.k)))
abbrev k62' (q0 : Rj) : Cnd := ((p' (true = true)).a (f' (z' q0.n = z' q0.n)))
abbrev k63' (q0 : Rj) : Cnd := ((p' (true = true)).a (f' (s' q0.t = s' q0.t)))
abbrev k64' (q0 : Rj) : Cnd := (p' (OW (AO.cells [z' q0.k,z' q0.n,s' q0.t,AV.v (Value.slice q0.la q0.ll q0.lc),AV.v (Value.slice q0.na q0.nl q0.nc)] 50) (AO.cells [z' q0.k,z' q0.n,s' q0.t,AV.v (Value.slice q0.la q0.ll q0.lc),AV.v (Value.slice q0.na q0.nl q0.nc)] 50)))
end
theorem oSa_eq (W : World) (r r' : Rj) (F : HP) : wRun [] hSaF [(fSa, 4, A2' fSa 4, lSn r r'), (fSa, 9, A2' fSa 9, lSl r r')] W fSa [aggJ r, aggJ r'] [] [] F = VT.leaf (b' true) [] 1106 ((k61' r).a ((k61' r').a ((f' (Wk (b' (r.k != r'.k)) g')).a ((k62' r).a ((k62' r').a ((f' (Wk (b' (r.n != r'.n)) g')).a ((k63' r).a ((k63' r').a ((f' (Wk (AV.v (Value.bool !r.t.toList == r'.t.toList)) g')).a (k8'.a (k8'.a ((f' (Wk (b' ((↑r.ll : Int) != ↑r'.ll)) g')).a (k8'.a (k8'.a ((f' (Wk (b' ((↑r.nl : Int) != ↑r'.nl)) g')).a ((p' ((fSa,4,A2' fSa 4,lSn r r').snd.snd.fst = (fSa,4,A2' fSa 4,lSn r r').snd.snd.fst)).a (k12'.a ((p' (VW (AV.agg [z' r.k,z' r.n,s' r.t,AV.v (Value.slice r.la r.ll r.lc),AV.v (Value.slice r.na r.nl r.nc)]::AV.agg [z' r'.k,z' r'.n,s' r'.t,AV.v (Value.slice r'.la r'.ll r'.lc),AV.v (Value.slice r'.na r'.nl r'.nc)]::AV.ptr 1100 0::AV.ptr 1101 0::b' false::i' 0::u'::AV.ptr 1100 0::z' r.k::AV.ptr 1101 0::z' r'.k::g'::g'::AV.ptr 1100 1::z' r.n::AV.ptr 1101 1::z' r'.n::g'::g'::g'::AV.ptr 1100 2::s' r.t::AV.ptr 1101 2::s' r'.t::g'::g'::g'::AV.ptr 1100 3::AV.v (Value.slice r.la r.ll r.lc)::z' ↑r.ll::AV.ptr 1101 3::AV.v (Value.slice r'.la r'.ll r'.lc)::z' ↑r'.ll::g'::g'::g'::AV.ptr 1100 4::AV.v (Value.slice r.na r.nl r.nc)::z' ↑r.nl::AV.ptr 1101 4::AV.v (Value.slice r'.na r'.nl r'.nc)::z' ↑r'.nl::g'::g'::ru16 (ru16 (ru4 (u'::[])))) (a'::a'::AV.ptr 1100 0::AV.ptr 1101 0::a'::i' 0::ra16 (ra16 (ra16 (ra16 (ra8 (a'::a'::a'::[])))))))).a ((k64' r).a ((k64' r').a ((p' ((fSa,9,A2' fSa 9,lSl r r').snd.snd.fst = (fSa,9,A2' fSa 9,lSl r r').snd.snd.fst)).a (k12'.a ((p' (VW (a'::a'::AV.ptr 1102 0::AV.ptr 1103 0::a'::a'::i' 0::ra16 (ra16 (ra16 (ra16 (ra8 (a'::a'::[])))))) (a'::a'::AV.ptr 1102 0::AV.ptr 1103 0::a'::a'::i' 0::ra16 (ra16 (ra16 (ra16 (ra8 (a'::a'::[])))))))).a ((k64' r).a ((k64' r').a t'))))))))))))))))))))))))) := by kernel_rfl
end
theorem ltF' {n : Nat} : decide (Int.ofNat n < (n : Int)) = false := decide_eq_false (by simp only [Z0]; omega)
theorem ltT' {j n : Nat} (h : j < n) : decide (Int.ofNat j < (n : Int)) = true := decide_eq_true (by simp only [Z0]; omega)
theorem c5 {C : Mem} {A : Addr} {r : Rj} (h : Cells C A r.cells) : C (A.add 0) = some (.int .i64 r.k) ∧ C (Addr.mk A.block (A.off + 1) none) = some (.int .i64 r.n) ∧ C (Addr.mk A.block (A.off + 2) none) = some (.string r.t) ∧ C (Addr.mk A.block (A.off + 3) none) = some (.slice r.la r.ll r.lc) ∧ C (Addr.mk A.block (A.off + 4) none) = some (.slice r.na r.nl r.nc) :=
 ⟨h 0 _ rfl, h 1 _ rfl, h 2 _ rfl, h 3 _ rfl, h 4 _ rfl⟩
theorem all5 {W : World} {A : Addr} {r : Rj} (h : Cells W.cell? A r.cells) : ([0, 1, 2, 3, 4].all fun j => (W.cell? (A.add j)).isSome) = true := by
 have e0 : W.cell? (A.add 0) = some _ := h 0 _ rfl
 have e1 : W.cell? (A.add 1) = some _ := h 1 _ rfl
 have e2 : W.cell? (A.add 2) = some _ := h 2 _ rfl
 have e3 : W.cell? (A.add 3) = some _ := h 3 _ rfl
 have e4 : W.cell? (A.add 4) = some _ := h 4 _ rfl
 simp only [List.all_cons, List.all_nil, e0, e1, e2, e3, e4, Bool.and_true, Option.isSome_some]
theorem CE' {r : Rj} {x0 x1 : Int} {x2 : ByteArray} {x3 x4 : Value} (h0 : x0 = r.k) (h1 : x1 = r.n) (h2 : x2 = r.t) (h3 : x3 = .slice r.la r.ll r.lc) (h4 : x4 = .slice r.na r.nl r.nc) : Wk (.agg [.v (.int .i64 x0), .v (.int .i64 x1), .v (.string x2), .v x3, .v x4]) (aggJ r) := by
 subst h0 h1 h2 h3 h4; exact Ya
theorem BS' {α : Type} {l : List α} {i : Nat} (h : i < l.length) : ∃ x, l[i]? = some x := ⟨_, List.getElem?_eq_getElem h⟩
theorem E7' {n k : Nat} (h : n * k ≤ big) (hk : 0 < k) : n ≤ 140737488351232 := Nat.le_trans (Nat.le_mul_of_pos_right n hk) h
theorem cSa_ok {W : World} {r r' : Rj} (h : Tri Tryz.prog W fSa [aggJ r, aggJ r'] [] (bv true) []) (F : HP) (hF : AK' W F) : C1OK Tryz.prog F fSa (cSa r r') :=
 BR' hF (fun _ => bv true) (fun _ => RO.ret _) (fun _ => rfl) (fun _ _ => h) fun _ => ⟨rfl, rfl, ⟨⟨Ye, Ye, Ye, Ye, Ye, Ye⟩, ⟨Ye, Ye, Ye, Ye, Ye, Ye⟩, Ye⟩, A7', ⟨Ye, Ye⟩, A7'⟩
theorem UE' (args : List AV) : RO (gSaP args) := by
 unfold gSaP
 split
 ·split
  ·exact RO.ret _
  ·exact RO.fail _
 ·exact RO.fail _
theorem QJ' (K : Nat → Bool) (r r' : Rj) : ∀ x ∈ oSa r r', x.2.cl K := A1' ⟨Ye, Ye, Ye, Ye, Ye, Ye⟩ (A1' ⟨Ye, Ye, Ye, Ye, Ye, Ye⟩ A7')
theorem two_l {F : HP} {f g : FuncId} {i j : Nat} {b c : Code} {p q : List AV → AP (AX × List AV)} (h : L1OK Tryz.prog F b p) (h2 : L1OK Tryz.prog F c q) : ∀ x ∈ ([(f, i, b, p), (g, j, c, q)] : LcL), L1OK Tryz.prog F x.2.2.1 x.2.2.2 := fun x hx => by
 rcases List.mem_cons.1 hx with rfl | hx
 ·exact h
 ·simp only [List.mem_singleton] at hx; subst hx; exact h2
theorem ZP' (W : World) (d : Nat) (hV : ∀ v r r', JAt W.cell? d v r → JAt W.cell? d v r' → Tri Tryz.prog W fSa [aggJ r, aggJ r'] [] (bv true) []) (v : Jv) (r r' : Rj) (ha : JAt W.cell? (d + 1) v r) (hb : JAt W.cell? (d + 1) v r') :
  Tri Tryz.prog W fSa [aggJ r, aggJ r'] [] (bv true) [] := by
 obtain ⟨⟨i1, i2, i3, i4, i5⟩, al, af⟩ := ha
 obtain ⟨⟨j1, j2, j3, j4, j5⟩, bl, bf⟩ := hb
 have hlen := E7' al.1 (by decide)
 have hlen2 := E7' af.1 (by decide)
 have k1 : r.k = r'.k := i1.trans j1.symm
 have k2 : r.n = r'.n := i2.trans j2.symm
 have k3 : r.t = r'.t := i3.trans j3.symm
 have k4 : r'.ll = r.ll := j4.trans i4.symm
 have k5 : r'.nl = r.nl := j5.trans i5.symm
 have hnl : LTri Tryz.prog W (A2' fSa 4) (tms 0 81 (aSn 0)) (oSa r r') (.exit 0) (tms 0 81 [(2, .ptr 1000 0), (3, .ptr 1001 0)]) (oSa r r') := by
  refine BW' (W := W) (g := fSa) (b := A2' fSa 4) (σ := {j : Nat // j ≤ r.nl}) 81 (fun j => aSn j.1) (fun j => oSa r r') (.exit 0) [(2, .ptr 1000 0), (3, .ptr 1001 0)] (oSa r r') (fun j => r.nl - j.1) [1000, 1001] [2, 3, 5] (by intro h; cases h) (fun _ => rfl) rfl ?_ ⟨0, Nat.zero_le _⟩
  rintro ⟨j, hj⟩
  simp only
  by_cases h1 : j < r.nl
  ·obtain ⟨nm, hx⟩ := BS' (l := v.names) (i := j) (by omega)
   obtain ⟨a, ea, q1⟩ := af.2 j nm hx
   obtain ⟨b, eb, p1⟩ := bf.2 j nm hx
   rw [show j = j * 1 by omega] at q1 p1
   have hw := BO' j (by omega)
   have e1 : decide (Int.ofNat j < (r.nl : Int)) = true := ltT' h1
   have c1 : (!(nm.toList == nm.toList)) = false := by rw [beq_self_eq_true]; rfl
   have h2 : j < r'.nl := by omega
   obtain ⟨rk, rn, rt, rla, rll, rlc, rta, rtl, rtc⟩ := r
   obtain ⟨rk', rn', rt', rla', rll', rlc', rta', rtl', rtc'⟩ := r'
   simp only at ea eb
   subst ea eb
   refine ⟨[], hSn j nm, [], fun F hF => noC, fun _ _ => noL, fun F => ?_⟩
   refine Yj (aH' W ⟨rk, rn, rt, rla, rll, rlc, none, rtl, rtc⟩ ⟨rk', rn', rt', rla', rll', rlc', none, rtl', rtc'⟩ nm a b j F) ⟨⟨?_, rfl, .inl ⟨rfl, ⟨j + 1, h1⟩, BD' h1, [(1000, 1000), (1001, 1001)], by kernel_rfl, by kernel_rfl, ⟨Ya, Ya, Ya, Ye⟩, ⟨_, rfl, Yc⟩, ⟨_, rfl, Yc⟩, Ye⟩⟩⟩
   simp only [Cnd.holds, e1, h1, h2, q1, p1, Option.getD_some, Option.isSome_some, Nat.blt_eq, true_and, and_true]
   and_intros
   all_goals first
    | (with_reducible exact AP' hw)
    | exact A0' e1
    | exact A0' c1 | (with_reducible first | exact Ye | exact Yf | exact A4' _ | assumption) | exact Yf | ((repeat (first | exact VW.nil | refine Yg ?_ | refine Yh ?_ | refine Yi ?_)); done)
  ·have hje : j = r.nl := by omega
   subst hje
   refine ⟨[], A9' [(fSa, 4, 4, hv (.lit false))], [], fun _ _ => noC, fun _ _ => noL, fun F => ?_⟩
   refine Yj (aI' W r r' F) ⟨⟨?_, rfl, .inr ⟨rfl, [(1000, 1000), (1001, 1001)], by kernel_rfl, by kernel_rfl, ⟨Ya, Ya, Ye⟩, ⟨_, rfl, Yc⟩, ⟨_, rfl, Yc⟩, Ye⟩⟩⟩
   simp only [Cnd.holds, and_true, true_and]
   exact A0' ltF'
 have hll : LTri Tryz.prog W (A2' fSa 9) (tms 0 81 (aSl 0)) (oSa r r') (.exit 2) (tms 0 81 [(2, .ptr 1000 0), (3, .ptr 1001 0)]) (oSa r r') := by
  refine BW' (W := W) (g := fSa) (b := A2' fSa 9) (σ := {j : Nat // j ≤ r.ll}) 81 (fun j => aSl j.1) (fun j => oSa r r') (.exit 2) [(2, .ptr 1000 0), (3, .ptr 1001 0)] (oSa r r') (fun j => r.ll - j.1) [1000, 1001] [2, 3, 6] (by intro h; cases h) (fun _ => rfl) rfl ?_ ⟨0, Nat.zero_le _⟩
  rintro ⟨j, hj⟩
  simp only
  by_cases h1 : j < r.ll
  ·obtain ⟨x, hx⟩ := BS' (l := v.list) (i := j) (by omega)
   obtain ⟨a, s, ea, q1, q2⟩ := al.2 j x hx
   obtain ⟨b, s', eb, p1, p2⟩ := bl.2 j x hx
   have hsv := cSa_ok (hV x s s' q2 p2)
   have aA := all5 q1
   have bA := all5 p1
   obtain ⟨a1, a2, a3, a4, a5⟩ := c5 q1
   obtain ⟨b1, b2, b3, b4, b5⟩ := c5 p1
   have hw := BO' j (by omega)
   have e1 : decide (Int.ofNat j < (r.ll : Int)) = true := ltT' h1
   have h2 : j < r'.ll := by omega
   obtain ⟨rk, rn, rt, rla, rll, rlc, rta, rtl, rtc⟩ := r
   obtain ⟨rk', rn', rt', rla', rll', rlc', rta', rtl', rtc'⟩ := r'
   simp only at ea eb
   subst ea eb
   refine ⟨[(fSa, cSa s s')], hSl j s s', [], fun F hF => AO' (hsv F hF), fun _ _ => noL, fun F => ?_⟩
   refine Yj (aJ' W ⟨rk, rn, rt, none, rll, rlc, rta, rtl, rtc⟩ ⟨rk', rn', rt', none, rll', rlc', rta', rtl', rtc'⟩ s s' a b j F) ⟨⟨?_, rfl, .inl ⟨rfl, ⟨j + 1, h1⟩, BD' h1, [(1000, 1000), (1001, 1001)], by kernel_rfl, by kernel_rfl, ⟨Ya, Ya, Ya, Ye⟩, ⟨_, rfl, Yc⟩, ⟨_, rfl, Yc⟩, Ye⟩⟩⟩
   simp only [Cnd.holds, e1, h1, h2, aA, bA, a1, a2, a3, a4, a5, b1, b2, b3, b4, b5, Option.getD_some, Option.isSome_some, Nat.blt_eq, true_and, and_true]
   and_intros
   all_goals first
    | (with_reducible exact AP' hw)
    | exact A0' e1
    | exact A0' rfl
    | exact CE' rfl rfl rfl rfl rfl | (with_reducible first | exact Ye | exact Yf | exact A4' _ | assumption) | exact Yf | ((repeat (first | exact VW.nil | refine Yg ?_ | refine Yh ?_ | refine Yi ?_)); done)
  ·have hje : j = r.ll := by omega
   subst hje
   refine ⟨[], A9' [(fSa, 9, 4, hv (.lit false))], [], fun _ _ => noC, fun _ _ => noL, fun F => ?_⟩
   refine Yj (aK' W r r' F) ⟨⟨?_, rfl, .inr ⟨rfl, [(1000, 1000), (1001, 1001)], by kernel_rfl, by kernel_rfl, ⟨Ya, Ya, Ye⟩, ⟨_, rfl, Yc⟩, ⟨_, rfl, Yc⟩, Ye⟩⟩⟩
   simp only [Cnd.holds, and_true, true_and]
   exact A0' ltF'
 have hl1 : ∀ F, AK' W F → L1OK Tryz.prog F (A2' fSa 4) (lSn r r') := fun F hF =>
  CL' hF UE' (fun _ _ => hnl) fun _ => by
   simp only [RT.pick]
   exact C0' rfl rfl (A1' rfl (A1' rfl (A1' Ye A7'))) (QJ' _ _ _) (A1' rfl (A1' rfl A7')) (QJ' _ _ _)
 have hl2 : ∀ F, AK' W F → L1OK Tryz.prog F (A2' fSa 9) (lSl r r') := fun F hF =>
  CL' hF UE' (fun _ _ => hll) fun _ => by
   simp only [RT.pick]
   exact C0' rfl rfl (A1' rfl (A1' rfl (A1' Ye A7'))) (QJ' _ _ _) (A1' rfl (A1' rfl A7')) (QJ' _ _ _)
 refine AD' (con := []) (hints := hSaF) (lc := [(fSa, 4, A2' fSa 4, lSn r r'), (fSa, 9, A2' fSa 9, lSl r r')]) [] rfl (fun F hF => noC) (fun F hF => two_l (hl1 F hF) (hl2 F hF)) fun F => ?_
 refine Yj (oSa_eq W r r' F) ⟨⟨?_, (AJ' (vs' := [bv true]) (H' := []) [] rfl rfl (Yb) trivial).fits rfl⟩⟩
 have c1 : (!(r.t.toList == r'.t.toList)) = false := by rw [k3, beq_self_eq_true]; rfl
 have c2 : (r.k != r'.k) = false := by rw [k1]; exact bne_self_eq_false _
 have c3 : (r.n != r'.n) = false := by rw [k2]; exact bne_self_eq_false _
 have c4 : ((r.ll : Int) != (r'.ll : Int)) = false := by rw [k4]; exact bne_self_eq_false _
 have c5 : ((r.nl : Int) != (r'.nl : Int)) = false := by rw [k5]; exact bne_self_eq_false _
 simp only [Cnd.holds, Nat.blt_eq, true_and, and_true]
 and_intros
 all_goals first
  | exact A0' c1
  | exact A0' c2
  | exact A0' c3
  | exact A0' c4
  | exact A0' c5 | (with_reducible first | exact Ye | exact Yf | exact A4' _ | assumption) | exact Yf | ((repeat (first | exact VW.nil | refine Yg ?_ | refine Yh ?_ | refine Yi ?_)); done)
theorem R8' (W : World) : ∀ (d : Nat) (v : Jv) (r r' : Rj), JAt W.cell? d v r → JAt W.cell? d v r' → Tri Tryz.prog W fSa [aggJ r, aggJ r'] [] (bv true) []
 | 0, _, _, _, h, _ => h.elim
 | d + 1, v, r, r', h, h' => ZP' W d (R8' W d) v r r' h h'
end Go.Proofs.YtdphpillcaajpaaGreatDoor.Js
