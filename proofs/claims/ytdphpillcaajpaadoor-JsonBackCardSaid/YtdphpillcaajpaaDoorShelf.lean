/- Contracts of the shelf at this program, laid by the kit's tool; those that are used. -/
import Derived.Shelf.Strings.Builder1
import Derived.Shelf.Small.Utf8
import Derived.Shelf.Small.Strs
import Derived.Shelf.Small.Wraps
import Derived.Shelf.Strings.BuilderF
import Derived.Shelf.Strings.BuilderK
import Derived.Shelf.Utf8.AppendRune
import Derived.Shelf.Utf8.AppendRunePlain
import Derived.Shelf.Strconv.Atoi
import Derived.Shelf.Strconv.Itoa0
import Derived.Shelf.Strconv.Itoa1
import Derived.Shelf.LaysM
import Derived.Shelf.Strconv.Itoa2
import Derived.Shelf.Strconv.Itoa3
import Derived.Shelf.Strconv.AtoiErrFast
import Derived.Shelf.Strconv.ParseIntEmpty
import Derived.Shelf.Strconv.AtoiFail
import Derived.Shelf.Strconv.Clone
import Derived.Shelf.Strconv.SyntaxError
import Derived.Shelf.LaysC
import Derived.Shelf.Strconv.ToError
import Derived.Shelf.Strconv.Lower
import Derived.Shelf.Strconv.ParseUint10
import Derived.Shelf.Strconv.ParseUint10Empty
import Derived.Shelf.Strconv.ParseUint10Any
import Derived.Shelf.Strconv.ParseInt10
import Derived.Shelf.Strconv.AtoiLong
import Derived.Shelf.Strconv.AtoiInnerAll
import Derived.Shelf.Strconv.RangeError
import Derived.Shelf.Strconv.ToErrorRange
import Derived.Shelf.Strconv.AtoiAll
import Derived.Shelf.Strconv.ParseUintEmpty
import Derived.Shelf.Strconv.ParseUint10b64
import Derived.Shelf.Strconv.ParseUint10b32
import Derived.Shelf.Strconv.ParseUint10b16
import Derived.Shelf.Strconv.ParseUint10b8
import Derived.Shelf.Strconv.ParseUint10At
import Derived.Shelf.Strings.Search1
import Derived.Shelf.Strings.Prefix
import Derived.Shelf.Unicode.Decode
import Derived.Shelf.Strings.Runes
import Derived.Shelf.Strings.IndexAny
import Derived.Shelf.Strings.AsciiSet
import Derived.Shelf.Strings.IndexAnyAll
import Derived.Shelf.Unicode.DecodeSlow
import Derived.Shelf.Unicode.DecodeAny
import Derived.Shelf.Strings.BuilderCap
import Derived.Shelf.Slices.Turned
import Derived.Test.YtdphpillcaajpaaDoorProg
set_option linter.unusedVariables false
set_option linter.unusedSimpArgs false
namespace Go.Proofs
theorem tq {α : Type _} {x : Option α} {a b : α} (h : x = some a) (e : a = b) : x = some b := h.trans (congrArg some e)
open Go.Shelf
def Tryd.lays137_ren : Go.Shelf.Ren := ⟨fun | 137 => 45 | 217 => 63 | 266 => 79 | n => n, fun | 9 => 9 | 5 => 5 | 3 => 3 | n => n, fun | n => n⟩
theorem Tryd.lays137 : Go.Proofs.Lays.n137 Tryd.prog Tryd.lays137_ren := {
 mixed := by kernel_rfl
 f137 := tq Tryd.func45 (by kernel_rfl)
 f217 := tq Tryd.func63 (by kernel_rfl)
 f266 := tq Tryd.func79 (by kernel_rfl)
 t3 := Tryd.underlying3
 a3 := Tryd.isAgg3
 z3 := Tryd.sizeOf3
 v3 := Tryd.zeroValue3
 t5 := Tryd.underlying5
 a5 := Tryd.isAgg5
 z5 := Tryd.sizeOf5
 v5 := Tryd.zeroValue5
 t9 := Tryd.underlying9
 a9 := Tryd.isAgg9
 z9 := Tryd.sizeOf9
 v9 := Tryd.zeroValue9 }
open Go.RowKit in theorem Tryd.strings_IndexByte (s : ByteArray) (c : Int) (w : World) :
   Calls Tryd.prog 45 #[.string s, .int .u8 c] w fun e w' => e = .returned (.int .i64 (Lib.indexByte s.data.toList c.toNat.toUInt8)) ∧ w' = w := Any.strings_IndexByte Tryd.lays137 s c w
def Tryd.lays121_ren : Go.Shelf.Ren := ⟨fun | 121 => 37 | 214 => 55 | n => n, fun | 4 => 4 | 9 => 9 | n => n, fun | n => n⟩
theorem Tryd.lays121 : Go.Proofs.Lays.n121 Tryd.prog Tryd.lays121_ren := {
 mixed := by kernel_rfl
 f121 := tq Tryd.func37 (by kernel_rfl)
 f214 := tq Tryd.func55 (by kernel_rfl)
 t4 := Tryd.underlying4
 a4 := Tryd.isAgg4
 z4 := Tryd.sizeOf4
 v4 := Tryd.zeroValue4
 t9 := Tryd.underlying9
 a9 := Tryd.isAgg9
 z9 := Tryd.sizeOf9
 v9 := Tryd.zeroValue9 }
open Go.RowKit in theorem Tryd.strconv_FormatBool (b : Bool) (w : World) :
   Calls Tryd.prog 37 #[.bool b] w fun e w' => e = .returned (.string ⟨(Lib.formatBool b).toArray⟩) ∧ w' = w := Any.strconv_FormatBool Tryd.lays121 b w
def Tryd.laysC245_ren : Go.Shelf.Ren := ⟨fun | 245 => 51 | 279 => 70 | 280 => 71 | 281 => 72 | 282 => 73 | 316 => 84 | 171 => 34 | 205 => 85 | 243 => 53 | 246 => 74 | 283 => 86 | 284 => 87 | 285 => 88 | 286 => 89 | 129 => 95 | 317 => 94 | 318 => 96 | 319 => 97 | 320 => 98 | 337 => 99 | 338 => 100 | n => n, fun | 9 => 9 | 3 => 3 | 75 => 64 | 167 => 94 | 4 => 4 | 168 => 97 | 210 => 113 | 37 => 47 | 0 => 0 | 127 => 74 | 145 => 128 | 143 => 126 | 2 => 2 | 171 => 115 | 53 => 108 | 5 => 5 | 173 => 118 | 212 => 130 | 51 => 124 | 20 => 20 | 213 => 131 | 46 => 81 | 232 => 134 | 233 => 135 | 80 => 51 | n => n, fun | 15 => 0 | 16 => 1 | 17 => 5 | 18 => 6 | 19 => 7 | n => n⟩
theorem Tryd.laysC245 : Go.Proofs.LaysC.n245 Tryd.prog Tryd.laysC245_ren := {
 mixed := by kernel_rfl
 f129 := tq Tryd.func95 (by kernel_rfl)
 f171 := tq Tryd.func34 (by kernel_rfl)
 f205 := tq Tryd.func85 (by kernel_rfl)
 f243 := tq Tryd.func53 (by kernel_rfl)
 f245 := tq Tryd.func51 (by kernel_rfl)
 f246 := tq Tryd.func74 (by kernel_rfl)
 f279 := tq Tryd.func70 (by kernel_rfl)
 f280 := tq Tryd.func71 (by kernel_rfl)
 f281 := tq Tryd.func72 (by kernel_rfl)
 f282 := tq Tryd.func73 (by kernel_rfl)
 f283 := tq Tryd.func86 (by kernel_rfl)
 f284 := tq Tryd.func87 (by kernel_rfl)
 f285 := tq Tryd.func88 (by kernel_rfl)
 f286 := tq Tryd.func89 (by kernel_rfl)
 f316 := tq Tryd.func84 (by kernel_rfl)
 f317 := tq Tryd.func94 (by kernel_rfl)
 f318 := tq Tryd.func96 (by kernel_rfl)
 f319 := tq Tryd.func97 (by kernel_rfl)
 f320 := tq Tryd.func98 (by kernel_rfl)
 f337 := tq Tryd.func99 (by kernel_rfl)
 f338 := tq Tryd.func100 (by kernel_rfl)
 t0 := Tryd.underlying0
 a0 := Tryd.isAgg0
 z0 := Tryd.sizeOf0
 v0 := Tryd.zeroValue0
 t2 := Tryd.underlying2
 a2 := Tryd.isAgg2
 z2 := Tryd.sizeOf2
 v2 := Tryd.zeroValue2
 t3 := Tryd.underlying3
 a3 := Tryd.isAgg3
 z3 := Tryd.sizeOf3
 v3 := Tryd.zeroValue3
 t4 := Tryd.underlying4
 a4 := Tryd.isAgg4
 z4 := Tryd.sizeOf4
 v4 := Tryd.zeroValue4
 t5 := Tryd.underlying5
 a5 := Tryd.isAgg5
 z5 := Tryd.sizeOf5
 v5 := Tryd.zeroValue5
 t9 := Tryd.underlying9
 a9 := Tryd.isAgg9
 z9 := Tryd.sizeOf9
 v9 := Tryd.zeroValue9
 t20 := Tryd.underlying20
 a20 := Tryd.isAgg20
 z20 := Tryd.sizeOf20
 v20 := Tryd.zeroValue20
 t37 := Tryd.underlying47
 a37 := Tryd.isAgg47
 z37 := Tryd.sizeOf47
 v37 := Tryd.zeroValue47
 t46 := Tryd.underlying81
 a46 := Tryd.isAgg81
 z46 := Tryd.sizeOf81
 v46 := Tryd.zeroValue81
 t51 := Tryd.underlying124
 a51 := Tryd.isAgg124
 z51 := Tryd.sizeOf124
 v51 := Tryd.zeroValue124
 t53 := Tryd.underlying108
 a53 := Tryd.isAgg108
 z53 := Tryd.sizeOf108
 v53 := Tryd.zeroValue108
 t75 := Tryd.underlying64
 a75 := Tryd.isAgg64
 z75 := Tryd.sizeOf64
 v75 := Tryd.zeroValue64
 t127 := Tryd.underlying74
 a127 := Tryd.isAgg74
 z127 := Tryd.sizeOf74
 v127 := Tryd.zeroValue74
 t143 := Tryd.underlying126
 a143 := Tryd.isAgg126
 z143 := Tryd.sizeOf126
 v143 := Tryd.zeroValue126
 t145 := Tryd.underlying128
 a145 := Tryd.isAgg128
 z145 := Tryd.sizeOf128
 v145 := Tryd.zeroValue128
 t167 := Tryd.underlying94
 a167 := Tryd.isAgg94
 z167 := Tryd.sizeOf94
 v167 := Tryd.zeroValue94
 t168 := Tryd.underlying97
 a168 := Tryd.isAgg97
 z168 := Tryd.sizeOf97
 v168 := Tryd.zeroValue97
 t171 := Tryd.underlying115
 a171 := Tryd.isAgg115
 z171 := Tryd.sizeOf115
 v171 := Tryd.zeroValue115
 t173 := Tryd.underlying118
 a173 := Tryd.isAgg118
 z173 := Tryd.sizeOf118
 v173 := Tryd.zeroValue118
 t210 := Tryd.underlying113
 a210 := Tryd.isAgg113
 z210 := Tryd.sizeOf113
 v210 := Tryd.zeroValue113
 t212 := Tryd.underlying130
 a212 := Tryd.isAgg130
 z212 := Tryd.sizeOf130
 v212 := Tryd.zeroValue130
 t213 := Tryd.underlying131
 a213 := Tryd.isAgg131
 z213 := Tryd.sizeOf131
 t232 := Tryd.underlying134
 a232 := Tryd.isAgg134
 z232 := Tryd.sizeOf134
 v232 := Tryd.zeroValue134
 t233 := Tryd.underlying135
 a233 := Tryd.isAgg135
 z233 := Tryd.sizeOf135
 v233 := Tryd.zeroValue135
 g15 := by kernel_rfl
 g16 := by kernel_rfl
 g17 := by kernel_rfl
 g18 := by kernel_rfl
 g19 := by kernel_rfl
 t80 := Tryd.underlying51
 a80 := Tryd.isAgg51
 z80 := Tryd.sizeOf51
 v80 := Tryd.zeroValue51
 i0 := by kernel_rfl
 i2 := by kernel_rfl
 i3 := by kernel_rfl
 i4 := by kernel_rfl
 i5 := by kernel_rfl
 i9 := by kernel_rfl
 i20 := by kernel_rfl
 i37 := by kernel_rfl
 i46 := by kernel_rfl
 i51 := by kernel_rfl
 i53 := by kernel_rfl
 i75 := by kernel_rfl
 i80 := by kernel_rfl
 i127 := by kernel_rfl
 i143 := by kernel_rfl
 i145 := by kernel_rfl
 i167 := by kernel_rfl
 i168 := by kernel_rfl
 i171 := by kernel_rfl
 i173 := by kernel_rfl
 i210 := by kernel_rfl
 i212 := by kernel_rfl
 i232 := by kernel_rfl
 i233 := by kernel_rfl
 m15 := by kernel_rfl
 m16 := by kernel_rfl
 m17 := by kernel_rfl
 m18 := by kernel_rfl
 m19 := by kernel_rfl
 c0 := by kernel_rfl
 c2 := by kernel_rfl
 c3 := by kernel_rfl
 c4 := by kernel_rfl
 c5 := by kernel_rfl
 c9 := by kernel_rfl
 c20 := by kernel_rfl
 c37 := by kernel_rfl
 c46 := by kernel_rfl
 c51 := by kernel_rfl
 c53 := by kernel_rfl
 c75 := by kernel_rfl
 c80 := by kernel_rfl
 c127 := by kernel_rfl
 c143 := by kernel_rfl
 c145 := by kernel_rfl
 c167 := by kernel_rfl
 c168 := by kernel_rfl
 c171 := by kernel_rfl
 c173 := by kernel_rfl
 c210 := by kernel_rfl
 c212 := by kernel_rfl
 c213 := by kernel_rfl
 c232 := by kernel_rfl
 c233 := by kernel_rfl }
open Go.RowKit in theorem Tryd.strconv_toError_syntax (fn s : ByteArray) (base bits : Int) (ev : Value) (w : World) (hlim : s.size ≤ 281474976710656) (hv : w.cell? ⟨0, 0, none⟩ = some ev) (hev : ev = .nilIface ∨ ∃ te pe, ev = .iface te pe) :
   Calls Tryd.prog 51 #[.string fn, .string s, .int .i64 base, .int .i64 bits, .iface 94 (.int .i64 2)] w fun e w' => ∃ N, e = .returned (.iface 97 (.pointer (some ⟨N, 0, none⟩))) ∧ w.heap.size ≤ N ∧ w'.heap[N]? = some (.cells #[.string fn, .string s, ev] 113 (0, 0)) ∧ Below w.heap.size w w' := Any.strconv_toError_syntax Tryd.laysC245 fn s base bits ev w hlim hv hev
def Tryd.lays99_ren : Go.Shelf.Ren := ⟨fun | 99 => 62 | 206 => 64 | n => n, fun | 9 => 9 | 4 => 4 | 3 => 3 | n => n, fun | n => n⟩
theorem Tryd.lays99 : Go.Proofs.Lays.n99 Tryd.prog Tryd.lays99_ren := {
 mixed := by kernel_rfl
 f99 := tq Tryd.func62 (by kernel_rfl)
 f206 := tq Tryd.func64 (by kernel_rfl)
 t3 := Tryd.underlying3
 a3 := Tryd.isAgg3
 z3 := Tryd.sizeOf3
 v3 := Tryd.zeroValue3
 t4 := Tryd.underlying4
 a4 := Tryd.isAgg4
 z4 := Tryd.sizeOf4
 v4 := Tryd.zeroValue4
 t9 := Tryd.underlying9
 a9 := Tryd.isAgg9
 z9 := Tryd.sizeOf9
 v9 := Tryd.zeroValue9 }
open Go.RowKit Go.Lib in theorem Tryd.strings_HasPrefix (s p : ByteArray) (w : World) :
   Calls Tryd.prog 62 #[.string s, .string p] w fun e w' => e = .returned (.bool (Lib.hasPrefix s.data.toList p.data.toList)) ∧ w' = w := Any.strings_HasPrefix Tryd.lays99 s p w
def Tryd.lays197_ren : Go.Shelf.Ren := ⟨fun | 197 => 57 | 260 => 76 | n => n, fun | 9 => 9 | 21 => 21 | 3 => 3 | 4 => 4 | 5 => 5 | 105 => 83 | 119 => 120 | 0 => 0 | 46 => 81 | 139 => 123 | 138 => 122 | n => n, fun | 3 => 2 | 4 => 3 | n => n⟩
theorem Tryd.lays197 : Go.Proofs.Lays.n197 Tryd.prog Tryd.lays197_ren := {
 mixed := by kernel_rfl
 f197 := tq Tryd.func57 (by kernel_rfl)
 f260 := tq Tryd.func76 (by kernel_rfl)
 t0 := Tryd.underlying0
 a0 := Tryd.isAgg0
 z0 := Tryd.sizeOf0
 v0 := Tryd.zeroValue0
 t3 := Tryd.underlying3
 a3 := Tryd.isAgg3
 z3 := Tryd.sizeOf3
 v3 := Tryd.zeroValue3
 t4 := Tryd.underlying4
 a4 := Tryd.isAgg4
 z4 := Tryd.sizeOf4
 v4 := Tryd.zeroValue4
 t5 := Tryd.underlying5
 a5 := Tryd.isAgg5
 z5 := Tryd.sizeOf5
 v5 := Tryd.zeroValue5
 t9 := Tryd.underlying9
 a9 := Tryd.isAgg9
 z9 := Tryd.sizeOf9
 v9 := Tryd.zeroValue9
 t21 := Tryd.underlying21
 a21 := Tryd.isAgg21
 z21 := Tryd.sizeOf21
 v21 := Tryd.zeroValue21
 t46 := Tryd.underlying81
 a46 := Tryd.isAgg81
 z46 := Tryd.sizeOf81
 v46 := Tryd.zeroValue81
 t105 := Tryd.underlying83
 a105 := Tryd.isAgg83
 z105 := Tryd.sizeOf83
 v105 := Tryd.zeroValue83
 t119 := Tryd.underlying120
 a119 := Tryd.isAgg120
 z119 := Tryd.sizeOf120
 t138 := Tryd.underlying122
 a138 := Tryd.isAgg122
 z138 := Tryd.sizeOf122
 v138 := Tryd.zeroValue122
 t139 := Tryd.underlying123
 a139 := Tryd.isAgg123
 z139 := Tryd.sizeOf123
 v139 := Tryd.zeroValue123
 g3 := by kernel_rfl
 g4 := by kernel_rfl }
def Tryd.lays152_ren : Go.Shelf.Ren := ⟨fun | 152 => 65 | 137 => 45 | 119 => 80 | 224 => 81 | 225 => 82 | 217 => 63 | 266 => 79 | n => n, fun | 9 => 9 | 21 => 21 | 3 => 3 | 4 => 4 | 5 => 5 | 0 => 0 | 46 => 81 | n => n, fun | n => n⟩
theorem Tryd.lays152 : Go.Proofs.Lays.n152 Tryd.prog Tryd.lays152_ren := {
 mixed := by kernel_rfl
 f119 := tq Tryd.func80 (by kernel_rfl)
 f137 := tq Tryd.func45 (by kernel_rfl)
 f152 := tq Tryd.func65 (by kernel_rfl)
 f217 := tq Tryd.func63 (by kernel_rfl)
 f224 := tq Tryd.func81 (by kernel_rfl)
 f225 := tq Tryd.func82 (by kernel_rfl)
 f266 := tq Tryd.func79 (by kernel_rfl)
 t0 := Tryd.underlying0
 a0 := Tryd.isAgg0
 z0 := Tryd.sizeOf0
 v0 := Tryd.zeroValue0
 t3 := Tryd.underlying3
 a3 := Tryd.isAgg3
 z3 := Tryd.sizeOf3
 v3 := Tryd.zeroValue3
 t4 := Tryd.underlying4
 a4 := Tryd.isAgg4
 z4 := Tryd.sizeOf4
 v4 := Tryd.zeroValue4
 t5 := Tryd.underlying5
 a5 := Tryd.isAgg5
 z5 := Tryd.sizeOf5
 v5 := Tryd.zeroValue5
 t9 := Tryd.underlying9
 a9 := Tryd.isAgg9
 z9 := Tryd.sizeOf9
 v9 := Tryd.zeroValue9
 t21 := Tryd.underlying21
 a21 := Tryd.isAgg21
 z21 := Tryd.sizeOf21
 v21 := Tryd.zeroValue21
 t46 := Tryd.underlying81
 a46 := Tryd.isAgg81
 z46 := Tryd.sizeOf81
 v46 := Tryd.zeroValue81 }
open Go.RowKit Go.Lib in theorem Tryd.strings_IndexRune_ascii (s : ByteArray) (r : Int) (w : World) (h0 : 0 ≤ r) (h1 : r < 128) :
   Calls Tryd.prog 65 #[.string s, .int .i32 r] w fun e w' => e = .returned (.int .i64 (Lib.indexByte s.data.toList r.toNat.toUInt8)) ∧ w' = w := Any.strings_IndexRune_ascii Tryd.lays152 s r w h0 h1
open Go.RowKit Go.Lib in theorem Tryd.utf8_DecodeRuneInString (s : ByteArray) (w : World) (hT : Lib.Utf8Tabs 2 3 w) :
   Calls Tryd.prog 57 #[.string s] w fun e w' => e = .returned (.tuple #[.int .i32 (Lib.decodeGo s).1, .int .i64 (Lib.decodeGo s).2]) ∧ Below w.heap.size w w' := Any.utf8_DecodeRuneInString Tryd.lays197 s w hT
end Go.Proofs
