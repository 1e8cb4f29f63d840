/- Contracts of the shelf at this program, laid by the kit's tool; those that are used. -/
import Derived.Shelf.Strings.SlTrimAscii
import Derived.Shelf.Strings.Builder1
import Derived.Shelf.Strings.Builder2
import Derived.Shelf.Strings.OnBuilder
import Derived.Shelf.Strings.Trim
import Derived.Shelf.Small.Utf8
import Derived.Shelf.Small.Strs
import Derived.Shelf.Small.Wraps
import Derived.Shelf.Utf8.RuneCount
import Derived.Shelf.Strconv.Atoi
import Derived.Shelf.Strconv.Itoa0
import Derived.Shelf.Strconv.Itoa1
import Derived.Shelf.LaysM
import Derived.Shelf.Strconv.Itoa2
import Derived.Shelf.Strconv.Itoa3
import Derived.Shelf.Strconv.AtoiErrFast
import Derived.Shelf.Strconv.ParseIntEmpty
import Derived.Shelf.Strconv.AtoiFail
import Derived.Shelf.Strconv.Clone
import Derived.Shelf.Strconv.SyntaxError
import Derived.Shelf.LaysC
import Derived.Shelf.Strconv.ToError
import Derived.Shelf.Strconv.Lower
import Derived.Shelf.Strconv.ParseUint10
import Derived.Shelf.Strconv.ParseUint10Empty
import Derived.Shelf.Strconv.ParseUint10Any
import Derived.Shelf.Strconv.ParseInt10
import Derived.Shelf.Strconv.AtoiLong
import Derived.Shelf.Strconv.AtoiInnerAll
import Derived.Shelf.Strconv.RangeError
import Derived.Shelf.Strconv.ToErrorRange
import Derived.Shelf.Strconv.AtoiAll
import Derived.Shelf.Strings.Search1
import Derived.Shelf.Strings.Search2
import Derived.Shelf.Strings.Search3
import Derived.Shelf.Strings.Cut
import Derived.Shelf.Strings.Count
import Derived.Shelf.Strings.Shaped
import Derived.Shelf.Strings.Prefix
import Derived.Shelf.Strings.Split
import Derived.Shelf.Strings.SplitShaped
import Derived.Shelf.Unicode.Latin
import Derived.Shelf.Unicode.Decode
import Derived.Shelf.Strings.Runes
import Derived.Shelf.Strings.RuneCount
import Derived.Shelf.Strings.IndexAny
import Derived.Shelf.Strings.AsciiSet
import Derived.Shelf.Strings.IndexAnyAll
import Derived.Shelf.Strings.Explode
import Derived.Shelf.Unicode.DecodeSlow
import Derived.Shelf.Unicode.DecodeAny
import Derived.Shelf.Unicode.DecodeLast
import Derived.Shelf.Unicode.CaseLookup
import Derived.Shelf.Unicode.CaseConvert
import Derived.Shelf.Unicode.CaseTo
import Derived.Shelf.Unicode.CaseLaid
import Derived.Shelf.Bytes.SlIndexSmall
import Derived.Shelf.Bytes.SlIndexAt
import Derived.Shelf.Bytes.SlSearch0
import Derived.Shelf.Bytes.SlSearch1
import Derived.Shelf.Bytes.SlSearch2
import Derived.Shelf.Bytes.SlIndexWhole
import Derived.Ground.SlbCloneProg
import Derived.Shelf.Bytes.SlClone
import Derived.Shelf.Bytes.SlSmallAll
import Derived.Shelf.Bytes.Small
import Derived.Shelf.Bytes.IndexByte
import Derived.Test.YtpijbbobejeemaaGreatDoorProg
set_option linter.unusedVariables false
set_option linter.unusedSimpArgs false
namespace Go.Proofs
theorem tq {α : Type _} {x : Option α} {a b : α} (h : x = some a) (e : a = b) : x = some b := h.trans (congrArg some e)
open Go.Shelf
def Tryz.lays159_ren : Go.Shelf.Ren := ⟨fun | 159 => 58 | 165 => 66 | 166 => 67 | 167 => 87 | 169 => 68 | 230 => 88 | 204 => 89 | 240 => 100 | 241 => 101 | 197 => 109 | 118 => 112 | 168 => 113 | 270 => 114 | 262 => 115 | 276 => 128 | 277 => 129 | 260 => 137 | 242 => 138 | 313 => 139 | 278 => 150 | 274 => 151 | 275 => 152 | n => n, fun | 9 => 9 | 4 => 4 | 3 => 3 | 5 => 5 | 72 => 101 | 0 => 0 | 76 => 95 | 75 => 94 | 107 => 116 | 70 => 99 | 20 => 20 | 37 => 26 | 127 => 126 | 21 => 21 | 105 => 131 | 164 => 149 | 162 => 159 | 203 => 157 | 119 => 169 | 46 => 105 | 139 => 172 | 138 => 171 | 51 => 127 | 160 => 173 | 208 => 183 | 206 => 181 | 80 => 103 | n => n, fun | 13 => 1 | 3 => 5 | 4 => 6 | n => n⟩
theorem Tryz.lays159 : Go.Proofs.Lays.n159 Tryz.prog Tryz.lays159_ren := {
 mixed := by kernel_rfl
 f118 := tq Tryz.func112 (by kernel_rfl)
 f159 := tq Tryz.func58 (by kernel_rfl)
 f165 := tq Tryz.func66 (by kernel_rfl)
 f166 := tq Tryz.func67 (by kernel_rfl)
 f167 := tq Tryz.func87 (by kernel_rfl)
 f168 := tq Tryz.func113 (by kernel_rfl)
 f169 := tq Tryz.func68 (by kernel_rfl)
 f197 := tq Tryz.func109 (by kernel_rfl)
 f204 := tq Tryz.func89 (by kernel_rfl)
 f230 := tq Tryz.func88 (by kernel_rfl)
 f240 := tq Tryz.func100 (by kernel_rfl)
 f241 := tq Tryz.func101 (by kernel_rfl)
 f242 := tq Tryz.func138 (by kernel_rfl)
 f260 := tq Tryz.func137 (by kernel_rfl)
 f262 := tq Tryz.func115 (by kernel_rfl)
 f270 := tq Tryz.func114 (by kernel_rfl)
 f274 := tq Tryz.func151 (by kernel_rfl)
 f275 := tq Tryz.func152 (by kernel_rfl)
 f276 := tq Tryz.func128 (by kernel_rfl)
 f277 := tq Tryz.func129 (by kernel_rfl)
 f278 := tq Tryz.func150 (by kernel_rfl)
 f313 := tq Tryz.func139 (by kernel_rfl)
 t0 := Tryz.underlying0
 a0 := Tryz.isAgg0
 z0 := Tryz.sizeOf0
 v0 := Tryz.zeroValue0
 t3 := Tryz.underlying3
 a3 := Tryz.isAgg3
 z3 := Tryz.sizeOf3
 v3 := Tryz.zeroValue3
 t4 := Tryz.underlying4
 a4 := Tryz.isAgg4
 z4 := Tryz.sizeOf4
 v4 := Tryz.zeroValue4
 t5 := Tryz.underlying5
 a5 := Tryz.isAgg5
 z5 := Tryz.sizeOf5
 v5 := Tryz.zeroValue5
 t9 := Tryz.underlying9
 a9 := Tryz.isAgg9
 z9 := Tryz.sizeOf9
 v9 := Tryz.zeroValue9
 t20 := Tryz.underlying20
 a20 := Tryz.isAgg20
 z20 := Tryz.sizeOf20
 v20 := Tryz.zeroValue20
 t21 := Tryz.underlying21
 a21 := Tryz.isAgg21
 z21 := Tryz.sizeOf21
 v21 := Tryz.zeroValue21
 t37 := Tryz.underlying26
 a37 := Tryz.isAgg26
 z37 := Tryz.sizeOf26
 v37 := Tryz.zeroValue26
 t46 := Tryz.underlying105
 a46 := Tryz.isAgg105
 z46 := Tryz.sizeOf105
 v46 := Tryz.zeroValue105
 t51 := Tryz.underlying127
 a51 := Tryz.isAgg127
 z51 := Tryz.sizeOf127
 v51 := Tryz.zeroValue127
 t70 := Tryz.underlying99
 a70 := Tryz.isAgg99
 z70 := Tryz.sizeOf99
 v70 := Tryz.zeroValue99
 t72 := Tryz.underlying101
 a72 := Tryz.isAgg101
 z72 := Tryz.sizeOf101
 v72 := Tryz.zeroValue101
 t75 := Tryz.underlying94
 a75 := Tryz.isAgg94
 z75 := Tryz.sizeOf94
 v75 := Tryz.zeroValue94
 t76 := Tryz.underlying95
 a76 := Tryz.isAgg95
 z76 := Tryz.sizeOf95
 v76 := Tryz.zeroValue95
 t105 := Tryz.underlying131
 a105 := Tryz.isAgg131
 z105 := Tryz.sizeOf131
 v105 := Tryz.zeroValue131
 t107 := Tryz.underlying116
 a107 := Tryz.isAgg116
 z107 := Tryz.sizeOf116
 v107 := Tryz.zeroValue116
 t119 := Tryz.underlying169
 a119 := Tryz.isAgg169
 z119 := Tryz.sizeOf169
 t127 := Tryz.underlying126
 a127 := Tryz.isAgg126
 z127 := Tryz.sizeOf126
 v127 := Tryz.zeroValue126
 t138 := Tryz.underlying171
 a138 := Tryz.isAgg171
 z138 := Tryz.sizeOf171
 v138 := Tryz.zeroValue171
 t139 := Tryz.underlying172
 a139 := Tryz.isAgg172
 z139 := Tryz.sizeOf172
 v139 := Tryz.zeroValue172
 t160 := Tryz.underlying173
 a160 := Tryz.isAgg173
 z160 := Tryz.sizeOf173
 v160 := Tryz.zeroValue173
 t162 := Tryz.underlying159
 a162 := Tryz.isAgg159
 z162 := Tryz.sizeOf159
 v162 := Tryz.zeroValue159
 t164 := Tryz.underlying149
 a164 := Tryz.isAgg149
 z164 := Tryz.sizeOf149
 v164 := Tryz.zeroValue149
 t203 := Tryz.underlying157
 a203 := Tryz.isAgg157
 z203 := Tryz.sizeOf157
 v203 := Tryz.zeroValue157
 t206 := Tryz.underlying181
 a206 := Tryz.isAgg181
 z206 := Tryz.sizeOf181
 v206 := Tryz.zeroValue181
 t208 := Tryz.underlying183
 a208 := Tryz.isAgg183
 z208 := Tryz.sizeOf183
 v208 := Tryz.zeroValue183
 g3 := by kernel_rfl
 g4 := by kernel_rfl
 g13 := by kernel_rfl }
theorem Tryz.Builder_Extra_159 : Builder.Extra Tryz.prog Tryz.lays159_ren := {
 sizeBuilder := by kernel_rfl
 liesBuilder := by kernel_rfl
 t5 := Tryz.underlying5
 a5 := Tryz.isAgg5
 z5 := Tryz.sizeOf5
 v5 := Tryz.zeroValue5
 infoByte := by kernel_rfl
 cellsByte := by kernel_rfl
 sizeByte := by kernel_rfl
 neB5 := by decide }
open Go.RowKit in theorem Tryz.strings_ToLower_ascii (s : ByteArray) (w : World) (hs : s.size ≤ 140737488355328) (hascii : ∀ (j : Nat) (b : UInt8), s.data.toList[j]? = some b → b.toNat < 128) :
   Calls Tryz.prog 58 #[.string s] w fun e w' => e = .returned (.string ⟨(Lib.toLowerA s.data.toList).toArray⟩) ∧ Below w.heap.size w w' := Any.strings_ToLower_ascii Tryz.lays159 Tryz.Builder_Extra_159 s w hs hascii
def Tryz.lays156_ren : Go.Shelf.Ren := ⟨fun | 156 => 40 | 165 => 66 | 166 => 67 | 169 => 68 | 240 => 100 | 241 => 101 | 276 => 128 | 277 => 129 | n => n, fun | 31 => 55 | 9 => 9 | 3 => 3 | 4 => 4 | 0 => 0 | 20 => 20 | 72 => 101 | 76 => 95 | 70 => 99 | 37 => 26 | 75 => 94 | 127 => 126 | 164 => 149 | 5 => 5 | 80 => 103 | n => n, fun | n => n⟩
theorem Tryz.lays156 : Go.Proofs.Lays.n156 Tryz.prog Tryz.lays156_ren := {
 mixed := by kernel_rfl
 f156 := tq Tryz.func40 (by kernel_rfl)
 f165 := tq Tryz.func66 (by kernel_rfl)
 f166 := tq Tryz.func67 (by kernel_rfl)
 f169 := tq Tryz.func68 (by kernel_rfl)
 f240 := tq Tryz.func100 (by kernel_rfl)
 f241 := tq Tryz.func101 (by kernel_rfl)
 f276 := tq Tryz.func128 (by kernel_rfl)
 f277 := tq Tryz.func129 (by kernel_rfl)
 t0 := Tryz.underlying0
 a0 := Tryz.isAgg0
 z0 := Tryz.sizeOf0
 v0 := Tryz.zeroValue0
 t3 := Tryz.underlying3
 a3 := Tryz.isAgg3
 z3 := Tryz.sizeOf3
 v3 := Tryz.zeroValue3
 t4 := Tryz.underlying4
 a4 := Tryz.isAgg4
 z4 := Tryz.sizeOf4
 v4 := Tryz.zeroValue4
 t9 := Tryz.underlying9
 a9 := Tryz.isAgg9
 z9 := Tryz.sizeOf9
 v9 := Tryz.zeroValue9
 t20 := Tryz.underlying20
 a20 := Tryz.isAgg20
 z20 := Tryz.sizeOf20
 v20 := Tryz.zeroValue20
 t31 := Tryz.underlying55
 a31 := Tryz.isAgg55
 z31 := Tryz.sizeOf55
 v31 := Tryz.zeroValue55
 t37 := Tryz.underlying26
 a37 := Tryz.isAgg26
 z37 := Tryz.sizeOf26
 v37 := Tryz.zeroValue26
 t70 := Tryz.underlying99
 a70 := Tryz.isAgg99
 z70 := Tryz.sizeOf99
 v70 := Tryz.zeroValue99
 t72 := Tryz.underlying101
 a72 := Tryz.isAgg101
 z72 := Tryz.sizeOf101
 v72 := Tryz.zeroValue101
 t75 := Tryz.underlying94
 a75 := Tryz.isAgg94
 z75 := Tryz.sizeOf94
 v75 := Tryz.zeroValue94
 t76 := Tryz.underlying95
 a76 := Tryz.isAgg95
 z76 := Tryz.sizeOf95
 v76 := Tryz.zeroValue95
 t127 := Tryz.underlying126
 a127 := Tryz.isAgg126
 z127 := Tryz.sizeOf126
 v127 := Tryz.zeroValue126
 t164 := Tryz.underlying149
 a164 := Tryz.isAgg149
 z164 := Tryz.sizeOf149
 v164 := Tryz.zeroValue149 }
theorem Tryz.Builder_Extra_156 : Builder.Extra Tryz.prog Tryz.lays156_ren := {
 sizeBuilder := by kernel_rfl
 liesBuilder := by kernel_rfl
 t5 := Tryz.underlying5
 a5 := Tryz.isAgg5
 z5 := Tryz.sizeOf5
 v5 := Tryz.zeroValue5
 infoByte := by kernel_rfl
 cellsByte := by kernel_rfl
 sizeByte := by kernel_rfl
 neB5 := by decide }
open Go.RowKit in theorem Tryz.strings_Join (bk o c : Nat) (xs : List ByteArray) (sep : ByteArray) (w : World) (hcells : ∀ (j : Nat) x, xs[j]? = some x → w.cell? ⟨bk, o + j, none⟩ = some (.string x)) (hbk : bk < w.heap.size) (hN : xs.length ≤ 140737488355328) (hcap : xs.length ≤ c) (hlen : (Lib.join (xs.map (·.data.toList)) sep.data.toList).length ≤ 140737488355328) :
   Calls Tryz.prog 40 #[.slice (some ⟨bk, o, none⟩) xs.length c, .string sep] w fun e w' => e = .returned (.string ⟨(Lib.join (xs.map (·.data.toList)) sep.data.toList).toArray⟩) ∧ Below w.heap.size w w' := Any.strings_Join Tryz.lays156 Tryz.Builder_Extra_156 bk o c xs sep w hcells hbk hN hcap hlen
def Tryz.laysC172_ren : Go.Shelf.Ren := ⟨fun | 172 => 61 | 244 => 97 | 245 => 98 | 247 => 119 | 279 => 120 | 280 => 121 | 281 => 122 | 282 => 123 | 287 => 105 | 316 => 141 | 171 => 39 | 205 => 142 | 321 => 135 | 322 => 136 | 243 => 65 | 246 => 99 | 283 => 124 | 284 => 125 | 285 => 126 | 286 => 127 | 129 => 144 | 317 => 143 | 318 => 145 | 319 => 146 | 320 => 147 | 337 => 153 | 338 => 154 | n => n, fun | 9 => 9 | 3 => 3 | 75 => 94 | 76 => 95 | 4 => 4 | 5 => 5 | 167 => 138 | 37 => 26 | 0 => 0 | 85 => 139 | 2 => 2 | 168 => 141 | 53 => 106 | 175 => 107 | 46 => 105 | 210 => 161 | 127 => 126 | 145 => 178 | 143 => 176 | 21 => 21 | 171 => 144 | 173 => 147 | 212 => 164 | 51 => 127 | 20 => 20 | 213 => 165 | 232 => 184 | 233 => 185 | 80 => 103 | n => n, fun | 15 => 2 | 16 => 3 | 17 => 4 | 18 => 7 | 19 => 8 | n => n⟩
theorem Tryz.laysC172 : Go.Proofs.LaysC.n172 Tryz.prog Tryz.laysC172_ren := {
 mixed := by kernel_rfl
 f129 := tq Tryz.func144 (by kernel_rfl)
 f171 := tq Tryz.func39 (by kernel_rfl)
 f172 := tq Tryz.func61 (by kernel_rfl)
 f205 := tq Tryz.func142 (by kernel_rfl)
 f243 := tq Tryz.func65 (by kernel_rfl)
 f244 := tq Tryz.func97 (by kernel_rfl)
 f245 := tq Tryz.func98 (by kernel_rfl)
 f246 := tq Tryz.func99 (by kernel_rfl)
 f247 := tq Tryz.func119 (by kernel_rfl)
 f279 := tq Tryz.func120 (by kernel_rfl)
 f280 := tq Tryz.func121 (by kernel_rfl)
 f281 := tq Tryz.func122 (by kernel_rfl)
 f282 := tq Tryz.func123 (by kernel_rfl)
 f283 := tq Tryz.func124 (by kernel_rfl)
 f284 := tq Tryz.func125 (by kernel_rfl)
 f285 := tq Tryz.func126 (by kernel_rfl)
 f286 := tq Tryz.func127 (by kernel_rfl)
 f287 := tq Tryz.func105 (by kernel_rfl)
 f316 := tq Tryz.func141 (by kernel_rfl)
 f317 := tq Tryz.func143 (by kernel_rfl)
 f318 := tq Tryz.func145 (by kernel_rfl)
 f319 := tq Tryz.func146 (by kernel_rfl)
 f320 := tq Tryz.func147 (by kernel_rfl)
 f321 := tq Tryz.func135 (by kernel_rfl)
 f322 := tq Tryz.func136 (by kernel_rfl)
 f337 := tq Tryz.func153 (by kernel_rfl)
 f338 := tq Tryz.func154 (by kernel_rfl)
 t0 := Tryz.underlying0
 a0 := Tryz.isAgg0
 z0 := Tryz.sizeOf0
 v0 := Tryz.zeroValue0
 t2 := Tryz.underlying2
 a2 := Tryz.isAgg2
 z2 := Tryz.sizeOf2
 v2 := Tryz.zeroValue2
 t3 := Tryz.underlying3
 a3 := Tryz.isAgg3
 z3 := Tryz.sizeOf3
 v3 := Tryz.zeroValue3
 t4 := Tryz.underlying4
 a4 := Tryz.isAgg4
 z4 := Tryz.sizeOf4
 v4 := Tryz.zeroValue4
 t5 := Tryz.underlying5
 a5 := Tryz.isAgg5
 z5 := Tryz.sizeOf5
 v5 := Tryz.zeroValue5
 t9 := Tryz.underlying9
 a9 := Tryz.isAgg9
 z9 := Tryz.sizeOf9
 v9 := Tryz.zeroValue9
 t20 := Tryz.underlying20
 a20 := Tryz.isAgg20
 z20 := Tryz.sizeOf20
 v20 := Tryz.zeroValue20
 t21 := Tryz.underlying21
 a21 := Tryz.isAgg21
 z21 := Tryz.sizeOf21
 v21 := Tryz.zeroValue21
 t37 := Tryz.underlying26
 a37 := Tryz.isAgg26
 z37 := Tryz.sizeOf26
 v37 := Tryz.zeroValue26
 t46 := Tryz.underlying105
 a46 := Tryz.isAgg105
 z46 := Tryz.sizeOf105
 v46 := Tryz.zeroValue105
 t51 := Tryz.underlying127
 a51 := Tryz.isAgg127
 z51 := Tryz.sizeOf127
 v51 := Tryz.zeroValue127
 t53 := Tryz.underlying106
 a53 := Tryz.isAgg106
 z53 := Tryz.sizeOf106
 v53 := Tryz.zeroValue106
 t75 := Tryz.underlying94
 a75 := Tryz.isAgg94
 z75 := Tryz.sizeOf94
 v75 := Tryz.zeroValue94
 t76 := Tryz.underlying95
 a76 := Tryz.isAgg95
 z76 := Tryz.sizeOf95
 v76 := Tryz.zeroValue95
 t85 := Tryz.underlying139
 a85 := Tryz.isAgg139
 z85 := Tryz.sizeOf139
 v85 := Tryz.zeroValue139
 t127 := Tryz.underlying126
 a127 := Tryz.isAgg126
 z127 := Tryz.sizeOf126
 v127 := Tryz.zeroValue126
 t143 := Tryz.underlying176
 a143 := Tryz.isAgg176
 z143 := Tryz.sizeOf176
 v143 := Tryz.zeroValue176
 t145 := Tryz.underlying178
 a145 := Tryz.isAgg178
 z145 := Tryz.sizeOf178
 v145 := Tryz.zeroValue178
 t167 := Tryz.underlying138
 a167 := Tryz.isAgg138
 z167 := Tryz.sizeOf138
 v167 := Tryz.zeroValue138
 t168 := Tryz.underlying141
 a168 := Tryz.isAgg141
 z168 := Tryz.sizeOf141
 v168 := Tryz.zeroValue141
 t171 := Tryz.underlying144
 a171 := Tryz.isAgg144
 z171 := Tryz.sizeOf144
 v171 := Tryz.zeroValue144
 t173 := Tryz.underlying147
 a173 := Tryz.isAgg147
 z173 := Tryz.sizeOf147
 v173 := Tryz.zeroValue147
 t175 := Tryz.underlying107
 a175 := Tryz.isAgg107
 z175 := Tryz.sizeOf107
 v175 := Tryz.zeroValue107
 t210 := Tryz.underlying161
 a210 := Tryz.isAgg161
 z210 := Tryz.sizeOf161
 v210 := Tryz.zeroValue161
 t212 := Tryz.underlying164
 a212 := Tryz.isAgg164
 z212 := Tryz.sizeOf164
 v212 := Tryz.zeroValue164
 t213 := Tryz.underlying165
 a213 := Tryz.isAgg165
 z213 := Tryz.sizeOf165
 t232 := Tryz.underlying184
 a232 := Tryz.isAgg184
 z232 := Tryz.sizeOf184
 v232 := Tryz.zeroValue184
 t233 := Tryz.underlying185
 a233 := Tryz.isAgg185
 z233 := Tryz.sizeOf185
 v233 := Tryz.zeroValue185
 g15 := by kernel_rfl
 g16 := by kernel_rfl
 g17 := by kernel_rfl
 g18 := by kernel_rfl
 g19 := by kernel_rfl
 t80 := Tryz.underlying103
 a80 := Tryz.isAgg103
 z80 := Tryz.sizeOf103
 v80 := Tryz.zeroValue103
 i0 := by kernel_rfl
 i2 := by kernel_rfl
 i3 := by kernel_rfl
 i4 := by kernel_rfl
 i5 := by kernel_rfl
 i9 := by kernel_rfl
 i20 := by kernel_rfl
 i21 := by kernel_rfl
 i37 := by kernel_rfl
 i46 := by kernel_rfl
 i51 := by kernel_rfl
 i53 := by kernel_rfl
 i75 := by kernel_rfl
 i76 := by kernel_rfl
 i80 := by kernel_rfl
 i85 := by kernel_rfl
 i127 := by kernel_rfl
 i143 := by kernel_rfl
 i145 := by kernel_rfl
 i167 := by kernel_rfl
 i168 := by kernel_rfl
 i171 := by kernel_rfl
 i173 := by kernel_rfl
 i175 := by kernel_rfl
 i210 := by kernel_rfl
 i212 := by kernel_rfl
 i232 := by kernel_rfl
 i233 := by kernel_rfl
 m15 := by kernel_rfl
 m16 := by kernel_rfl
 m17 := by kernel_rfl
 m18 := by kernel_rfl
 m19 := by kernel_rfl
 c0 := by kernel_rfl
 c2 := by kernel_rfl
 c3 := by kernel_rfl
 c4 := by kernel_rfl
 c5 := by kernel_rfl
 c9 := by kernel_rfl
 c20 := by kernel_rfl
 c21 := by kernel_rfl
 c37 := by kernel_rfl
 c46 := by kernel_rfl
 c51 := by kernel_rfl
 c53 := by kernel_rfl
 c75 := by kernel_rfl
 c76 := by kernel_rfl
 c80 := by kernel_rfl
 c85 := by kernel_rfl
 c127 := by kernel_rfl
 c143 := by kernel_rfl
 c145 := by kernel_rfl
 c167 := by kernel_rfl
 c168 := by kernel_rfl
 c171 := by kernel_rfl
 c173 := by kernel_rfl
 c175 := by kernel_rfl
 c210 := by kernel_rfl
 c212 := by kernel_rfl
 c213 := by kernel_rfl
 c232 := by kernel_rfl
 c233 := by kernel_rfl }
open Go.RowKit in theorem Tryz.strconv_Atoi_ok (s : ByteArray) (hmax : s.size ≤ 9223372036854775806) (v : Int) (h : Lib.atoiAll s.data.toList = .ok v) (w : World) :
   Calls Tryz.prog 61 #[.string s] w fun e w' => e = .returned (.tuple #[.int .i64 v, .nilIface]) ∧ (w' = w ∨ ∃ t, w' = Lib.bytesWorld w 5 t) := Any.strconv_Atoi_ok Tryz.laysC172 s hmax v h w
def Tryz.lays219_ren : Go.Shelf.Ren := ⟨fun | 219 => 103 | 217 => 102 | 225 => 131 | 224 => 78 | 267 => 132 | 266 => 130 | 314 => 148 | n => n, fun | 9 => 9 | 3 => 3 | 4 => 4 | 5 => 5 | 46 => 105 | 146 => 128 | 51 => 127 | n => n, fun | 1 => 0 | n => n⟩
theorem Tryz.lays219 : Go.Proofs.Lays.n219 Tryz.prog Tryz.lays219_ren := {
 mixed := by kernel_rfl
 f217 := tq Tryz.func102 (by kernel_rfl)
 f219 := tq Tryz.func103 (by kernel_rfl)
 f224 := tq Tryz.func78 (by kernel_rfl)
 f225 := tq Tryz.func131 (by kernel_rfl)
 f266 := tq Tryz.func130 (by kernel_rfl)
 f267 := tq Tryz.func132 (by kernel_rfl)
 f314 := tq Tryz.func148 (by kernel_rfl)
 t3 := Tryz.underlying3
 a3 := Tryz.isAgg3
 z3 := Tryz.sizeOf3
 v3 := Tryz.zeroValue3
 t4 := Tryz.underlying4
 a4 := Tryz.isAgg4
 z4 := Tryz.sizeOf4
 v4 := Tryz.zeroValue4
 t5 := Tryz.underlying5
 a5 := Tryz.isAgg5
 z5 := Tryz.sizeOf5
 v5 := Tryz.zeroValue5
 t9 := Tryz.underlying9
 a9 := Tryz.isAgg9
 z9 := Tryz.sizeOf9
 v9 := Tryz.zeroValue9
 t46 := Tryz.underlying105
 a46 := Tryz.isAgg105
 z46 := Tryz.sizeOf105
 v46 := Tryz.zeroValue105
 t51 := Tryz.underlying127
 a51 := Tryz.isAgg127
 z51 := Tryz.sizeOf127
 v51 := Tryz.zeroValue127
 t146 := Tryz.underlying128
 a146 := Tryz.isAgg128
 z146 := Tryz.sizeOf128
 v146 := Tryz.zeroValue128
 g1 := by kernel_rfl }
open Go.RowKit Go.Lib in theorem Tryz.stringslite_Index (s sub : ByteArray) (m : Int) (w : World) (hs : s.size < 4294967281) (hm : w.cell? ⟨0, 0, none⟩ = some (.int .i64 m)) :
   Calls Tryz.prog 103 #[.string s, .string sub] w fun e w' => e = .returned (.int .i64 (Lib.index s.data.toList sub.data.toList)) ∧ w' = w := Any.stringslite_Index Tryz.lays219 s sub m w hs hm
def Tryz.lays143_ren : Go.Shelf.Ren := ⟨fun | 143 => 82 | 219 => 103 | 217 => 102 | 225 => 131 | 224 => 78 | 267 => 132 | 266 => 130 | 314 => 148 | n => n, fun | 9 => 9 | 3 => 3 | 4 => 4 | 5 => 5 | 46 => 105 | 146 => 128 | 51 => 127 | n => n, fun | 1 => 0 | n => n⟩
theorem Tryz.lays143 : Go.Proofs.Lays.n143 Tryz.prog Tryz.lays143_ren := {
 mixed := by kernel_rfl
 f143 := tq Tryz.func82 (by kernel_rfl)
 f217 := tq Tryz.func102 (by kernel_rfl)
 f219 := tq Tryz.func103 (by kernel_rfl)
 f224 := tq Tryz.func78 (by kernel_rfl)
 f225 := tq Tryz.func131 (by kernel_rfl)
 f266 := tq Tryz.func130 (by kernel_rfl)
 f267 := tq Tryz.func132 (by kernel_rfl)
 f314 := tq Tryz.func148 (by kernel_rfl)
 t3 := Tryz.underlying3
 a3 := Tryz.isAgg3
 z3 := Tryz.sizeOf3
 v3 := Tryz.zeroValue3
 t4 := Tryz.underlying4
 a4 := Tryz.isAgg4
 z4 := Tryz.sizeOf4
 v4 := Tryz.zeroValue4
 t5 := Tryz.underlying5
 a5 := Tryz.isAgg5
 z5 := Tryz.sizeOf5
 v5 := Tryz.zeroValue5
 t9 := Tryz.underlying9
 a9 := Tryz.isAgg9
 z9 := Tryz.sizeOf9
 v9 := Tryz.zeroValue9
 t46 := Tryz.underlying105
 a46 := Tryz.isAgg105
 z46 := Tryz.sizeOf105
 v46 := Tryz.zeroValue105
 t51 := Tryz.underlying127
 a51 := Tryz.isAgg127
 z51 := Tryz.sizeOf127
 v51 := Tryz.zeroValue127
 t146 := Tryz.underlying128
 a146 := Tryz.isAgg128
 z146 := Tryz.sizeOf128
 v146 := Tryz.zeroValue128
 g1 := by kernel_rfl }
open Go.RowKit Go.Lib in theorem Tryz.strings_Index (s sub : ByteArray) (m : Int) (w : World) (hs : s.size < 4294967281) (hm : w.cell? ⟨0, 0, none⟩ = some (.int .i64 m)) :
   Calls Tryz.prog 82 #[.string s, .string sub] w fun e w' => e = .returned (.int .i64 (Lib.index s.data.toList sub.data.toList)) ∧ w' = w := Any.strings_Index Tryz.lays143 s sub m w hs hm
def Tryz.lays145_ren : Go.Shelf.Ren := ⟨fun | 145 => 45 | 220 => 72 | 219 => 103 | 217 => 102 | 225 => 131 | 224 => 78 | 267 => 132 | 266 => 130 | 314 => 148 | n => n, fun | 9 => 9 | 4 => 4 | 59 => 51 | 3 => 3 | 5 => 5 | 46 => 105 | 146 => 128 | 51 => 127 | n => n, fun | 1 => 0 | n => n⟩
theorem Tryz.lays145 : Go.Proofs.Lays.n145 Tryz.prog Tryz.lays145_ren := {
 mixed := by kernel_rfl
 f145 := tq Tryz.func45 (by kernel_rfl)
 f217 := tq Tryz.func102 (by kernel_rfl)
 f219 := tq Tryz.func103 (by kernel_rfl)
 f220 := tq Tryz.func72 (by kernel_rfl)
 f224 := tq Tryz.func78 (by kernel_rfl)
 f225 := tq Tryz.func131 (by kernel_rfl)
 f266 := tq Tryz.func130 (by kernel_rfl)
 f267 := tq Tryz.func132 (by kernel_rfl)
 f314 := tq Tryz.func148 (by kernel_rfl)
 t3 := Tryz.underlying3
 a3 := Tryz.isAgg3
 z3 := Tryz.sizeOf3
 v3 := Tryz.zeroValue3
 t4 := Tryz.underlying4
 a4 := Tryz.isAgg4
 z4 := Tryz.sizeOf4
 v4 := Tryz.zeroValue4
 t5 := Tryz.underlying5
 a5 := Tryz.isAgg5
 z5 := Tryz.sizeOf5
 v5 := Tryz.zeroValue5
 t9 := Tryz.underlying9
 a9 := Tryz.isAgg9
 z9 := Tryz.sizeOf9
 v9 := Tryz.zeroValue9
 t46 := Tryz.underlying105
 a46 := Tryz.isAgg105
 z46 := Tryz.sizeOf105
 v46 := Tryz.zeroValue105
 t51 := Tryz.underlying127
 a51 := Tryz.isAgg127
 z51 := Tryz.sizeOf127
 v51 := Tryz.zeroValue127
 t59 := Tryz.underlying51
 a59 := Tryz.isAgg51
 z59 := Tryz.sizeOf51
 v59 := Tryz.zeroValue51
 t146 := Tryz.underlying128
 a146 := Tryz.isAgg128
 z146 := Tryz.sizeOf128
 v146 := Tryz.zeroValue128
 g1 := by kernel_rfl }
open Go.RowKit Go.Lib in theorem Tryz.strings_Cut (s sep : ByteArray) (m : Int) (w : World) (hs : s.size < 4294967281) (hm : w.cell? ⟨0, 0, none⟩ = some (.int .i64 m)) :
   Calls Tryz.prog 45 #[.string s, .string sep] w fun e w' => e = .returned (.tuple #[.string ⟨(Lib.cut s.data.toList sep.data.toList).1.toArray⟩, .string ⟨(Lib.cut s.data.toList sep.data.toList).2.1.toArray⟩, .bool (Lib.cut s.data.toList sep.data.toList).2.2]) ∧ ∃ n, w' = w.drewN n := Any.strings_Cut Tryz.lays145 s sep m w hs hm
def Tryz.lays99_ren : Go.Shelf.Ren := ⟨fun | 99 => 54 | 206 => 86 | n => n, fun | 9 => 9 | 4 => 4 | 3 => 3 | n => n, fun | n => n⟩
theorem Tryz.lays99 : Go.Proofs.Lays.n99 Tryz.prog Tryz.lays99_ren := {
 mixed := by kernel_rfl
 f99 := tq Tryz.func54 (by kernel_rfl)
 f206 := tq Tryz.func86 (by kernel_rfl)
 t3 := Tryz.underlying3
 a3 := Tryz.isAgg3
 z3 := Tryz.sizeOf3
 v3 := Tryz.zeroValue3
 t4 := Tryz.underlying4
 a4 := Tryz.isAgg4
 z4 := Tryz.sizeOf4
 v4 := Tryz.zeroValue4
 t9 := Tryz.underlying9
 a9 := Tryz.isAgg9
 z9 := Tryz.sizeOf9
 v9 := Tryz.zeroValue9 }
open Go.RowKit Go.Lib in theorem Tryz.strings_HasPrefix (s p : ByteArray) (w : World) :
   Calls Tryz.prog 54 #[.string s, .string p] w fun e w' => e = .returned (.bool (Lib.hasPrefix s.data.toList p.data.toList)) ∧ w' = w := Any.strings_HasPrefix Tryz.lays99 s p w
def Tryz.lays102_ren : Go.Shelf.Ren := ⟨fun | 102 => 27 | 209 => 51 | 207 => 83 | n => n, fun | 9 => 9 | 4 => 4 | 3 => 3 | n => n, fun | n => n⟩
theorem Tryz.lays102 : Go.Proofs.Lays.n102 Tryz.prog Tryz.lays102_ren := {
 mixed := by kernel_rfl
 f102 := tq Tryz.func27 (by kernel_rfl)
 f207 := tq Tryz.func83 (by kernel_rfl)
 f209 := tq Tryz.func51 (by kernel_rfl)
 t3 := Tryz.underlying3
 a3 := Tryz.isAgg3
 z3 := Tryz.sizeOf3
 v3 := Tryz.zeroValue3
 t4 := Tryz.underlying4
 a4 := Tryz.isAgg4
 z4 := Tryz.sizeOf4
 v4 := Tryz.zeroValue4
 t9 := Tryz.underlying9
 a9 := Tryz.isAgg9
 z9 := Tryz.sizeOf9
 v9 := Tryz.zeroValue9 }
open Go.RowKit Go.Lib in theorem Tryz.strings_TrimSuffix (s p : ByteArray) (w : World) (hs : s.size ≤ 9223372036854775807) :
   Calls Tryz.prog 27 #[.string s, .string p] w fun e w' => e = .returned (.string ⟨(Lib.trimSuffix s.data.toList p.data.toList).toArray⟩) ∧ w' = w := Any.strings_TrimSuffix Tryz.lays102 s p w hs
def Tryz.lays146_ren : Go.Shelf.Ren := ⟨fun | 146 => 26 | 221 => 50 | 268 => 80 | 138 => 81 | 143 => 82 | 195 => 108 | 197 => 109 | 218 => 110 | 219 => 103 | 260 => 137 | 217 => 102 | 225 => 131 | 224 => 78 | 267 => 132 | 266 => 130 | 314 => 148 | n => n, fun | 9 => 9 | 31 => 55 | 3 => 3 | 4 => 4 | 0 => 0 | 105 => 131 | 21 => 21 | 5 => 5 | 46 => 105 | 119 => 169 | 139 => 172 | 138 => 171 | 146 => 128 | 51 => 127 | n => n, fun | 1 => 0 | 3 => 5 | 4 => 6 | n => n⟩
theorem Tryz.lays146 : Go.Proofs.Lays.n146 Tryz.prog Tryz.lays146_ren := {
 mixed := by kernel_rfl
 f138 := tq Tryz.func81 (by kernel_rfl)
 f143 := tq Tryz.func82 (by kernel_rfl)
 f146 := tq Tryz.func26 (by kernel_rfl)
 f195 := tq Tryz.func108 (by kernel_rfl)
 f197 := tq Tryz.func109 (by kernel_rfl)
 f217 := tq Tryz.func102 (by kernel_rfl)
 f218 := tq Tryz.func110 (by kernel_rfl)
 f219 := tq Tryz.func103 (by kernel_rfl)
 f221 := tq Tryz.func50 (by kernel_rfl)
 f224 := tq Tryz.func78 (by kernel_rfl)
 f225 := tq Tryz.func131 (by kernel_rfl)
 f260 := tq Tryz.func137 (by kernel_rfl)
 f266 := tq Tryz.func130 (by kernel_rfl)
 f267 := tq Tryz.func132 (by kernel_rfl)
 f268 := tq Tryz.func80 (by kernel_rfl)
 f314 := tq Tryz.func148 (by kernel_rfl)
 t0 := Tryz.underlying0
 a0 := Tryz.isAgg0
 z0 := Tryz.sizeOf0
 v0 := Tryz.zeroValue0
 t3 := Tryz.underlying3
 a3 := Tryz.isAgg3
 z3 := Tryz.sizeOf3
 v3 := Tryz.zeroValue3
 t4 := Tryz.underlying4
 a4 := Tryz.isAgg4
 z4 := Tryz.sizeOf4
 v4 := Tryz.zeroValue4
 t5 := Tryz.underlying5
 a5 := Tryz.isAgg5
 z5 := Tryz.sizeOf5
 v5 := Tryz.zeroValue5
 t9 := Tryz.underlying9
 a9 := Tryz.isAgg9
 z9 := Tryz.sizeOf9
 v9 := Tryz.zeroValue9
 t21 := Tryz.underlying21
 a21 := Tryz.isAgg21
 z21 := Tryz.sizeOf21
 v21 := Tryz.zeroValue21
 t31 := Tryz.underlying55
 a31 := Tryz.isAgg55
 z31 := Tryz.sizeOf55
 v31 := Tryz.zeroValue55
 t46 := Tryz.underlying105
 a46 := Tryz.isAgg105
 z46 := Tryz.sizeOf105
 v46 := Tryz.zeroValue105
 t51 := Tryz.underlying127
 a51 := Tryz.isAgg127
 z51 := Tryz.sizeOf127
 v51 := Tryz.zeroValue127
 t105 := Tryz.underlying131
 a105 := Tryz.isAgg131
 z105 := Tryz.sizeOf131
 v105 := Tryz.zeroValue131
 t119 := Tryz.underlying169
 a119 := Tryz.isAgg169
 z119 := Tryz.sizeOf169
 t138 := Tryz.underlying171
 a138 := Tryz.isAgg171
 z138 := Tryz.sizeOf171
 v138 := Tryz.zeroValue171
 t139 := Tryz.underlying172
 a139 := Tryz.isAgg172
 z139 := Tryz.sizeOf172
 v139 := Tryz.zeroValue172
 t146 := Tryz.underlying128
 a146 := Tryz.isAgg128
 z146 := Tryz.sizeOf128
 v146 := Tryz.zeroValue128
 g1 := by kernel_rfl
 g3 := by kernel_rfl
 g4 := by kernel_rfl }
open Go.RowKit Go.Lib in theorem Tryz.strings_Split (s sep : ByteArray) (m : Int) (w : World) (hs : s.size < 4294967281) (hm : w.cell? ⟨0, 0, none⟩ = some (.int .i64 m)) (h1 : 1 ≤ sep.size) :
   Calls Tryz.prog 26 #[.string s, .string sep] w fun e w' =>
     e = .returned (.slice (some ⟨w.heap.size, 0, none⟩) (Lib.countB s sep + 1) (Lib.countB s sep + 1)) ∧ w' = w.alloc (.cells ((Lib.splitB sep 0 (Lib.countB s sep) s).map Value.string).toArray 9) := Any.strings_Split Tryz.lays146 (by kernel_rfl) s sep m w hs hm h1
def Tryz.lays185_ren : Go.Shelf.Ren := ⟨fun | 185 => 49 | 187 => 76 | 115 => 75 | 253 => 77 | 224 => 78 | 254 => 79 | 255 => 106 | 291 => 107 | n => n, fun | 37 => 26 | 3 => 3 | 4 => 4 | 0 => 0 | 5 => 5 | 46 => 105 | 9 => 9 | 146 => 128 | 51 => 127 | n => n, fun | 1 => 0 | n => n⟩
theorem Tryz.lays185 : Go.Proofs.Lays.n185 Tryz.prog Tryz.lays185_ren := {
 mixed := by kernel_rfl
 f115 := tq Tryz.func75 (by kernel_rfl)
 f185 := tq Tryz.func49 (by kernel_rfl)
 f187 := tq Tryz.func76 (by kernel_rfl)
 f224 := tq Tryz.func78 (by kernel_rfl)
 f253 := tq Tryz.func77 (by kernel_rfl)
 f254 := tq Tryz.func79 (by kernel_rfl)
 f255 := tq Tryz.func106 (by kernel_rfl)
 f291 := tq Tryz.func107 (by kernel_rfl)
 t0 := Tryz.underlying0
 a0 := Tryz.isAgg0
 z0 := Tryz.sizeOf0
 v0 := Tryz.zeroValue0
 t3 := Tryz.underlying3
 a3 := Tryz.isAgg3
 z3 := Tryz.sizeOf3
 v3 := Tryz.zeroValue3
 t4 := Tryz.underlying4
 a4 := Tryz.isAgg4
 z4 := Tryz.sizeOf4
 v4 := Tryz.zeroValue4
 t5 := Tryz.underlying5
 a5 := Tryz.isAgg5
 z5 := Tryz.sizeOf5
 v5 := Tryz.zeroValue5
 t9 := Tryz.underlying9
 a9 := Tryz.isAgg9
 z9 := Tryz.sizeOf9
 v9 := Tryz.zeroValue9
 t37 := Tryz.underlying26
 a37 := Tryz.isAgg26
 z37 := Tryz.sizeOf26
 v37 := Tryz.zeroValue26
 t46 := Tryz.underlying105
 a46 := Tryz.isAgg105
 z46 := Tryz.sizeOf105
 v46 := Tryz.zeroValue105
 t51 := Tryz.underlying127
 a51 := Tryz.isAgg127
 z51 := Tryz.sizeOf127
 v51 := Tryz.zeroValue127
 t146 := Tryz.underlying128
 a146 := Tryz.isAgg128
 z146 := Tryz.sizeOf128
 v146 := Tryz.zeroValue128
 g1 := by kernel_rfl }
open Go.Proofs Go.RowKit Go.Lib in theorem Tryz.bytes_Index_at (a1 a2 : Addr) (n c1 k c2 : Nat) (xs ys : List Int) (m : Int) (w : World) (hx : xs.length = n) (hy : ys.length = k) (hr1 : ∀ x ∈ xs, 0 ≤ x ∧ x < 256) (hr2 : ∀ y ∈ ys, 0 ≤ y ∧ y < 256) (hc1 : ∀ i, i < n → w.cell? (a1.add i) = some (.int .u8 (xs.getD i 0))) (hc2 : ∀ i, i < k → w.cell? (a2.add i) = some (.int .u8 (ys.getD i 0))) (hcap : n ≤ c1) (hs : n < 4294967281) (hk : k ≤ 9223372036854775807) (hm : w.cell? ⟨0, 0, none⟩ = some (.int .i64 m)) :
   Calls Tryz.prog 49 #[.slice (some a1) n c1, .slice (some a2) k c2] w fun e w' => e = .returned (.int .i64 (Lib.index (Lib.bytesOf xs) (Lib.bytesOf ys))) ∧ ∃ q, w' = w.drewN q := Any.bytes_Index_at Tryz.lays185 a1 a2 n c1 k c2 xs ys m w hx hy hr1 hr2 hc1 hc2 hcap hs hk hm
open Go.Proofs Go.RowKit Go.Lib in theorem Tryz.bytes_Index_nil (p2 : Option Addr) (k c2 : Nat) (w : World) (hk : k ≤ 9223372036854775807) (h1 : k = 1 → ∃ b2 o2 cv, p2 = some ⟨b2, o2, none⟩ ∧ w.cell? ⟨b2, o2, none⟩ = some (.int .u8 cv)) :
   Calls Tryz.prog 49 #[.slice none 0 0, .slice p2 k c2] w fun e w' => e = .returned (.int .i64 (if k = 0 then 0 else -1)) ∧ w' = w := Any.bytes_Index_nil Tryz.lays185 p2 k c2 w hk h1
def Tryz.laysnb116_ren : Go.Shelf.Ren := ⟨fun | 116 => 48 | 115 => 75 | n => n, fun | 37 => 26 | 4 => 4 | 3 => 3 | 9 => 9 | 5 => 5 | n => n, fun | n => n⟩
theorem Tryz.laysnb116 : Go.Proofs.Lays.nb116 Tryz.prog Tryz.laysnb116_ren := {
 mixed := by kernel_rfl
 f115 := tq Tryz.func75 (by kernel_rfl)
 f116 := tq Tryz.func48 (by kernel_rfl)
 t3 := Tryz.underlying3
 a3 := Tryz.isAgg3
 z3 := Tryz.sizeOf3
 v3 := Tryz.zeroValue3
 t4 := Tryz.underlying4
 a4 := Tryz.isAgg4
 z4 := Tryz.sizeOf4
 v4 := Tryz.zeroValue4
 t9 := Tryz.underlying9
 a9 := Tryz.isAgg9
 z9 := Tryz.sizeOf9
 v9 := Tryz.zeroValue9
 t37 := Tryz.underlying26
 a37 := Tryz.isAgg26
 z37 := Tryz.sizeOf26
 v37 := Tryz.zeroValue26
 t5 := Tryz.underlying5
 a5 := Tryz.isAgg5
 z5 := Tryz.sizeOf5
 v5 := Tryz.zeroValue5 }
theorem Tryz.bytes_HasPrefix_all (p1 p2 : Option Addr) (n c m d : Nat) (xs ys : List Int) (w : World) (hx : xs.length = n) (hy : ys.length = m) (hnc : n ≤ c) (h1 : Lib.BytesIn w p1 n xs) (h2 : Lib.BytesIn w p2 m ys) :
   Calls Tryz.prog 48 #[.slice p1 n c, .slice p2 m d] w fun e w' => e = .returned (.bool (Lib.hasPrefix (Lib.bytesOf xs) (Lib.bytesOf ys))) ∧ w' = w := Any.bytes_HasPrefix_all Tryz.laysnb116 p1 p2 n c m d xs ys w hx hy hnc h1 h2
def Tryz.laysTrim_ren : Go.Shelf.Ren := ⟨fun | 160 => 59 | 232 => 91 | 231 => 90 | 227 => 92 | 234 => 94 | 233 => 93 | 236 => 96 | 235 => 95 | 228 => 116 | 271 => 118 | 151 => 117 | 197 => 109 | 120 => 140 | 152 => 133 | 260 => 137 | 137 => 71 | 119 => 149 | 224 => 78 | 225 => 131 | 217 => 102 | 266 => 130 | n => n, fun | 9 => 9 | 4 => 4 | 3 => 3 | 5 => 5 | 117 => 120 | 116 => 119 | 0 => 0 | 124 => 123 | 21 => 21 | 105 => 131 | 46 => 105 | 119 => 169 | 139 => 172 | 138 => 171 | n => n, fun | 3 => 5 | 4 => 6 | n => n⟩
theorem Tryz.laysTrim : Go.Proofs.Lays.n160 Tryz.prog Tryz.laysTrim_ren := {
 mixed := by kernel_rfl
 f119 := tq Tryz.func149 (by kernel_rfl)
 f120 := tq Tryz.func140 (by kernel_rfl)
 f137 := tq Tryz.func71 (by kernel_rfl)
 f151 := tq Tryz.func117 (by kernel_rfl)
 f152 := tq Tryz.func133 (by kernel_rfl)
 f160 := tq Tryz.func59 (by kernel_rfl)
 f197 := tq Tryz.func109 (by kernel_rfl)
 f217 := tq Tryz.func102 (by kernel_rfl)
 f224 := tq Tryz.func78 (by kernel_rfl)
 f225 := tq Tryz.func131 (by kernel_rfl)
 f227 := tq Tryz.func92 (by kernel_rfl)
 f228 := tq Tryz.func116 (by kernel_rfl)
 f231 := tq Tryz.func90 (by kernel_rfl)
 f232 := tq Tryz.func91 (by kernel_rfl)
 f233 := tq Tryz.func93 (by kernel_rfl)
 f234 := tq Tryz.func94 (by kernel_rfl)
 f235 := tq Tryz.func95 (by kernel_rfl)
 f236 := tq Tryz.func96 (by kernel_rfl)
 f260 := tq Tryz.func137 (by kernel_rfl)
 f266 := tq Tryz.func130 (by kernel_rfl)
 f271 := tq Tryz.func118 (by kernel_rfl)
 t0 := Tryz.underlying0
 a0 := Tryz.isAgg0
 z0 := Tryz.sizeOf0
 v0 := Tryz.zeroValue0
 t3 := Tryz.underlying3
 a3 := Tryz.isAgg3
 z3 := Tryz.sizeOf3
 v3 := Tryz.zeroValue3
 t4 := Tryz.underlying4
 a4 := Tryz.isAgg4
 z4 := Tryz.sizeOf4
 v4 := Tryz.zeroValue4
 t5 := Tryz.underlying5
 a5 := Tryz.isAgg5
 z5 := Tryz.sizeOf5
 v5 := Tryz.zeroValue5
 t9 := Tryz.underlying9
 a9 := Tryz.isAgg9
 z9 := Tryz.sizeOf9
 v9 := Tryz.zeroValue9
 t21 := Tryz.underlying21
 a21 := Tryz.isAgg21
 z21 := Tryz.sizeOf21
 v21 := Tryz.zeroValue21
 t46 := Tryz.underlying105
 a46 := Tryz.isAgg105
 z46 := Tryz.sizeOf105
 v46 := Tryz.zeroValue105
 t105 := Tryz.underlying131
 a105 := Tryz.isAgg131
 z105 := Tryz.sizeOf131
 v105 := Tryz.zeroValue131
 t116 := Tryz.underlying119
 a116 := Tryz.isAgg119
 z116 := Tryz.sizeOf119
 t117 := Tryz.underlying120
 a117 := Tryz.isAgg120
 z117 := Tryz.sizeOf120
 v117 := Tryz.zeroValue120
 t119 := Tryz.underlying169
 a119 := Tryz.isAgg169
 z119 := Tryz.sizeOf169
 t124 := Tryz.underlying123
 a124 := Tryz.isAgg123
 z124 := Tryz.sizeOf123
 v124 := Tryz.zeroValue123
 t138 := Tryz.underlying171
 a138 := Tryz.isAgg171
 z138 := Tryz.sizeOf171
 v138 := Tryz.zeroValue171
 t139 := Tryz.underlying172
 a139 := Tryz.isAgg172
 z139 := Tryz.sizeOf172
 v139 := Tryz.zeroValue172
 g3 := by kernel_rfl
 g4 := by kernel_rfl }
end Go.Proofs
