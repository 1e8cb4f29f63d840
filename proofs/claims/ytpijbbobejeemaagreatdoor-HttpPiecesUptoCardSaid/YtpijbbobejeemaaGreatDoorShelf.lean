/-
  DERIVED: THE SHELF's CONTRACTS AT THIS DUMP, IN PLAIN WORDS (tools/lay-plain.mjs out of 'YtpijbbobejeemaaGreatDoorShelf0.lean', which tools/lay-shelf.mjs wrote): THE SAME DECLARATIONS UNDER THE SAME NAMES: 'import', 'namespace', 'open', 'def', 'theorem' AND NOTHING ELSE: no command of the shelf's: FOR A HAND-IN. Each laying: the table of numbers ('.._ren') and one theorem, a field a fact of the dump's own or the kernel's comparison; each contract: ONE APPLICATION.
-/
import Derived.Shelf.Strings.SlTrimAscii
import Derived.Shelf.Strings.Builder1
import Derived.Shelf.Strings.Builder2
import Derived.Shelf.Strings.OnBuilder
import Derived.Shelf.Strings.Trim
import Derived.Shelf.Small.Utf8
import Derived.Shelf.Small.Strs
import Derived.Shelf.Small.Wraps
import Derived.Shelf.Strconv.Atoi
import Derived.Shelf.Strconv.Itoa0
import Derived.Shelf.Strconv.Itoa1
import Derived.Shelf.LaysM
import Derived.Shelf.Strconv.Itoa2
import Derived.Shelf.Strconv.Itoa3
import Derived.Shelf.Strconv.AtoiErrFast
import Derived.Shelf.Strconv.ParseIntEmpty
import Derived.Shelf.Strconv.AtoiFail
import Derived.Shelf.Strconv.Clone
import Derived.Shelf.Strconv.SyntaxError
import Derived.Shelf.LaysC
import Derived.Shelf.Strconv.ToError
import Derived.Shelf.Strconv.Lower
import Derived.Shelf.Strconv.ParseUint10
import Derived.Shelf.Strconv.ParseUint10Empty
import Derived.Shelf.Strconv.ParseUint10Any
import Derived.Shelf.Strconv.ParseInt10
import Derived.Shelf.Strconv.AtoiLong
import Derived.Shelf.Strconv.AtoiInnerAll
import Derived.Shelf.Strconv.RangeError
import Derived.Shelf.Strconv.ToErrorRange
import Derived.Shelf.Strconv.AtoiAll
import Derived.Shelf.Strings.Search1
import Derived.Shelf.Strings.Search2
import Derived.Shelf.Strings.Search3
import Derived.Shelf.Strings.Cut
import Derived.Shelf.Strings.Count
import Derived.Shelf.Strings.Shaped
import Derived.Shelf.Strings.Prefix
import Derived.Shelf.Strings.Split
import Derived.Shelf.Unicode.Latin
import Derived.Shelf.Strings.Runes
import Derived.Shelf.Strings.IndexAny
import Derived.Shelf.Strings.AsciiSet
import Derived.Shelf.Strings.IndexAnyAll
import Derived.Shelf.Unicode.DecodeSlow
import Derived.Shelf.Unicode.CaseLookup
import Derived.Shelf.Unicode.CaseConvert
import Derived.Shelf.Unicode.CaseTo
import Derived.Shelf.Unicode.CaseLaid
import Derived.Shelf.Bytes.SlIndexSmall
import Derived.Shelf.Bytes.SlIndexAt
import Derived.Shelf.Bytes.SlSearch0
import Derived.Shelf.Bytes.SlSearch1
import Derived.Shelf.Bytes.SlSearch2
import Derived.Shelf.Bytes.SlIndexWhole
import Derived.Ground.SlbCloneProg
import Derived.Shelf.Bytes.SlClone
import Derived.Shelf.Bytes.SlSmallAll
import Derived.Shelf.Bytes.Small
import Derived.Shelf.Bytes.IndexByte
import Derived.Test.YtpijbbobejeemaaGreatDoorProg
set_option linter.unusedVariables false
set_option linter.unusedSimpArgs false
namespace Go.Proofs
open Go.Shelf
def Tryz.lays159_ren : Go.Shelf.Ren := ⟨fun | 159 => 58 | 165 => 66 | 166 => 67 | 167 => 87 | 169 => 68 | 230 => 88 | 204 => 89 | 240 => 100 | 241 => 101 | 197 => 109 | 118 => 112 | 168 => 113 | 270 => 114 | 262 => 115 | 276 => 128 | 277 => 129 | 260 => 137 | 242 => 138 | 313 => 139 | 278 => 150 | 274 => 151 | 275 => 152 | n => n, fun | 9 => 9 | 4 => 4 | 3 => 3 | 5 => 5 | 72 => 101 | 0 => 0 | 76 => 95 | 75 => 94 | 107 => 116 | 70 => 99 | 20 => 20 | 37 => 26 | 127 => 126 | 21 => 21 | 105 => 131 | 164 => 149 | 162 => 159 | 203 => 157 | 119 => 169 | 46 => 105 | 139 => 172 | 138 => 171 | 51 => 127 | 160 => 173 | 208 => 183 | 206 => 181 | 80 => 103 | n => n, fun | 13 => 1 | 3 => 5 | 4 => 6 | n => n⟩
theorem Tryz.lays159 : Go.Proofs.Lays.n159 Tryz.prog Tryz.lays159_ren := {
  mixed := by kernel_rfl
  f118 := Tryz.func112.trans (congrArg some (by kernel_rfl))
  f159 := Tryz.func58.trans (congrArg some (by kernel_rfl))
  f165 := Tryz.func66.trans (congrArg some (by kernel_rfl))
  f166 := Tryz.func67.trans (congrArg some (by kernel_rfl))
  f167 := Tryz.func87.trans (congrArg some (by kernel_rfl))
  f168 := Tryz.func113.trans (congrArg some (by kernel_rfl))
  f169 := Tryz.func68.trans (congrArg some (by kernel_rfl))
  f197 := Tryz.func109.trans (congrArg some (by kernel_rfl))
  f204 := Tryz.func89.trans (congrArg some (by kernel_rfl))
  f230 := Tryz.func88.trans (congrArg some (by kernel_rfl))
  f240 := Tryz.func100.trans (congrArg some (by kernel_rfl))
  f241 := Tryz.func101.trans (congrArg some (by kernel_rfl))
  f242 := Tryz.func138.trans (congrArg some (by kernel_rfl))
  f260 := Tryz.func137.trans (congrArg some (by kernel_rfl))
  f262 := Tryz.func115.trans (congrArg some (by kernel_rfl))
  f270 := Tryz.func114.trans (congrArg some (by kernel_rfl))
  f274 := Tryz.func151.trans (congrArg some (by kernel_rfl))
  f275 := Tryz.func152.trans (congrArg some (by kernel_rfl))
  f276 := Tryz.func128.trans (congrArg some (by kernel_rfl))
  f277 := Tryz.func129.trans (congrArg some (by kernel_rfl))
  f278 := Tryz.func150.trans (congrArg some (by kernel_rfl))
  f313 := Tryz.func139.trans (congrArg some (by kernel_rfl))
  t0 := Tryz.underlying0
  a0 := Tryz.isAgg0
  z0 := Tryz.sizeOf0
  v0 := Tryz.zeroValue0
  t3 := Tryz.underlying3
  a3 := Tryz.isAgg3
  z3 := Tryz.sizeOf3
  v3 := Tryz.zeroValue3
  t4 := Tryz.underlying4
  a4 := Tryz.isAgg4
  z4 := Tryz.sizeOf4
  v4 := Tryz.zeroValue4
  t5 := Tryz.underlying5
  a5 := Tryz.isAgg5
  z5 := Tryz.sizeOf5
  v5 := Tryz.zeroValue5
  t9 := Tryz.underlying9
  a9 := Tryz.isAgg9
  z9 := Tryz.sizeOf9
  v9 := Tryz.zeroValue9
  t20 := Tryz.underlying20
  a20 := Tryz.isAgg20
  z20 := Tryz.sizeOf20
  v20 := Tryz.zeroValue20
  t21 := Tryz.underlying21
  a21 := Tryz.isAgg21
  z21 := Tryz.sizeOf21
  v21 := Tryz.zeroValue21
  t37 := Tryz.underlying26
  a37 := Tryz.isAgg26
  z37 := Tryz.sizeOf26
  v37 := Tryz.zeroValue26
  t46 := Tryz.underlying105
  a46 := Tryz.isAgg105
  z46 := Tryz.sizeOf105
  v46 := Tryz.zeroValue105
  t51 := Tryz.underlying127
  a51 := Tryz.isAgg127
  z51 := Tryz.sizeOf127
  v51 := Tryz.zeroValue127
  t70 := Tryz.underlying99
  a70 := Tryz.isAgg99
  z70 := Tryz.sizeOf99
  v70 := Tryz.zeroValue99
  t72 := Tryz.underlying101
  a72 := Tryz.isAgg101
  z72 := Tryz.sizeOf101
  v72 := Tryz.zeroValue101
  t75 := Tryz.underlying94
  a75 := Tryz.isAgg94
  z75 := Tryz.sizeOf94
  v75 := Tryz.zeroValue94
  t76 := Tryz.underlying95
  a76 := Tryz.isAgg95
  z76 := Tryz.sizeOf95
  v76 := Tryz.zeroValue95
  t105 := Tryz.underlying131
  a105 := Tryz.isAgg131
  z105 := Tryz.sizeOf131
  v105 := Tryz.zeroValue131
  t107 := Tryz.underlying116
  a107 := Tryz.isAgg116
  z107 := Tryz.sizeOf116
  v107 := Tryz.zeroValue116
  t119 := Tryz.underlying169
  a119 := Tryz.isAgg169
  z119 := Tryz.sizeOf169
  t127 := Tryz.underlying126
  a127 := Tryz.isAgg126
  z127 := Tryz.sizeOf126
  v127 := Tryz.zeroValue126
  t138 := Tryz.underlying171
  a138 := Tryz.isAgg171
  z138 := Tryz.sizeOf171
  v138 := Tryz.zeroValue171
  t139 := Tryz.underlying172
  a139 := Tryz.isAgg172
  z139 := Tryz.sizeOf172
  v139 := Tryz.zeroValue172
  t160 := Tryz.underlying173
  a160 := Tryz.isAgg173
  z160 := Tryz.sizeOf173
  v160 := Tryz.zeroValue173
  t162 := Tryz.underlying159
  a162 := Tryz.isAgg159
  z162 := Tryz.sizeOf159
  v162 := Tryz.zeroValue159
  t164 := Tryz.underlying149
  a164 := Tryz.isAgg149
  z164 := Tryz.sizeOf149
  v164 := Tryz.zeroValue149
  t203 := Tryz.underlying157
  a203 := Tryz.isAgg157
  z203 := Tryz.sizeOf157
  v203 := Tryz.zeroValue157
  t206 := Tryz.underlying181
  a206 := Tryz.isAgg181
  z206 := Tryz.sizeOf181
  v206 := Tryz.zeroValue181
  t208 := Tryz.underlying183
  a208 := Tryz.isAgg183
  z208 := Tryz.sizeOf183
  v208 := Tryz.zeroValue183
  g3 := by kernel_rfl
  g4 := by kernel_rfl
  g13 := by kernel_rfl }
theorem Tryz.Builder_Extra_159 : Builder.Extra Tryz.prog Tryz.lays159_ren := {
  sizeBuilder := by kernel_rfl
  liesBuilder := by kernel_rfl
  t5 := Tryz.underlying5
  a5 := Tryz.isAgg5
  z5 := Tryz.sizeOf5
  v5 := Tryz.zeroValue5
  infoByte := by kernel_rfl
  cellsByte := by kernel_rfl
  sizeByte := by kernel_rfl
  neB5 := by decide }
open Go.RowKit in
/-- strings.ToLower: "ToLower returns s with all Unicode letters mapped to their lower case.": ON ASCII TEXT OF AT MOST 2^47 BYTES. Below the heap's end the world is as it was: where a letter turns, the call makes a builder and its buffer. (LAID: no walk: one application.) -/
theorem Tryz.strings_ToLower_ascii (s : ByteArray) (w : World) (hs : s.size ≤ 140737488355328) (hascii : ∀ (j : Nat) (b : UInt8), s.data.toList[j]? = some b → b.toNat < 128) :
    Calls Tryz.prog 58 #[.string s] w fun e w' => e = .returned (.string ⟨(Lib.toLowerA s.data.toList).toArray⟩) ∧ Below w.heap.size w w' := Any.strings_ToLower_ascii Tryz.lays159 Tryz.Builder_Extra_159 s w hs hascii
def Tryz.lays156_ren : Go.Shelf.Ren := ⟨fun | 156 => 40 | 165 => 66 | 166 => 67 | 169 => 68 | 240 => 100 | 241 => 101 | 276 => 128 | 277 => 129 | n => n, fun | 31 => 55 | 9 => 9 | 3 => 3 | 4 => 4 | 0 => 0 | 20 => 20 | 72 => 101 | 76 => 95 | 70 => 99 | 37 => 26 | 75 => 94 | 127 => 126 | 164 => 149 | 5 => 5 | 80 => 103 | n => n, fun | n => n⟩
theorem Tryz.lays156 : Go.Proofs.Lays.n156 Tryz.prog Tryz.lays156_ren := {
  mixed := by kernel_rfl
  f156 := Tryz.func40.trans (congrArg some (by kernel_rfl))
  f165 := Tryz.func66.trans (congrArg some (by kernel_rfl))
  f166 := Tryz.func67.trans (congrArg some (by kernel_rfl))
  f169 := Tryz.func68.trans (congrArg some (by kernel_rfl))
  f240 := Tryz.func100.trans (congrArg some (by kernel_rfl))
  f241 := Tryz.func101.trans (congrArg some (by kernel_rfl))
  f276 := Tryz.func128.trans (congrArg some (by kernel_rfl))
  f277 := Tryz.func129.trans (congrArg some (by kernel_rfl))
  t0 := Tryz.underlying0
  a0 := Tryz.isAgg0
  z0 := Tryz.sizeOf0
  v0 := Tryz.zeroValue0
  t3 := Tryz.underlying3
  a3 := Tryz.isAgg3
  z3 := Tryz.sizeOf3
  v3 := Tryz.zeroValue3
  t4 := Tryz.underlying4
  a4 := Tryz.isAgg4
  z4 := Tryz.sizeOf4
  v4 := Tryz.zeroValue4
  t9 := Tryz.underlying9
  a9 := Tryz.isAgg9
  z9 := Tryz.sizeOf9
  v9 := Tryz.zeroValue9
  t20 := Tryz.underlying20
  a20 := Tryz.isAgg20
  z20 := Tryz.sizeOf20
  v20 := Tryz.zeroValue20
  t31 := Tryz.underlying55
  a31 := Tryz.isAgg55
  z31 := Tryz.sizeOf55
  v31 := Tryz.zeroValue55
  t37 := Tryz.underlying26
  a37 := Tryz.isAgg26
  z37 := Tryz.sizeOf26
  v37 := Tryz.zeroValue26
  t70 := Tryz.underlying99
  a70 := Tryz.isAgg99
  z70 := Tryz.sizeOf99
  v70 := Tryz.zeroValue99
  t72 := Tryz.underlying101
  a72 := Tryz.isAgg101
  z72 := Tryz.sizeOf101
  v72 := Tryz.zeroValue101
  t75 := Tryz.underlying94
  a75 := Tryz.isAgg94
  z75 := Tryz.sizeOf94
  v75 := Tryz.zeroValue94
  t76 := Tryz.underlying95
  a76 := Tryz.isAgg95
  z76 := Tryz.sizeOf95
  v76 := Tryz.zeroValue95
  t127 := Tryz.underlying126
  a127 := Tryz.isAgg126
  z127 := Tryz.sizeOf126
  v127 := Tryz.zeroValue126
  t164 := Tryz.underlying149
  a164 := Tryz.isAgg149
  z164 := Tryz.sizeOf149
  v164 := Tryz.zeroValue149 }
theorem Tryz.Builder_Extra_156 : Builder.Extra Tryz.prog Tryz.lays156_ren := {
  sizeBuilder := by kernel_rfl
  liesBuilder := by kernel_rfl
  t5 := Tryz.underlying5
  a5 := Tryz.isAgg5
  z5 := Tryz.sizeOf5
  v5 := Tryz.zeroValue5
  infoByte := by kernel_rfl
  cellsByte := by kernel_rfl
  sizeByte := by kernel_rfl
  neB5 := by decide }
open Go.RowKit in
/-- strings.Join: "Join concatenates the elements of its first argument to create a single string. The separator string sep is placed between elements in the resulting string.": HOWEVER MANY ELEMENTS. Below the heap's end the world is as it was. (LAID: no walk: one application.) -/
theorem Tryz.strings_Join (bk o c : Nat) (xs : List ByteArray) (sep : ByteArray) (w : World) (hcells : ∀ (j : Nat) x, xs[j]? = some x → w.cell? ⟨bk, o + j, none⟩ = some (.string x)) (hbk : bk < w.heap.size) (hN : xs.length ≤ 140737488355328) (hcap : xs.length ≤ c) (hlen : (Lib.join (xs.map (·.data.toList)) sep.data.toList).length ≤ 140737488355328) :
    Calls Tryz.prog 40 #[.slice (some ⟨bk, o, none⟩) xs.length c, .string sep] w fun e w' => e = .returned (.string ⟨(Lib.join (xs.map (·.data.toList)) sep.data.toList).toArray⟩) ∧ Below w.heap.size w w' := Any.strings_Join Tryz.lays156 Tryz.Builder_Extra_156 bk o c xs sep w hcells hbk hN hcap hlen
def Tryz.lays137_ren : Go.Shelf.Ren := ⟨fun | 137 => 71 | 217 => 102 | 266 => 130 | n => n, fun | 9 => 9 | 5 => 5 | 3 => 3 | n => n, fun | n => n⟩
theorem Tryz.lays137 : Go.Proofs.Lays.n137 Tryz.prog Tryz.lays137_ren := {
  mixed := by kernel_rfl
  f137 := Tryz.func71.trans (congrArg some (by kernel_rfl))
  f217 := Tryz.func102.trans (congrArg some (by kernel_rfl))
  f266 := Tryz.func130.trans (congrArg some (by kernel_rfl))
  t3 := Tryz.underlying3
  a3 := Tryz.isAgg3
  z3 := Tryz.sizeOf3
  v3 := Tryz.zeroValue3
  t5 := Tryz.underlying5
  a5 := Tryz.isAgg5
  z5 := Tryz.sizeOf5
  v5 := Tryz.zeroValue5
  t9 := Tryz.underlying9
  a9 := Tryz.isAgg9
  z9 := Tryz.sizeOf9
  v9 := Tryz.zeroValue9 }
open Go.RowKit in
/-- strings.IndexByte: "IndexByte returns the index of the first instance of c in s, or -1 if c is not present in s.": IT RETURNS 'Lib.indexByte s c'; the world is as it was. (LAID: no walk: one application.) -/
theorem Tryz.strings_IndexByte (s : ByteArray) (c : Int) (w : World) :
    Calls Tryz.prog 71 #[.string s, .int .u8 c] w fun e w' => e = .returned (.int .i64 (Lib.indexByte s.data.toList c.toNat.toUInt8)) ∧ w' = w := Any.strings_IndexByte Tryz.lays137 s c w
def Tryz.lays103_ren : Go.Shelf.Ren := ⟨fun | 103 => 43 | 210 => 69 | 206 => 86 | n => n, fun | 9 => 9 | 4 => 4 | 24 => 80 | 3 => 3 | n => n, fun | n => n⟩
theorem Tryz.lays103 : Go.Proofs.Lays.n103 Tryz.prog Tryz.lays103_ren := {
  mixed := by kernel_rfl
  f103 := Tryz.func43.trans (congrArg some (by kernel_rfl))
  f206 := Tryz.func86.trans (congrArg some (by kernel_rfl))
  f210 := Tryz.func69.trans (congrArg some (by kernel_rfl))
  t3 := Tryz.underlying3
  a3 := Tryz.isAgg3
  z3 := Tryz.sizeOf3
  v3 := Tryz.zeroValue3
  t4 := Tryz.underlying4
  a4 := Tryz.isAgg4
  z4 := Tryz.sizeOf4
  v4 := Tryz.zeroValue4
  t9 := Tryz.underlying9
  a9 := Tryz.isAgg9
  z9 := Tryz.sizeOf9
  v9 := Tryz.zeroValue9
  t24 := Tryz.underlying80
  a24 := Tryz.isAgg80
  z24 := Tryz.sizeOf80
  v24 := Tryz.zeroValue80 }
open Go.RowKit in
/-- strings.CutPrefix: "CutPrefix returns s without the provided leading prefix string and reports whether it found the prefix. If s doesn't start with prefix, CutPrefix returns s, false. If prefix is the empty string, CutPrefix returns s, true.": IT RETURNS '(Lib.trimPrefix s p, Lib.hasPrefix s p)'; the world is as it was. (LAID: no walk: one application.) -/
theorem Tryz.strings_CutPrefix (s p : ByteArray) (w : World) :
    Calls Tryz.prog 43 #[.string s, .string p] w fun e w' => e = .returned (.tuple #[.string ⟨(Lib.trimPrefix s.data.toList p.data.toList).toArray⟩, .bool (Lib.hasPrefix s.data.toList p.data.toList)]) ∧ w' = w := Any.strings_CutPrefix Tryz.lays103 s p w
def Tryz.laysM171_ren : Go.Shelf.Ren := ⟨fun | 171 => 39 | 243 => 65 | 246 => 99 | 283 => 124 | 284 => 125 | 285 => 126 | 286 => 127 | 129 => 144 | 317 => 143 | 318 => 145 | 319 => 146 | 320 => 147 | 337 => 153 | 338 => 154 | n => n, fun | 3 => 3 | 9 => 9 | 2 => 2 | 4 => 4 | 171 => 144 | 0 => 0 | 53 => 106 | 37 => 26 | 5 => 5 | 173 => 147 | 212 => 164 | 51 => 127 | 20 => 20 | 213 => 165 | 46 => 105 | 232 => 184 | 233 => 185 | n => n, fun | 17 => 4 | 18 => 7 | 19 => 8 | n => n⟩
theorem Tryz.laysM171 : Go.Proofs.LaysM.n171 Tryz.prog Tryz.laysM171_ren := {
  mixed := by kernel_rfl
  f129 := Tryz.func144.trans (congrArg some (by kernel_rfl))
  f171 := Tryz.func39.trans (congrArg some (by kernel_rfl))
  f243 := Tryz.func65.trans (congrArg some (by kernel_rfl))
  f246 := Tryz.func99.trans (congrArg some (by kernel_rfl))
  f283 := Tryz.func124.trans (congrArg some (by kernel_rfl))
  f284 := Tryz.func125.trans (congrArg some (by kernel_rfl))
  f285 := Tryz.func126.trans (congrArg some (by kernel_rfl))
  f286 := Tryz.func127.trans (congrArg some (by kernel_rfl))
  f317 := Tryz.func143.trans (congrArg some (by kernel_rfl))
  f318 := Tryz.func145.trans (congrArg some (by kernel_rfl))
  f319 := Tryz.func146.trans (congrArg some (by kernel_rfl))
  f320 := Tryz.func147.trans (congrArg some (by kernel_rfl))
  f337 := Tryz.func153.trans (congrArg some (by kernel_rfl))
  f338 := Tryz.func154.trans (congrArg some (by kernel_rfl))
  t0 := Tryz.underlying0
  a0 := Tryz.isAgg0
  z0 := Tryz.sizeOf0
  v0 := Tryz.zeroValue0
  t2 := Tryz.underlying2
  a2 := Tryz.isAgg2
  z2 := Tryz.sizeOf2
  v2 := Tryz.zeroValue2
  t3 := Tryz.underlying3
  a3 := Tryz.isAgg3
  z3 := Tryz.sizeOf3
  v3 := Tryz.zeroValue3
  t4 := Tryz.underlying4
  a4 := Tryz.isAgg4
  z4 := Tryz.sizeOf4
  v4 := Tryz.zeroValue4
  t5 := Tryz.underlying5
  a5 := Tryz.isAgg5
  z5 := Tryz.sizeOf5
  v5 := Tryz.zeroValue5
  t9 := Tryz.underlying9
  a9 := Tryz.isAgg9
  z9 := Tryz.sizeOf9
  v9 := Tryz.zeroValue9
  t20 := Tryz.underlying20
  a20 := Tryz.isAgg20
  z20 := Tryz.sizeOf20
  v20 := Tryz.zeroValue20
  t37 := Tryz.underlying26
  a37 := Tryz.isAgg26
  z37 := Tryz.sizeOf26
  v37 := Tryz.zeroValue26
  t46 := Tryz.underlying105
  a46 := Tryz.isAgg105
  z46 := Tryz.sizeOf105
  v46 := Tryz.zeroValue105
  t51 := Tryz.underlying127
  a51 := Tryz.isAgg127
  z51 := Tryz.sizeOf127
  v51 := Tryz.zeroValue127
  t53 := Tryz.underlying106
  a53 := Tryz.isAgg106
  z53 := Tryz.sizeOf106
  v53 := Tryz.zeroValue106
  t171 := Tryz.underlying144
  a171 := Tryz.isAgg144
  z171 := Tryz.sizeOf144
  v171 := Tryz.zeroValue144
  t173 := Tryz.underlying147
  a173 := Tryz.isAgg147
  z173 := Tryz.sizeOf147
  v173 := Tryz.zeroValue147
  t212 := Tryz.underlying164
  a212 := Tryz.isAgg164
  z212 := Tryz.sizeOf164
  v212 := Tryz.zeroValue164
  t213 := Tryz.underlying165
  a213 := Tryz.isAgg165
  z213 := Tryz.sizeOf165
  t232 := Tryz.underlying184
  a232 := Tryz.isAgg184
  z232 := Tryz.sizeOf184
  v232 := Tryz.zeroValue184
  t233 := Tryz.underlying185
  a233 := Tryz.isAgg185
  z233 := Tryz.sizeOf185
  v233 := Tryz.zeroValue185
  g17 := by kernel_rfl
  g18 := by kernel_rfl
  g19 := by kernel_rfl
  i0 := by kernel_rfl
  i2 := by kernel_rfl
  i3 := by kernel_rfl
  i4 := by kernel_rfl
  i5 := by kernel_rfl
  i9 := by kernel_rfl
  i20 := by kernel_rfl
  i37 := by kernel_rfl
  i46 := by kernel_rfl
  i51 := by kernel_rfl
  i53 := by kernel_rfl
  i171 := by kernel_rfl
  i173 := by kernel_rfl
  i212 := by kernel_rfl
  i232 := by kernel_rfl
  i233 := by kernel_rfl
  m17 := by kernel_rfl
  m18 := by kernel_rfl
  m19 := by kernel_rfl }
open Go.RowKit Go.Sort Go.Lib in
/-- strconv.Itoa: "Itoa is equivalent to FormatInt(int64(i), 10).": i's DECIMAL NUMERAL ('Lib.itoa': a '-' where i is negative, then the digits), FOR EVERY int. The world behind the call: the world before it, new blocks behind the heap (the library's 'var a [24]byte'), draws. (LAID: no walk: one application.) -/
theorem Tryz.strconv_Itoa (n : Int) (h0 : -9223372036854775808 ≤ n) (h1 : n ≤ 9223372036854775807) (w : World) (htab : Lib.TabIs Tryz.prog w "internal/strconv.uint64pow10" .u64 Lib.pow10Tab) :
    Calls Tryz.prog 39 #[.int .i64 n] w fun e w' => e = .returned (.string ⟨(Lib.itoa n).toArray⟩) ∧ ∃ k os, w' = grow (w.drewN k) os := Any.strconv_Itoa Tryz.laysM171 n h0 h1 w htab
def Tryz.laysC245_ren : Go.Shelf.Ren := ⟨fun | 245 => 98 | 279 => 120 | 280 => 121 | 281 => 122 | 282 => 123 | 316 => 141 | 171 => 39 | 205 => 142 | 243 => 65 | 246 => 99 | 283 => 124 | 284 => 125 | 285 => 126 | 286 => 127 | 129 => 144 | 317 => 143 | 318 => 145 | 319 => 146 | 320 => 147 | 337 => 153 | 338 => 154 | n => n, fun | 9 => 9 | 3 => 3 | 75 => 94 | 167 => 138 | 4 => 4 | 168 => 141 | 210 => 161 | 37 => 26 | 0 => 0 | 127 => 126 | 145 => 178 | 143 => 176 | 2 => 2 | 171 => 144 | 53 => 106 | 5 => 5 | 173 => 147 | 212 => 164 | 51 => 127 | 20 => 20 | 213 => 165 | 46 => 105 | 232 => 184 | 233 => 185 | 80 => 103 | n => n, fun | 15 => 2 | 16 => 3 | 17 => 4 | 18 => 7 | 19 => 8 | n => n⟩
theorem Tryz.laysC245 : Go.Proofs.LaysC.n245 Tryz.prog Tryz.laysC245_ren := {
  mixed := by kernel_rfl
  f129 := Tryz.func144.trans (congrArg some (by kernel_rfl))
  f171 := Tryz.func39.trans (congrArg some (by kernel_rfl))
  f205 := Tryz.func142.trans (congrArg some (by kernel_rfl))
  f243 := Tryz.func65.trans (congrArg some (by kernel_rfl))
  f245 := Tryz.func98.trans (congrArg some (by kernel_rfl))
  f246 := Tryz.func99.trans (congrArg some (by kernel_rfl))
  f279 := Tryz.func120.trans (congrArg some (by kernel_rfl))
  f280 := Tryz.func121.trans (congrArg some (by kernel_rfl))
  f281 := Tryz.func122.trans (congrArg some (by kernel_rfl))
  f282 := Tryz.func123.trans (congrArg some (by kernel_rfl))
  f283 := Tryz.func124.trans (congrArg some (by kernel_rfl))
  f284 := Tryz.func125.trans (congrArg some (by kernel_rfl))
  f285 := Tryz.func126.trans (congrArg some (by kernel_rfl))
  f286 := Tryz.func127.trans (congrArg some (by kernel_rfl))
  f316 := Tryz.func141.trans (congrArg some (by kernel_rfl))
  f317 := Tryz.func143.trans (congrArg some (by kernel_rfl))
  f318 := Tryz.func145.trans (congrArg some (by kernel_rfl))
  f319 := Tryz.func146.trans (congrArg some (by kernel_rfl))
  f320 := Tryz.func147.trans (congrArg some (by kernel_rfl))
  f337 := Tryz.func153.trans (congrArg some (by kernel_rfl))
  f338 := Tryz.func154.trans (congrArg some (by kernel_rfl))
  t0 := Tryz.underlying0
  a0 := Tryz.isAgg0
  z0 := Tryz.sizeOf0
  v0 := Tryz.zeroValue0
  t2 := Tryz.underlying2
  a2 := Tryz.isAgg2
  z2 := Tryz.sizeOf2
  v2 := Tryz.zeroValue2
  t3 := Tryz.underlying3
  a3 := Tryz.isAgg3
  z3 := Tryz.sizeOf3
  v3 := Tryz.zeroValue3
  t4 := Tryz.underlying4
  a4 := Tryz.isAgg4
  z4 := Tryz.sizeOf4
  v4 := Tryz.zeroValue4
  t5 := Tryz.underlying5
  a5 := Tryz.isAgg5
  z5 := Tryz.sizeOf5
  v5 := Tryz.zeroValue5
  t9 := Tryz.underlying9
  a9 := Tryz.isAgg9
  z9 := Tryz.sizeOf9
  v9 := Tryz.zeroValue9
  t20 := Tryz.underlying20
  a20 := Tryz.isAgg20
  z20 := Tryz.sizeOf20
  v20 := Tryz.zeroValue20
  t37 := Tryz.underlying26
  a37 := Tryz.isAgg26
  z37 := Tryz.sizeOf26
  v37 := Tryz.zeroValue26
  t46 := Tryz.underlying105
  a46 := Tryz.isAgg105
  z46 := Tryz.sizeOf105
  v46 := Tryz.zeroValue105
  t51 := Tryz.underlying127
  a51 := Tryz.isAgg127
  z51 := Tryz.sizeOf127
  v51 := Tryz.zeroValue127
  t53 := Tryz.underlying106
  a53 := Tryz.isAgg106
  z53 := Tryz.sizeOf106
  v53 := Tryz.zeroValue106
  t75 := Tryz.underlying94
  a75 := Tryz.isAgg94
  z75 := Tryz.sizeOf94
  v75 := Tryz.zeroValue94
  t127 := Tryz.underlying126
  a127 := Tryz.isAgg126
  z127 := Tryz.sizeOf126
  v127 := Tryz.zeroValue126
  t143 := Tryz.underlying176
  a143 := Tryz.isAgg176
  z143 := Tryz.sizeOf176
  v143 := Tryz.zeroValue176
  t145 := Tryz.underlying178
  a145 := Tryz.isAgg178
  z145 := Tryz.sizeOf178
  v145 := Tryz.zeroValue178
  t167 := Tryz.underlying138
  a167 := Tryz.isAgg138
  z167 := Tryz.sizeOf138
  v167 := Tryz.zeroValue138
  t168 := Tryz.underlying141
  a168 := Tryz.isAgg141
  z168 := Tryz.sizeOf141
  v168 := Tryz.zeroValue141
  t171 := Tryz.underlying144
  a171 := Tryz.isAgg144
  z171 := Tryz.sizeOf144
  v171 := Tryz.zeroValue144
  t173 := Tryz.underlying147
  a173 := Tryz.isAgg147
  z173 := Tryz.sizeOf147
  v173 := Tryz.zeroValue147
  t210 := Tryz.underlying161
  a210 := Tryz.isAgg161
  z210 := Tryz.sizeOf161
  v210 := Tryz.zeroValue161
  t212 := Tryz.underlying164
  a212 := Tryz.isAgg164
  z212 := Tryz.sizeOf164
  v212 := Tryz.zeroValue164
  t213 := Tryz.underlying165
  a213 := Tryz.isAgg165
  z213 := Tryz.sizeOf165
  t232 := Tryz.underlying184
  a232 := Tryz.isAgg184
  z232 := Tryz.sizeOf184
  v232 := Tryz.zeroValue184
  t233 := Tryz.underlying185
  a233 := Tryz.isAgg185
  z233 := Tryz.sizeOf185
  v233 := Tryz.zeroValue185
  g15 := by kernel_rfl
  g16 := by kernel_rfl
  g17 := by kernel_rfl
  g18 := by kernel_rfl
  g19 := by kernel_rfl
  t80 := Tryz.underlying103
  a80 := Tryz.isAgg103
  z80 := Tryz.sizeOf103
  v80 := Tryz.zeroValue103
  i0 := by kernel_rfl
  i2 := by kernel_rfl
  i3 := by kernel_rfl
  i4 := by kernel_rfl
  i5 := by kernel_rfl
  i9 := by kernel_rfl
  i20 := by kernel_rfl
  i37 := by kernel_rfl
  i46 := by kernel_rfl
  i51 := by kernel_rfl
  i53 := by kernel_rfl
  i75 := by kernel_rfl
  i80 := by kernel_rfl
  i127 := by kernel_rfl
  i143 := by kernel_rfl
  i145 := by kernel_rfl
  i167 := by kernel_rfl
  i168 := by kernel_rfl
  i171 := by kernel_rfl
  i173 := by kernel_rfl
  i210 := by kernel_rfl
  i212 := by kernel_rfl
  i232 := by kernel_rfl
  i233 := by kernel_rfl
  m15 := by kernel_rfl
  m16 := by kernel_rfl
  m17 := by kernel_rfl
  m18 := by kernel_rfl
  m19 := by kernel_rfl
  c0 := by kernel_rfl
  c2 := by kernel_rfl
  c3 := by kernel_rfl
  c4 := by kernel_rfl
  c5 := by kernel_rfl
  c9 := by kernel_rfl
  c20 := by kernel_rfl
  c37 := by kernel_rfl
  c46 := by kernel_rfl
  c51 := by kernel_rfl
  c53 := by kernel_rfl
  c75 := by kernel_rfl
  c80 := by kernel_rfl
  c127 := by kernel_rfl
  c143 := by kernel_rfl
  c145 := by kernel_rfl
  c167 := by kernel_rfl
  c168 := by kernel_rfl
  c171 := by kernel_rfl
  c173 := by kernel_rfl
  c210 := by kernel_rfl
  c212 := by kernel_rfl
  c213 := by kernel_rfl
  c232 := by kernel_rfl
  c233 := by kernel_rfl }
open Go.RowKit in
/-- strconv.toError, at the inner package's ErrSyntax: 'syntaxError(fn, s)' as an error: A *NumError IN A NEW BLOCK. (LAID: no walk: one application.) -/
theorem Tryz.strconv_toError_syntax (fn s : ByteArray) (base bits : Int) (ev : Value) (w : World) (hlim : s.size ≤ 281474976710656) (hv : w.cell? ⟨2, 0, none⟩ = some ev) (hev : ev = .nilIface ∨ ∃ te pe, ev = .iface te pe) :
    Calls Tryz.prog 98 #[.string fn, .string s, .int .i64 base, .int .i64 bits, .iface 138 (.int .i64 2)] w fun e w' => ∃ N, e = .returned (.iface 141 (.pointer (some ⟨N, 0, none⟩))) ∧ w.heap.size ≤ N ∧ w'.heap[N]? = some (.cells #[.string fn, .string s, ev] 161 (0, 0)) ∧ Below w.heap.size w w' := Any.strconv_toError_syntax Tryz.laysC245 fn s base bits ev w hlim hv hev
def Tryz.laysC172_ren : Go.Shelf.Ren := ⟨fun | 172 => 61 | 244 => 97 | 245 => 98 | 247 => 119 | 279 => 120 | 280 => 121 | 281 => 122 | 282 => 123 | 287 => 105 | 316 => 141 | 171 => 39 | 205 => 142 | 321 => 135 | 322 => 136 | 243 => 65 | 246 => 99 | 283 => 124 | 284 => 125 | 285 => 126 | 286 => 127 | 129 => 144 | 317 => 143 | 318 => 145 | 319 => 146 | 320 => 147 | 337 => 153 | 338 => 154 | n => n, fun | 9 => 9 | 3 => 3 | 75 => 94 | 76 => 95 | 4 => 4 | 5 => 5 | 167 => 138 | 37 => 26 | 0 => 0 | 85 => 139 | 2 => 2 | 168 => 141 | 53 => 106 | 175 => 107 | 46 => 105 | 210 => 161 | 127 => 126 | 145 => 178 | 143 => 176 | 21 => 21 | 171 => 144 | 173 => 147 | 212 => 164 | 51 => 127 | 20 => 20 | 213 => 165 | 232 => 184 | 233 => 185 | 80 => 103 | n => n, fun | 15 => 2 | 16 => 3 | 17 => 4 | 18 => 7 | 19 => 8 | n => n⟩
theorem Tryz.laysC172 : Go.Proofs.LaysC.n172 Tryz.prog Tryz.laysC172_ren := {
  mixed := by kernel_rfl
  f129 := Tryz.func144.trans (congrArg some (by kernel_rfl))
  f171 := Tryz.func39.trans (congrArg some (by kernel_rfl))
  f172 := Tryz.func61.trans (congrArg some (by kernel_rfl))
  f205 := Tryz.func142.trans (congrArg some (by kernel_rfl))
  f243 := Tryz.func65.trans (congrArg some (by kernel_rfl))
  f244 := Tryz.func97.trans (congrArg some (by kernel_rfl))
  f245 := Tryz.func98.trans (congrArg some (by kernel_rfl))
  f246 := Tryz.func99.trans (congrArg some (by kernel_rfl))
  f247 := Tryz.func119.trans (congrArg some (by kernel_rfl))
  f279 := Tryz.func120.trans (congrArg some (by kernel_rfl))
  f280 := Tryz.func121.trans (congrArg some (by kernel_rfl))
  f281 := Tryz.func122.trans (congrArg some (by kernel_rfl))
  f282 := Tryz.func123.trans (congrArg some (by kernel_rfl))
  f283 := Tryz.func124.trans (congrArg some (by kernel_rfl))
  f284 := Tryz.func125.trans (congrArg some (by kernel_rfl))
  f285 := Tryz.func126.trans (congrArg some (by kernel_rfl))
  f286 := Tryz.func127.trans (congrArg some (by kernel_rfl))
  f287 := Tryz.func105.trans (congrArg some (by kernel_rfl))
  f316 := Tryz.func141.trans (congrArg some (by kernel_rfl))
  f317 := Tryz.func143.trans (congrArg some (by kernel_rfl))
  f318 := Tryz.func145.trans (congrArg some (by kernel_rfl))
  f319 := Tryz.func146.trans (congrArg some (by kernel_rfl))
  f320 := Tryz.func147.trans (congrArg some (by kernel_rfl))
  f321 := Tryz.func135.trans (congrArg some (by kernel_rfl))
  f322 := Tryz.func136.trans (congrArg some (by kernel_rfl))
  f337 := Tryz.func153.trans (congrArg some (by kernel_rfl))
  f338 := Tryz.func154.trans (congrArg some (by kernel_rfl))
  t0 := Tryz.underlying0
  a0 := Tryz.isAgg0
  z0 := Tryz.sizeOf0
  v0 := Tryz.zeroValue0
  t2 := Tryz.underlying2
  a2 := Tryz.isAgg2
  z2 := Tryz.sizeOf2
  v2 := Tryz.zeroValue2
  t3 := Tryz.underlying3
  a3 := Tryz.isAgg3
  z3 := Tryz.sizeOf3
  v3 := Tryz.zeroValue3
  t4 := Tryz.underlying4
  a4 := Tryz.isAgg4
  z4 := Tryz.sizeOf4
  v4 := Tryz.zeroValue4
  t5 := Tryz.underlying5
  a5 := Tryz.isAgg5
  z5 := Tryz.sizeOf5
  v5 := Tryz.zeroValue5
  t9 := Tryz.underlying9
  a9 := Tryz.isAgg9
  z9 := Tryz.sizeOf9
  v9 := Tryz.zeroValue9
  t20 := Tryz.underlying20
  a20 := Tryz.isAgg20
  z20 := Tryz.sizeOf20
  v20 := Tryz.zeroValue20
  t21 := Tryz.underlying21
  a21 := Tryz.isAgg21
  z21 := Tryz.sizeOf21
  v21 := Tryz.zeroValue21
  t37 := Tryz.underlying26
  a37 := Tryz.isAgg26
  z37 := Tryz.sizeOf26
  v37 := Tryz.zeroValue26
  t46 := Tryz.underlying105
  a46 := Tryz.isAgg105
  z46 := Tryz.sizeOf105
  v46 := Tryz.zeroValue105
  t51 := Tryz.underlying127
  a51 := Tryz.isAgg127
  z51 := Tryz.sizeOf127
  v51 := Tryz.zeroValue127
  t53 := Tryz.underlying106
  a53 := Tryz.isAgg106
  z53 := Tryz.sizeOf106
  v53 := Tryz.zeroValue106
  t75 := Tryz.underlying94
  a75 := Tryz.isAgg94
  z75 := Tryz.sizeOf94
  v75 := Tryz.zeroValue94
  t76 := Tryz.underlying95
  a76 := Tryz.isAgg95
  z76 := Tryz.sizeOf95
  v76 := Tryz.zeroValue95
  t85 := Tryz.underlying139
  a85 := Tryz.isAgg139
  z85 := Tryz.sizeOf139
  v85 := Tryz.zeroValue139
  t127 := Tryz.underlying126
  a127 := Tryz.isAgg126
  z127 := Tryz.sizeOf126
  v127 := Tryz.zeroValue126
  t143 := Tryz.underlying176
  a143 := Tryz.isAgg176
  z143 := Tryz.sizeOf176
  v143 := Tryz.zeroValue176
  t145 := Tryz.underlying178
  a145 := Tryz.isAgg178
  z145 := Tryz.sizeOf178
  v145 := Tryz.zeroValue178
  t167 := Tryz.underlying138
  a167 := Tryz.isAgg138
  z167 := Tryz.sizeOf138
  v167 := Tryz.zeroValue138
  t168 := Tryz.underlying141
  a168 := Tryz.isAgg141
  z168 := Tryz.sizeOf141
  v168 := Tryz.zeroValue141
  t171 := Tryz.underlying144
  a171 := Tryz.isAgg144
  z171 := Tryz.sizeOf144
  v171 := Tryz.zeroValue144
  t173 := Tryz.underlying147
  a173 := Tryz.isAgg147
  z173 := Tryz.sizeOf147
  v173 := Tryz.zeroValue147
  t175 := Tryz.underlying107
  a175 := Tryz.isAgg107
  z175 := Tryz.sizeOf107
  v175 := Tryz.zeroValue107
  t210 := Tryz.underlying161
  a210 := Tryz.isAgg161
  z210 := Tryz.sizeOf161
  v210 := Tryz.zeroValue161
  t212 := Tryz.underlying164
  a212 := Tryz.isAgg164
  z212 := Tryz.sizeOf164
  v212 := Tryz.zeroValue164
  t213 := Tryz.underlying165
  a213 := Tryz.isAgg165
  z213 := Tryz.sizeOf165
  t232 := Tryz.underlying184
  a232 := Tryz.isAgg184
  z232 := Tryz.sizeOf184
  v232 := Tryz.zeroValue184
  t233 := Tryz.underlying185
  a233 := Tryz.isAgg185
  z233 := Tryz.sizeOf185
  v233 := Tryz.zeroValue185
  g15 := by kernel_rfl
  g16 := by kernel_rfl
  g17 := by kernel_rfl
  g18 := by kernel_rfl
  g19 := by kernel_rfl
  t80 := Tryz.underlying103
  a80 := Tryz.isAgg103
  z80 := Tryz.sizeOf103
  v80 := Tryz.zeroValue103
  i0 := by kernel_rfl
  i2 := by kernel_rfl
  i3 := by kernel_rfl
  i4 := by kernel_rfl
  i5 := by kernel_rfl
  i9 := by kernel_rfl
  i20 := by kernel_rfl
  i21 := by kernel_rfl
  i37 := by kernel_rfl
  i46 := by kernel_rfl
  i51 := by kernel_rfl
  i53 := by kernel_rfl
  i75 := by kernel_rfl
  i76 := by kernel_rfl
  i80 := by kernel_rfl
  i85 := by kernel_rfl
  i127 := by kernel_rfl
  i143 := by kernel_rfl
  i145 := by kernel_rfl
  i167 := by kernel_rfl
  i168 := by kernel_rfl
  i171 := by kernel_rfl
  i173 := by kernel_rfl
  i175 := by kernel_rfl
  i210 := by kernel_rfl
  i212 := by kernel_rfl
  i232 := by kernel_rfl
  i233 := by kernel_rfl
  m15 := by kernel_rfl
  m16 := by kernel_rfl
  m17 := by kernel_rfl
  m18 := by kernel_rfl
  m19 := by kernel_rfl
  c0 := by kernel_rfl
  c2 := by kernel_rfl
  c3 := by kernel_rfl
  c4 := by kernel_rfl
  c5 := by kernel_rfl
  c9 := by kernel_rfl
  c20 := by kernel_rfl
  c21 := by kernel_rfl
  c37 := by kernel_rfl
  c46 := by kernel_rfl
  c51 := by kernel_rfl
  c53 := by kernel_rfl
  c75 := by kernel_rfl
  c76 := by kernel_rfl
  c80 := by kernel_rfl
  c85 := by kernel_rfl
  c127 := by kernel_rfl
  c143 := by kernel_rfl
  c145 := by kernel_rfl
  c167 := by kernel_rfl
  c168 := by kernel_rfl
  c171 := by kernel_rfl
  c173 := by kernel_rfl
  c175 := by kernel_rfl
  c210 := by kernel_rfl
  c212 := by kernel_rfl
  c213 := by kernel_rfl
  c232 := by kernel_rfl
  c233 := by kernel_rfl }
open Go.RowKit in
/-- strconv.Atoi, AT EVERY STRING THAT SPELLS AN int ('Lib.atoiAll .. = .ok v'; of whatever length: leading zeros count): v, AND NO ERROR. The world: as it was, or with the one new row that '[]byte(..)' lays. (LAID: no walk: one application.) -/
theorem Tryz.strconv_Atoi_ok (s : ByteArray) (hmax : s.size ≤ 9223372036854775806) (v : Int) (h : Lib.atoiAll s.data.toList = .ok v) (w : World) :
    Calls Tryz.prog 61 #[.string s] w fun e w' => e = .returned (.tuple #[.int .i64 v, .nilIface]) ∧ (w' = w ∨ ∃ t, w' = Lib.bytesWorld w 5 t) := Any.strconv_Atoi_ok Tryz.laysC172 s hmax v h w
def Tryz.lays219_ren : Go.Shelf.Ren := ⟨fun | 219 => 103 | 217 => 102 | 225 => 131 | 224 => 78 | 267 => 132 | 266 => 130 | 314 => 148 | n => n, fun | 9 => 9 | 3 => 3 | 4 => 4 | 5 => 5 | 46 => 105 | 146 => 128 | 51 => 127 | n => n, fun | 1 => 0 | n => n⟩
theorem Tryz.lays219 : Go.Proofs.Lays.n219 Tryz.prog Tryz.lays219_ren := {
  mixed := by kernel_rfl
  f217 := Tryz.func102.trans (congrArg some (by kernel_rfl))
  f219 := Tryz.func103.trans (congrArg some (by kernel_rfl))
  f224 := Tryz.func78.trans (congrArg some (by kernel_rfl))
  f225 := Tryz.func131.trans (congrArg some (by kernel_rfl))
  f266 := Tryz.func130.trans (congrArg some (by kernel_rfl))
  f267 := Tryz.func132.trans (congrArg some (by kernel_rfl))
  f314 := Tryz.func148.trans (congrArg some (by kernel_rfl))
  t3 := Tryz.underlying3
  a3 := Tryz.isAgg3
  z3 := Tryz.sizeOf3
  v3 := Tryz.zeroValue3
  t4 := Tryz.underlying4
  a4 := Tryz.isAgg4
  z4 := Tryz.sizeOf4
  v4 := Tryz.zeroValue4
  t5 := Tryz.underlying5
  a5 := Tryz.isAgg5
  z5 := Tryz.sizeOf5
  v5 := Tryz.zeroValue5
  t9 := Tryz.underlying9
  a9 := Tryz.isAgg9
  z9 := Tryz.sizeOf9
  v9 := Tryz.zeroValue9
  t46 := Tryz.underlying105
  a46 := Tryz.isAgg105
  z46 := Tryz.sizeOf105
  v46 := Tryz.zeroValue105
  t51 := Tryz.underlying127
  a51 := Tryz.isAgg127
  z51 := Tryz.sizeOf127
  v51 := Tryz.zeroValue127
  t146 := Tryz.underlying128
  a146 := Tryz.isAgg128
  z146 := Tryz.sizeOf128
  v146 := Tryz.zeroValue128
  g1 := by kernel_rfl }
open Go.RowKit Go.Lib in
/-- internal/stringslite.Index (what strings.Index calls) AT A substr OF WHATEVER LENGTH: IT RETURNS 'Lib.index s substr'; the world is as it was. 'm': what internal/bytealg.MaxLen holds: whatever. (LAID: no walk: one application.) -/
theorem Tryz.stringslite_Index (s sub : ByteArray) (m : Int) (w : World) (hs : s.size < 4294967281) (hm : w.cell? ⟨0, 0, none⟩ = some (.int .i64 m)) :
    Calls Tryz.prog 103 #[.string s, .string sub] w fun e w' => e = .returned (.int .i64 (Lib.index s.data.toList sub.data.toList)) ∧ w' = w := Any.stringslite_Index Tryz.lays219 s sub m w hs hm
def Tryz.lays143_ren : Go.Shelf.Ren := ⟨fun | 143 => 82 | 219 => 103 | 217 => 102 | 225 => 131 | 224 => 78 | 267 => 132 | 266 => 130 | 314 => 148 | n => n, fun | 9 => 9 | 3 => 3 | 4 => 4 | 5 => 5 | 46 => 105 | 146 => 128 | 51 => 127 | n => n, fun | 1 => 0 | n => n⟩
theorem Tryz.lays143 : Go.Proofs.Lays.n143 Tryz.prog Tryz.lays143_ren := {
  mixed := by kernel_rfl
  f143 := Tryz.func82.trans (congrArg some (by kernel_rfl))
  f217 := Tryz.func102.trans (congrArg some (by kernel_rfl))
  f219 := Tryz.func103.trans (congrArg some (by kernel_rfl))
  f224 := Tryz.func78.trans (congrArg some (by kernel_rfl))
  f225 := Tryz.func131.trans (congrArg some (by kernel_rfl))
  f266 := Tryz.func130.trans (congrArg some (by kernel_rfl))
  f267 := Tryz.func132.trans (congrArg some (by kernel_rfl))
  f314 := Tryz.func148.trans (congrArg some (by kernel_rfl))
  t3 := Tryz.underlying3
  a3 := Tryz.isAgg3
  z3 := Tryz.sizeOf3
  v3 := Tryz.zeroValue3
  t4 := Tryz.underlying4
  a4 := Tryz.isAgg4
  z4 := Tryz.sizeOf4
  v4 := Tryz.zeroValue4
  t5 := Tryz.underlying5
  a5 := Tryz.isAgg5
  z5 := Tryz.sizeOf5
  v5 := Tryz.zeroValue5
  t9 := Tryz.underlying9
  a9 := Tryz.isAgg9
  z9 := Tryz.sizeOf9
  v9 := Tryz.zeroValue9
  t46 := Tryz.underlying105
  a46 := Tryz.isAgg105
  z46 := Tryz.sizeOf105
  v46 := Tryz.zeroValue105
  t51 := Tryz.underlying127
  a51 := Tryz.isAgg127
  z51 := Tryz.sizeOf127
  v51 := Tryz.zeroValue127
  t146 := Tryz.underlying128
  a146 := Tryz.isAgg128
  z146 := Tryz.sizeOf128
  v146 := Tryz.zeroValue128
  g1 := by kernel_rfl }
open Go.RowKit Go.Lib in
/-- strings.Index: "Index returns the index of the first instance of substr in s, or -1 if substr is not present in s.": IT RETURNS 'Lib.index s substr'; the world is as it was. (LAID: no walk: one application.) -/
theorem Tryz.strings_Index (s sub : ByteArray) (m : Int) (w : World) (hs : s.size < 4294967281) (hm : w.cell? ⟨0, 0, none⟩ = some (.int .i64 m)) :
    Calls Tryz.prog 82 #[.string s, .string sub] w fun e w' => e = .returned (.int .i64 (Lib.index s.data.toList sub.data.toList)) ∧ w' = w := Any.strings_Index Tryz.lays143 s sub m w hs hm
def Tryz.lays145_ren : Go.Shelf.Ren := ⟨fun | 145 => 45 | 220 => 72 | 219 => 103 | 217 => 102 | 225 => 131 | 224 => 78 | 267 => 132 | 266 => 130 | 314 => 148 | n => n, fun | 9 => 9 | 4 => 4 | 59 => 51 | 3 => 3 | 5 => 5 | 46 => 105 | 146 => 128 | 51 => 127 | n => n, fun | 1 => 0 | n => n⟩
theorem Tryz.lays145 : Go.Proofs.Lays.n145 Tryz.prog Tryz.lays145_ren := {
  mixed := by kernel_rfl
  f145 := Tryz.func45.trans (congrArg some (by kernel_rfl))
  f217 := Tryz.func102.trans (congrArg some (by kernel_rfl))
  f219 := Tryz.func103.trans (congrArg some (by kernel_rfl))
  f220 := Tryz.func72.trans (congrArg some (by kernel_rfl))
  f224 := Tryz.func78.trans (congrArg some (by kernel_rfl))
  f225 := Tryz.func131.trans (congrArg some (by kernel_rfl))
  f266 := Tryz.func130.trans (congrArg some (by kernel_rfl))
  f267 := Tryz.func132.trans (congrArg some (by kernel_rfl))
  f314 := Tryz.func148.trans (congrArg some (by kernel_rfl))
  t3 := Tryz.underlying3
  a3 := Tryz.isAgg3
  z3 := Tryz.sizeOf3
  v3 := Tryz.zeroValue3
  t4 := Tryz.underlying4
  a4 := Tryz.isAgg4
  z4 := Tryz.sizeOf4
  v4 := Tryz.zeroValue4
  t5 := Tryz.underlying5
  a5 := Tryz.isAgg5
  z5 := Tryz.sizeOf5
  v5 := Tryz.zeroValue5
  t9 := Tryz.underlying9
  a9 := Tryz.isAgg9
  z9 := Tryz.sizeOf9
  v9 := Tryz.zeroValue9
  t46 := Tryz.underlying105
  a46 := Tryz.isAgg105
  z46 := Tryz.sizeOf105
  v46 := Tryz.zeroValue105
  t51 := Tryz.underlying127
  a51 := Tryz.isAgg127
  z51 := Tryz.sizeOf127
  v51 := Tryz.zeroValue127
  t59 := Tryz.underlying51
  a59 := Tryz.isAgg51
  z59 := Tryz.sizeOf51
  v59 := Tryz.zeroValue51
  t146 := Tryz.underlying128
  a146 := Tryz.isAgg128
  z146 := Tryz.sizeOf128
  v146 := Tryz.zeroValue128
  g1 := by kernel_rfl }
open Go.RowKit Go.Lib in
/-- strings.Cut: "Cut slices s around the first instance of sep, returning the text before and after sep. The found result reports whether sep appears in s. If sep does not appear in s, cut returns s, "", false.": IT RETURNS 'Lib.cut s sep'; the world is as it was but for the count of draws. (LAID: no walk: one application.) -/
theorem Tryz.strings_Cut (s sep : ByteArray) (m : Int) (w : World) (hs : s.size < 4294967281) (hm : w.cell? ⟨0, 0, none⟩ = some (.int .i64 m)) :
    Calls Tryz.prog 45 #[.string s, .string sep] w fun e w' => e = .returned (.tuple #[.string ⟨(Lib.cut s.data.toList sep.data.toList).1.toArray⟩, .string ⟨(Lib.cut s.data.toList sep.data.toList).2.1.toArray⟩, .bool (Lib.cut s.data.toList sep.data.toList).2.2]) ∧ ∃ n, w' = w.drewN n := Any.strings_Cut Tryz.lays145 s sep m w hs hm
def Tryz.lays99_ren : Go.Shelf.Ren := ⟨fun | 99 => 54 | 206 => 86 | n => n, fun | 9 => 9 | 4 => 4 | 3 => 3 | n => n, fun | n => n⟩
theorem Tryz.lays99 : Go.Proofs.Lays.n99 Tryz.prog Tryz.lays99_ren := {
  mixed := by kernel_rfl
  f99 := Tryz.func54.trans (congrArg some (by kernel_rfl))
  f206 := Tryz.func86.trans (congrArg some (by kernel_rfl))
  t3 := Tryz.underlying3
  a3 := Tryz.isAgg3
  z3 := Tryz.sizeOf3
  v3 := Tryz.zeroValue3
  t4 := Tryz.underlying4
  a4 := Tryz.isAgg4
  z4 := Tryz.sizeOf4
  v4 := Tryz.zeroValue4
  t9 := Tryz.underlying9
  a9 := Tryz.isAgg9
  z9 := Tryz.sizeOf9
  v9 := Tryz.zeroValue9 }
open Go.RowKit Go.Lib in
/-- strings.HasPrefix: "HasPrefix reports whether the string s begins with prefix.": IT RETURNS 'Lib.hasPrefix s prefix'; the world is as it was. (LAID: no walk: one application.) -/
theorem Tryz.strings_HasPrefix (s p : ByteArray) (w : World) :
    Calls Tryz.prog 54 #[.string s, .string p] w fun e w' => e = .returned (.bool (Lib.hasPrefix s.data.toList p.data.toList)) ∧ w' = w := Any.strings_HasPrefix Tryz.lays99 s p w
def Tryz.lays102_ren : Go.Shelf.Ren := ⟨fun | 102 => 27 | 209 => 51 | 207 => 83 | n => n, fun | 9 => 9 | 4 => 4 | 3 => 3 | n => n, fun | n => n⟩
theorem Tryz.lays102 : Go.Proofs.Lays.n102 Tryz.prog Tryz.lays102_ren := {
  mixed := by kernel_rfl
  f102 := Tryz.func27.trans (congrArg some (by kernel_rfl))
  f207 := Tryz.func83.trans (congrArg some (by kernel_rfl))
  f209 := Tryz.func51.trans (congrArg some (by kernel_rfl))
  t3 := Tryz.underlying3
  a3 := Tryz.isAgg3
  z3 := Tryz.sizeOf3
  v3 := Tryz.zeroValue3
  t4 := Tryz.underlying4
  a4 := Tryz.isAgg4
  z4 := Tryz.sizeOf4
  v4 := Tryz.zeroValue4
  t9 := Tryz.underlying9
  a9 := Tryz.isAgg9
  z9 := Tryz.sizeOf9
  v9 := Tryz.zeroValue9 }
open Go.RowKit Go.Lib in
/-- strings.TrimSuffix: "TrimSuffix returns s without the provided trailing suffix string. If s doesn't end with suffix, s is returned unchanged.": IT RETURNS 'Lib.trimSuffix s suffix'; the world is as it was. (LAID: no walk: one application.) -/
theorem Tryz.strings_TrimSuffix (s p : ByteArray) (w : World) (hs : s.size ≤ 9223372036854775807) :
    Calls Tryz.prog 27 #[.string s, .string p] w fun e w' => e = .returned (.string ⟨(Lib.trimSuffix s.data.toList p.data.toList).toArray⟩) ∧ w' = w := Any.strings_TrimSuffix Tryz.lays102 s p w hs
def Tryz.lays146_ren : Go.Shelf.Ren := ⟨fun | 146 => 26 | 221 => 50 | 268 => 80 | 138 => 81 | 143 => 82 | 195 => 108 | 197 => 109 | 218 => 110 | 219 => 103 | 260 => 137 | 217 => 102 | 225 => 131 | 224 => 78 | 267 => 132 | 266 => 130 | 314 => 148 | n => n, fun | 9 => 9 | 31 => 55 | 3 => 3 | 4 => 4 | 0 => 0 | 105 => 131 | 21 => 21 | 5 => 5 | 46 => 105 | 119 => 169 | 139 => 172 | 138 => 171 | 146 => 128 | 51 => 127 | n => n, fun | 1 => 0 | 3 => 5 | 4 => 6 | n => n⟩
theorem Tryz.lays146 : Go.Proofs.Lays.n146 Tryz.prog Tryz.lays146_ren := {
  mixed := by kernel_rfl
  f138 := Tryz.func81.trans (congrArg some (by kernel_rfl))
  f143 := Tryz.func82.trans (congrArg some (by kernel_rfl))
  f146 := Tryz.func26.trans (congrArg some (by kernel_rfl))
  f195 := Tryz.func108.trans (congrArg some (by kernel_rfl))
  f197 := Tryz.func109.trans (congrArg some (by kernel_rfl))
  f217 := Tryz.func102.trans (congrArg some (by kernel_rfl))
  f218 := Tryz.func110.trans (congrArg some (by kernel_rfl))
  f219 := Tryz.func103.trans (congrArg some (by kernel_rfl))
  f221 := Tryz.func50.trans (congrArg some (by kernel_rfl))
  f224 := Tryz.func78.trans (congrArg some (by kernel_rfl))
  f225 := Tryz.func131.trans (congrArg some (by kernel_rfl))
  f260 := Tryz.func137.trans (congrArg some (by kernel_rfl))
  f266 := Tryz.func130.trans (congrArg some (by kernel_rfl))
  f267 := Tryz.func132.trans (congrArg some (by kernel_rfl))
  f268 := Tryz.func80.trans (congrArg some (by kernel_rfl))
  f314 := Tryz.func148.trans (congrArg some (by kernel_rfl))
  t0 := Tryz.underlying0
  a0 := Tryz.isAgg0
  z0 := Tryz.sizeOf0
  v0 := Tryz.zeroValue0
  t3 := Tryz.underlying3
  a3 := Tryz.isAgg3
  z3 := Tryz.sizeOf3
  v3 := Tryz.zeroValue3
  t4 := Tryz.underlying4
  a4 := Tryz.isAgg4
  z4 := Tryz.sizeOf4
  v4 := Tryz.zeroValue4
  t5 := Tryz.underlying5
  a5 := Tryz.isAgg5
  z5 := Tryz.sizeOf5
  v5 := Tryz.zeroValue5
  t9 := Tryz.underlying9
  a9 := Tryz.isAgg9
  z9 := Tryz.sizeOf9
  v9 := Tryz.zeroValue9
  t21 := Tryz.underlying21
  a21 := Tryz.isAgg21
  z21 := Tryz.sizeOf21
  v21 := Tryz.zeroValue21
  t31 := Tryz.underlying55
  a31 := Tryz.isAgg55
  z31 := Tryz.sizeOf55
  v31 := Tryz.zeroValue55
  t46 := Tryz.underlying105
  a46 := Tryz.isAgg105
  z46 := Tryz.sizeOf105
  v46 := Tryz.zeroValue105
  t51 := Tryz.underlying127
  a51 := Tryz.isAgg127
  z51 := Tryz.sizeOf127
  v51 := Tryz.zeroValue127
  t105 := Tryz.underlying131
  a105 := Tryz.isAgg131
  z105 := Tryz.sizeOf131
  v105 := Tryz.zeroValue131
  t119 := Tryz.underlying169
  a119 := Tryz.isAgg169
  z119 := Tryz.sizeOf169
  t138 := Tryz.underlying171
  a138 := Tryz.isAgg171
  z138 := Tryz.sizeOf171
  v138 := Tryz.zeroValue171
  t139 := Tryz.underlying172
  a139 := Tryz.isAgg172
  z139 := Tryz.sizeOf172
  v139 := Tryz.zeroValue172
  t146 := Tryz.underlying128
  a146 := Tryz.isAgg128
  z146 := Tryz.sizeOf128
  v146 := Tryz.zeroValue128
  g1 := by kernel_rfl
  g3 := by kernel_rfl
  g4 := by kernel_rfl }
open Go.RowKit Go.Lib in
/-- strings.Split. (LAID: no walk: one application.) -/
theorem Tryz.strings_Split (s sep : ByteArray) (m : Int) (w : World) (hs : s.size < 4294967281) (hm : w.cell? ⟨0, 0, none⟩ = some (.int .i64 m)) (h1 : 1 ≤ sep.size) :
    Calls Tryz.prog 26 #[.string s, .string sep] w fun e w' =>
      e = .returned (.slice (some ⟨w.heap.size, 0, none⟩) (Lib.countB s sep + 1) (Lib.countB s sep + 1)) ∧ w' = w.alloc (.cells ((Lib.splitB sep 0 (Lib.countB s sep) s).map Value.string).toArray 9) := Any.strings_Split Tryz.lays146 (by kernel_rfl) s sep m w hs hm h1
def Tryz.lays152_ren : Go.Shelf.Ren := ⟨fun | 152 => 133 | 137 => 71 | 119 => 149 | 224 => 78 | 225 => 131 | 217 => 102 | 266 => 130 | n => n, fun | 9 => 9 | 21 => 21 | 3 => 3 | 4 => 4 | 5 => 5 | 0 => 0 | 46 => 105 | n => n, fun | n => n⟩
theorem Tryz.lays152 : Go.Proofs.Lays.n152 Tryz.prog Tryz.lays152_ren := {
  mixed := by kernel_rfl
  f119 := Tryz.func149.trans (congrArg some (by kernel_rfl))
  f137 := Tryz.func71.trans (congrArg some (by kernel_rfl))
  f152 := Tryz.func133.trans (congrArg some (by kernel_rfl))
  f217 := Tryz.func102.trans (congrArg some (by kernel_rfl))
  f224 := Tryz.func78.trans (congrArg some (by kernel_rfl))
  f225 := Tryz.func131.trans (congrArg some (by kernel_rfl))
  f266 := Tryz.func130.trans (congrArg some (by kernel_rfl))
  t0 := Tryz.underlying0
  a0 := Tryz.isAgg0
  z0 := Tryz.sizeOf0
  v0 := Tryz.zeroValue0
  t3 := Tryz.underlying3
  a3 := Tryz.isAgg3
  z3 := Tryz.sizeOf3
  v3 := Tryz.zeroValue3
  t4 := Tryz.underlying4
  a4 := Tryz.isAgg4
  z4 := Tryz.sizeOf4
  v4 := Tryz.zeroValue4
  t5 := Tryz.underlying5
  a5 := Tryz.isAgg5
  z5 := Tryz.sizeOf5
  v5 := Tryz.zeroValue5
  t9 := Tryz.underlying9
  a9 := Tryz.isAgg9
  z9 := Tryz.sizeOf9
  v9 := Tryz.zeroValue9
  t21 := Tryz.underlying21
  a21 := Tryz.isAgg21
  z21 := Tryz.sizeOf21
  v21 := Tryz.zeroValue21
  t46 := Tryz.underlying105
  a46 := Tryz.isAgg105
  z46 := Tryz.sizeOf105
  v46 := Tryz.zeroValue105 }
open Go.RowKit Go.Lib in
theorem Tryz.strings_IndexRune_ascii (s : ByteArray) (r : Int) (w : World) (h0 : 0 ≤ r) (h1 : r < 128) :
    Calls Tryz.prog 133 #[.string s, .int .i32 r] w fun e w' => e = .returned (.int .i64 (Lib.indexByte s.data.toList r.toNat.toUInt8)) ∧ w' = w := Any.strings_IndexRune_ascii Tryz.lays152 s r w h0 h1
def Tryz.lays150_ren : Go.Shelf.Ren := ⟨fun | 150 => 73 | 153 => 104 | 152 => 133 | 226 => 134 | 227 => 92 | 228 => 116 | 137 => 71 | 119 => 149 | 224 => 78 | 225 => 131 | 217 => 102 | 266 => 130 | n => n, fun | 9 => 9 | 4 => 4 | 3 => 3 | 5 => 5 | 21 => 21 | 117 => 120 | 116 => 119 | 0 => 0 | 46 => 105 | 124 => 123 | n => n, fun | n => n⟩
theorem Tryz.lays150 : Go.Proofs.Lays.n150 Tryz.prog Tryz.lays150_ren := {
  mixed := by kernel_rfl
  f119 := Tryz.func149.trans (congrArg some (by kernel_rfl))
  f137 := Tryz.func71.trans (congrArg some (by kernel_rfl))
  f150 := Tryz.func73.trans (congrArg some (by kernel_rfl))
  f152 := Tryz.func133.trans (congrArg some (by kernel_rfl))
  f153 := Tryz.func104.trans (congrArg some (by kernel_rfl))
  f217 := Tryz.func102.trans (congrArg some (by kernel_rfl))
  f224 := Tryz.func78.trans (congrArg some (by kernel_rfl))
  f225 := Tryz.func131.trans (congrArg some (by kernel_rfl))
  f226 := Tryz.func134.trans (congrArg some (by kernel_rfl))
  f227 := Tryz.func92.trans (congrArg some (by kernel_rfl))
  f228 := Tryz.func116.trans (congrArg some (by kernel_rfl))
  f266 := Tryz.func130.trans (congrArg some (by kernel_rfl))
  t0 := Tryz.underlying0
  a0 := Tryz.isAgg0
  z0 := Tryz.sizeOf0
  v0 := Tryz.zeroValue0
  t3 := Tryz.underlying3
  a3 := Tryz.isAgg3
  z3 := Tryz.sizeOf3
  v3 := Tryz.zeroValue3
  t4 := Tryz.underlying4
  a4 := Tryz.isAgg4
  z4 := Tryz.sizeOf4
  v4 := Tryz.zeroValue4
  t5 := Tryz.underlying5
  a5 := Tryz.isAgg5
  z5 := Tryz.sizeOf5
  v5 := Tryz.zeroValue5
  t9 := Tryz.underlying9
  a9 := Tryz.isAgg9
  z9 := Tryz.sizeOf9
  v9 := Tryz.zeroValue9
  t21 := Tryz.underlying21
  a21 := Tryz.isAgg21
  z21 := Tryz.sizeOf21
  v21 := Tryz.zeroValue21
  t46 := Tryz.underlying105
  a46 := Tryz.isAgg105
  z46 := Tryz.sizeOf105
  v46 := Tryz.zeroValue105
  t116 := Tryz.underlying119
  a116 := Tryz.isAgg119
  z116 := Tryz.sizeOf119
  t117 := Tryz.underlying120
  a117 := Tryz.isAgg120
  z117 := Tryz.sizeOf120
  v117 := Tryz.zeroValue120
  t124 := Tryz.underlying123
  a124 := Tryz.isAgg123
  z124 := Tryz.sizeOf123
  v124 := Tryz.zeroValue123 }
open Go.RowKit Go.Lib in
theorem Tryz.strings_ContainsAny_laid (s chars : ByteArray) (w : World) (hs : s.size < 4294967281) (hcs : chars.size < 4294967281) (has : ∀ (j : Nat) b, s.data.toList[j]? = some b → b.toNat < 128) (hac : ∀ (j : Nat) b, chars.data.toList[j]? = some b → b.toNat < 128) :
    Calls Tryz.prog 73 #[.string s, .string chars] w fun e w' => e = .returned (.bool (Lib.containsAny s.data.toList chars.data.toList)) ∧ Below w.heap.size w w' := Any.strings_ContainsAny_laid Tryz.lays150 (by kernel_rfl) s chars w hs hcs has hac
def Tryz.lays185_ren : Go.Shelf.Ren := ⟨fun | 185 => 49 | 187 => 76 | 115 => 75 | 253 => 77 | 224 => 78 | 254 => 79 | 255 => 106 | 291 => 107 | n => n, fun | 37 => 26 | 3 => 3 | 4 => 4 | 0 => 0 | 5 => 5 | 46 => 105 | 9 => 9 | 146 => 128 | 51 => 127 | n => n, fun | 1 => 0 | n => n⟩
theorem Tryz.lays185 : Go.Proofs.Lays.n185 Tryz.prog Tryz.lays185_ren := {
  mixed := by kernel_rfl
  f115 := Tryz.func75.trans (congrArg some (by kernel_rfl))
  f185 := Tryz.func49.trans (congrArg some (by kernel_rfl))
  f187 := Tryz.func76.trans (congrArg some (by kernel_rfl))
  f224 := Tryz.func78.trans (congrArg some (by kernel_rfl))
  f253 := Tryz.func77.trans (congrArg some (by kernel_rfl))
  f254 := Tryz.func79.trans (congrArg some (by kernel_rfl))
  f255 := Tryz.func106.trans (congrArg some (by kernel_rfl))
  f291 := Tryz.func107.trans (congrArg some (by kernel_rfl))
  t0 := Tryz.underlying0
  a0 := Tryz.isAgg0
  z0 := Tryz.sizeOf0
  v0 := Tryz.zeroValue0
  t3 := Tryz.underlying3
  a3 := Tryz.isAgg3
  z3 := Tryz.sizeOf3
  v3 := Tryz.zeroValue3
  t4 := Tryz.underlying4
  a4 := Tryz.isAgg4
  z4 := Tryz.sizeOf4
  v4 := Tryz.zeroValue4
  t5 := Tryz.underlying5
  a5 := Tryz.isAgg5
  z5 := Tryz.sizeOf5
  v5 := Tryz.zeroValue5
  t9 := Tryz.underlying9
  a9 := Tryz.isAgg9
  z9 := Tryz.sizeOf9
  v9 := Tryz.zeroValue9
  t37 := Tryz.underlying26
  a37 := Tryz.isAgg26
  z37 := Tryz.sizeOf26
  v37 := Tryz.zeroValue26
  t46 := Tryz.underlying105
  a46 := Tryz.isAgg105
  z46 := Tryz.sizeOf105
  v46 := Tryz.zeroValue105
  t51 := Tryz.underlying127
  a51 := Tryz.isAgg127
  z51 := Tryz.sizeOf127
  v51 := Tryz.zeroValue127
  t146 := Tryz.underlying128
  a146 := Tryz.isAgg128
  z146 := Tryz.sizeOf128
  v146 := Tryz.zeroValue128
  g1 := by kernel_rfl }
open Go.Proofs Go.RowKit Go.Lib in
/-- bytes.Index, WHOLE: "Index returns the index of the first instance of sep in s, or -1 if sep is not present in s.": 'Lib.index' of the two lists of bytes. (LAID: no walk: one application.) -/
theorem Tryz.bytes_Index_at (a1 a2 : Addr) (n c1 k c2 : Nat) (xs ys : List Int) (m : Int) (w : World) (hx : xs.length = n) (hy : ys.length = k) (hr1 : ∀ x ∈ xs, 0 ≤ x ∧ x < 256) (hr2 : ∀ y ∈ ys, 0 ≤ y ∧ y < 256) (hc1 : ∀ i, i < n → w.cell? (a1.add i) = some (.int .u8 (xs.getD i 0))) (hc2 : ∀ i, i < k → w.cell? (a2.add i) = some (.int .u8 (ys.getD i 0))) (hcap : n ≤ c1) (hs : n < 4294967281) (hk : k ≤ 9223372036854775807) (hm : w.cell? ⟨0, 0, none⟩ = some (.int .i64 m)) :
    Calls Tryz.prog 49 #[.slice (some a1) n c1, .slice (some a2) k c2] w fun e w' => e = .returned (.int .i64 (Lib.index (Lib.bytesOf xs) (Lib.bytesOf ys))) ∧ ∃ q, w' = w.drewN q := Any.bytes_Index_at Tryz.lays185 a1 a2 n c1 k c2 xs ys m w hx hy hr1 hr2 hc1 hc2 hcap hs hk hm
open Go.Proofs Go.RowKit Go.Lib in
/-- bytes.Index where s is nil: 0 at a separator of no byte, else -1. (LAID: no walk: one application.) -/
theorem Tryz.bytes_Index_nil (p2 : Option Addr) (k c2 : Nat) (w : World) (hk : k ≤ 9223372036854775807) (h1 : k = 1 → ∃ b2 o2 cv, p2 = some ⟨b2, o2, none⟩ ∧ w.cell? ⟨b2, o2, none⟩ = some (.int .u8 cv)) :
    Calls Tryz.prog 49 #[.slice none 0 0, .slice p2 k c2] w fun e w' => e = .returned (.int .i64 (if k = 0 then 0 else -1)) ∧ w' = w := Any.bytes_Index_nil Tryz.lays185 p2 k c2 w hk h1
def Tryz.laysSlK4_ren : Go.Shelf.Ren := ⟨fun | 4 => 31 | n => n, fun | 22 => 26 | 4 => 4 | 5 => 5 | n => n, fun | n => n⟩
theorem Tryz.laysSlK4 : Go.Proofs.SlLaysK.n4 Tryz.prog Tryz.laysSlK4_ren := {
  mixed := by kernel_rfl
  f4 := Tryz.func31.trans (congrArg some (by kernel_rfl))
  t4 := Tryz.underlying4
  a4 := Tryz.isAgg4
  z4 := Tryz.sizeOf4
  v4 := Tryz.zeroValue4
  t22 := Tryz.underlying26
  a22 := Tryz.isAgg26
  z22 := Tryz.sizeOf26
  v22 := Tryz.zeroValue26
  t5 := Tryz.underlying5
  i5 := by kernel_rfl }
open Go.RowKit Go.Lib in
/-- bytes.Clone: "Clone returns a copy of b[:len(b)]. The result may have additional unused capacity.": OF A SLICE THAT IS NOT nil IT RETURNS A SLICE THAT IS NOT nil, OF THE SAME BYTES, IN MEMORY OF THE CALL's OWN: in the how-to's words (6f): 'w'.ownsRow B e 1 v' n cells' · 'Below B w w'', B the heap's size at the call. b AT WHATEVER ADDRESS, its cells as 'open_ints' hands them ('a.add i'; the numbers 'xs'). No byte: no cell is asked for. (LAID: no walk: one application.) -/
theorem Tryz.bytes_Clone_at (a : Addr) (n c : Nat) (xs : List Int) (w : World) (hx : xs.length = n) (hbig : n ≤ 140737488355328) (hc : ∀ i, i < n → w.cell? (a.add i) = some (.int .u8 (xs.getD i 0))) :
    Calls Tryz.prog 31 #[.slice (some a) n c] w fun e w' => ∃ v', e = .returned v' ∧ w'.ownsRow w.heap.size 5 1 v' n (xs.map (Value.int .u8)) ∧ v' ≠ .slice none 0 0 ∧ Below w.heap.size w w' := Any.bytes_Clone_at Tryz.laysSlK4 a n c xs w hx hbig hc
open Go.RowKit Go.Lib in
/-- "Clone(nil) returns nil.": the world is as it was. (LAID: no walk: one application.) -/
theorem Tryz.bytes_Clone_nil (n c : Nat) (w : World) :
    Calls Tryz.prog 31 #[.slice none n c] w fun e w' => e = .returned (.slice none 0 0) ∧ w' = w := Any.bytes_Clone_nil Tryz.laysSlK4 n c w
def Tryz.laysnb116_ren : Go.Shelf.Ren := ⟨fun | 116 => 48 | 115 => 75 | n => n, fun | 37 => 26 | 4 => 4 | 3 => 3 | 9 => 9 | 5 => 5 | n => n, fun | n => n⟩
theorem Tryz.laysnb116 : Go.Proofs.Lays.nb116 Tryz.prog Tryz.laysnb116_ren := {
  mixed := by kernel_rfl
  f115 := Tryz.func75.trans (congrArg some (by kernel_rfl))
  f116 := Tryz.func48.trans (congrArg some (by kernel_rfl))
  t3 := Tryz.underlying3
  a3 := Tryz.isAgg3
  z3 := Tryz.sizeOf3
  v3 := Tryz.zeroValue3
  t4 := Tryz.underlying4
  a4 := Tryz.isAgg4
  z4 := Tryz.sizeOf4
  v4 := Tryz.zeroValue4
  t9 := Tryz.underlying9
  a9 := Tryz.isAgg9
  z9 := Tryz.sizeOf9
  v9 := Tryz.zeroValue9
  t37 := Tryz.underlying26
  a37 := Tryz.isAgg26
  z37 := Tryz.sizeOf26
  v37 := Tryz.zeroValue26
  t5 := Tryz.underlying5
  a5 := Tryz.isAgg5
  z5 := Tryz.sizeOf5
  v5 := Tryz.zeroValue5 }
/-- bytes.HasPrefix: WHOLE: each argument nil, or of no byte at whatever address, or at an address with its cells. (LAID: no walk: one application.) -/
theorem Tryz.bytes_HasPrefix_all (p1 p2 : Option Addr) (n c m d : Nat) (xs ys : List Int) (w : World) (hx : xs.length = n) (hy : ys.length = m) (hnc : n ≤ c) (h1 : Lib.BytesIn w p1 n xs) (h2 : Lib.BytesIn w p2 m ys) :
    Calls Tryz.prog 48 #[.slice p1 n c, .slice p2 m d] w fun e w' => e = .returned (.bool (Lib.hasPrefix (Lib.bytesOf xs) (Lib.bytesOf ys))) ∧ w' = w := Any.bytes_HasPrefix_all Tryz.laysnb116 p1 p2 n c m d xs ys w hx hy hnc h1 h2
def Tryz.laysTrim_ren : Go.Shelf.Ren := ⟨fun | 160 => 59 | 232 => 91 | 231 => 90 | 227 => 92 | 234 => 94 | 233 => 93 | 236 => 96 | 235 => 95 | 228 => 116 | 271 => 118 | 151 => 117 | 197 => 109 | 120 => 140 | 152 => 133 | 260 => 137 | 137 => 71 | 119 => 149 | 224 => 78 | 225 => 131 | 217 => 102 | 266 => 130 | n => n, fun | 9 => 9 | 4 => 4 | 3 => 3 | 5 => 5 | 117 => 120 | 116 => 119 | 0 => 0 | 124 => 123 | 21 => 21 | 105 => 131 | 46 => 105 | 119 => 169 | 139 => 172 | 138 => 171 | n => n, fun | 3 => 5 | 4 => 6 | n => n⟩
theorem Tryz.laysTrim : Go.Proofs.Lays.n160 Tryz.prog Tryz.laysTrim_ren := {
  mixed := by kernel_rfl
  f119 := Tryz.func149.trans (congrArg some (by kernel_rfl))
  f120 := Tryz.func140.trans (congrArg some (by kernel_rfl))
  f137 := Tryz.func71.trans (congrArg some (by kernel_rfl))
  f151 := Tryz.func117.trans (congrArg some (by kernel_rfl))
  f152 := Tryz.func133.trans (congrArg some (by kernel_rfl))
  f160 := Tryz.func59.trans (congrArg some (by kernel_rfl))
  f197 := Tryz.func109.trans (congrArg some (by kernel_rfl))
  f217 := Tryz.func102.trans (congrArg some (by kernel_rfl))
  f224 := Tryz.func78.trans (congrArg some (by kernel_rfl))
  f225 := Tryz.func131.trans (congrArg some (by kernel_rfl))
  f227 := Tryz.func92.trans (congrArg some (by kernel_rfl))
  f228 := Tryz.func116.trans (congrArg some (by kernel_rfl))
  f231 := Tryz.func90.trans (congrArg some (by kernel_rfl))
  f232 := Tryz.func91.trans (congrArg some (by kernel_rfl))
  f233 := Tryz.func93.trans (congrArg some (by kernel_rfl))
  f234 := Tryz.func94.trans (congrArg some (by kernel_rfl))
  f235 := Tryz.func95.trans (congrArg some (by kernel_rfl))
  f236 := Tryz.func96.trans (congrArg some (by kernel_rfl))
  f260 := Tryz.func137.trans (congrArg some (by kernel_rfl))
  f266 := Tryz.func130.trans (congrArg some (by kernel_rfl))
  f271 := Tryz.func118.trans (congrArg some (by kernel_rfl))
  t0 := Tryz.underlying0
  a0 := Tryz.isAgg0
  z0 := Tryz.sizeOf0
  v0 := Tryz.zeroValue0
  t3 := Tryz.underlying3
  a3 := Tryz.isAgg3
  z3 := Tryz.sizeOf3
  v3 := Tryz.zeroValue3
  t4 := Tryz.underlying4
  a4 := Tryz.isAgg4
  z4 := Tryz.sizeOf4
  v4 := Tryz.zeroValue4
  t5 := Tryz.underlying5
  a5 := Tryz.isAgg5
  z5 := Tryz.sizeOf5
  v5 := Tryz.zeroValue5
  t9 := Tryz.underlying9
  a9 := Tryz.isAgg9
  z9 := Tryz.sizeOf9
  v9 := Tryz.zeroValue9
  t21 := Tryz.underlying21
  a21 := Tryz.isAgg21
  z21 := Tryz.sizeOf21
  v21 := Tryz.zeroValue21
  t46 := Tryz.underlying105
  a46 := Tryz.isAgg105
  z46 := Tryz.sizeOf105
  v46 := Tryz.zeroValue105
  t105 := Tryz.underlying131
  a105 := Tryz.isAgg131
  z105 := Tryz.sizeOf131
  v105 := Tryz.zeroValue131
  t116 := Tryz.underlying119
  a116 := Tryz.isAgg119
  z116 := Tryz.sizeOf119
  t117 := Tryz.underlying120
  a117 := Tryz.isAgg120
  z117 := Tryz.sizeOf120
  v117 := Tryz.zeroValue120
  t119 := Tryz.underlying169
  a119 := Tryz.isAgg169
  z119 := Tryz.sizeOf169
  t124 := Tryz.underlying123
  a124 := Tryz.isAgg123
  z124 := Tryz.sizeOf123
  v124 := Tryz.zeroValue123
  t138 := Tryz.underlying171
  a138 := Tryz.isAgg171
  z138 := Tryz.sizeOf171
  v138 := Tryz.zeroValue171
  t139 := Tryz.underlying172
  a139 := Tryz.isAgg172
  z139 := Tryz.sizeOf172
  v139 := Tryz.zeroValue172
  g3 := by kernel_rfl
  g4 := by kernel_rfl }
def Tryz.laysTrimRight_ren : Go.Shelf.Ren := ⟨fun | 162 => 70 | 232 => 91 | 227 => 92 | 234 => 94 | 236 => 96 | 228 => 116 | 271 => 118 | 151 => 117 | 120 => 140 | 197 => 109 | 152 => 133 | 260 => 137 | 137 => 71 | 119 => 149 | 224 => 78 | 225 => 131 | 217 => 102 | 266 => 130 | n => n, fun | 9 => 9 | 4 => 4 | 3 => 3 | 5 => 5 | 117 => 120 | 116 => 119 | 0 => 0 | 124 => 123 | 21 => 21 | 105 => 131 | 46 => 105 | 119 => 169 | 139 => 172 | 138 => 171 | n => n, fun | 3 => 5 | 4 => 6 | n => n⟩
theorem Tryz.laysTrimRight : Go.Proofs.Lays.n162 Tryz.prog Tryz.laysTrimRight_ren := {
  mixed := by kernel_rfl
  f119 := Tryz.func149.trans (congrArg some (by kernel_rfl))
  f120 := Tryz.func140.trans (congrArg some (by kernel_rfl))
  f137 := Tryz.func71.trans (congrArg some (by kernel_rfl))
  f151 := Tryz.func117.trans (congrArg some (by kernel_rfl))
  f152 := Tryz.func133.trans (congrArg some (by kernel_rfl))
  f162 := Tryz.func70.trans (congrArg some (by kernel_rfl))
  f197 := Tryz.func109.trans (congrArg some (by kernel_rfl))
  f217 := Tryz.func102.trans (congrArg some (by kernel_rfl))
  f224 := Tryz.func78.trans (congrArg some (by kernel_rfl))
  f225 := Tryz.func131.trans (congrArg some (by kernel_rfl))
  f227 := Tryz.func92.trans (congrArg some (by kernel_rfl))
  f228 := Tryz.func116.trans (congrArg some (by kernel_rfl))
  f232 := Tryz.func91.trans (congrArg some (by kernel_rfl))
  f234 := Tryz.func94.trans (congrArg some (by kernel_rfl))
  f236 := Tryz.func96.trans (congrArg some (by kernel_rfl))
  f260 := Tryz.func137.trans (congrArg some (by kernel_rfl))
  f266 := Tryz.func130.trans (congrArg some (by kernel_rfl))
  f271 := Tryz.func118.trans (congrArg some (by kernel_rfl))
  t0 := Tryz.underlying0
  a0 := Tryz.isAgg0
  z0 := Tryz.sizeOf0
  v0 := Tryz.zeroValue0
  t3 := Tryz.underlying3
  a3 := Tryz.isAgg3
  z3 := Tryz.sizeOf3
  v3 := Tryz.zeroValue3
  t4 := Tryz.underlying4
  a4 := Tryz.isAgg4
  z4 := Tryz.sizeOf4
  v4 := Tryz.zeroValue4
  t5 := Tryz.underlying5
  a5 := Tryz.isAgg5
  z5 := Tryz.sizeOf5
  v5 := Tryz.zeroValue5
  t9 := Tryz.underlying9
  a9 := Tryz.isAgg9
  z9 := Tryz.sizeOf9
  v9 := Tryz.zeroValue9
  t21 := Tryz.underlying21
  a21 := Tryz.isAgg21
  z21 := Tryz.sizeOf21
  v21 := Tryz.zeroValue21
  t46 := Tryz.underlying105
  a46 := Tryz.isAgg105
  z46 := Tryz.sizeOf105
  v46 := Tryz.zeroValue105
  t105 := Tryz.underlying131
  a105 := Tryz.isAgg131
  z105 := Tryz.sizeOf131
  v105 := Tryz.zeroValue131
  t116 := Tryz.underlying119
  a116 := Tryz.isAgg119
  z116 := Tryz.sizeOf119
  t117 := Tryz.underlying120
  a117 := Tryz.isAgg120
  z117 := Tryz.sizeOf120
  v117 := Tryz.zeroValue120
  t119 := Tryz.underlying169
  a119 := Tryz.isAgg169
  z119 := Tryz.sizeOf169
  t124 := Tryz.underlying123
  a124 := Tryz.isAgg123
  z124 := Tryz.sizeOf123
  v124 := Tryz.zeroValue123
  t138 := Tryz.underlying171
  a138 := Tryz.isAgg171
  z138 := Tryz.sizeOf171
  v138 := Tryz.zeroValue171
  t139 := Tryz.underlying172
  a139 := Tryz.isAgg172
  z139 := Tryz.sizeOf172
  v139 := Tryz.zeroValue172
  g3 := by kernel_rfl
  g4 := by kernel_rfl }
end Go.Proofs
