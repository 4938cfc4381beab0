/- Lemmas for this claim. -/
import Derived.Shelf.Strings.Builder1
import Derived.Shelf.Strings.Builder2
import Derived.Shelf.Strings.Trim
import Derived.Shelf.Small.Utf8
import Derived.Shelf.Small.Bits
import Derived.Shelf.Small.Strs
import Derived.Shelf.Small.Wraps
import Derived.Shelf.Strings.BuilderF
import Derived.Shelf.Strings.BuilderK
import Derived.Shelf.Strings.Builder2Cap
import Derived.Shelf.Strconv.Atoi
import Derived.Shelf.Strconv.Itoa0
import Derived.Shelf.Strconv.Itoa1
import Derived.Shelf.LaysM
import Derived.Shelf.Strconv.Itoa2
import Derived.Shelf.Strconv.Itoa3
import Derived.Shelf.Strings.Search1
import Derived.Shelf.Sort.Plain
import Derived.Shelf.Strings.Prefix
import Derived.Shelf.Strings.Runes
import Derived.Shelf.Strings.AsciiSet
import Derived.Shelf.Bits.Mul64
import Derived.Shelf.Strings.Repeat
import Derived.Shelf.Unicode.DecodeSlow
import Derived.Shelf.Unicode.DecodeAny
import Derived.Shelf.Unicode.DecodeLast
import Derived.Shelf.Strings.BuilderCap
import Derived.Ground.Names2Prog
import Derived.Shelf.Slices.Clone
import Derived.Shelf.Slices.In.SortNone
import Derived.Shelf.SlicesE.IndexFunc
import Derived.Test.YtlnbehbipoahhaaGreatDoorPk13
namespace Go.Proofs
open Go.Shelf
def Tryz.lays160_ren : Go.Shelf.Ren := ⟨fun | 160 => 58 | 232 => 71 | 231 => 70 | 227 => 72 | 234 => 74 | 233 => 73 | 236 => 76 | 235 => 75 | 228 => 97 | 271 => 100 | 151 => 99 | 197 => 98 | 120 => 119 | 152 => 118 | 260 => 117 | 137 => 130 | 119 => 131 | 224 => 132 | 225 => 133 | 217 => 140 | 266 => 143 | n => n, fun | 9 => 9 | 4 => 4 | 3 => 3 | 5 => 5 | 117 => 106 | 116 => 105 | 0 => 0 | 124 => 109 | 21 => 21 | 105 => 132 | 46 => 102 | 119 => 170 | 139 => 173 | 138 => 172 | n => n, fun | 3 => 2 | 4 => 3 | n => n⟩
theorem Tryz.lays160 : Go.Proofs.Lays.n160 Tryz.prog Tryz.lays160_ren := {
  mixed := by kernel_rfl
  f119 := Tryz.func131.trans (congrArg some (by kernel_rfl))
  f120 := Tryz.func119.trans (congrArg some (by kernel_rfl))
  f137 := Tryz.func130.trans (congrArg some (by kernel_rfl))
  f151 := Tryz.func99.trans (congrArg some (by kernel_rfl))
  f152 := Tryz.func118.trans (congrArg some (by kernel_rfl))
  f160 := Tryz.func58.trans (congrArg some (by kernel_rfl))
  f197 := Tryz.func98.trans (congrArg some (by kernel_rfl))
  f217 := Tryz.func140.trans (congrArg some (by kernel_rfl))
  f224 := Tryz.func132.trans (congrArg some (by kernel_rfl))
  f225 := Tryz.func133.trans (congrArg some (by kernel_rfl))
  f227 := Tryz.func72.trans (congrArg some (by kernel_rfl))
  f228 := Tryz.func97.trans (congrArg some (by kernel_rfl))
  f231 := Tryz.func70.trans (congrArg some (by kernel_rfl))
  f232 := Tryz.func71.trans (congrArg some (by kernel_rfl))
  f233 := Tryz.func73.trans (congrArg some (by kernel_rfl))
  f234 := Tryz.func74.trans (congrArg some (by kernel_rfl))
  f235 := Tryz.func75.trans (congrArg some (by kernel_rfl))
  f236 := Tryz.func76.trans (congrArg some (by kernel_rfl))
  f260 := Tryz.func117.trans (congrArg some (by kernel_rfl))
  f266 := Tryz.func143.trans (congrArg some (by kernel_rfl))
  f271 := Tryz.func100.trans (congrArg some (by kernel_rfl))
  t0 := Tryz.underlying0
  a0 := Tryz.isAgg0
  z0 := Tryz.sizeOf0
  v0 := Tryz.zeroValue0
  t3 := Tryz.underlying3
  a3 := Tryz.isAgg3
  z3 := Tryz.sizeOf3
  v3 := Tryz.zeroValue3
  t4 := Tryz.underlying4
  a4 := Tryz.isAgg4
  z4 := Tryz.sizeOf4
  v4 := Tryz.zeroValue4
  t5 := Tryz.underlying5
  a5 := Tryz.isAgg5
  z5 := Tryz.sizeOf5
  v5 := Tryz.zeroValue5
  t9 := Tryz.underlying9
  a9 := Tryz.isAgg9
  z9 := Tryz.sizeOf9
  v9 := Tryz.zeroValue9
  t21 := Tryz.underlying21
  a21 := Tryz.isAgg21
  z21 := Tryz.sizeOf21
  v21 := Tryz.zeroValue21
  t46 := Tryz.underlying102
  a46 := Tryz.isAgg102
  z46 := Tryz.sizeOf102
  v46 := Tryz.zeroValue102
  t105 := Tryz.underlying132
  a105 := Tryz.isAgg132
  z105 := Tryz.sizeOf132
  v105 := Tryz.zeroValue132
  t116 := Tryz.underlying105
  a116 := Tryz.isAgg105
  z116 := Tryz.sizeOf105
  t117 := Tryz.underlying106
  a117 := Tryz.isAgg106
  z117 := Tryz.sizeOf106
  v117 := Tryz.zeroValue106
  t119 := Tryz.underlying170
  a119 := Tryz.isAgg170
  z119 := Tryz.sizeOf170
  t124 := Tryz.underlying109
  a124 := Tryz.isAgg109
  z124 := Tryz.sizeOf109
  v124 := Tryz.zeroValue109
  t138 := Tryz.underlying172
  a138 := Tryz.isAgg172
  z138 := Tryz.sizeOf172
  v138 := Tryz.zeroValue172
  t139 := Tryz.underlying173
  a139 := Tryz.isAgg173
  z139 := Tryz.sizeOf173
  v139 := Tryz.zeroValue173
  g3 := by kernel_rfl
  g4 := by kernel_rfl }
def Tryz.lays103_ren : Go.Shelf.Ren := ⟨fun | 103 => 57 | 210 => 69 | 206 => 56 | n => n, fun | 9 => 9 | 4 => 4 | 24 => 80 | 3 => 3 | n => n, fun | n => n⟩
theorem Tryz.lays103 : Go.Proofs.Lays.n103 Tryz.prog Tryz.lays103_ren := {
  mixed := by kernel_rfl
  f103 := Tryz.func57.trans (congrArg some (by kernel_rfl))
  f206 := Tryz.func56.trans (congrArg some (by kernel_rfl))
  f210 := Tryz.func69.trans (congrArg some (by kernel_rfl))
  t3 := Tryz.underlying3
  a3 := Tryz.isAgg3
  z3 := Tryz.sizeOf3
  v3 := Tryz.zeroValue3
  t4 := Tryz.underlying4
  a4 := Tryz.isAgg4
  z4 := Tryz.sizeOf4
  v4 := Tryz.zeroValue4
  t9 := Tryz.underlying9
  a9 := Tryz.isAgg9
  z9 := Tryz.sizeOf9
  v9 := Tryz.zeroValue9
  t24 := Tryz.underlying80
  a24 := Tryz.isAgg80
  z24 := Tryz.sizeOf80
  v24 := Tryz.zeroValue80 }
open Go.RowKit in
theorem Tryz.strings_CutPrefix (s p : ByteArray) (w : World) :
    Calls Tryz.prog 57 #[.string s, .string p] w fun e w' => e = .returned (.tuple #[.string ⟨(Lib.trimPrefix s.data.toList p.data.toList).toArray⟩, .bool (Lib.hasPrefix s.data.toList p.data.toList)]) ∧ w' = w := Any.strings_CutPrefix Tryz.lays103 s p w
def Tryz.lays172_ren : Go.Shelf.Ren := ⟨fun | 172 => 59 | 244 => 77 | 245 => 78 | 247 => 101 | 279 => 102 | 280 => 103 | 281 => 104 | 282 => 105 | 287 => 120 | 316 => 121 | 171 => 63 | 205 => 122 | 321 => 134 | 322 => 135 | 243 => 80 | 246 => 106 | 283 => 123 | 284 => 124 | 285 => 125 | 286 => 126 | 129 => 96 | 317 => 136 | 318 => 137 | 319 => 138 | 320 => 139 | 337 => 141 | 338 => 142 | n => n, fun | 9 => 9 | 3 => 3 | 75 => 93 | 76 => 94 | 4 => 4 | 5 => 5 | 167 => 135 | 37 => 73 | 0 => 0 | 85 => 136 | 2 => 2 | 168 => 138 | 53 => 130 | 175 => 154 | 46 => 102 | 210 => 158 | 127 => 146 | 145 => 180 | 143 => 178 | 21 => 21 | 171 => 160 | 173 => 162 | 212 => 182 | 51 => 128 | 20 => 20 | 213 => 183 | 232 => 184 | 233 => 185 | 80 => 119 | n => n, fun | 15 => 0 | 16 => 1 | 17 => 4 | 18 => 6 | 19 => 7 | n => n⟩
theorem Tryz.lays172 : Go.Proofs.Lays.n172 Tryz.prog Tryz.lays172_ren := {
  mixed := by kernel_rfl
  f129 := Tryz.func96.trans (congrArg some (by kernel_rfl))
  f171 := Tryz.func63.trans (congrArg some (by kernel_rfl))
  f172 := Tryz.func59.trans (congrArg some (by kernel_rfl))
  f205 := Tryz.func122.trans (congrArg some (by kernel_rfl))
  f243 := Tryz.func80.trans (congrArg some (by kernel_rfl))
  f244 := Tryz.func77.trans (congrArg some (by kernel_rfl))
  f245 := Tryz.func78.trans (congrArg some (by kernel_rfl))
  f246 := Tryz.func106.trans (congrArg some (by kernel_rfl))
  f247 := Tryz.func101.trans (congrArg some (by kernel_rfl))
  f279 := Tryz.func102.trans (congrArg some (by kernel_rfl))
  f280 := Tryz.func103.trans (congrArg some (by kernel_rfl))
  f281 := Tryz.func104.trans (congrArg some (by kernel_rfl))
  f282 := Tryz.func105.trans (congrArg some (by kernel_rfl))
  f283 := Tryz.func123.trans (congrArg some (by kernel_rfl))
  f284 := Tryz.func124.trans (congrArg some (by kernel_rfl))
  f285 := Tryz.func125.trans (congrArg some (by kernel_rfl))
  f286 := Tryz.func126.trans (congrArg some (by kernel_rfl))
  f287 := Tryz.func120.trans (congrArg some (by kernel_rfl))
  f316 := Tryz.func121.trans (congrArg some (by kernel_rfl))
  f317 := Tryz.func136.trans (congrArg some (by kernel_rfl))
  f318 := Tryz.func137.trans (congrArg some (by kernel_rfl))
  f319 := Tryz.func138.trans (congrArg some (by kernel_rfl))
  f320 := Tryz.func139.trans (congrArg some (by kernel_rfl))
  f321 := Tryz.func134.trans (congrArg some (by kernel_rfl))
  f322 := Tryz.func135.trans (congrArg some (by kernel_rfl))
  f337 := Tryz.func141.trans (congrArg some (by kernel_rfl))
  f338 := Tryz.func142.trans (congrArg some (by kernel_rfl))
  t0 := Tryz.underlying0
  a0 := Tryz.isAgg0
  z0 := Tryz.sizeOf0
  v0 := Tryz.zeroValue0
  t2 := Tryz.underlying2
  a2 := Tryz.isAgg2
  z2 := Tryz.sizeOf2
  v2 := Tryz.zeroValue2
  t3 := Tryz.underlying3
  a3 := Tryz.isAgg3
  z3 := Tryz.sizeOf3
  v3 := Tryz.zeroValue3
  t4 := Tryz.underlying4
  a4 := Tryz.isAgg4
  z4 := Tryz.sizeOf4
  v4 := Tryz.zeroValue4
  t5 := Tryz.underlying5
  a5 := Tryz.isAgg5
  z5 := Tryz.sizeOf5
  v5 := Tryz.zeroValue5
  t9 := Tryz.underlying9
  a9 := Tryz.isAgg9
  z9 := Tryz.sizeOf9
  v9 := Tryz.zeroValue9
  t20 := Tryz.underlying20
  a20 := Tryz.isAgg20
  z20 := Tryz.sizeOf20
  v20 := Tryz.zeroValue20
  t21 := Tryz.underlying21
  a21 := Tryz.isAgg21
  z21 := Tryz.sizeOf21
  v21 := Tryz.zeroValue21
  t37 := Tryz.underlying73
  a37 := Tryz.isAgg73
  z37 := Tryz.sizeOf73
  v37 := Tryz.zeroValue73
  t46 := Tryz.underlying102
  a46 := Tryz.isAgg102
  z46 := Tryz.sizeOf102
  v46 := Tryz.zeroValue102
  t51 := Tryz.underlying128
  a51 := Tryz.isAgg128
  z51 := Tryz.sizeOf128
  v51 := Tryz.zeroValue128
  t53 := Tryz.underlying130
  a53 := Tryz.isAgg130
  z53 := Tryz.sizeOf130
  v53 := Tryz.zeroValue130
  t75 := Tryz.underlying93
  a75 := Tryz.isAgg93
  z75 := Tryz.sizeOf93
  v75 := Tryz.zeroValue93
  t76 := Tryz.underlying94
  a76 := Tryz.isAgg94
  z76 := Tryz.sizeOf94
  v76 := Tryz.zeroValue94
  t85 := Tryz.underlying136
  a85 := Tryz.isAgg136
  z85 := Tryz.sizeOf136
  v85 := Tryz.zeroValue136
  t127 := Tryz.underlying146
  a127 := Tryz.isAgg146
  z127 := Tryz.sizeOf146
  v127 := Tryz.zeroValue146
  t143 := Tryz.underlying178
  a143 := Tryz.isAgg178
  z143 := Tryz.sizeOf178
  v143 := Tryz.zeroValue178
  t145 := Tryz.underlying180
  a145 := Tryz.isAgg180
  z145 := Tryz.sizeOf180
  v145 := Tryz.zeroValue180
  t167 := Tryz.underlying135
  a167 := Tryz.isAgg135
  z167 := Tryz.sizeOf135
  v167 := Tryz.zeroValue135
  t168 := Tryz.underlying138
  a168 := Tryz.isAgg138
  z168 := Tryz.sizeOf138
  v168 := Tryz.zeroValue138
  t171 := Tryz.underlying160
  a171 := Tryz.isAgg160
  z171 := Tryz.sizeOf160
  v171 := Tryz.zeroValue160
  t173 := Tryz.underlying162
  a173 := Tryz.isAgg162
  z173 := Tryz.sizeOf162
  v173 := Tryz.zeroValue162
  t175 := Tryz.underlying154
  a175 := Tryz.isAgg154
  z175 := Tryz.sizeOf154
  v175 := Tryz.zeroValue154
  t210 := Tryz.underlying158
  a210 := Tryz.isAgg158
  z210 := Tryz.sizeOf158
  v210 := Tryz.zeroValue158
  t212 := Tryz.underlying182
  a212 := Tryz.isAgg182
  z212 := Tryz.sizeOf182
  v212 := Tryz.zeroValue182
  t213 := Tryz.underlying183
  a213 := Tryz.isAgg183
  z213 := Tryz.sizeOf183
  t232 := Tryz.underlying184
  a232 := Tryz.isAgg184
  z232 := Tryz.sizeOf184
  v232 := Tryz.zeroValue184
  t233 := Tryz.underlying185
  a233 := Tryz.isAgg185
  z233 := Tryz.sizeOf185
  v233 := Tryz.zeroValue185
  g15 := by kernel_rfl
  g16 := by kernel_rfl
  g17 := by kernel_rfl
  g18 := by kernel_rfl
  g19 := by kernel_rfl }
open Go.RowKit in
theorem Tryz.strconv_Atoi (s : ByteArray) (n : Int) (hl : s.size ≤ 18) (h : Lib.atoi s.data.toList = some n) (w : World) :
    Calls Tryz.prog 59 #[.string s] w fun e w' => e = .returned (.tuple #[.int .i64 n, .nilIface]) ∧ ∃ t, w' = Lib.bytesWorld w 5 t := Any.strconv_Atoi Tryz.lays172 s n hl h w
def Tryz.laysM171_ren : Go.Shelf.Ren := ⟨fun | 171 => 63 | 243 => 80 | 246 => 106 | 283 => 123 | 284 => 124 | 285 => 125 | 286 => 126 | 129 => 96 | 317 => 136 | 318 => 137 | 319 => 138 | 320 => 139 | 337 => 141 | 338 => 142 | n => n, fun | 3 => 3 | 9 => 9 | 2 => 2 | 4 => 4 | 171 => 160 | 0 => 0 | 53 => 130 | 37 => 73 | 5 => 5 | 173 => 162 | 212 => 182 | 51 => 128 | 20 => 20 | 213 => 183 | 46 => 102 | 232 => 184 | 233 => 185 | n => n, fun | 17 => 4 | 18 => 6 | 19 => 7 | n => n⟩
theorem Tryz.laysM171 : Go.Proofs.LaysM.n171 Tryz.prog Tryz.laysM171_ren := {
  mixed := by kernel_rfl
  f129 := Tryz.func96.trans (congrArg some (by kernel_rfl))
  f171 := Tryz.func63.trans (congrArg some (by kernel_rfl))
  f243 := Tryz.func80.trans (congrArg some (by kernel_rfl))
  f246 := Tryz.func106.trans (congrArg some (by kernel_rfl))
  f283 := Tryz.func123.trans (congrArg some (by kernel_rfl))
  f284 := Tryz.func124.trans (congrArg some (by kernel_rfl))
  f285 := Tryz.func125.trans (congrArg some (by kernel_rfl))
  f286 := Tryz.func126.trans (congrArg some (by kernel_rfl))
  f317 := Tryz.func136.trans (congrArg some (by kernel_rfl))
  f318 := Tryz.func137.trans (congrArg some (by kernel_rfl))
  f319 := Tryz.func138.trans (congrArg some (by kernel_rfl))
  f320 := Tryz.func139.trans (congrArg some (by kernel_rfl))
  f337 := Tryz.func141.trans (congrArg some (by kernel_rfl))
  f338 := Tryz.func142.trans (congrArg some (by kernel_rfl))
  t0 := Tryz.underlying0
  a0 := Tryz.isAgg0
  z0 := Tryz.sizeOf0
  v0 := Tryz.zeroValue0
  t2 := Tryz.underlying2
  a2 := Tryz.isAgg2
  z2 := Tryz.sizeOf2
  v2 := Tryz.zeroValue2
  t3 := Tryz.underlying3
  a3 := Tryz.isAgg3
  z3 := Tryz.sizeOf3
  v3 := Tryz.zeroValue3
  t4 := Tryz.underlying4
  a4 := Tryz.isAgg4
  z4 := Tryz.sizeOf4
  v4 := Tryz.zeroValue4
  t5 := Tryz.underlying5
  a5 := Tryz.isAgg5
  z5 := Tryz.sizeOf5
  v5 := Tryz.zeroValue5
  t9 := Tryz.underlying9
  a9 := Tryz.isAgg9
  z9 := Tryz.sizeOf9
  v9 := Tryz.zeroValue9
  t20 := Tryz.underlying20
  a20 := Tryz.isAgg20
  z20 := Tryz.sizeOf20
  v20 := Tryz.zeroValue20
  t37 := Tryz.underlying73
  a37 := Tryz.isAgg73
  z37 := Tryz.sizeOf73
  v37 := Tryz.zeroValue73
  t46 := Tryz.underlying102
  a46 := Tryz.isAgg102
  z46 := Tryz.sizeOf102
  v46 := Tryz.zeroValue102
  t51 := Tryz.underlying128
  a51 := Tryz.isAgg128
  z51 := Tryz.sizeOf128
  v51 := Tryz.zeroValue128
  t53 := Tryz.underlying130
  a53 := Tryz.isAgg130
  z53 := Tryz.sizeOf130
  v53 := Tryz.zeroValue130
  t171 := Tryz.underlying160
  a171 := Tryz.isAgg160
  z171 := Tryz.sizeOf160
  v171 := Tryz.zeroValue160
  t173 := Tryz.underlying162
  a173 := Tryz.isAgg162
  z173 := Tryz.sizeOf162
  v173 := Tryz.zeroValue162
  t212 := Tryz.underlying182
  a212 := Tryz.isAgg182
  z212 := Tryz.sizeOf182
  v212 := Tryz.zeroValue182
  t213 := Tryz.underlying183
  a213 := Tryz.isAgg183
  z213 := Tryz.sizeOf183
  t232 := Tryz.underlying184
  a232 := Tryz.isAgg184
  z232 := Tryz.sizeOf184
  v232 := Tryz.zeroValue184
  t233 := Tryz.underlying185
  a233 := Tryz.isAgg185
  z233 := Tryz.sizeOf185
  v233 := Tryz.zeroValue185
  g17 := by kernel_rfl
  g18 := by kernel_rfl
  g19 := by kernel_rfl
  i0 := by kernel_rfl
  i2 := by kernel_rfl
  i3 := by kernel_rfl
  i4 := by kernel_rfl
  i5 := by kernel_rfl
  i9 := by kernel_rfl
  i20 := by kernel_rfl
  i37 := by kernel_rfl
  i46 := by kernel_rfl
  i51 := by kernel_rfl
  i53 := by kernel_rfl
  i171 := by kernel_rfl
  i173 := by kernel_rfl
  i212 := by kernel_rfl
  i232 := by kernel_rfl
  i233 := by kernel_rfl
  m17 := by kernel_rfl
  m18 := by kernel_rfl
  m19 := by kernel_rfl }
open Go.RowKit Go.Sort Go.Lib in
theorem Tryz.strconv_Itoa (n : Int) (h0 : -9223372036854775808 ≤ n) (h1 : n ≤ 9223372036854775807) (w : World) (htab : Lib.TabIs Tryz.prog w "internal/strconv.uint64pow10" .u64 Lib.pow10Tab) :
    Calls Tryz.prog 63 #[.int .i64 n] w fun e w' => e = .returned (.string ⟨(Lib.itoa n).toArray⟩) ∧ ∃ k os, w' = grow (w.drewN k) os := Any.strconv_Itoa Tryz.laysM171 n h0 h1 w htab
def Tryz.lays190_ren : Go.Shelf.Ren := ⟨fun | 190 => 53 | 125 => 68 | 258 => 67 | 128 => 95 | 129 => 96 | 302 => 86 | 303 => 87 | 304 => 88 | 305 => 89 | 306 => 90 | 307 => 91 | 308 => 92 | 309 => 93 | 310 => 94 | 333 => 111 | 329 => 112 | 330 => 113 | 334 => 114 | 335 => 115 | 336 => 116 | 344 => 129 | n => n, fun | 31 => 42 | 9 => 9 | 3 => 3 | 46 => 102 | 0 => 0 | 51 => 128 | 53 => 130 | 4 => 4 | 183 => 122 | 182 => 121 | 131 => 76 | 5 => 5 | 218 => 147 | 222 => 151 | 228 => 167 | 229 => 168 | n => n, fun | n => n⟩
theorem Tryz.lays190 : Go.Proofs.Lays.n190 Tryz.prog Tryz.lays190_ren := {
  mixed := by kernel_rfl
  f125 := Tryz.func68.trans (congrArg some (by kernel_rfl))
  f128 := Tryz.func95.trans (congrArg some (by kernel_rfl))
  f129 := Tryz.func96.trans (congrArg some (by kernel_rfl))
  f190 := Tryz.func53.trans (congrArg some (by kernel_rfl))
  f258 := Tryz.func67.trans (congrArg some (by kernel_rfl))
  f302 := Tryz.func86.trans (congrArg some (by kernel_rfl))
  f303 := Tryz.func87.trans (congrArg some (by kernel_rfl))
  f304 := Tryz.func88.trans (congrArg some (by kernel_rfl))
  f305 := Tryz.func89.trans (congrArg some (by kernel_rfl))
  f306 := Tryz.func90.trans (congrArg some (by kernel_rfl))
  f307 := Tryz.func91.trans (congrArg some (by kernel_rfl))
  f308 := Tryz.func92.trans (congrArg some (by kernel_rfl))
  f309 := Tryz.func93.trans (congrArg some (by kernel_rfl))
  f310 := Tryz.func94.trans (congrArg some (by kernel_rfl))
  f329 := Tryz.func112.trans (congrArg some (by kernel_rfl))
  f330 := Tryz.func113.trans (congrArg some (by kernel_rfl))
  f333 := Tryz.func111.trans (congrArg some (by kernel_rfl))
  f334 := Tryz.func114.trans (congrArg some (by kernel_rfl))
  f335 := Tryz.func115.trans (congrArg some (by kernel_rfl))
  f336 := Tryz.func116.trans (congrArg some (by kernel_rfl))
  f344 := Tryz.func129.trans (congrArg some (by kernel_rfl))
  t0 := Tryz.underlying0
  a0 := Tryz.isAgg0
  z0 := Tryz.sizeOf0
  v0 := Tryz.zeroValue0
  t3 := Tryz.underlying3
  a3 := Tryz.isAgg3
  z3 := Tryz.sizeOf3
  v3 := Tryz.zeroValue3
  t4 := Tryz.underlying4
  a4 := Tryz.isAgg4
  z4 := Tryz.sizeOf4
  v4 := Tryz.zeroValue4
  t5 := Tryz.underlying5
  a5 := Tryz.isAgg5
  z5 := Tryz.sizeOf5
  v5 := Tryz.zeroValue5
  t9 := Tryz.underlying9
  a9 := Tryz.isAgg9
  z9 := Tryz.sizeOf9
  v9 := Tryz.zeroValue9
  t31 := Tryz.underlying42
  a31 := Tryz.isAgg42
  z31 := Tryz.sizeOf42
  v31 := Tryz.zeroValue42
  t46 := Tryz.underlying102
  a46 := Tryz.isAgg102
  z46 := Tryz.sizeOf102
  v46 := Tryz.zeroValue102
  t51 := Tryz.underlying128
  a51 := Tryz.isAgg128
  z51 := Tryz.sizeOf128
  v51 := Tryz.zeroValue128
  t53 := Tryz.underlying130
  a53 := Tryz.isAgg130
  z53 := Tryz.sizeOf130
  v53 := Tryz.zeroValue130
  t131 := Tryz.underlying76
  a131 := Tryz.isAgg76
  z131 := Tryz.sizeOf76
  v131 := Tryz.zeroValue76
  t182 := Tryz.underlying121
  a182 := Tryz.isAgg121
  z182 := Tryz.sizeOf121
  v182 := Tryz.zeroValue121
  t183 := Tryz.underlying122
  a183 := Tryz.isAgg122
  z183 := Tryz.sizeOf122
  v183 := Tryz.zeroValue122
  t218 := Tryz.underlying147
  a218 := Tryz.isAgg147
  z218 := Tryz.sizeOf147
  v218 := Tryz.zeroValue147
  t222 := Tryz.underlying151
  a222 := Tryz.isAgg151
  z222 := Tryz.sizeOf151
  v222 := Tryz.zeroValue151
  t228 := Tryz.underlying167
  a228 := Tryz.isAgg167
  z228 := Tryz.sizeOf167
  v228 := Tryz.zeroValue167
  t229 := Tryz.underlying168
  a229 := Tryz.isAgg168
  z229 := Tryz.sizeOf168
  v229 := Tryz.zeroValue168 }
open Go.Sort Go.RowKit in
theorem Tryz.slices_Sort_string (blk off cap : Nat) (ss : List (List UInt8)) (w : World) (hH : Holds encStr w blk off ss.toArray) (hblk : blk < w.heap.size) (hsz : ss.length < 4611686018427387904) :
    Calls Tryz.prog 53 #[.slice (some ⟨blk, off, none⟩) ss.length cap] w fun e w' =>
      e = .returned (.tuple #[]) ∧ ∃ n os, w' = grow (putRow encStr (Sort.ahead w n) blk off (ss.mergeSort fun x y => decide (x ≤ y)).toArray) os := Any.slices_Sort_string Tryz.lays190 blk off cap ss w hH hblk hsz
def Tryz.lays99_ren : Go.Shelf.Ren := ⟨fun | 99 => 39 | 206 => 56 | n => n, fun | 9 => 9 | 4 => 4 | 3 => 3 | n => n, fun | n => n⟩
theorem Tryz.lays99 : Go.Proofs.Lays.n99 Tryz.prog Tryz.lays99_ren := {
  mixed := by kernel_rfl
  f99 := Tryz.func39.trans (congrArg some (by kernel_rfl))
  f206 := Tryz.func56.trans (congrArg some (by kernel_rfl))
  t3 := Tryz.underlying3
  a3 := Tryz.isAgg3
  z3 := Tryz.sizeOf3
  v3 := Tryz.zeroValue3
  t4 := Tryz.underlying4
  a4 := Tryz.isAgg4
  z4 := Tryz.sizeOf4
  v4 := Tryz.zeroValue4
  t9 := Tryz.underlying9
  a9 := Tryz.isAgg9
  z9 := Tryz.sizeOf9
  v9 := Tryz.zeroValue9 }
open Go.RowKit Go.Lib in
theorem Tryz.strings_HasPrefix (s p : ByteArray) (w : World) :
    Calls Tryz.prog 39 #[.string s, .string p] w fun e w' => e = .returned (.bool (Lib.hasPrefix s.data.toList p.data.toList)) ∧ w' = w := Any.strings_HasPrefix Tryz.lays99 s p w
def Tryz.lays105_ren : Go.Shelf.Ren := ⟨fun | 105 => 64 | 212 => 81 | 99 => 39 | 165 => 82 | 166 => 83 | 170 => 84 | 169 => 85 | 263 => 107 | 264 => 108 | 206 => 56 | 240 => 109 | 241 => 110 | 276 => 127 | 277 => 128 | n => n, fun | 9 => 9 | 3 => 3 | 4 => 4 | 20 => 20 | 0 => 0 | 46 => 102 | 109 => 113 | 5 => 5 | 72 => 117 | 76 => 94 | 51 => 128 | 146 => 142 | 53 => 130 | 148 => 144 | 70 => 115 | 37 => 73 | 75 => 93 | 127 => 146 | 164 => 164 | 80 => 119 | n => n, fun | n => n⟩
theorem Tryz.lays105 : Go.Proofs.Lays.n105 Tryz.prog Tryz.lays105_ren := {
  mixed := by kernel_rfl
  f99 := Tryz.func39.trans (congrArg some (by kernel_rfl))
  f105 := Tryz.func64.trans (congrArg some (by kernel_rfl))
  f165 := Tryz.func82.trans (congrArg some (by kernel_rfl))
  f166 := Tryz.func83.trans (congrArg some (by kernel_rfl))
  f169 := Tryz.func85.trans (congrArg some (by kernel_rfl))
  f170 := Tryz.func84.trans (congrArg some (by kernel_rfl))
  f206 := Tryz.func56.trans (congrArg some (by kernel_rfl))
  f212 := Tryz.func81.trans (congrArg some (by kernel_rfl))
  f240 := Tryz.func109.trans (congrArg some (by kernel_rfl))
  f241 := Tryz.func110.trans (congrArg some (by kernel_rfl))
  f263 := Tryz.func107.trans (congrArg some (by kernel_rfl))
  f264 := Tryz.func108.trans (congrArg some (by kernel_rfl))
  f276 := Tryz.func127.trans (congrArg some (by kernel_rfl))
  f277 := Tryz.func128.trans (congrArg some (by kernel_rfl))
  t0 := Tryz.underlying0
  a0 := Tryz.isAgg0
  z0 := Tryz.sizeOf0
  v0 := Tryz.zeroValue0
  t3 := Tryz.underlying3
  a3 := Tryz.isAgg3
  z3 := Tryz.sizeOf3
  v3 := Tryz.zeroValue3
  t4 := Tryz.underlying4
  a4 := Tryz.isAgg4
  z4 := Tryz.sizeOf4
  v4 := Tryz.zeroValue4
  t5 := Tryz.underlying5
  a5 := Tryz.isAgg5
  z5 := Tryz.sizeOf5
  v5 := Tryz.zeroValue5
  t9 := Tryz.underlying9
  a9 := Tryz.isAgg9
  z9 := Tryz.sizeOf9
  v9 := Tryz.zeroValue9
  t20 := Tryz.underlying20
  a20 := Tryz.isAgg20
  z20 := Tryz.sizeOf20
  v20 := Tryz.zeroValue20
  t37 := Tryz.underlying73
  a37 := Tryz.isAgg73
  z37 := Tryz.sizeOf73
  v37 := Tryz.zeroValue73
  t46 := Tryz.underlying102
  a46 := Tryz.isAgg102
  z46 := Tryz.sizeOf102
  v46 := Tryz.zeroValue102
  t51 := Tryz.underlying128
  a51 := Tryz.isAgg128
  z51 := Tryz.sizeOf128
  v51 := Tryz.zeroValue128
  t53 := Tryz.underlying130
  a53 := Tryz.isAgg130
  z53 := Tryz.sizeOf130
  v53 := Tryz.zeroValue130
  t70 := Tryz.underlying115
  a70 := Tryz.isAgg115
  z70 := Tryz.sizeOf115
  v70 := Tryz.zeroValue115
  t72 := Tryz.underlying117
  a72 := Tryz.isAgg117
  z72 := Tryz.sizeOf117
  v72 := Tryz.zeroValue117
  t75 := Tryz.underlying93
  a75 := Tryz.isAgg93
  z75 := Tryz.sizeOf93
  v75 := Tryz.zeroValue93
  t76 := Tryz.underlying94
  a76 := Tryz.isAgg94
  z76 := Tryz.sizeOf94
  v76 := Tryz.zeroValue94
  t109 := Tryz.underlying113
  a109 := Tryz.isAgg113
  z109 := Tryz.sizeOf113
  v109 := Tryz.zeroValue113
  t127 := Tryz.underlying146
  a127 := Tryz.isAgg146
  z127 := Tryz.sizeOf146
  v127 := Tryz.zeroValue146
  t146 := Tryz.underlying142
  a146 := Tryz.isAgg142
  z146 := Tryz.sizeOf142
  v146 := Tryz.zeroValue142
  t148 := Tryz.underlying144
  a148 := Tryz.isAgg144
  z148 := Tryz.sizeOf144
  v148 := Tryz.zeroValue144
  t164 := Tryz.underlying164
  a164 := Tryz.isAgg164
  z164 := Tryz.sizeOf164
  v164 := Tryz.zeroValue164 }
theorem Tryz.Builder_Extra_105 : Builder.Extra Tryz.prog Tryz.lays105_ren := {
  sizeBuilder := by kernel_rfl
  liesBuilder := by kernel_rfl
  t5 := Tryz.underlying5
  a5 := Tryz.isAgg5
  z5 := Tryz.sizeOf5
  v5 := Tryz.zeroValue5
  infoByte := by kernel_rfl
  cellsByte := by kernel_rfl
  sizeByte := by kernel_rfl
  neB5 := by decide }
open Go.RowKit Go.Lib in
theorem Tryz.strings_Repeat (s : ByteArray) (c : Nat) (w : World) (hc : c ≤ 9223372036854775807) (hlen : s.size * c ≤ 140737488355328) :
    Calls Tryz.prog 64 #[.string s, .int .i64 c] w fun e w' => e = .returned (.string ⟨(Lib.repeatL s.data.toList c).toArray⟩) ∧ Below w.heap.size w w' := Any.strings_Repeat Tryz.lays105 Tryz.Builder_Extra_105 s c w hc hlen
def Tryz.laysNm215_ren : Go.Shelf.Ren := ⟨fun | 15 => 34 | n => n, fun | 22 => 54 | 3 => 3 | 4 => 4 | n => n, fun | n => n⟩
theorem Tryz.laysNm215 : Go.Proofs.Lays2.n15 Tryz.prog Tryz.laysNm215_ren := {
  mixed := by kernel_rfl
  f15 := Tryz.func34.trans (congrArg some (by kernel_rfl))
  t3 := Tryz.underlying3
  a3 := Tryz.isAgg3
  z3 := Tryz.sizeOf3
  v3 := Tryz.zeroValue3
  t4 := Tryz.underlying4
  a4 := Tryz.isAgg4
  z4 := Tryz.sizeOf4
  v4 := Tryz.zeroValue4
  t22 := Tryz.underlying54
  a22 := Tryz.isAgg54
  z22 := Tryz.sizeOf54
  v22 := Tryz.zeroValue54
  i3 := by kernel_rfl }
open Go.RowKit Go.Lib in
theorem Tryz.slices_Clone_int (b off n c : Nat) (zs : List Int) (w : World) (hz : n ≤ zs.length) (hbig : n * 8 ≤ 140737488355328) (hc : ∀ j, j < zs.length → w.cell? ⟨b, off + j, none⟩ = some (.int .i64 (zs.getD j 0))) :
    Calls Tryz.prog 34 #[.slice (some ⟨b, off, none⟩) n c] w fun e w' => ∃ v', e = .returned v' ∧ w'.ownsRow w.heap.size 3 1 v' n ((zs.take n).map (Value.int .i64)) ∧ v' ≠ .slice none 0 0 ∧ Below w.heap.size w w' := Any.slices_Clone_int Tryz.laysNm215 b off n c zs w hz hbig hc
open Go.RowKit Go.Sort in
theorem Tryz.slices_Sort_string_none (p : Option Addr) (cap : Nat) (w : World) :
    Calls Tryz.prog 53 #[.slice p 0 cap] w fun e w' => e = .returned (.tuple #[]) ∧ w' = w := Any.slices_Sort_string_none Tryz.lays190 p cap w
def Tryz.laysSlH10_f37_ren : Go.Shelf.Ren := ⟨fun | 10 => 37 | 6 => 55 | n => n, fun | 22 => 42 | 23 => 9 | 25 => 47 | 3 => 3 | 4 => 4 | 0 => 0 | n => n, fun | n => n⟩
theorem Tryz.laysSlH10_f37 : Go.Proofs.SlLaysH.n10 Tryz.prog Tryz.laysSlH10_f37_ren := {
  mixed := by kernel_rfl
  f6 := ⟨Tryz.f55.name, by decide, Tryz.func55.trans (congrArg some (by kernel_rfl))⟩
  f10 := ⟨Tryz.f37.name, by decide, Tryz.func37.trans (congrArg some (by kernel_rfl))⟩
  t0 := Tryz.underlying0
  a0 := Tryz.isAgg0
  z0 := Tryz.sizeOf0
  v0 := Tryz.zeroValue0
  t3 := Tryz.underlying3
  a3 := Tryz.isAgg3
  z3 := Tryz.sizeOf3
  v3 := Tryz.zeroValue3
  t4 := Tryz.underlying4
  a4 := Tryz.isAgg4
  z4 := Tryz.sizeOf4
  v4 := Tryz.zeroValue4
  t22 := Tryz.underlying42
  a22 := Tryz.isAgg42
  z22 := Tryz.sizeOf42
  v22 := Tryz.zeroValue42
  a23 := Tryz.isAgg9
  z23 := Tryz.sizeOf9
  t25 := Tryz.underlying47
  a25 := Tryz.isAgg47
  z25 := Tryz.sizeOf47
  v25 := Tryz.zeroValue47 }
open Go.RowKit Go.Lib Go.Sort in
theorem Tryz.slices_DeleteFunc {α : Type} [Inhabited α] (enc : α → Value) (hO : OneCell enc) (p : α → Bool) (g : Nat) (lb : Array Value) (eg : ∀ args w, (callFunc g args).run Tryz.prog w = .ok (.enter g args) w) (zr : α) (v23 : ∀ w, (zeroValue 9).run Tryz.prog w = .ok (enc zr) w) (blk off cap : Nat) (d : Array α) (w : World) (hp : PredAt Tryz.prog g lb enc p w) (hpo : PredOver Tryz.prog g lb enc p blk off d.size w) (hH : Holds enc w blk off d) (hsz : d.size ≤ 9223372036854775807) (hcap : d.size ≤ cap) :
    Calls Tryz.prog 37 #[.slice (some ⟨blk, off, none⟩) d.size cap, .func (.func g) #[] lb] w fun e w' => e = .returned (.slice (some ⟨blk, off, none⟩) (d.toList.filter fun x => !p x).length cap) ∧ ∃ q, w' = putRow enc (Sort.ahead w q) blk off ((d.toList.filter fun x => !p x) ++ List.replicate (d.size - (d.toList.filter fun x => !p x).length) zr).toArray := AnyE.slices_DeleteFunc Tryz.laysSlH10_f37 enc hO p g lb eg zr v23 blk off cap d w hp hpo hH hsz hcap
end Go.Proofs

namespace Go.Proofs.YtlnbehbipoahhaaGreatDoor
open Go.RowKit Go.Maps Go.Sort Go.Shelf Go.MapKept Go.WideElems
def keyB : Value → List UInt8
  | .string s => s.data.toList
  | _ => []
abbrev noR : Value → Option (DataW Unit × List MemPlace) := fun _ => some (.nil, [])
theorem MapIs.owns {P : Program} {w : World} {b : Nat} {k : TypeId} {m : List (Value × Value)} (h : MapIs w b .string m) (hk : P.underlying k = some .string) (hs : ∀ x ∈ m, (keyB x.1).length ≤ maxLen) (hl : m.length ≤ maxLen) :
    ∃ D0 : DataW Unit, w.ownsMap P k noR b m.length D0 ∧ (strKeys D0).Perm (m.map fun x => keyB x.1) ∧ Maps.size D0 = m.length := by
  obtain ⟨es, clock, hb, hst, rfl, hks⟩ := h
  have hrd : ∀ x ∈ es.toList, WideElems.rd P k noR x = some (.string (keyB x.key), .nil) := fun x hx => by
    have h1 := hks x hx
    have h2 := hs (x.key, x.val) (List.mem_map.2 ⟨x, hx, rfl⟩)
    unfold WideElems.rd
    cases hkx : x.key with
    | string s =>
      rw [hkx] at h2
      simp only [keyB] at h2
      unfold keyOf mapKey
      rw [hk]
      have h3 : s.size ≤ maxLen := by simpa using h2
      simp [h3, keyB, noR]
    | _ => rw [hkx] at h1; simp [IsKey] at h1
  refine ⟨.map ((es.toList.map (WideElems.rg P k noR)).foldr DataW.insert []), ⟨es, clock, hb, ⟨by simpa using hl, hst, fun x hx => ⟨_, hrd x hx⟩⟩, by simp, rfl⟩, ?_, ?_⟩
  · have hp := (Go.WideShapes.sorted_perm (es.toList.map (WideElems.rg P k noR))).map (fun p => strOf p.1)
    refine hp.trans (List.Perm.of_eq ?_)
    rw [List.map_map, List.map_map]
    apply List.map_congr_left
    intro x hx
    simp only [Function.comp, WideElems.rg_of (hrd x hx), strOf]
  · have hp := (Go.WideShapes.sorted_perm (es.toList.map (WideElems.rg P k noR))).length_eq
    show (List.foldr DataW.insert [] _).length = _
    rw [hp]; simp
end Go.Proofs.YtlnbehbipoahhaaGreatDoor

namespace Go.Proofs.YtlnbehbipoahhaaGreatDoor.dk
open Go.ChangeShapes Go.WideShapes Go.ChangeAt Go.RowKit Go.Sort Go.Shelf
def DiskS.namesL (D : DiskS) (head : List UInt8) : List (List UInt8) := ((D.files.map fun f => f.name.data.toList).mergeSort (fun x y => decide (x ≤ y))).filter fun x => Lib.hasPrefix x head
def DiskS.names (D : DiskS) (head : ByteArray) : List ByteArray := (D.namesL head.data.toList).map fun l => ⟨l.toArray⟩
theorem sorts46 (m : Nat) : AnyZ.SortsIn Tryz.prog Tryz.gSorted_ren Fence.wide m :=
  ⟨fun blk off cap ss W hH hblk hsz => callsIn_wide.2 (AnyM.slices_Sort_string Tryz.gSort blk off cap ss W hH hblk hsz),
   fun p cap W => callsIn_wide.2 (AnyM.slices_Sort_string_none Tryz.gSort p cap W)⟩
abbrev KF : Nat := 36
abbrev KI : Nat := 54
theorem keys_any (mb : Option Nat) (W : World) : Calls Tryz.prog KF #[.map mb] W fun e w' => e = .returned (.func (.func KI) #[] #[.pointer (some ⟨W.heap.size, 0, none⟩)]) ∧ w' = W.alloc (.cells #[.map mb] 50) :=
  callsIn_wide.1 (AnyZ.keys_in Tryz.gKeys Fence.wide 5 trivial rfl mb W)
set_option maxHeartbeats 1000000 in
theorem sortedKeys_any {m : List (Value × Value)} (b : Nat) (w : World) (h : MapIs w b .string m) (hs : ∀ x ∈ m, (keyB x.1).length ≤ maxLen) (hl : m.length ≤ 1000000) :
    Calls Tryz.prog 35 #[.func (.func KI) #[] #[.pointer (some ⟨w.heap.size, 0, none⟩)]] (w.alloc (.cells #[.map (some b)] 50)) fun e w' => ∃ (v : Value) (ss : List (List UInt8)), e = .returned v ∧ ss.Perm (m.map fun x => keyB x.1) ∧
      w'.ownsRow (w.heap.size + 1) 9 1 v ss.length ((ss.mergeSort (fun x y => decide (x ≤ y))).map encStr) ∧ (v = .slice none 0 0 ↔ ss = []) ∧ Calm w w' := by
  obtain ⟨D0, hown, hperm, hsize⟩ := h.owns (P := Tryz.prog) Tryz.underlying9 hs (by unfold maxLen; omega)
  have hbl := hown.lt
  have hseq : SeqGives Fence.wide 2 Tryz.prog KI #[.pointer (some ⟨w.heap.size, 0, none⟩)] encStr (fun ss => ss.Perm (strKeys D0)) (Maps.size D0) (w.alloc (.cells #[.map (some b)] 50)) :=
    AnyZ.keys_gives (ρ := Tryz.gKeys_ren) { Tryz.gKeys with } Fence.wide _ trivial rfl (by omega) w.heap.size b m.length D0 _ (by simp) (by simp) (by
      obtain ⟨es, clock, hb, Ft, hs, hD⟩ := hown
      exact ⟨es, clock, (Below.heap_alloc _ _ b hbl).trans hb, Ft, hs, hD⟩)
  refine (callsIn_wide.1 (AnyZ.sorted_in Tryz.gSorted Fence.wide 5 trivial trivial trivial trivial rfl (by omega) (sorts46 _) (enters_of Tryz.func53 (by kernel_rfl) rfl) KI #[.pointer (some ⟨w.heap.size, 0, none⟩)] trivial (enters_of Tryz.func54 (by kernel_rfl) rfl) _ _ (by rw [hsize]; unfold maxLen; omega) (by rw [hsize]; omega) _ hseq)).mono ?_
  rintro e w' ⟨v, ss, rfl, hp, hrow, hnil, hb⟩
  refine ⟨v, ss, rfl, hp.trans hperm, ?_, hnil, ?_⟩
  · have h2 := hrow
    simp only [World.size_alloc] at h2
    exact h2
  · exact ((Calm.refl w).alloc _).trans hb
theorem list1_any (x head : List UInt8) (B : Nat) (W : World) (hc : W.cell? ⟨B, 0, none⟩ = some (.string ⟨head.toArray⟩)) :
    FnGives Tryz.prog 38 #[.pointer (some ⟨B, 0, none⟩)] #[encStr x] (.bool (!Lib.hasPrefix x head)) W := by
  show Calls Tryz.prog 38 #[encStr x, .pointer (some ⟨B, 0, none⟩)] W _
  have hp := box (Tryz.strings_HasPrefix ⟨x.toArray⟩ ⟨head.toArray⟩ W)
  go_enter Tryz.func38, Tryz.ntmps38
  go_wp2_with fail
  refine hp.out.mono ?_
  rintro e w' ⟨rfl, rfl⟩
  go_wp2_with fail
  go_ret
  exact ⟨by simp, 0, rfl⟩
theorem IndexFuncStrNil_any (a : Option Addr) (c : Nat) (fv : Value) (w : World) : Calls Tryz.prog 55 #[.slice a 0 c, fv] w fun e w' => e = .returned (.int .i64 (-1)) ∧ w = w' := by
  go_enter Tryz.func55, Tryz.ntmps55
  go_wp2
  go_loop [8] (fun i => i = .int .i64 0) (fun _ => 0)
  case atStart => rfl
  case round =>
    obtain rfl := hrel
    go_wp2
    go_ret
    exact ⟨rfl, rfl⟩
theorem DeleteFuncStrNil_any (a : Option Addr) (c : Nat) (fv : Value) (w : World) : Calls Tryz.prog 37 #[.slice a 0 c, fv] w fun e w' => e = .returned (.slice a 0 c) ∧ w = w' := by
  go_enter Tryz.func37, Tryz.ntmps37
  go_wp2_with fail
  refine (IndexFuncStrNil_any a c fv w).mono ?_
  rintro e w' ⟨rfl, rfl⟩
  go_wp2_with fail
  go_ret
  exact ⟨rfl, rfl⟩
theorem calm_put {α : Type} [Inhabited α] {enc : α → Value} {w w1 : World} (h : Calm w w1) {q g off : Nat} {d : Array α} (hg : w.heap.size ≤ g) : Calm w (putRow enc (Sort.ahead w1 q) g off d) := by
  refine ⟨h.os, h.tape, h.output, ?_, fun k hk => ?_⟩
  · simpa [putRow, mapBlock, Sort.ahead] using h.size
  · have : (putRow enc (Sort.ahead w1 q) g off d).heap[k]? = w1.heap[k]? := by
      simp only [putRow, mapBlock, Sort.ahead, Array.getElem?_modify]
      rw [if_neg (by omega)]
    rw [this]; exact h.block k hk
def ListDone (D : DiskS) (head : ByteArray) (w : World) (e : Ending) (w' : World) : Prop :=
  ∃ v, e = .returned v ∧ StrsAt w' v (D.names head) ∧ Calm w w' ∧ ∀ a n c, v = .slice (some a) n c → w.heap.size ≤ a.block
theorem zeroStr (w : World) : (zeroValue 9).run Tryz.prog w = .ok (encStr []) w := by kernel_rfl
set_option maxRecDepth 100000 in
set_option maxHeartbeats 4000000 in
theorem List_any {p : Nat} {D : DiskS} {F : Nat → Prop} (head : ByteArray) (w : World) (h : DiskAt w p D F) (hn : ∀ f ∈ D.files, f.name.size ≤ maxLen) (hl : D.files.length ≤ 1000000) :
    Calls Tryz.prog 13 #[ptrTo p, .string head] w (ListDone D head w) := by
  obtain ⟨mb, wv, h, rfl⟩ := h
  have hcalm : Calm w (w.alloc (.cells #[.string head] 9)) := (Calm.refl w).alloc _
  have h1 := h.calm hcalm
  obtain ⟨c0, c1, c2, c3, c4⟩ := h1.cells
  have hk0 := sortedKeys_any mb _ h1.map (fun x hx => by obtain ⟨f, hf, rfl⟩ := List.mem_map.1 hx; simpa [encF, keyB] using hn f hf) (by simpa using hl)
  simp only [World.size_alloc] at hk0
  have hk := box hk0
  clear hk0
  have hkeys : D.files.map (fun f => f.name.data.toList) = (D.files.map encF).map fun x => keyB x.1 := by rw [List.map_map]; apply List.map_congr_left; intro f _; simp [encF, keyB]
  have Hkeys := box hkeys
  have Hl := box hl
  have Hcalm := box hcalm
  clear h h1 hn hl hkeys hcalm
  go_enter Tryz.func13, Tryz.ntmps13
  go_wp2_with fail
  refine (keys_any _ _).mono ?_
  rintro e w1 ⟨rfl, rfl⟩
  go_wp2_with fail
  refine hk.out.mono ?_
  rintro e w2 ⟨v, ss, rfl, hperm, hrow, hnil, hc2⟩
  have hsort : ss.mergeSort (fun x y => decide (x ≤ y)) = (D.files.map fun f => f.name.data.toList).mergeSort (fun x y => decide (x ≤ y)) := by rw [Hkeys.out]; exact mergeSort_of_perm hperm
  rw [hsort] at hrow
  have hlen : ss.length = ((D.files.map fun f => f.name.data.toList).mergeSort (fun x y => decide (x ≤ y))).length := by rw [← hsort]; simp
  have hll := box (show ss.length ≤ 1000000 by rw [hlen]; simpa using Hl.out)
  have HN := box (show D.names head = ((((D.files.map fun f => f.name.data.toList).mergeSort (fun x y => decide (x ≤ y))).filter fun x => Lib.hasPrefix x head.data.toList)).map (fun l => (⟨l.toArray⟩ : ByteArray)) from rfl)
  obtain ⟨L, hL⟩ : ∃ L, (D.files.map fun f => f.name.data.toList).mergeSort (fun x y => decide (x ≤ y)) = L := ⟨_, rfl⟩
  rw [hL] at hrow hlen HN
  rw [hlen] at hrow hll
  have Hc2 := box (Hcalm.out.trans hc2)
  have hhead : w2.cell? ⟨w.heap.size, 0, none⟩ = some (.string ⟨head.data.toList.toArray⟩) := by
    rw [hc2.cell (p := ⟨w.heap.size, 0, none⟩) (by simp)]
    have := cell_of (heap_new w (.cells #[.string head] 9)) 0
    rw [this]; rfl
  have Hhead := box hhead
  have hsz2 := box hc2.size
  clear hsort hL hhead hperm hc2
  rcases hrow.2 with ⟨rfl, h0⟩ | ⟨g, cap, cur, rfl, hg, hgc, r2, r3, r4, r5⟩
  · have hLn : L = [] := List.eq_nil_of_length_eq_zero h0
    subst hLn
    clear hrow hnil hlen h0
    go_wp2_with fail
    refine (DeleteFuncStrNil_any _ _ _ _).mono ?_
    rintro e w3 ⟨rfl, rfl⟩
    go_wp2_with fail
    go_ret
    exact ⟨_, rfl, by rw [HN.out]; exact .inl ⟨rfl, _, _, rfl⟩, Hc2.out, fun a n c e => by cases e⟩
  · have hH : Holds encStr w2 g 0 L.toArray := fun j hj => by
      simp only [List.size_toArray] at hj
      have hcj : cur[j]? = some (encStr L[j]) := by
        have h5 := congrArg (fun l => l[j]?) r5
        simp only [List.getElem?_map] at h5
        rw [List.getElem?_take_of_lt (by omega), Array.getElem?_toList, List.getElem?_eq_getElem hj] at h5
        exact h5
      rw [Nat.zero_add, cell_of hgc, hcj]
      exact ⟨by simp [hj], free_of hgc j⟩
    have hne : w.heap.size ≠ g := by omega
    have hgw : w.heap.size ≤ g := by omega
    have hcon := AnyE.slices_DeleteFunc Tryz.gDelStr encStr (fun _ => rfl) (fun x => !Lib.hasPrefix x head.data.toList) 38 #[.pointer (some ⟨w.heap.size, 0, none⟩)] (enters_of Tryz.func38 (by kernel_rfl) rfl) [] zeroStr g 0 cap L.toArray w2
      (fun W x hb => list1_any x _ _ W (by rw [hb.cell (p := ⟨w.heap.size, 0, none⟩) (by have := hsz2.out; simp at this; simp; omega)]; exact Hhead.out))
      (fun n os dk x _ => list1_any x _ _ _ (by
        unfold sortWorld
        rw [cell?_grow _ _ _ (by show w.heap.size < (putRow _ _ _ _ _).heap.size; rw [size_putRow]; have := hsz2.out; simp at this; show w.heap.size < w2.heap.size; omega), cell?_putRow_other _ _ g 0 _ _ (Or.inl hne)]
        exact Hhead.out)) hH (by simp; have := hll.out; omega) (by simp; omega)
    simp only [List.size_toArray, Bool.not_not] at hcon
    obtain ⟨K, hK⟩ : ∃ K, L.filter (fun x => Lib.hasPrefix x head.data.toList) = K := ⟨_, rfl⟩
    have hKL : K.length ≤ L.length := by rw [← hK]; exact List.length_filter_le _ _
    rw [hK] at hcon HN
    change Calls Tryz.prog 37 _ _ _ at hcon
    have Hcon := box hcon
    have HH := box hH
    clear hcon hH hnil hrow hlen r2 r3 r4 r5 hg hgc hK
    go_wp2_with fail
    refine Hcon.out.mono ?_
    rintro e w3 ⟨rfl, q, rfl⟩
    go_wp2_with fail
    go_ret
    refine ⟨_, rfl, ?_, calm_put Hc2.out hgw, fun a n c e => by cases e; exact hgw⟩
    rw [HN.out]
    refine .inr ⟨g, 0, cap, by rw [List.length_map]; rfl, fun k hk => ?_⟩
    rw [List.length_map] at hk
    have hHa : Holds encStr (Sort.ahead w2 q) g 0 L.toArray := HH.out
    rw [cell?_putRow encStr _ g 0 L.toArray _ hHa (by simp; omega) k (by simp; omega)]
    simp [List.getD_eq_getElem?_getD, hk, encStr, List.getElem?_append_left]
end Go.Proofs.YtlnbehbipoahhaaGreatDoor.dk

namespace Go.Proofs.YtlnbehbipoahhaaGreatDoor.sg
open Go.Proofs.YtlnbehbipoahhaaGreatDoor.dk
def _root_.Go.Proofs.YtlnbehbipoahhaaGreatDoor.dk.DiskS.len (D : DiskS) (n : ByteArray) : Nat := match D.find n with | some f => f.now.size | none => 0
structure FoundS where
  start : Nat
  cnt : Nat
  fin : Nat
  whole : Bool
  others : List ByteArray
def findStep (size : Nat) (x : FoundS) (n : ByteArray) (k long : Nat) : FoundS :=
  if k % size ≠ 0 then { x with others := x.others ++ [n] } else
  if x.whole = false ∨ ¬ (x.cnt = 0 ∨ k = x.fin) ∨ size < long then { x with others := x.others ++ [n], whole := x.whole && decide (x.cnt = 0) } else
  { x with start := if x.cnt = 0 then k else x.start, cnt := x.cnt + 1, fin := k + long, whole := decide (long = size) }
def findOne (D : DiskS) (head : ByteArray) (size : Nat) (x : FoundS) (n : ByteArray) : FoundS :=
  match placeOf head n with
  | none => x
  | some k => findStep size x n k (D.len n)
def foundD (D : DiskS) (head : ByteArray) (size : Nat) : FoundS := (D.names head).foldl (findOne D head size) ⟨0, 0, 0, true, []⟩
def FoundS.row (x : FoundS) (head : ByteArray) (size : Nat) : RowS := ⟨head, size, x.start, x.cnt, x.fin, x.start⟩
def openD (D : DiskS) (head : ByteArray) (size : Int) : Int × DiskS × RowS :=
  if size < 16 ∨ 4096 < size then (1, D, ⟨head, 0, 0, 0, 0, 0⟩) else
  if D.down then (8, D, ⟨head, 0, 0, 0, 0, 0⟩) else
  if (foundD D head size.toNat).others = [] then (0, D, (foundD D head size.toNat).row head size.toNat) else
  ((D.delete (foundD D head size.toNat).others).1, (D.delete (foundD D head size.toNat).others).2, (foundD D head size.toNat).row head size.toNat)
structure FoundOk (size : Nat) (x : FoundS) : Prop where
  none : x.cnt = 0 → x.start = 0 ∧ x.fin = 0 ∧ x.whole = true
  fin : 0 < x.cnt → x.start + (x.cnt - 1) * size ≤ x.fin ∧ x.fin ≤ x.start + x.cnt * size
  full : 0 < x.cnt → x.whole = true → x.fin = x.start + x.cnt * size
  least : 0 < x.cnt → x.start + (x.cnt - 1) * size ≤ 99999999
  mod : x.start % size = 0
theorem FoundOk.new (size : Nat) : FoundOk size ⟨0, 0, 0, true, []⟩ := ⟨fun _ => ⟨rfl, rfl, rfl⟩, fun h => absurd h (Nat.lt_irrefl 0), fun h => absurd h (Nat.lt_irrefl 0), fun h => absurd h (Nat.lt_irrefl 0), Nat.zero_mod _⟩
theorem FoundOk.step {size : Nat} {x : FoundS} (h : FoundOk size x) (n : ByteArray) {k long : Nat} (hk : k < 100000000) : FoundOk size (findStep size x n k long) := by
  unfold findStep
  split
  · exact ⟨h.none, h.fin, h.full, h.least, h.mod⟩
  rename_i hm
  split
  · rename_i hc
    refine ⟨fun e => ?_, h.fin, fun h0 hw => ?_, h.least, h.mod⟩
    · have e' : x.cnt = 0 := e
      obtain ⟨h1, h2, h3⟩ := h.none e'
      refine ⟨h1, h2, ?_⟩
      show (x.whole && decide (x.cnt = 0)) = true
      rw [h3, e']; rfl
    · exfalso
      have hw' : (x.whole && decide (x.cnt = 0)) = true := hw
      have h0' : 0 < x.cnt := h0
      rw [Bool.and_eq_true, decide_eq_true_eq] at hw'
      omega
  · rename_i hc
    have hw : x.whole = true := by
      cases hx : x.whole
      · exact absurd (Or.inl hx) hc
      · rfl
    have hl : long ≤ size := by
      by_cases h1 : size < long
      · exact absurd (Or.inr (Or.inr h1)) hc
      · omega
    have hf : x.cnt = 0 ∨ k = x.fin := by
      by_cases h1 : x.cnt = 0 ∨ k = x.fin
      · exact h1
      · exact absurd (Or.inr (Or.inl h1)) hc
    have hm : k % size = 0 := by omega
    by_cases h0 : x.cnt = 0
    · rw [if_pos h0]
      simp only [h0]
      refine ⟨fun e => (by cases e), fun _ => ?_, fun _ hw => ?_, fun _ => ?_, hm⟩
      · show k + (0 + 1 - 1) * size ≤ k + long ∧ k + long ≤ k + (0 + 1) * size
        simp; omega
      · have hw' : decide (long = size) = true := hw
        rw [decide_eq_true_eq] at hw'
        show k + long = k + (0 + 1) * size
        simp [hw']
      · show k + (0 + 1 - 1) * size ≤ _
        simp; omega
    · have hk' : k = x.start + x.cnt * size := by rw [← h.full (by omega) hw]; exact hf.resolve_left h0
      rw [if_neg h0]
      refine ⟨fun e => (by cases e), fun _ => ?_, fun _ hw => ?_, fun _ => ?_, h.mod⟩
      · show x.start + (x.cnt + 1 - 1) * size ≤ k + long ∧ k + long ≤ x.start + (x.cnt + 1) * size
        rw [Nat.succ_mul, Nat.add_sub_cancel]; omega
      · have hw' : decide (long = size) = true := hw
        rw [decide_eq_true_eq] at hw'
        show k + long = x.start + (x.cnt + 1) * size
        rw [Nat.succ_mul]; omega
      · show x.start + (x.cnt + 1 - 1) * size ≤ _
        rw [Nat.add_sub_cancel]; omega
theorem FoundOk.one {size : Nat} {x : FoundS} (h : FoundOk size x) (D : DiskS) (head n : ByteArray) : FoundOk size (findOne D head size x n) := by
  unfold findOne
  cases hp : placeOf head n with
  | none => exact h
  | some k => exact h.step n (name_place hp).1
theorem FoundOk.all {size : Nat} (D : DiskS) (head : ByteArray) (l : List ByteArray) : ∀ x, FoundOk size x → FoundOk size (l.foldl (findOne D head size) x) := by
  induction l with
  | nil => exact fun _ h => h
  | cons n l ih => exact fun x h => ih _ (h.one D head n)
theorem FoundOk.row {size : Nat} {x : FoundS} (h : FoundOk size x) (hs : 16 ≤ size ∧ size ≤ 4096) (head : ByteArray) (hh : head.size ≤ 1000000) : RowOk (x.row head size) :=
  ⟨hs, hh, fun e => ⟨(h.none e).1, (h.none e).2.1⟩, fun e => h.fin e, fun e => h.least e, h.mod, by
    show x.start ≤ 100004095
    by_cases h0 : 0 < x.cnt
    · have := h.least h0; omega
    · have := h.none (by omega); omega⟩
theorem find_others {size : Nat} (D : DiskS) (head : ByteArray) (x : FoundS) (n : ByteArray) : (findOne D head size x n).others.length ≤ x.others.length + 1 := by
  unfold findOne findStep
  split
  · omega
  · split
    · simp
    · split <;> simp
end Go.Proofs.YtlnbehbipoahhaaGreatDoor.sg

namespace Go.Proofs.YtlnbehbipoahhaaGreatDoor.sg
open Go.Proofs.YtlnbehbipoahhaaGreatDoor.dk
structure Able (D : DiskS) (c m : Nat) : Prop where
  alive : Alive D
  cap : D.cap = (c : Int)
  size : D.size ≤ m
  few : (D.files.map (·.name)).length ≤ m
  names : ∀ s ∈ D.files.map (·.name), s.size ≤ 1000
theorem Able.mono {D : DiskS} {c m k : Nat} (h : Able D c m) (hk : m ≤ k) : Able D c k := ⟨h.alive, h.cap, Nat.le_trans h.size hk, Nat.le_trans h.few hk, h.names⟩
theorem Able.file {D : DiskS} {c m : Nat} (h : Able D c m) : ∀ f ∈ D.files, f.name.size ≤ 1000000 := fun f hf => by have := h.names f.name (List.mem_map.2 ⟨f, hf, rfl⟩); omega
theorem Able.files {D : DiskS} {c m : Nat} (h : Able D c m) : D.files.length ≤ m := by have := h.few; rwa [List.length_map] at this
theorem Able.new (c : Nat) (hc : c ≤ 16777216) : Able (dk.new c) c 0 := ⟨new_alive _, by show min (max (c : Int) 0) 16777216 = c; omega, Nat.le_refl _, Nat.le_refl _, fun s hs => by cases hs⟩
section
variable {D E : DiskS} {R : RowS} {b : List UInt8} {c m : Nat}
theorem turn_names {n : ByteArray} {g : FileS → FileS} (hg : ∀ x, (g x).name = x.name) : (D.turn n g).files.map (·.name) = D.files.map (·.name) := by
  unfold DiskS.turn
  simp only [List.map_map]
  apply List.map_congr_left
  intro x _
  simp only [Function.comp]
  split <;> simp [hg]
theorem last_names (n : ByteArray) : (D.last n).files.map (·.name) = D.files.map (·.name) := by
  unfold DiskS.last
  split
  · rfl
  · exact turn_names (fun _ => rfl)
theorem lasts_names (l : List ByteArray) : ∀ D : DiskS, (l.foldl DiskS.last D).files.map (·.name) = D.files.map (·.name) := by
  induction l with
  | nil => exact fun _ => rfl
  | cons n l ih => intro D; rw [List.foldl_cons, ih, last_names]
theorem drops_names (l : List ByteArray) : ∀ D : DiskS, ((l.foldl DiskS.drop D).files.map (·.name)).Sublist (D.files.map (·.name)) := by
  induction l with
  | nil => exact fun _ => List.Sublist.refl _
  | cons n l ih =>
    intro D
    rw [List.foldl_cons]
    refine (ih _).trans ?_
    unfold DiskS.drop
    split
    · exact List.Sublist.refl _
    · exact (List.filter_sublist).map _
theorem Able.create (h : Able D c m) {n : ByteArray} (hb : D.bytes n = none) (hn : n.size ≤ 1000) (blk : Nat) : ∃ E, D.create n blk = (0, E) ∧ But D E n ⟨#[]⟩ ∧ Able E c (m + 1) ∧ E.files = D.files ++ [⟨n, blk, ⟨#[]⟩, ⟨#[]⟩⟩] ∧ E.waits = D.waits := by
  have hh : D.has n = false := by rw [bytes_has, hb]; rfl
  obtain ⟨E, h1, h2, h3⟩ := create_but h.alive hb blk
  have he : E = { D with files := D.files ++ [⟨n, blk, ⟨#[]⟩, ⟨#[]⟩⟩] } := by
    unfold DiskS.create at h1
    rw [if_neg (by rw [h.alive.down]; decide), if_neg (by rw [hh]; decide), h.alive.doing] at h1
    cases h1; rfl
  refine ⟨E, h1, h2, ⟨h2.alive, h2.cap.trans h.cap, by rw [h3]; have := h.size; omega, ?_, ?_⟩, by rw [he], by rw [he]⟩
  · rw [he]
    show ((D.files ++ [_]).map _).length ≤ _
    have := h.few
    rw [List.map_append, List.length_append]
    simpa using this
  · rw [he]
    intro s hs
    have hs : s ∈ (D.files ++ [(⟨n, blk, ⟨#[]⟩, ⟨#[]⟩⟩ : FileS)]).map (·.name) := hs
    rw [List.map_append] at hs
    rcases List.mem_append.1 hs with hs | hs
    · exact h.names s hs
    · simp at hs; subst hs; exact hn
theorem form_create (hF : dk.Form D) {n : ByteArray} {blk : Nat} (hn : D.has n = false) (hb : ∀ f ∈ D.files, f.blk ≠ blk) (he : E.files = D.files ++ [⟨n, blk, ⟨#[]⟩, ⟨#[]⟩⟩]) (hw : E.waits = D.waits) : dk.Form E := by
  have hno : D.find n = none := by unfold DiskS.has at hn; cases hx : D.find n; rfl; rw [hx] at hn; cases hn
  refine ⟨?_, ?_, fun x hx => ?_⟩
  · rw [he, List.map_append, List.nodup_append]
    refine ⟨hF.names, by simp, fun a ha c hc e => ?_⟩
    obtain ⟨f, hf, rfl⟩ := List.mem_map.1 ha
    simp at hc
    exact find_none hno f hf (e.trans hc)
  · rw [he, List.map_append, List.nodup_append]
    refine ⟨hF.blks, by simp, fun a ha c hc e => ?_⟩
    obtain ⟨f, hf, rfl⟩ := List.mem_map.1 ha
    simp at hc
    exact hb f hf (e.trans hc)
  · rw [hw] at hx
    obtain ⟨f, hf, e⟩ := hF.live x hx
    exact ⟨f, by rw [he]; exact List.mem_append_left _ hf, e⟩
theorem Able.write (h : Able D c m) (hF : dk.Form D) {n s : ByteArray} (hb : D.bytes n = some s) (k : Nat) (t : ByteArray) (hk : k ≤ s.size) (hc : m + t.size ≤ c) : ∃ E, D.write n k t = (0, E) ∧ But D E n (laid s k t) ∧ Able E c (m + t.size) := by
  obtain ⟨E, h1, h2, h3⟩ := write_but h.alive hF hb k t hk (by rw [h.cap]; have := h.size; omega)
  have hn : E.files.map (·.name) = D.files.map (·.name) := by
    obtain ⟨f, hf, rfl⟩ := bytes_some hb
    unfold DiskS.write at h1
    rw [h.alive.down, hf] at h1
    simp only [Int.toNat_natCast] at h1
    rw [if_neg (by decide), if_neg (by omega), if_neg (by rw [h.cap]; have := h.size; omega), h.alive.doing] at h1
    cases h1
    split
    · rfl
    · exact turn_names (fun _ => rfl)
  exact ⟨E, h1, h2, h2.alive, h2.cap.trans h.cap, by have := h.size; omega, by rw [hn]; have := h.few; omega, by rw [hn]; exact h.names⟩
def segL (b : List UInt8) (size i : Nat) : List UInt8 := (b.drop (i * size)).take size
def bA (l : List UInt8) : ByteArray := ⟨l.toArray⟩
theorem bA_list (l : List UInt8) : (bA l).data.toList = l := rfl
theorem bA_size (l : List UInt8) : (bA l).size = l.length := by show l.toArray.size = _; simp
structure Holds (D : DiskS) (R : RowS) (b : List UInt8) : Prop where
  ok : RowOk R
  size : R.fin = R.start + b.length
  segs : ∀ i, i < R.cnt → D.bytes (nameB R.head (R.start + i * R.size)) = some (bA (segL b R.size i))
  only : ∀ k, k < 100000000 → D.has (nameB R.head k) = true → k ∈ R.places
def Only (D E : DiskS) (head : ByteArray) : Prop := ∀ n, (∀ k, k < 100000000 → n ≠ nameB head k) → E.bytes n = D.bytes n
theorem Only.refl (D : DiskS) (head : ByteArray) : Only D D head := fun _ _ => rfl
theorem Only.trans {F : DiskS} {head : ByteArray} (h : Only D E head) (k : Only E F head) : Only D F head := fun n hn => (k n hn).trans (h n hn)
theorem but_only {head : ByteArray} {k : Nat} (hk : k < 100000000) {s : ByteArray} (h : But D E (nameB head k) s) : Only D E head := fun n hn => h.others n (hn k hk)
theorem mem_plc {a s c k : Nat} : k ∈ plc a s c ↔ ∃ i, i < c ∧ k = a + i * s := by
  unfold plc
  rw [List.mem_map]
  constructor
  · rintro ⟨i, hi, rfl⟩; exact ⟨i, List.mem_range.1 hi, rfl⟩
  · rintro ⟨i, hi, rfl⟩; exact ⟨i, List.mem_range.2 hi, rfl⟩
theorem seg_append (b s : List UInt8) (size i : Nat) (h : i * size + size ≤ b.length) : segL (b ++ s) size i = segL b size i := by
  unfold segL
  rw [List.drop_append_of_le_length (by omega), List.take_append_of_le_length (by rw [List.length_drop]; omega)]
theorem seg_last (b s : List UInt8) (size i : Nat) (h1 : i * size ≤ b.length) (h2 : b.length + s.length ≤ i * size + size) : segL (b ++ s) size i = segL b size i ++ s := by
  unfold segL
  rw [List.drop_append_of_le_length h1, List.take_of_length_le (by rw [List.length_append, List.length_drop]; omega), List.take_of_length_le (by rw [List.length_drop]; omega)]
theorem seg_length (b : List UInt8) (size i : Nat) : (segL b size i).length = min size (b.length - i * size) := by
  unfold segL; rw [List.length_take, List.length_drop]
theorem lastp_eq (R : RowS) : R.lastp = R.start + (R.cnt - 1) * R.size := rfl
theorem Holds.lastLen (h : Holds D R b) (h0 : 0 < R.cnt) : (R.cnt - 1) * R.size ≤ b.length ∧ b.length ≤ (R.cnt - 1) * R.size + R.size := by
  have h1 := h.ok.fin h0
  have h2 := RowOk.stop (R := R) h0
  have h3 := h.size
  rw [lastp_eq] at h1 h2
  omega
theorem plc_lt {size i j : Nat} (h : i < j) : i * size + size ≤ j * size := by
  have := Nat.mul_le_mul_right size (show i + 1 ≤ j from h)
  rwa [Nat.succ_mul] at this
theorem Holds.put (h : Holds D R b) (ha : Able D c m) (hF : dk.Form D) (h0 : 0 < R.cnt) (s : ByteArray) (hs : R.fin + s.size ≤ R.stop) (hc : m + s.size ≤ c) :
    ∃ E, putD D R s = (((R.fin : Int), 0), E, R.grow s.size) ∧ Holds E (R.grow s.size) (b ++ s.data.toList) ∧ Able E c (m + s.size) ∧ Only D E R.head := by
  have hl := h.lastLen h0
  have hst := RowOk.stop (R := R) h0
  have hsz := h.size
  have hls := lastp_eq R
  have hbytes := h.segs (R.cnt - 1) (by omega)
  have hlp : R.lastp < 100000000 := by have := h.ok.least h0; omega
  have hlen : (segL b R.size (R.cnt - 1)).length = R.fin - R.lastp := by rw [seg_length]; omega
  rw [← hls] at hbytes
  obtain ⟨E, h1, h2, h3⟩ := ha.write hF hbytes (R.fin - R.lastp) s (by rw [bA_size, hlen]; exact Nat.le_refl _) hc
  refine ⟨E, by unfold putD; rw [h1]; rfl, ⟨h.ok.grow h0 hs, ?_, fun i hi => ?_, fun k hk hh => ?_⟩, h3, but_only hlp h2⟩
  · show R.fin + s.size = R.start + (b ++ s.data.toList).length
    rw [List.length_append, size_toList, hsz]; omega
  · have hi : i < R.cnt := hi
    show E.bytes (nameB R.head (R.start + i * R.size)) = some (bA (segL (b ++ s.data.toList) R.size i))
    by_cases he : i = R.cnt - 1
    · subst he
      rw [← hls, h2.this]
      congr 1
      refine ba_ext ?_
      have hz : (bA (segL b R.size (R.cnt - 1))).size = R.fin - R.lastp := by rw [bA_size, hlen]
      rw [← hz, bytes_end, bA_list, bA_list, seg_last _ _ _ _ hl.1 (by rw [size_toList]; omega)]
    · have hlt := plc_lt (size := R.size) (show i < R.cnt - 1 by omega)
      have hz := h.ok.size
      have hpi := (h.ok.place hi).2
      rw [h2.others _ (fun e => by have := name_inj (by omega) (by omega) e; omega), h.segs i hi, seg_append _ _ _ _ (by omega)]
  · have hh : E.has (nameB R.head k) = true := hh
    refine h.only k hk ?_
    rw [bytes_has] at hh ⊢
    by_cases he : k = R.lastp
    · rw [he, hbytes]; rfl
    · rwa [h2.others _ (fun e => he (name_inj hk hlp e))] at hh
theorem Holds.fresh (h : Holds D R b) (ha : Able D c m) (hF : dk.Form D) (hf : R.isFresh = false) (hl : R.fin ≤ 99999999) (hh : R.head.size ≤ 900) (blk : Nat) (hb : ∀ f ∈ D.files, f.blk ≠ blk) :
    ∃ E, freshD D R blk = (0, E, R.more) ∧ Holds E R.more b ∧ Able E c (m + 1) ∧ dk.Form E ∧ Only D E R.head := by
  obtain ⟨k1, k2⟩ := h.ok.fresh hf
  have hno : D.has (nameB R.head R.fin) = false := by
    cases hx : D.has (nameB R.head R.fin)
    · rfl
    · have := h.only R.fin (by omega) hx
      obtain ⟨i, hi, e⟩ := mem_plc.1 this
      have h1 := plc_lt (size := R.size) hi
      have h2 : R.stop = R.start + R.cnt * R.size := rfl
      have := h.ok.size
      omega
  have hnb : D.bytes (nameB R.head R.fin) = none := by
    rw [bytes_has] at hno
    cases hx : D.bytes (nameB R.head R.fin)
    · rfl
    · rw [hx] at hno; cases hno
  obtain ⟨E, h1, h2, h3, h4, h5⟩ := ha.create hnb (by rw [name_size]; omega) blk
  obtain ⟨m1, m2⟩ := h.ok.more hf hl
  refine ⟨E, by unfold freshD; rw [if_neg (by rw [hf]; decide), if_neg (by omega), h1]; rfl, ⟨m1, h.size, fun i hi => ?_, fun k hk hh => ?_⟩, h3, form_create hF hno hb h4 h5, but_only (by omega) h2⟩
  · show E.bytes (nameB R.head (R.start + i * R.size)) = some (bA (segL b R.size i))
    have hi : i < R.cnt + 1 := hi
    have hst : R.stop = R.start + R.cnt * R.size := rfl
    by_cases he : i = R.cnt
    · subst he
      rw [← hst, ← k1, h2.this]
      congr 1
      refine ba_ext ?_
      rw [bA_list]
      symm
      have hs := h.size
      have : (segL b R.size R.cnt).length = 0 := by rw [seg_length]; omega
      exact List.eq_nil_of_length_eq_zero this
    · have hpi := (h.ok.place (k := i) (by omega)).2
      have hlt := plc_lt (size := R.size) (show i < R.cnt by omega)
      have hz := h.ok.size
      rw [h2.others _ (fun e => by have := name_inj (by omega) (by omega) e; omega)]
      exact h.segs i (by omega)
  · have hh' : E.has (nameB R.head k) = true := hh
    show k ∈ plc R.start R.size (R.cnt + 1)
    rw [plc_snoc]
    by_cases he : k = R.fin
    · refine List.mem_append_right _ ?_
      rw [List.mem_singleton, he, k1]; rfl
    · refine List.mem_append_left _ (h.only k hk ?_)
      rw [bytes_has] at hh' ⊢
      rwa [h2.others _ (fun e => he (name_inj hk (by omega) e))] at hh'
def Tight (R : RowS) : Prop := R.cnt ≤ 1 ∨ R.lastp < R.fin
theorem append_bad (s : ByteArray) (blk : Nat) (h : s.size = 0 ∨ R.room < s.size) : appendD D R s blk = ((0, 1), D, R) := by unfold appendD; rw [if_pos h]
theorem Holds.append (h : Holds D R b) (ha : Able D c m) (hF : dk.Form D) (s : ByteArray) (hs : s.size ≠ 0) (hr : s.size ≤ R.room) (hc : m + s.size + 1 ≤ c) (hl : R.fin ≤ 99999999) (hh : R.head.size ≤ 900) (blk : Nat) (hb : ∀ f ∈ D.files, f.blk ≠ blk) :
    ∃ E R', appendD D R s blk = (((R.fin : Int), 0), E, R') ∧ Holds E R' (b ++ s.data.toList) ∧ Able E c (m + s.size + 1) ∧ Only D E R.head ∧ Tight R' ∧ 0 < R'.cnt ∧ R'.head = R.head ∧ R'.size = R.size ∧ R'.start = R.start ∧ R'.synced = R.synced ∧ R'.fin = R.fin + s.size := by
  have hA : ∀ (x : Int × DiskS × RowS), freshD D R blk = x → x.1 = 0 → appendD D R s blk = putD x.2.1 x.2.2 s := fun x hx h0 => by
    unfold appendD
    rw [if_neg (by omega), if_neg (by rw [ha.cap]; have := ha.size; omega), hx, if_neg (by rw [h0]; exact fun h => h rfl)]
  by_cases hf : R.isFresh = true
  · have h0 := isFresh_cnt h.ok hf
    have hfr : freshD D R blk = (0, D, R) := by unfold freshD; rw [if_pos hf]
    have hsp : R.room ≤ R.stop - R.fin := by
      have := (fresh_ok h.ok D blk).2 (by rw [hfr])
      rw [hfr] at this
      exact this.2.2
    have hfin := h.ok.fin h0
    obtain ⟨E, h1, h2, h3, h4⟩ := h.put ha hF h0 s (by omega) (by omega)
    refine ⟨E, _, by rw [hA _ hfr rfl]; exact h1, h2, h3.mono (by omega), h4, .inr ?_, h0, rfl, rfl, rfl, rfl, rfl⟩
    show R.lastp < R.fin + s.size
    omega
  · have hf : R.isFresh = false := by simpa using hf
    obtain ⟨E, h1, h2, h3, h4, h5⟩ := h.fresh ha hF hf hl hh blk hb
    obtain ⟨k1, k2⟩ := h.ok.fresh hf
    obtain ⟨m1, m2⟩ := h.ok.more hf hl
    have hst := RowOk.stop (R := R.more) (Nat.succ_pos _)
    have hroom := h.ok.room
    have e1 : R.more.size = R.size := rfl
    have e2 : R.more.fin = R.fin := rfl
    obtain ⟨G, g1, g2, g3, g4⟩ := h2.put h3 h4 (Nat.succ_pos _) s (by omega) (by omega)
    refine ⟨G, _, by rw [hA _ h1 rfl]; exact g1, g2, g3.mono (by omega), h5.trans g4, .inr ?_, Nat.succ_pos _, rfl, rfl, rfl, rfl, rfl⟩
    show R.more.lastp < R.fin + s.size
    omega
end
end Go.Proofs.YtlnbehbipoahhaaGreatDoor.sg

namespace Go.Proofs.YtlnbehbipoahhaaGreatDoor
open Go.ChangeShapes Go.WideShapes Go.ChangeAt Go.RowKit
theorem Calm.drewN {a w : World} (h : Calm a w) (n : Nat) : Calm a (w.drewN n) := ⟨h.os, h.tape, h.output, h.size, h.block⟩
end Go.Proofs.YtlnbehbipoahhaaGreatDoor

namespace Go.Proofs.YtlnbehbipoahhaaGreatDoor
open Go.ChangeShapes Go.WideShapes Go.ChangeAt Go.RowKit
open Go.Proofs.YtlnbehbipoahhaaGreatDoor.dk
def IntsAt (w : World) (v : Value) (l : List Int) : Prop :=
  ∃ a cap, v = .slice a l.length cap ∧ (l.length ≤ maxLen ∧ l.length ≤ cap) ∧ ∀ k (hk : k < l.length), ∃ b off, a = some ⟨b, off, none⟩ ∧ b < w.heap.size ∧ w.cell? ⟨b, off + k, none⟩ = some (.int .i64 l[k])
theorem IntsAt.calm {w w' : World} {v : Value} {l : List Int} (h : IntsAt w v l) (hc : Calm w w') : IntsAt w' v l := by
  obtain ⟨a, cap, h1, h2, h4⟩ := h
  refine ⟨a, cap, h1, h2, fun k hk => ?_⟩
  obtain ⟨b, off, e, hb, hcell⟩ := h4 k hk
  exact ⟨b, off, e, Nat.lt_of_lt_of_le hb hc.size, by rw [hc.cell (p := ⟨b, off + k, none⟩) hb]; exact hcell⟩
abbrev intRow (l : List Int) : List Value := l.map fun n => .int .i64 n
theorem own_calm {w w' : World} {base n : Nat} {v : Value} {e : TypeId} {size : Nat} {xs : List Value} (h : w.ownsRow base e size v n xs) (hc : Calm w w') : w'.ownsRow base e size v n xs :=
  row_same h (fun g hg => hc.block g (h.lt g hg).2)
def PairR (k : IntKind) : Reads (Int × Int) := fun _ cs x => cs = [.int k x.1, .int k x.2] ∧ (k.min ≤ x.1 ∧ x.1 ≤ k.max) ∧ k.min ≤ x.2 ∧ x.2 ≤ k.max
theorem PairR.lasts (k : IntKind) : (PairR k).Lasts := fun _ _ _ _ h _ => h
end Go.Proofs.YtlnbehbipoahhaaGreatDoor

namespace Go.Proofs.YtlnbehbipoahhaaGreatDoor
open Go.ChangeShapes Go.WideShapes Go.ChangeAt Go.RowKit
open Go.Proofs.YtlnbehbipoahhaaGreatDoor.dk
theorem row_zero {w : World} {e : TypeId} {size n B : Nat} {v : Value} {xs : List Value} (h : w.ownsRow B e size v n xs) : w.ownsRow 0 e size v n xs := by
  refine ⟨h.1, ?_⟩
  rcases h.2 with h2 | ⟨g, cap, cur, rfl, _, h3⟩
  · exact .inl h2
  · exact .inr ⟨g, cap, cur, rfl, Nat.zero_le _, h3⟩
structure OutIs (W : World) (blk B : Nat) (out : List Int) (G : Nat → Prop) : Prop where
  cell : ∃ v, W.heap[blk]? = some (.cells #[v] 54 (0, 0)) ∧ W.ownsRow B 3 1 v out.length (intRow out) ∧ ∀ b, G b ↔ b = blk ∨ v.ownBlock = some b
theorem OutIs.calm {W W' : World} {blk B : Nat} {out : List Int} {G : Nat → Prop} (h : OutIs W blk B out G) (hc : Calm W W') : OutIs W' blk B out G := by
  obtain ⟨v, h1, h2, h3⟩ := h.cell
  exact ⟨v, heap_calm hc h1, own_calm h2 hc, h3⟩
theorem OutIs.lt {W : World} {blk B : Nat} {out : List Int} {G : Nat → Prop} (h : OutIs W blk B out G) : ∀ b, G b → b < W.heap.size := fun b hb => by
  obtain ⟨v, h1, h2, h3⟩ := h.cell
  rcases (h3 b).1 hb with rfl | hb
  · exact heap_lt h1
  · exact (h2.lt b hb).2
theorem OutIs.made (w : World) : OutIs (w.alloc (.cells #[.slice none 0 0] 54)) w.heap.size w.heap.size [] (fun b => b = w.heap.size) :=
  ⟨.slice none 0 0, heap_new _ _, World.ownsRow_nil _ _ _ _, fun b => by simp [Value.ownBlock]⟩
end Go.Proofs.YtlnbehbipoahhaaGreatDoor

namespace Go.Proofs.YtlnbehbipoahhaaGreatDoor.sg
open Go.ChangeShapes Go.WideShapes Go.ChangeAt Go.RowKit
open Go.Proofs.YtlnbehbipoahhaaGreatDoor.dk
abbrev intN (l : List Nat) : List Value := l.map fun n : Nat => .int .i64 (n : Int)
def rowCells (p : Nat) (R : RowS) (v : Value) : Array Value := #[ptrTo p, .string R.head, .int .i64 R.size, v, .int .i64 R.fin, .int .i64 R.synced]
structure RowAt (w : World) (r p : Nat) (R : RowS) (v : Value) : Prop where
  at_ : w.heap[r]? = some (.cells (rowCells p R v) 56 (0, 0))
  row : w.ownsRow 0 3 1 v R.cnt (intN R.places)
  ok : RowOk R
theorem RowAt.calm {w w' : World} {r p : Nat} {R : RowS} {v : Value} (h : RowAt w r p R v) (hc : Calm w w') : RowAt w' r p R v := ⟨heap_calm hc h.at_, own_calm h.row hc, h.ok⟩
theorem RowAt.uni {w : World} {r p : Nat} {R : RowS} {v : Value} (h : RowAt w r p R v) : ∃ a cap, v = .slice a R.cnt cap ∧ R.cnt ≤ cap ∧ cap ≤ maxLen ∧ ∀ k, k < R.cnt → ∃ b, a = some ⟨b, 0, none⟩ ∧ b < w.heap.size ∧ w.cell? ⟨b, k, none⟩ = some (.int .i64 ((R.start + k * R.size : Nat) : Int)) := by
  rcases h.row.2 with ⟨rfl, hn⟩ | ⟨g, cap, cur, rfl, hb, hg, hnc, hcm, hcs, htake⟩
  · refine ⟨none, 0, by rw [hn], by omega, Nat.zero_le _, fun k hk => by omega⟩
  · refine ⟨_, cap, rfl, by omega, by omega, fun k hk => ⟨g, rfl, heap_lt hg, ?_⟩⟩
    have := h.row.cells (g := g) rfl k (.int .i64 ((R.start + k * R.size : Nat) : Int)) (by
      unfold intN RowS.places plc
      simp [hk])
    rw [add_lit] at this
    exact this
section
variable {w : World} {r p : Nat} {R : RowS} {v : Value}
theorem RowAt.cells (h : RowAt w r p R v) : w.cell? ⟨r, 0, none⟩ = some (ptrTo p) ∧ w.cell? ⟨r, 1, none⟩ = some (.string R.head) ∧ w.cell? ⟨r, 2, none⟩ = some (.int .i64 R.size) ∧ w.cell? ⟨r, 3, none⟩ = some v ∧ w.cell? ⟨r, 4, none⟩ = some (.int .i64 R.fin) ∧ w.cell? ⟨r, 5, none⟩ = some (.int .i64 R.synced) :=
  ⟨cell_of h.at_ 0, cell_of h.at_ 1, cell_of h.at_ 2, cell_of h.at_ 3, cell_of h.at_ 4, cell_of h.at_ 5⟩
theorem Begin_any (w : World) (h : RowAt w r p R v) : Calls Tryz.prog 14 #[ptrTo r] w fun e w' => e = .returned (.int .i64 (R.start : Int)) ∧ w = w' := by
  obtain ⟨c0, c1, c2, c3, c4, c5⟩ := h.cells
  have hlt := heap_lt h.at_
  obtain ⟨a, cap, rfl, hcap, hmx, hel⟩ := h.uni
  have hnone := h.ok.none
  clear h
  by_cases h0 : R.cnt = 0
  · have h1 := (hnone h0).1
    rw [h1]
    rw [h0] at c3 hcap
    clear hel hnone h1 h0
    go_enter Tryz.func14, Tryz.ntmps14
    go_wp2_with fail
    go_ret
    exact ⟨rfl, rfl⟩
  · obtain ⟨b, rfl, hb, hc⟩ := hel 0 (by omega)
    rw [Nat.zero_mul, Nat.add_zero] at hc
    have h1 : ((R.cnt : Int) == 0) = false := beq_eq_false_iff_ne.2 (by omega)
    clear hel hnone
    go_enter Tryz.func14, Tryz.ntmps14
    go_wp2_with fail
    go_ret
    exact ⟨rfl, rfl⟩
theorem End_any (w : World) (h : RowAt w r p R v) : Calls Tryz.prog 15 #[ptrTo r] w fun e w' => e = .returned (.int .i64 (R.fin : Int)) ∧ w = w' := by
  obtain ⟨c0, c1, c2, c3, c4, c5⟩ := h.cells
  have hlt := heap_lt h.at_
  clear h
  go_enter Tryz.func15, Tryz.ntmps15
  go_wp2_with fail
  go_ret
  exact ⟨rfl, rfl⟩
theorem Synced_any (w : World) (h : RowAt w r p R v) : Calls Tryz.prog 16 #[ptrTo r] w fun e w' => e = .returned (.int .i64 (R.synced : Int)) ∧ w = w' := by
  obtain ⟨c0, c1, c2, c3, c4, c5⟩ := h.cells
  have hlt := heap_lt h.at_
  clear h
  go_enter Tryz.func16, Tryz.ntmps16
  go_wp2_with fail
  go_ret
  exact ⟨rfl, rfl⟩
theorem Room_row (w : World) (h : RowAt w r p R v) : Calls Tryz.prog 17 #[ptrTo r] w fun e w' => e = .returned (.int .i64 (R.room : Int)) ∧ ∃ n, w' = w.drewN n := by
  obtain ⟨c0, c1, c2, c3, c4, c5⟩ := h.cells
  have hlt := heap_lt h.at_
  obtain ⟨a, cap, rfl, hcap, hmx, hel⟩ := h.uni
  have hz := h.ok.size
  have hle := h.ok.le
  by_cases h0 : 0 < R.cnt
  · obtain ⟨b, rfl, hb, hc⟩ := hel (R.cnt - 1) (by omega)
    have hst := RowOk.stop h0
    have hlf := h.ok.least h0
    have hls : R.start + (R.cnt - 1) * R.size = R.lastp := rfl
    rw [hls] at hc
    have hfew := h.ok.few
    have q1 : IntKind.i64.wrap ((R.cnt : Int) - 1) = ((R.cnt - 1 : Nat) : Int) := by rw [IntWalk.i64_in _ (by omega)]; omega
    have q2 : IntKind.i64.wrap ((R.lastp : Int) + R.size) = ((R.stop : Nat) : Int) := by rw [IntWalk.i64_in _ (by omega)]; omega
    have q3 : IntKind.i64.wrap ((R.stop : Int) - R.fin) = (R.stop : Int) - R.fin := IntWalk.i64_in _ (by omega)
    have hroom : R.room = if R.fin < R.stop then R.stop - R.fin else R.size := by unfold RowS.room; by_cases h1 : R.fin < R.stop <;> simp [h0, h1]
    rw [hroom]
    obtain ⟨n, hn⟩ : ∃ n, R.cnt = n := ⟨_, rfl⟩
    obtain ⟨m, hm⟩ : ∃ m, n - 1 = m := ⟨_, rfl⟩
    obtain ⟨lp, hlp⟩ : ∃ m, R.lastp = m := ⟨_, rfl⟩
    obtain ⟨st, hst2⟩ : ∃ m, R.stop = m := ⟨_, rfl⟩
    rw [hn] at c3 hc h0 hcap q1
    rw [hm] at hc q1
    rw [hlp] at hc q2 hst
    rw [hst2] at q2 q3 hst ⊢
    have hmn : m < n := by omega
    clear h hel hlf hls hroom hfew hz
    by_cases h1 : R.fin < st
    · rw [if_pos h1]
      have h2 : ((st - R.fin : Nat) : Int) = (st : Int) - R.fin := by omega
      rw [h2]
      have t1 : decide ((R.fin : Int) < st) = true := decide_eq_true (by omega)
      clear hst hle
      go_enter Tryz.func17, Tryz.ntmps17
      go_wp2_with (first | go_quiet (fail) | fail)
      go_ret
      exact ⟨rfl, _, World.drewN_drewN _ _ _⟩
    · rw [if_neg h1]
      have t1 : decide ((R.fin : Int) < st) = false := decide_eq_false (by omega)
      clear hst hle
      go_enter Tryz.func17, Tryz.ntmps17
      go_wp2_with (first | go_quiet (fail) | fail)
      go_ret
      exact ⟨rfl, _, rfl⟩
  · have h1 : R.cnt = 0 := by omega
    have hroom : R.room = R.size := by unfold RowS.room; rw [if_neg (fun h => h0 h.1)]
    rw [hroom]
    rw [h1] at c3
    clear h hel hz hle hroom
    go_enter Tryz.func17, Tryz.ntmps17
    go_wp2_with (first | go_quiet (fail) | fail)
    go_ret
    exact ⟨rfl, _, rfl⟩
theorem quiet_of {f : FuncId} {args : Array Value} {w : World} {n : Nat} {v : Value}
    (h : Calls Tryz.prog f args (w.drewN n) fun e w' => e = .returned v ∧ ∃ m, w' = (w.drewN n).drewN m) : Calls Tryz.prog f args (w.drewN n) fun e w'' => e = .returned v ∧ ∃ m, w'' = w.drewN m :=
  h.mono fun _ _ ⟨he, m, hm⟩ => ⟨he, n + m, hm.trans (World.drewN_drewN _ _ _)⟩
theorem RowAt.drewN (h : RowAt w r p R v) (n : Nat) : RowAt (w.drewN n) r p R v := h.calm ((Calm.refl w).drewN n)
theorem of_any (k : Nat) (w : World) (h : RowAt w r p R v) (hk : k ≤ 1000000000) : Calls Tryz.prog 28 #[ptrTo r, .int .i64 (k : Int)] w fun e w' => e = .returned (.int .i64 ((k / R.size * R.size : Nat) : Int)) ∧ ∃ n, w' = w.drewN n := by
  obtain ⟨c0, c1, c2, c3, c4, c5⟩ := h.cells
  have hlt := heap_lt h.at_
  have hz := h.ok.size
  have hq : Int.tdiv (k : Int) R.size = ((k / R.size : Nat) : Int) := by rw [Int.tdiv_eq_ediv_of_nonneg (by omega)]; rfl
  have hm := Nat.div_mul_le_self k R.size
  have hd := Nat.div_le_self k R.size
  obtain ⟨y, hy⟩ : ∃ y, k / R.size = y := ⟨_, rfl⟩
  rw [hy] at hq hm hd ⊢
  have q1 : IntKind.i64.wrap (y : Int) = (y : Int) := IntWalk.i64_in _ (by omega)
  have q2 : IntKind.i64.wrap ((y : Int) * R.size) = ((y * R.size : Nat) : Int) := by rw [← Int.natCast_mul, IntWalk.i64_in _ (by omega)]
  have hne : ((R.size : Int) == 0) = false := beq_eq_false_iff_ne.2 (by omega)
  have hne2 : ¬ (R.size : Int) = 0 := by omega
  clear h hm hd hz hy
  go_enter Tryz.func28, Tryz.ntmps28
  go_wp2_with (first | go_quiet (fail) | fail)
  go_ret
  exact ⟨rfl, _, rfl⟩
theorem Begin_quiet (w : World) (n : Nat) (h : RowAt w r p R v) : Calls Tryz.prog 14 #[ptrTo r] (w.drewN n) fun e w' => e = .returned (.int .i64 (R.start : Int)) ∧ ∃ m, w' = w.drewN m :=
  (Begin_any _ (h.drewN n)).mono fun _ _ ⟨he, hm⟩ => ⟨he, n, hm.symm⟩
theorem of_quiet (k : Nat) (w : World) (n : Nat) (h : RowAt w r p R v) (hk : k ≤ 1000000000) : Calls Tryz.prog 28 #[ptrTo r, .int .i64 (k : Int)] (w.drewN n) fun e w' => e = .returned (.int .i64 ((k / R.size * R.size : Nat) : Int)) ∧ ∃ m, w' = w.drewN m :=
  quiet_of (of_any k _ (h.drewN n) hk)
theorem Room_quiet (w : World) (n : Nat) (h : RowAt w r p R v) : Calls Tryz.prog 17 #[ptrTo r] (w.drewN n) fun e w' => e = .returned (.int .i64 (R.room : Int)) ∧ ∃ m, w' = w.drewN m :=
  quiet_of (Room_row _ (h.drewN n))
theorem Left_any (k : Int) (w : World) (h : RowAt w r p R v) : Calls Tryz.prog 18 #[ptrTo r, .int .i64 k] w fun e w' => e = .returned (.int .i64 (R.left k : Int)) ∧ ∃ n, w' = w.drewN n := by
  obtain ⟨c0, c1, c2, c3, c4, c5⟩ := h.cells
  have hlt := heap_lt h.at_
  have hz := h.ok.size
  have hle := h.ok.le
  have HB := box h
  by_cases h1 : k < R.start
  · have hl : R.left k = 0 := by unfold RowS.left; rw [if_pos (.inl h1)]
    rw [hl]
    clear h hz hle hl
    go_enter Tryz.func18, Tryz.ntmps18
    go_wp2_with fail
    refine (Begin_any _ HB.out).mono ?_
    rintro e w' ⟨rfl, rfl⟩
    go_wp2_with fail
    go_ret
    exact ⟨rfl, 0, rfl⟩
  by_cases h2 : (R.fin : Int) ≤ k
  · have hl : R.left k = 0 := by unfold RowS.left; rw [if_pos (.inr h2)]
    rw [hl]
    clear h hz hle hl
    go_enter Tryz.func18, Tryz.ntmps18
    go_wp2_with fail
    refine (Begin_any _ HB.out).mono ?_
    rintro e w' ⟨rfl, rfl⟩
    go_wp2_with fail
    go_ret
    exact ⟨rfl, 0, rfl⟩
  obtain ⟨j, rfl⟩ : ∃ j : Nat, k = j := ⟨k.toNat, by omega⟩
  have HO := box (fun n => of_quiet j w n h (by omega))
  have hl : R.left j = min (j / R.size * R.size + R.size) R.fin - j := by unfold RowS.left; rw [if_neg (by omega), Int.toNat_natCast]
  have hm := Nat.div_mul_le_self j R.size
  have hm2 := Nat.lt_div_mul_add (a := j) (show 0 < R.size by omega)
  rw [hl]
  obtain ⟨y, hy⟩ : ∃ y, j / R.size * R.size = y := ⟨_, rfl⟩
  rw [hy] at hm hm2 HO ⊢
  have b1 : R.fin ≤ 100004095 := hle.1
  have b2 : y + R.size ≤ 100008191 := by omega
  have b3 : R.start ≤ j := by omega
  have b4 : j < R.fin := by omega
  have b5 : j < y + R.size := by omega
  clear h hz hle hl hm hm2 h1 h2 hy
  go_enter Tryz.func18, Tryz.ntmps18
  go_wp2_with fail
  refine (Begin_any _ HB.out).mono ?_
  rintro e w' ⟨rfl, rfl⟩
  go_wp2_with (first | go_quiet ((go_at_call 28; exact HO.out _)) | fail)
  all_goals
    go_ret
    refine ⟨ret_int ?_, _, rfl⟩
    omega
end
end Go.Proofs.YtlnbehbipoahhaaGreatDoor.sg
