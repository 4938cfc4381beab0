/- Lemmas for this claim. -/
import Derived.Shelf.Strings.Builder1
import Derived.Shelf.Strings.Builder2
import Derived.Shelf.Strings.Trim
import Derived.Shelf.Small.Utf8
import Derived.Shelf.Small.Bits
import Derived.Shelf.Small.Strs
import Derived.Shelf.Small.Wraps
import Derived.Shelf.Strings.BuilderF
import Derived.Shelf.Strings.BuilderK
import Derived.Shelf.Strings.Builder2Cap
import Derived.Shelf.Strconv.Atoi
import Derived.Shelf.Strconv.Itoa0
import Derived.Shelf.Strconv.Itoa1
import Derived.Shelf.LaysM
import Derived.Shelf.Strconv.Itoa2
import Derived.Shelf.Strconv.Itoa3
import Derived.Shelf.Strings.Search1
import Derived.Shelf.Sort.Plain
import Derived.Shelf.GgClosure.StringsIndexFunc
import Derived.Ground.GgwProg
import Derived.Shelf.GgClosure.StringsIndexFuncTop
import Derived.Shelf.Strings.Prefix
import Derived.Shelf.Strings.Runes
import Derived.Shelf.Strings.AsciiSet
import Derived.Shelf.Bits.Mul64
import Derived.Shelf.Strings.Repeat
import Derived.Shelf.Unicode.DecodeSlow
import Derived.Shelf.Unicode.DecodeAny
import Derived.Shelf.Unicode.DecodeLast
import Derived.Shelf.Strings.BuilderCap
import Derived.Shelf.Slices.Equal
import Derived.Ground.Names2Prog
import Derived.Shelf.Slices.Clone
import Derived.Shelf.Slices.CompactS
import Derived.Shelf.Slices.SearchI
import Derived.Shelf.Slices.Cells
import Derived.Shelf.Slices.In.SortNone
import Derived.Shelf.Slices.Empties2
import Derived.Ground.SlgnProg
import Derived.Shelf.SlicesE.Equal
import Derived.Shelf.SlicesE.Compact
import Derived.Ground.SlgfProg
import Derived.Shelf.SlicesE.IndexFunc
import Derived.Shelf.SlicesE.DeleteFunc
import Derived.Test.YtjpokaifbnkmhaaGreatDoorProg
import Derived.Test.YtjpokaifbnkmhaaGreatDoorPk12
set_option maxRecDepth 100000
namespace Go.Proofs
open Go.Shelf
def Tryz.lays169_ren : Go.Shelf.Ren := ⟨fun | 169 => 195 | n => n, fun | 70 => 234 | 9 => 9 | 0 => 0 | 72 => 236 | 37 => 149 | 127 => 264 | 3 => 3 | 5 => 5 | n => n, fun | n => n⟩
theorem Tryz.lays169 : Go.Proofs.Lays.n169 Tryz.prog Tryz.lays169_ren := {
 mixed := by kernel_rfl
 f169 := Tryz.func195.trans (congrArg some (by kernel_rfl))
 t0 := Tryz.underlying0
 a0 := Tryz.isAgg0
 z0 := Tryz.sizeOf0
 v0 := Tryz.zeroValue0
 t3 := Tryz.underlying3
 a3 := Tryz.isAgg3
 z3 := Tryz.sizeOf3
 v3 := Tryz.zeroValue3
 t9 := Tryz.underlying9
 a9 := Tryz.isAgg9
 z9 := Tryz.sizeOf9
 v9 := Tryz.zeroValue9
 t37 := Tryz.underlying149
 a37 := Tryz.isAgg149
 z37 := Tryz.sizeOf149
 v37 := Tryz.zeroValue149
 t70 := Tryz.underlying234
 a70 := Tryz.isAgg234
 z70 := Tryz.sizeOf234
 v70 := Tryz.zeroValue234
 t72 := Tryz.underlying236
 a72 := Tryz.isAgg236
 z72 := Tryz.sizeOf236
 v72 := Tryz.zeroValue236
 t127 := Tryz.underlying264
 a127 := Tryz.isAgg264
 z127 := Tryz.sizeOf264
 v127 := Tryz.zeroValue264 }
theorem Tryz.Builder_Extra_169 : Builder.Extra Tryz.prog Tryz.lays169_ren := {
 sizeBuilder := by kernel_rfl
 liesBuilder := by kernel_rfl
 t5 := Tryz.underlying5
 a5 := Tryz.isAgg5
 z5 := Tryz.sizeOf5
 v5 := Tryz.zeroValue5
 infoByte := by kernel_rfl
 cellsByte := by kernel_rfl
 sizeByte := by kernel_rfl
 neB5 := by decide }
open Go.RowKit in
theorem Tryz.Builder_String_any (B b : Nat) (l : List UInt8) (w : World) (h : Lib.IsBuilder 236 5 B b (Lib.byteCells l) w) (hBw : B ≤ w.heap.size) :
  Calls Tryz.prog 195 #[.pointer (some ⟨b, 0, none⟩)] w fun e w' => e = .returned (.string ⟨l.toArray⟩) ∧ Below B w w' := Any.Builder_String_any Tryz.lays169 Tryz.Builder_Extra_169 B b l w h hBw
def Tryz.lays160_ren : Go.Shelf.Ren := ⟨fun | 160 => 202 | 232 => 235 | 231 => 234 | 227 => 236 | 234 => 238 | 233 => 237 | 236 => 240 | 235 => 239 | 228 => 261 | 271 => 264 | 151 => 263 | 197 => 262 | 120 => 278 | 152 => 277 | 260 => 276 | 137 => 283 | 119 => 284 | 224 => 285 | 225 => 286 | 217 => 289 | 266 => 290 | n => n, fun | 9 => 9 | 4 => 4 | 3 => 3 | 5 => 5 | 117 => 275 | 116 => 274 | 0 => 0 | 124 => 278 | 21 => 21 | 105 => 296 | 46 => 175 | 119 => 317 | 139 => 320 | 138 => 319 | n => n, fun | 3 => 6 | 4 => 7 | n => n⟩
theorem Tryz.lays160 : Go.Proofs.Lays.n160 Tryz.prog Tryz.lays160_ren := {
 mixed := by kernel_rfl
 f119 := Tryz.func284.trans (congrArg some (by kernel_rfl))
 f120 := Tryz.func278.trans (congrArg some (by kernel_rfl))
 f137 := Tryz.func283.trans (congrArg some (by kernel_rfl))
 f151 := Tryz.func263.trans (congrArg some (by kernel_rfl))
 f152 := Tryz.func277.trans (congrArg some (by kernel_rfl))
 f160 := Tryz.func202.trans (congrArg some (by kernel_rfl))
 f197 := Tryz.func262.trans (congrArg some (by kernel_rfl))
 f217 := Tryz.func289.trans (congrArg some (by kernel_rfl))
 f224 := Tryz.func285.trans (congrArg some (by kernel_rfl))
 f225 := Tryz.func286.trans (congrArg some (by kernel_rfl))
 f227 := Tryz.func236.trans (congrArg some (by kernel_rfl))
 f228 := Tryz.func261.trans (congrArg some (by kernel_rfl))
 f231 := Tryz.func234.trans (congrArg some (by kernel_rfl))
 f232 := Tryz.func235.trans (congrArg some (by kernel_rfl))
 f233 := Tryz.func237.trans (congrArg some (by kernel_rfl))
 f234 := Tryz.func238.trans (congrArg some (by kernel_rfl))
 f235 := Tryz.func239.trans (congrArg some (by kernel_rfl))
 f236 := Tryz.func240.trans (congrArg some (by kernel_rfl))
 f260 := Tryz.func276.trans (congrArg some (by kernel_rfl))
 f266 := Tryz.func290.trans (congrArg some (by kernel_rfl))
 f271 := Tryz.func264.trans (congrArg some (by kernel_rfl))
 t0 := Tryz.underlying0
 a0 := Tryz.isAgg0
 z0 := Tryz.sizeOf0
 v0 := Tryz.zeroValue0
 t3 := Tryz.underlying3
 a3 := Tryz.isAgg3
 z3 := Tryz.sizeOf3
 v3 := Tryz.zeroValue3
 t4 := Tryz.underlying4
 a4 := Tryz.isAgg4
 z4 := Tryz.sizeOf4
 v4 := Tryz.zeroValue4
 t5 := Tryz.underlying5
 a5 := Tryz.isAgg5
 z5 := Tryz.sizeOf5
 v5 := Tryz.zeroValue5
 t9 := Tryz.underlying9
 a9 := Tryz.isAgg9
 z9 := Tryz.sizeOf9
 v9 := Tryz.zeroValue9
 t21 := Tryz.underlying21
 a21 := Tryz.isAgg21
 z21 := Tryz.sizeOf21
 v21 := Tryz.zeroValue21
 t46 := Tryz.underlying175
 a46 := Tryz.isAgg175
 z46 := Tryz.sizeOf175
 v46 := Tryz.zeroValue175
 t105 := Tryz.underlying296
 a105 := Tryz.isAgg296
 z105 := Tryz.sizeOf296
 v105 := Tryz.zeroValue296
 t116 := Tryz.underlying274
 a116 := Tryz.isAgg274
 z116 := Tryz.sizeOf274
 t117 := Tryz.underlying275
 a117 := Tryz.isAgg275
 z117 := Tryz.sizeOf275
 v117 := Tryz.zeroValue275
 t119 := Tryz.underlying317
 a119 := Tryz.isAgg317
 z119 := Tryz.sizeOf317
 t124 := Tryz.underlying278
 a124 := Tryz.isAgg278
 z124 := Tryz.sizeOf278
 v124 := Tryz.zeroValue278
 t138 := Tryz.underlying319
 a138 := Tryz.isAgg319
 z138 := Tryz.sizeOf319
 v138 := Tryz.zeroValue319
 t139 := Tryz.underlying320
 a139 := Tryz.isAgg320
 z139 := Tryz.sizeOf320
 v139 := Tryz.zeroValue320
 g3 := by kernel_rfl
 g4 := by kernel_rfl }
def Tryz.lays103_ren : Go.Shelf.Ren := ⟨fun | 103 => 188 | 210 => 226 | 206 => 146 | n => n, fun | 9 => 9 | 4 => 4 | 24 => 111 | 3 => 3 | n => n, fun | n => n⟩
theorem Tryz.lays103 : Go.Proofs.Lays.n103 Tryz.prog Tryz.lays103_ren := {
 mixed := by kernel_rfl
 f103 := Tryz.func188.trans (congrArg some (by kernel_rfl))
 f206 := Tryz.func146.trans (congrArg some (by kernel_rfl))
 f210 := Tryz.func226.trans (congrArg some (by kernel_rfl))
 t3 := Tryz.underlying3
 a3 := Tryz.isAgg3
 z3 := Tryz.sizeOf3
 v3 := Tryz.zeroValue3
 t4 := Tryz.underlying4
 a4 := Tryz.isAgg4
 z4 := Tryz.sizeOf4
 v4 := Tryz.zeroValue4
 t9 := Tryz.underlying9
 a9 := Tryz.isAgg9
 z9 := Tryz.sizeOf9
 v9 := Tryz.zeroValue9
 t24 := Tryz.underlying111
 a24 := Tryz.isAgg111
 z24 := Tryz.sizeOf111
 v24 := Tryz.zeroValue111 }
open Go.RowKit in
theorem Tryz.strings_CutPrefix (s p : ByteArray) (w : World) :
  Calls Tryz.prog 188 #[.string s, .string p] w fun e w' => e = .returned (.tuple #[.string ⟨(Lib.trimPrefix s.data.toList p.data.toList).toArray⟩, .bool (Lib.hasPrefix s.data.toList p.data.toList)]) ∧ w' = w := Any.strings_CutPrefix Tryz.lays103 s p w
def Tryz.lays172_ren : Go.Shelf.Ren := ⟨fun | 172 => 203 | 244 => 241 | 245 => 242 | 247 => 265 | 279 => 266 | 280 => 267 | 281 => 268 | 282 => 269 | 287 => 279 | 316 => 280 | 171 => 108 | 205 => 281 | 321 => 287 | 322 => 288 | 243 => 153 | 246 => 196 | 283 => 229 | 284 => 230 | 285 => 231 | 286 => 232 | 129 => 166 | 317 => 257 | 318 => 258 | 319 => 259 | 320 => 260 | 337 => 274 | 338 => 275 | n => n, fun | 9 => 9 | 3 => 3 | 75 => 238 | 76 => 239 | 4 => 4 | 5 => 5 | 167 => 299 | 37 => 149 | 0 => 0 | 85 => 300 | 2 => 2 | 168 => 302 | 53 => 216 | 175 => 310 | 46 => 175 | 210 => 313 | 127 => 264 | 145 => 325 | 143 => 323 | 21 => 21 | 171 => 265 | 173 => 267 | 212 => 293 | 51 => 178 | 20 => 20 | 213 => 294 | 232 => 315 | 233 => 316 | 80 => 241 | n => n, fun | 15 => 1 | 16 => 2 | 17 => 0 | 18 => 4 | 19 => 5 | n => n⟩
theorem Tryz.lays172 : Go.Proofs.Lays.n172 Tryz.prog Tryz.lays172_ren := {
 mixed := by kernel_rfl
 f129 := Tryz.func166.trans (congrArg some (by kernel_rfl))
 f171 := Tryz.func108.trans (congrArg some (by kernel_rfl))
 f172 := Tryz.func203.trans (congrArg some (by kernel_rfl))
 f205 := Tryz.func281.trans (congrArg some (by kernel_rfl))
 f243 := Tryz.func153.trans (congrArg some (by kernel_rfl))
 f244 := Tryz.func241.trans (congrArg some (by kernel_rfl))
 f245 := Tryz.func242.trans (congrArg some (by kernel_rfl))
 f246 := Tryz.func196.trans (congrArg some (by kernel_rfl))
 f247 := Tryz.func265.trans (congrArg some (by kernel_rfl))
 f279 := Tryz.func266.trans (congrArg some (by kernel_rfl))
 f280 := Tryz.func267.trans (congrArg some (by kernel_rfl))
 f281 := Tryz.func268.trans (congrArg some (by kernel_rfl))
 f282 := Tryz.func269.trans (congrArg some (by kernel_rfl))
 f283 := Tryz.func229.trans (congrArg some (by kernel_rfl))
 f284 := Tryz.func230.trans (congrArg some (by kernel_rfl))
 f285 := Tryz.func231.trans (congrArg some (by kernel_rfl))
 f286 := Tryz.func232.trans (congrArg some (by kernel_rfl))
 f287 := Tryz.func279.trans (congrArg some (by kernel_rfl))
 f316 := Tryz.func280.trans (congrArg some (by kernel_rfl))
 f317 := Tryz.func257.trans (congrArg some (by kernel_rfl))
 f318 := Tryz.func258.trans (congrArg some (by kernel_rfl))
 f319 := Tryz.func259.trans (congrArg some (by kernel_rfl))
 f320 := Tryz.func260.trans (congrArg some (by kernel_rfl))
 f321 := Tryz.func287.trans (congrArg some (by kernel_rfl))
 f322 := Tryz.func288.trans (congrArg some (by kernel_rfl))
 f337 := Tryz.func274.trans (congrArg some (by kernel_rfl))
 f338 := Tryz.func275.trans (congrArg some (by kernel_rfl))
 t0 := Tryz.underlying0
 a0 := Tryz.isAgg0
 z0 := Tryz.sizeOf0
 v0 := Tryz.zeroValue0
 t2 := Tryz.underlying2
 a2 := Tryz.isAgg2
 z2 := Tryz.sizeOf2
 v2 := Tryz.zeroValue2
 t3 := Tryz.underlying3
 a3 := Tryz.isAgg3
 z3 := Tryz.sizeOf3
 v3 := Tryz.zeroValue3
 t4 := Tryz.underlying4
 a4 := Tryz.isAgg4
 z4 := Tryz.sizeOf4
 v4 := Tryz.zeroValue4
 t5 := Tryz.underlying5
 a5 := Tryz.isAgg5
 z5 := Tryz.sizeOf5
 v5 := Tryz.zeroValue5
 t9 := Tryz.underlying9
 a9 := Tryz.isAgg9
 z9 := Tryz.sizeOf9
 v9 := Tryz.zeroValue9
 t20 := Tryz.underlying20
 a20 := Tryz.isAgg20
 z20 := Tryz.sizeOf20
 v20 := Tryz.zeroValue20
 t21 := Tryz.underlying21
 a21 := Tryz.isAgg21
 z21 := Tryz.sizeOf21
 v21 := Tryz.zeroValue21
 t37 := Tryz.underlying149
 a37 := Tryz.isAgg149
 z37 := Tryz.sizeOf149
 v37 := Tryz.zeroValue149
 t46 := Tryz.underlying175
 a46 := Tryz.isAgg175
 z46 := Tryz.sizeOf175
 v46 := Tryz.zeroValue175
 t51 := Tryz.underlying178
 a51 := Tryz.isAgg178
 z51 := Tryz.sizeOf178
 v51 := Tryz.zeroValue178
 t53 := Tryz.underlying216
 a53 := Tryz.isAgg216
 z53 := Tryz.sizeOf216
 v53 := Tryz.zeroValue216
 t75 := Tryz.underlying238
 a75 := Tryz.isAgg238
 z75 := Tryz.sizeOf238
 v75 := Tryz.zeroValue238
 t76 := Tryz.underlying239
 a76 := Tryz.isAgg239
 z76 := Tryz.sizeOf239
 v76 := Tryz.zeroValue239
 t85 := Tryz.underlying300
 a85 := Tryz.isAgg300
 z85 := Tryz.sizeOf300
 v85 := Tryz.zeroValue300
 t127 := Tryz.underlying264
 a127 := Tryz.isAgg264
 z127 := Tryz.sizeOf264
 v127 := Tryz.zeroValue264
 t143 := Tryz.underlying323
 a143 := Tryz.isAgg323
 z143 := Tryz.sizeOf323
 v143 := Tryz.zeroValue323
 t145 := Tryz.underlying325
 a145 := Tryz.isAgg325
 z145 := Tryz.sizeOf325
 v145 := Tryz.zeroValue325
 t167 := Tryz.underlying299
 a167 := Tryz.isAgg299
 z167 := Tryz.sizeOf299
 v167 := Tryz.zeroValue299
 t168 := Tryz.underlying302
 a168 := Tryz.isAgg302
 z168 := Tryz.sizeOf302
 v168 := Tryz.zeroValue302
 t171 := Tryz.underlying265
 a171 := Tryz.isAgg265
 z171 := Tryz.sizeOf265
 v171 := Tryz.zeroValue265
 t173 := Tryz.underlying267
 a173 := Tryz.isAgg267
 z173 := Tryz.sizeOf267
 v173 := Tryz.zeroValue267
 t175 := Tryz.underlying310
 a175 := Tryz.isAgg310
 z175 := Tryz.sizeOf310
 v175 := Tryz.zeroValue310
 t210 := Tryz.underlying313
 a210 := Tryz.isAgg313
 z210 := Tryz.sizeOf313
 v210 := Tryz.zeroValue313
 t212 := Tryz.underlying293
 a212 := Tryz.isAgg293
 z212 := Tryz.sizeOf293
 v212 := Tryz.zeroValue293
 t213 := Tryz.underlying294
 a213 := Tryz.isAgg294
 z213 := Tryz.sizeOf294
 t232 := Tryz.underlying315
 a232 := Tryz.isAgg315
 z232 := Tryz.sizeOf315
 v232 := Tryz.zeroValue315
 t233 := Tryz.underlying316
 a233 := Tryz.isAgg316
 z233 := Tryz.sizeOf316
 v233 := Tryz.zeroValue316
 g15 := by kernel_rfl
 g16 := by kernel_rfl
 g17 := by kernel_rfl
 g18 := by kernel_rfl
 g19 := by kernel_rfl }
open Go.RowKit in
theorem Tryz.strconv_Atoi (s : ByteArray) (n : Int) (hl : s.size ≤ 18) (h : Lib.atoi s.data.toList = some n) (w : World) :
  Calls Tryz.prog 203 #[.string s] w fun e w' => e = .returned (.tuple #[.int .i64 n, .nilIface]) ∧ ∃ t, w' = Lib.bytesWorld w 5 t := Any.strconv_Atoi Tryz.lays172 s n hl h w
def Tryz.laysM171_ren : Go.Shelf.Ren := ⟨fun | 171 => 108 | 243 => 153 | 246 => 196 | 283 => 229 | 284 => 230 | 285 => 231 | 286 => 232 | 129 => 166 | 317 => 257 | 318 => 258 | 319 => 259 | 320 => 260 | 337 => 274 | 338 => 275 | n => n, fun | 3 => 3 | 9 => 9 | 2 => 2 | 4 => 4 | 171 => 265 | 0 => 0 | 53 => 216 | 37 => 149 | 5 => 5 | 173 => 267 | 212 => 293 | 51 => 178 | 20 => 20 | 213 => 294 | 46 => 175 | 232 => 315 | 233 => 316 | n => n, fun | 17 => 0 | 18 => 4 | 19 => 5 | n => n⟩
theorem Tryz.laysM171 : Go.Proofs.LaysM.n171 Tryz.prog Tryz.laysM171_ren := {
 mixed := by kernel_rfl
 f129 := Tryz.func166.trans (congrArg some (by kernel_rfl))
 f171 := Tryz.func108.trans (congrArg some (by kernel_rfl))
 f243 := Tryz.func153.trans (congrArg some (by kernel_rfl))
 f246 := Tryz.func196.trans (congrArg some (by kernel_rfl))
 f283 := Tryz.func229.trans (congrArg some (by kernel_rfl))
 f284 := Tryz.func230.trans (congrArg some (by kernel_rfl))
 f285 := Tryz.func231.trans (congrArg some (by kernel_rfl))
 f286 := Tryz.func232.trans (congrArg some (by kernel_rfl))
 f317 := Tryz.func257.trans (congrArg some (by kernel_rfl))
 f318 := Tryz.func258.trans (congrArg some (by kernel_rfl))
 f319 := Tryz.func259.trans (congrArg some (by kernel_rfl))
 f320 := Tryz.func260.trans (congrArg some (by kernel_rfl))
 f337 := Tryz.func274.trans (congrArg some (by kernel_rfl))
 f338 := Tryz.func275.trans (congrArg some (by kernel_rfl))
 t0 := Tryz.underlying0
 a0 := Tryz.isAgg0
 z0 := Tryz.sizeOf0
 v0 := Tryz.zeroValue0
 t2 := Tryz.underlying2
 a2 := Tryz.isAgg2
 z2 := Tryz.sizeOf2
 v2 := Tryz.zeroValue2
 t3 := Tryz.underlying3
 a3 := Tryz.isAgg3
 z3 := Tryz.sizeOf3
 v3 := Tryz.zeroValue3
 t4 := Tryz.underlying4
 a4 := Tryz.isAgg4
 z4 := Tryz.sizeOf4
 v4 := Tryz.zeroValue4
 t5 := Tryz.underlying5
 a5 := Tryz.isAgg5
 z5 := Tryz.sizeOf5
 v5 := Tryz.zeroValue5
 t9 := Tryz.underlying9
 a9 := Tryz.isAgg9
 z9 := Tryz.sizeOf9
 v9 := Tryz.zeroValue9
 t20 := Tryz.underlying20
 a20 := Tryz.isAgg20
 z20 := Tryz.sizeOf20
 v20 := Tryz.zeroValue20
 t37 := Tryz.underlying149
 a37 := Tryz.isAgg149
 z37 := Tryz.sizeOf149
 v37 := Tryz.zeroValue149
 t46 := Tryz.underlying175
 a46 := Tryz.isAgg175
 z46 := Tryz.sizeOf175
 v46 := Tryz.zeroValue175
 t51 := Tryz.underlying178
 a51 := Tryz.isAgg178
 z51 := Tryz.sizeOf178
 v51 := Tryz.zeroValue178
 t53 := Tryz.underlying216
 a53 := Tryz.isAgg216
 z53 := Tryz.sizeOf216
 v53 := Tryz.zeroValue216
 t171 := Tryz.underlying265
 a171 := Tryz.isAgg265
 z171 := Tryz.sizeOf265
 v171 := Tryz.zeroValue265
 t173 := Tryz.underlying267
 a173 := Tryz.isAgg267
 z173 := Tryz.sizeOf267
 v173 := Tryz.zeroValue267
 t212 := Tryz.underlying293
 a212 := Tryz.isAgg293
 z212 := Tryz.sizeOf293
 v212 := Tryz.zeroValue293
 t213 := Tryz.underlying294
 a213 := Tryz.isAgg294
 z213 := Tryz.sizeOf294
 t232 := Tryz.underlying315
 a232 := Tryz.isAgg315
 z232 := Tryz.sizeOf315
 v232 := Tryz.zeroValue315
 t233 := Tryz.underlying316
 a233 := Tryz.isAgg316
 z233 := Tryz.sizeOf316
 v233 := Tryz.zeroValue316
 g17 := by kernel_rfl
 g18 := by kernel_rfl
 g19 := by kernel_rfl
 i0 := by kernel_rfl
 i2 := by kernel_rfl
 i3 := by kernel_rfl
 i4 := by kernel_rfl
 i5 := by kernel_rfl
 i9 := by kernel_rfl
 i20 := by kernel_rfl
 i37 := by kernel_rfl
 i46 := by kernel_rfl
 i51 := by kernel_rfl
 i53 := by kernel_rfl
 i171 := by kernel_rfl
 i173 := by kernel_rfl
 i212 := by kernel_rfl
 i232 := by kernel_rfl
 i233 := by kernel_rfl
 m17 := by kernel_rfl
 m18 := by kernel_rfl
 m19 := by kernel_rfl }
open Go.RowKit Go.Sort Go.Lib in
theorem Tryz.strconv_Itoa (n : Int) (h0 : -9223372036854775808 ≤ n) (h1 : n ≤ 9223372036854775807) (w : World) (htab : Lib.TabIs Tryz.prog w "internal/strconv.uint64pow10" .u64 Lib.pow10Tab) :
  Calls Tryz.prog 108 #[.int .i64 n] w fun e w' => e = .returned (.string ⟨(Lib.itoa n).toArray⟩) ∧ ∃ k os, w' = grow (w.drewN k) os := Any.strconv_Itoa Tryz.laysM171 n h0 h1 w htab
def Tryz.lays190_ren : Go.Shelf.Ren := ⟨fun | 190 => 143 | 125 => 115 | 258 => 186 | 128 => 165 | 129 => 166 | 302 => 217 | 303 => 218 | 304 => 219 | 305 => 220 | 306 => 221 | 307 => 222 | 308 => 223 | 309 => 224 | 310 => 225 | 333 => 253 | 329 => 198 | 330 => 199 | 334 => 254 | 335 => 255 | 336 => 116 | 344 => 273 | n => n, fun | 31 => 60 | 9 => 9 | 3 => 3 | 46 => 175 | 0 => 0 | 51 => 178 | 53 => 216 | 4 => 4 | 183 => 209 | 182 => 208 | 131 => 94 | 5 => 5 | 218 => 244 | 222 => 248 | 228 => 269 | 229 => 270 | n => n, fun | n => n⟩
theorem Tryz.lays190 : Go.Proofs.Lays.n190 Tryz.prog Tryz.lays190_ren := {
 mixed := by kernel_rfl
 f125 := Tryz.func115.trans (congrArg some (by kernel_rfl))
 f128 := Tryz.func165.trans (congrArg some (by kernel_rfl))
 f129 := Tryz.func166.trans (congrArg some (by kernel_rfl))
 f190 := Tryz.func143.trans (congrArg some (by kernel_rfl))
 f258 := Tryz.func186.trans (congrArg some (by kernel_rfl))
 f302 := Tryz.func217.trans (congrArg some (by kernel_rfl))
 f303 := Tryz.func218.trans (congrArg some (by kernel_rfl))
 f304 := Tryz.func219.trans (congrArg some (by kernel_rfl))
 f305 := Tryz.func220.trans (congrArg some (by kernel_rfl))
 f306 := Tryz.func221.trans (congrArg some (by kernel_rfl))
 f307 := Tryz.func222.trans (congrArg some (by kernel_rfl))
 f308 := Tryz.func223.trans (congrArg some (by kernel_rfl))
 f309 := Tryz.func224.trans (congrArg some (by kernel_rfl))
 f310 := Tryz.func225.trans (congrArg some (by kernel_rfl))
 f329 := Tryz.func198.trans (congrArg some (by kernel_rfl))
 f330 := Tryz.func199.trans (congrArg some (by kernel_rfl))
 f333 := Tryz.func253.trans (congrArg some (by kernel_rfl))
 f334 := Tryz.func254.trans (congrArg some (by kernel_rfl))
 f335 := Tryz.func255.trans (congrArg some (by kernel_rfl))
 f336 := Tryz.func116.trans (congrArg some (by kernel_rfl))
 f344 := Tryz.func273.trans (congrArg some (by kernel_rfl))
 t0 := Tryz.underlying0
 a0 := Tryz.isAgg0
 z0 := Tryz.sizeOf0
 v0 := Tryz.zeroValue0
 t3 := Tryz.underlying3
 a3 := Tryz.isAgg3
 z3 := Tryz.sizeOf3
 v3 := Tryz.zeroValue3
 t4 := Tryz.underlying4
 a4 := Tryz.isAgg4
 z4 := Tryz.sizeOf4
 v4 := Tryz.zeroValue4
 t5 := Tryz.underlying5
 a5 := Tryz.isAgg5
 z5 := Tryz.sizeOf5
 v5 := Tryz.zeroValue5
 t9 := Tryz.underlying9
 a9 := Tryz.isAgg9
 z9 := Tryz.sizeOf9
 v9 := Tryz.zeroValue9
 t31 := Tryz.underlying60
 a31 := Tryz.isAgg60
 z31 := Tryz.sizeOf60
 v31 := Tryz.zeroValue60
 t46 := Tryz.underlying175
 a46 := Tryz.isAgg175
 z46 := Tryz.sizeOf175
 v46 := Tryz.zeroValue175
 t51 := Tryz.underlying178
 a51 := Tryz.isAgg178
 z51 := Tryz.sizeOf178
 v51 := Tryz.zeroValue178
 t53 := Tryz.underlying216
 a53 := Tryz.isAgg216
 z53 := Tryz.sizeOf216
 v53 := Tryz.zeroValue216
 t131 := Tryz.underlying94
 a131 := Tryz.isAgg94
 z131 := Tryz.sizeOf94
 v131 := Tryz.zeroValue94
 t182 := Tryz.underlying208
 a182 := Tryz.isAgg208
 z182 := Tryz.sizeOf208
 v182 := Tryz.zeroValue208
 t183 := Tryz.underlying209
 a183 := Tryz.isAgg209
 z183 := Tryz.sizeOf209
 v183 := Tryz.zeroValue209
 t218 := Tryz.underlying244
 a218 := Tryz.isAgg244
 z218 := Tryz.sizeOf244
 v218 := Tryz.zeroValue244
 t222 := Tryz.underlying248
 a222 := Tryz.isAgg248
 z222 := Tryz.sizeOf248
 v222 := Tryz.zeroValue248
 t228 := Tryz.underlying269
 a228 := Tryz.isAgg269
 z228 := Tryz.sizeOf269
 v228 := Tryz.zeroValue269
 t229 := Tryz.underlying270
 a229 := Tryz.isAgg270
 z229 := Tryz.sizeOf270
 v229 := Tryz.zeroValue270 }
open Go.Sort Go.RowKit in
theorem Tryz.slices_Sort_string (blk off cap : Nat) (ss : List (List UInt8)) (w : World) (hH : Holds encStr w blk off ss.toArray) (hblk : blk < w.heap.size) (hsz : ss.length < 4611686018427387904) :
  Calls Tryz.prog 143 #[.slice (some ⟨blk, off, none⟩) ss.length cap] w fun e w' =>
   e = .returned (.tuple #[]) ∧ ∃ n os, w' = grow (putRow encStr (Sort.ahead w n) blk off (ss.mergeSort fun x y => decide (x ≤ y)).toArray) os := Any.slices_Sort_string Tryz.lays190 blk off cap ss w hH hblk hsz
def Tryz.laysGw15_ren : Go.Shelf.Ren := ⟨fun | 15 => 190 | 20 => 227 | n => n, fun | 9 => 9 | 23 => 233 | 3 => 3 | 4 => 4 | 0 => 0 | 21 => 21 | n => n, fun | n => n⟩
theorem Tryz.laysGw15 : Go.Proofs.LaysGw.n15 Tryz.prog Tryz.laysGw15_ren := {
 mixed := by kernel_rfl
 f15 := Tryz.func190.trans (congrArg some (by kernel_rfl))
 f20 := Tryz.func227.trans (congrArg some (by kernel_rfl))
 t0 := Tryz.underlying0
 a0 := Tryz.isAgg0
 z0 := Tryz.sizeOf0
 v0 := Tryz.zeroValue0
 i0 := by kernel_rfl
 t3 := Tryz.underlying3
 a3 := Tryz.isAgg3
 z3 := Tryz.sizeOf3
 v3 := Tryz.zeroValue3
 i3 := by kernel_rfl
 t4 := Tryz.underlying4
 a4 := Tryz.isAgg4
 z4 := Tryz.sizeOf4
 v4 := Tryz.zeroValue4
 i4 := by kernel_rfl
 t9 := Tryz.underlying9
 a9 := Tryz.isAgg9
 z9 := Tryz.sizeOf9
 v9 := Tryz.zeroValue9
 i9 := by kernel_rfl
 t21 := Tryz.underlying21
 a21 := Tryz.isAgg21
 z21 := Tryz.sizeOf21
 v21 := Tryz.zeroValue21
 i21 := by kernel_rfl
 t23 := Tryz.underlying233
 a23 := Tryz.isAgg233
 z23 := Tryz.sizeOf233
 v23 := Tryz.zeroValue233
 i23 := by kernel_rfl }
open Go.RowKit Go.Lib in
theorem Tryz.strings_IndexFunc (g : Nat) (lb : Array Value) (eg : ∀ args w, (callFunc g args).run Tryz.prog w = .ok (.enter g args) w) (p : Nat → Bool) (s : ByteArray) (w : World) (hp : PredAt Tryz.prog g lb encR p w) :
  Calls Tryz.prog 190 #[.string s, .func (.func g) #[] lb] w fun e w' => e = .returned (.int .i64 (Lib.idxFunc p true s)) ∧ Below w.heap.size w w' := Any.strings_IndexFunc Tryz.laysGw15 g lb eg p s w hp
def Tryz.lays99_ren : Go.Shelf.Ren := ⟨fun | 99 => 100 | 206 => 146 | n => n, fun | 9 => 9 | 4 => 4 | 3 => 3 | n => n, fun | n => n⟩
theorem Tryz.lays99 : Go.Proofs.Lays.n99 Tryz.prog Tryz.lays99_ren := {
 mixed := by kernel_rfl
 f99 := Tryz.func100.trans (congrArg some (by kernel_rfl))
 f206 := Tryz.func146.trans (congrArg some (by kernel_rfl))
 t3 := Tryz.underlying3
 a3 := Tryz.isAgg3
 z3 := Tryz.sizeOf3
 v3 := Tryz.zeroValue3
 t4 := Tryz.underlying4
 a4 := Tryz.isAgg4
 z4 := Tryz.sizeOf4
 v4 := Tryz.zeroValue4
 t9 := Tryz.underlying9
 a9 := Tryz.isAgg9
 z9 := Tryz.sizeOf9
 v9 := Tryz.zeroValue9 }
open Go.RowKit Go.Lib in
theorem Tryz.strings_HasPrefix (s p : ByteArray) (w : World) :
  Calls Tryz.prog 100 #[.string s, .string p] w fun e w' => e = .returned (.bool (Lib.hasPrefix s.data.toList p.data.toList)) ∧ w' = w := Any.strings_HasPrefix Tryz.lays99 s p w
def Tryz.lays105_ren : Go.Shelf.Ren := ⟨fun | 105 => 177 | 212 => 210 | 99 => 100 | 165 => 211 | 166 => 193 | 170 => 212 | 169 => 195 | 263 => 250 | 264 => 251 | 206 => 146 | 240 => 228 | 241 => 252 | 276 => 256 | 277 => 272 | n => n, fun | 9 => 9 | 3 => 3 | 4 => 4 | 20 => 20 | 0 => 0 | 46 => 175 | 109 => 253 | 5 => 5 | 72 => 236 | 76 => 239 | 51 => 178 | 146 => 283 | 53 => 216 | 148 => 285 | 70 => 234 | 37 => 149 | 75 => 238 | 127 => 264 | 164 => 290 | 80 => 241 | n => n, fun | n => n⟩
theorem Tryz.lays105 : Go.Proofs.Lays.n105 Tryz.prog Tryz.lays105_ren := {
 mixed := by kernel_rfl
 f99 := Tryz.func100.trans (congrArg some (by kernel_rfl))
 f105 := Tryz.func177.trans (congrArg some (by kernel_rfl))
 f165 := Tryz.func211.trans (congrArg some (by kernel_rfl))
 f166 := Tryz.func193.trans (congrArg some (by kernel_rfl))
 f169 := Tryz.func195.trans (congrArg some (by kernel_rfl))
 f170 := Tryz.func212.trans (congrArg some (by kernel_rfl))
 f206 := Tryz.func146.trans (congrArg some (by kernel_rfl))
 f212 := Tryz.func210.trans (congrArg some (by kernel_rfl))
 f240 := Tryz.func228.trans (congrArg some (by kernel_rfl))
 f241 := Tryz.func252.trans (congrArg some (by kernel_rfl))
 f263 := Tryz.func250.trans (congrArg some (by kernel_rfl))
 f264 := Tryz.func251.trans (congrArg some (by kernel_rfl))
 f276 := Tryz.func256.trans (congrArg some (by kernel_rfl))
 f277 := Tryz.func272.trans (congrArg some (by kernel_rfl))
 t0 := Tryz.underlying0
 a0 := Tryz.isAgg0
 z0 := Tryz.sizeOf0
 v0 := Tryz.zeroValue0
 t3 := Tryz.underlying3
 a3 := Tryz.isAgg3
 z3 := Tryz.sizeOf3
 v3 := Tryz.zeroValue3
 t4 := Tryz.underlying4
 a4 := Tryz.isAgg4
 z4 := Tryz.sizeOf4
 v4 := Tryz.zeroValue4
 t5 := Tryz.underlying5
 a5 := Tryz.isAgg5
 z5 := Tryz.sizeOf5
 v5 := Tryz.zeroValue5
 t9 := Tryz.underlying9
 a9 := Tryz.isAgg9
 z9 := Tryz.sizeOf9
 v9 := Tryz.zeroValue9
 t20 := Tryz.underlying20
 a20 := Tryz.isAgg20
 z20 := Tryz.sizeOf20
 v20 := Tryz.zeroValue20
 t37 := Tryz.underlying149
 a37 := Tryz.isAgg149
 z37 := Tryz.sizeOf149
 v37 := Tryz.zeroValue149
 t46 := Tryz.underlying175
 a46 := Tryz.isAgg175
 z46 := Tryz.sizeOf175
 v46 := Tryz.zeroValue175
 t51 := Tryz.underlying178
 a51 := Tryz.isAgg178
 z51 := Tryz.sizeOf178
 v51 := Tryz.zeroValue178
 t53 := Tryz.underlying216
 a53 := Tryz.isAgg216
 z53 := Tryz.sizeOf216
 v53 := Tryz.zeroValue216
 t70 := Tryz.underlying234
 a70 := Tryz.isAgg234
 z70 := Tryz.sizeOf234
 v70 := Tryz.zeroValue234
 t72 := Tryz.underlying236
 a72 := Tryz.isAgg236
 z72 := Tryz.sizeOf236
 v72 := Tryz.zeroValue236
 t75 := Tryz.underlying238
 a75 := Tryz.isAgg238
 z75 := Tryz.sizeOf238
 v75 := Tryz.zeroValue238
 t76 := Tryz.underlying239
 a76 := Tryz.isAgg239
 z76 := Tryz.sizeOf239
 v76 := Tryz.zeroValue239
 t109 := Tryz.underlying253
 a109 := Tryz.isAgg253
 z109 := Tryz.sizeOf253
 v109 := Tryz.zeroValue253
 t127 := Tryz.underlying264
 a127 := Tryz.isAgg264
 z127 := Tryz.sizeOf264
 v127 := Tryz.zeroValue264
 t146 := Tryz.underlying283
 a146 := Tryz.isAgg283
 z146 := Tryz.sizeOf283
 v146 := Tryz.zeroValue283
 t148 := Tryz.underlying285
 a148 := Tryz.isAgg285
 z148 := Tryz.sizeOf285
 v148 := Tryz.zeroValue285
 t164 := Tryz.underlying290
 a164 := Tryz.isAgg290
 z164 := Tryz.sizeOf290
 v164 := Tryz.zeroValue290 }
theorem Tryz.Builder_Extra_105 : Builder.Extra Tryz.prog Tryz.lays105_ren := {
 sizeBuilder := by kernel_rfl
 liesBuilder := by kernel_rfl
 t5 := Tryz.underlying5
 a5 := Tryz.isAgg5
 z5 := Tryz.sizeOf5
 v5 := Tryz.zeroValue5
 infoByte := by kernel_rfl
 cellsByte := by kernel_rfl
 sizeByte := by kernel_rfl
 neB5 := by decide }
open Go.RowKit Go.Lib in
theorem Tryz.strings_Repeat (s : ByteArray) (c : Nat) (w : World) (hc : c ≤ 9223372036854775807) (hlen : s.size * c ≤ 140737488355328) :
  Calls Tryz.prog 177 #[.string s, .int .i64 c] w fun e w' => e = .returned (.string ⟨(Lib.repeatL s.data.toList c).toArray⟩) ∧ Below w.heap.size w w' := Any.strings_Repeat Tryz.lays105 Tryz.Builder_Extra_105 s c w hc hlen
def Tryz.lays193_ren : Go.Shelf.Ren := ⟨fun | 193 => 249 | n => n, fun | 31 => 60 | 9 => 9 | 4 => 4 | 3 => 3 | 0 => 0 | n => n, fun | n => n⟩
theorem Tryz.lays193 : Go.Proofs.Lays.n193 Tryz.prog Tryz.lays193_ren := {
 mixed := by kernel_rfl
 f193 := Tryz.func249.trans (congrArg some (by kernel_rfl))
 t0 := Tryz.underlying0
 a0 := Tryz.isAgg0
 z0 := Tryz.sizeOf0
 v0 := Tryz.zeroValue0
 t3 := Tryz.underlying3
 a3 := Tryz.isAgg3
 z3 := Tryz.sizeOf3
 v3 := Tryz.zeroValue3
 t4 := Tryz.underlying4
 a4 := Tryz.isAgg4
 z4 := Tryz.sizeOf4
 v4 := Tryz.zeroValue4
 t9 := Tryz.underlying9
 a9 := Tryz.isAgg9
 z9 := Tryz.sizeOf9
 v9 := Tryz.zeroValue9
 t31 := Tryz.underlying60
 a31 := Tryz.isAgg60
 z31 := Tryz.sizeOf60
 v31 := Tryz.zeroValue60 }
open Go.RowKit Go.Lib in
theorem Tryz.slices_Equal_string (b1 o1 n c b2 o2 m d : Nat) (xs ys : List ByteArray) (w : World) (hx : n ≤ xs.length) (hy : m ≤ ys.length) (hbig : n ≤ 9223372036854775807) (hbig2 : m ≤ 9223372036854775807) (hc1 : ∀ j, j < xs.length → w.cell? ⟨b1, o1 + j, none⟩ = some (.string (xs.getD j ByteArray.empty))) (hc2 : ∀ j, j < ys.length → w.cell? ⟨b2, o2 + j, none⟩ = some (.string (ys.getD j ByteArray.empty))) :
  Calls Tryz.prog 249 #[.slice (some ⟨b1, o1, none⟩) n c, .slice (some ⟨b2, o2, none⟩) m d] w fun e w' => e = .returned (.bool (decide (xs.take n = ys.take m))) ∧ ∃ q, w' = w.drewN q := (Any.slices_Equal_string Tryz.lays193 b1 o1 n c b2 o2 m d xs ys w hx hy hbig hbig2 hc1 hc2).mono fun e w' h => ⟨h.1.trans (congrArg (fun b => Ending.returned (.bool b)) (decide_eq_decide.2 Iff.rfl)), h.2⟩
open Go.RowKit Go.Lib in
theorem Tryz.slices_Equal_string_empty (a1 a2 : Option Addr) (c m d : Nat) (w : World) (hbig2 : m ≤ 9223372036854775807) :
  Calls Tryz.prog 249 #[.slice a1 0 c, .slice a2 m d] w fun e w' => e = .returned (.bool (decide (m = 0))) ∧ w' = w := Any.slices_Equal_string_empty Tryz.lays193 a1 a2 c m d w hbig2
def Tryz.laysNm215_ren : Go.Shelf.Ren := ⟨fun | 15 => 83 | n => n, fun | 22 => 69 | 3 => 3 | 4 => 4 | n => n, fun | n => n⟩
theorem Tryz.laysNm215 : Go.Proofs.Lays2.n15 Tryz.prog Tryz.laysNm215_ren := {
 mixed := by kernel_rfl
 f15 := Tryz.func83.trans (congrArg some (by kernel_rfl))
 t3 := Tryz.underlying3
 a3 := Tryz.isAgg3
 z3 := Tryz.sizeOf3
 v3 := Tryz.zeroValue3
 t4 := Tryz.underlying4
 a4 := Tryz.isAgg4
 z4 := Tryz.sizeOf4
 v4 := Tryz.zeroValue4
 t22 := Tryz.underlying69
 a22 := Tryz.isAgg69
 z22 := Tryz.sizeOf69
 v22 := Tryz.zeroValue69
 i3 := by kernel_rfl }
open Go.RowKit Go.Lib in
theorem Tryz.slices_Clone_int (b off n c : Nat) (zs : List Int) (w : World) (hz : n ≤ zs.length) (hbig : n * 8 ≤ 140737488355328) (hc : ∀ j, j < zs.length → w.cell? ⟨b, off + j, none⟩ = some (.int .i64 (zs.getD j 0))) :
  Calls Tryz.prog 83 #[.slice (some ⟨b, off, none⟩) n c] w fun e w' => ∃ v', e = .returned v' ∧ w'.ownsRow w.heap.size 3 1 v' n ((zs.take n).map (Value.int .i64)) ∧ v' ≠ .slice none 0 0 ∧ Below w.heap.size w w' := Any.slices_Clone_int Tryz.laysNm215 b off n c zs w hz hbig hc
open Go.RowKit Go.Lib in
theorem Tryz.slices_Clone_int_nil (n c : Nat) (w : World) :
  Calls Tryz.prog 83 #[.slice none n c] w fun e w' => e = .returned (.slice none 0 0) ∧ w' = w := Any.slices_Clone_int_nil Tryz.laysNm215 n c w
open Go.RowKit Go.Lib in
theorem Tryz.slices_Clone_int_zero (a : Addr) (c : Nat) (w : World) :
  Calls Tryz.prog 83 #[.slice (some a) 0 c] w fun e w' => ∃ v', e = .returned v' ∧ w'.ownsRow w.heap.size 3 1 v' 0 [] ∧ v' ≠ .slice none 0 0 ∧ Below w.heap.size w w' := Any.slices_Clone_int_zero Tryz.laysNm215 a c w
def Tryz.lays194_ren : Go.Shelf.Ren := ⟨fun | 194 => 271 | n => n, fun | 31 => 60 | 9 => 9 | 3 => 3 | 4 => 4 | 0 => 0 | n => n, fun | n => n⟩
theorem Tryz.lays194 : Go.Proofs.Lays.n194 Tryz.prog Tryz.lays194_ren := {
 mixed := by kernel_rfl
 f194 := Tryz.func271.trans (congrArg some (by kernel_rfl))
 t0 := Tryz.underlying0
 a0 := Tryz.isAgg0
 z0 := Tryz.sizeOf0
 v0 := Tryz.zeroValue0
 t3 := Tryz.underlying3
 a3 := Tryz.isAgg3
 z3 := Tryz.sizeOf3
 v3 := Tryz.zeroValue3
 t4 := Tryz.underlying4
 a4 := Tryz.isAgg4
 z4 := Tryz.sizeOf4
 v4 := Tryz.zeroValue4
 t9 := Tryz.underlying9
 a9 := Tryz.isAgg9
 z9 := Tryz.sizeOf9
 v9 := Tryz.zeroValue9
 t31 := Tryz.underlying60
 a31 := Tryz.isAgg60
 z31 := Tryz.sizeOf60
 v31 := Tryz.zeroValue60 }
open Go.RowKit Go.Lib Go.Sort in
theorem Tryz.slices_Compact_string (blk off cap : Nat) (zs : List (List UInt8)) (w : World) (hH : Holds encStr w blk off zs.toArray) (hsz : zs.length ≤ 9223372036854775807) (hcap : zs.length ≤ cap) :
  Calls Tryz.prog 271 #[.slice (some ⟨blk, off, none⟩) zs.length cap] w fun e w' => e = .returned (.slice (some ⟨blk, off, none⟩) (Lib.compact zs).length cap) ∧ ∃ q, w' = putRow encStr (Sort.ahead w q) blk off (Lib.compact zs ++ List.replicate (zs.length - (Lib.compact zs).length) []).toArray := Any.slices_Compact_string Tryz.lays194 blk off cap zs w hH hsz hcap
open Go.RowKit Go.Lib Go.Sort in
theorem Tryz.slices_Compact_string_empty (a : Option Addr) (cap : Nat) (w : World) :
  Calls Tryz.prog 271 #[.slice a 0 cap] w fun e w' => e = .returned (.slice a 0 cap) ∧ w' = w := Any.slices_Compact_string_empty Tryz.lays194 a cap w
def Tryz.laysNm225_ren : Go.Shelf.Ren := ⟨fun | 25 => 128 | 31 => 173 | 32 => 174 | 37 => 117 | n => n, fun | 22 => 69 | 3 => 3 | 4 => 4 | 40 => 175 | 0 => 0 | n => n, fun | n => n⟩
theorem Tryz.laysNm225 : Go.Proofs.Lays2.n25 Tryz.prog Tryz.laysNm225_ren := {
 mixed := by kernel_rfl
 f25 := Tryz.func128.trans (congrArg some (by kernel_rfl))
 f31 := Tryz.func173.trans (congrArg some (by kernel_rfl))
 f32 := Tryz.func174.trans (congrArg some (by kernel_rfl))
 f37 := Tryz.func117.trans (congrArg some (by kernel_rfl))
 t0 := Tryz.underlying0
 a0 := Tryz.isAgg0
 z0 := Tryz.sizeOf0
 v0 := Tryz.zeroValue0
 t3 := Tryz.underlying3
 a3 := Tryz.isAgg3
 z3 := Tryz.sizeOf3
 v3 := Tryz.zeroValue3
 t4 := Tryz.underlying4
 a4 := Tryz.isAgg4
 z4 := Tryz.sizeOf4
 v4 := Tryz.zeroValue4
 t22 := Tryz.underlying69
 a22 := Tryz.isAgg69
 z22 := Tryz.sizeOf69
 v22 := Tryz.zeroValue69
 t40 := Tryz.underlying175
 a40 := Tryz.isAgg175
 z40 := Tryz.sizeOf175
 v40 := Tryz.zeroValue175 }
open Go.RowKit Go.Lib in
theorem Tryz.slices_BinarySearch_int (b off n c : Nat) (zs : List Int) (x : Int) (w : World) (hz : n ≤ zs.length) (hbig : n < 4611686018427387904) (hc : ∀ j, j < zs.length → w.cell? ⟨b, off + j, none⟩ = some (.int .i64 (zs.getD j 0))) (hs : (zs.take n).Pairwise (· ≤ ·)) :
  Calls Tryz.prog 128 #[.slice (some ⟨b, off, none⟩) n c, .int .i64 x] w fun e w' => e = .returned (.tuple #[.int .i64 ((zs.take n).countP (· < x) : Nat), .bool ((zs.take n).contains x)]) ∧ ∃ q, w' = w.drewN q := Any.slices_BinarySearch_int Tryz.laysNm225 b off n c zs x w hz hbig hc hs
open Go.RowKit Go.Sort in
theorem Tryz.slices_Sort_string_none (p : Option Addr) (cap : Nat) (w : World) :
  Calls Tryz.prog 143 #[.slice p 0 cap] w fun e w' => e = .returned (.tuple #[]) ∧ w' = w := Any.slices_Sort_string_none Tryz.lays190 p cap w
open Go.RowKit Go.Lib in
theorem Tryz.slices_Equal_string_lens (a1 a2 : Option Addr) (n c m d : Nat) (w : World) (hnm : n ≠ m) :
  Calls Tryz.prog 249 #[.slice a1 n c, .slice a2 m d] w fun e w' => e = .returned (.bool false) ∧ w' = w := Any.slices_Equal_string_lens Tryz.lays193 a1 a2 n c m d w hnm
def Tryz.laysSlH8_f243_ren : Go.Shelf.Ren := ⟨fun | 8 => 243 | 6 => 122 | n => n, fun | 22 => 69 | 23 => 3 | 25 => 176 | 4 => 4 | 3 => 3 | 0 => 0 | n => n, fun | n => n⟩
theorem Tryz.laysSlH8_f243 : Go.Proofs.SlLaysH.n8 Tryz.prog Tryz.laysSlH8_f243_ren := {
 mixed := by kernel_rfl
 f6 := ⟨Tryz.f122.name, by decide, Tryz.func122.trans (congrArg some (by kernel_rfl))⟩
 f8 := ⟨Tryz.f243.name, by decide, Tryz.func243.trans (congrArg some (by kernel_rfl))⟩
 t0 := Tryz.underlying0
 a0 := Tryz.isAgg0
 z0 := Tryz.sizeOf0
 v0 := Tryz.zeroValue0
 t3 := Tryz.underlying3
 a3 := Tryz.isAgg3
 z3 := Tryz.sizeOf3
 v3 := Tryz.zeroValue3
 t4 := Tryz.underlying4
 a4 := Tryz.isAgg4
 z4 := Tryz.sizeOf4
 v4 := Tryz.zeroValue4
 t22 := Tryz.underlying69
 a22 := Tryz.isAgg69
 z22 := Tryz.sizeOf69
 v22 := Tryz.zeroValue69
 a23 := Tryz.isAgg3
 z23 := Tryz.sizeOf3
 t25 := Tryz.underlying176
 a25 := Tryz.isAgg176
 z25 := Tryz.sizeOf176
 v25 := Tryz.zeroValue176 }
open Go.RowKit Go.Lib in
theorem Tryz.slices_ContainsFunc {α : Type} [Inhabited α] (enc : α → Value) (p : α → Bool) (g : Nat) (lb : Array Value) (eg : ∀ args w, (callFunc g args).run Tryz.prog w = .ok (.enter g args) w) (b off n c : Nat) (zs : List α) (w : World) (hp : PredAt Tryz.prog g lb enc p w) (hz : n ≤ zs.length) (hbig : n ≤ 9223372036854775807) (hc : ∀ j, j < zs.length → w.cell? ⟨b, off + j, none⟩ = some (enc zs[j]!)) :
  Calls Tryz.prog 243 #[.slice (some ⟨b, off, none⟩) n c, .func (.func g) #[] lb] w fun e w' => e = .returned (.bool ((zs.take n).any p)) ∧ ∃ q, w' = w.drewN q := AnyE.slices_ContainsFunc Tryz.laysSlH8_f243 enc p g lb eg b off n c zs w hp hz hbig hc
def Tryz.laysSlH10_f98_ren : Go.Shelf.Ren := ⟨fun | 10 => 98 | 6 => 145 | n => n, fun | 22 => 60 | 23 => 9 | 25 => 35 | 3 => 3 | 4 => 4 | 0 => 0 | n => n, fun | n => n⟩
theorem Tryz.laysSlH10_f98 : Go.Proofs.SlLaysH.n10 Tryz.prog Tryz.laysSlH10_f98_ren := {
 mixed := by kernel_rfl
 f6 := ⟨Tryz.f145.name, by decide, Tryz.func145.trans (congrArg some (by kernel_rfl))⟩
 f10 := ⟨Tryz.f98.name, by decide, Tryz.func98.trans (congrArg some (by kernel_rfl))⟩
 t0 := Tryz.underlying0
 a0 := Tryz.isAgg0
 z0 := Tryz.sizeOf0
 v0 := Tryz.zeroValue0
 t3 := Tryz.underlying3
 a3 := Tryz.isAgg3
 z3 := Tryz.sizeOf3
 v3 := Tryz.zeroValue3
 t4 := Tryz.underlying4
 a4 := Tryz.isAgg4
 z4 := Tryz.sizeOf4
 v4 := Tryz.zeroValue4
 t22 := Tryz.underlying60
 a22 := Tryz.isAgg60
 z22 := Tryz.sizeOf60
 v22 := Tryz.zeroValue60
 a23 := Tryz.isAgg9
 z23 := Tryz.sizeOf9
 t25 := Tryz.underlying35
 a25 := Tryz.isAgg35
 z25 := Tryz.sizeOf35
 v25 := Tryz.zeroValue35 }
open Go.RowKit Go.Lib Go.Sort in
theorem Tryz.slices_DeleteFunc {α : Type} [Inhabited α] (enc : α → Value) (hO : OneCell enc) (p : α → Bool) (g : Nat) (lb : Array Value) (eg : ∀ args w, (callFunc g args).run Tryz.prog w = .ok (.enter g args) w) (zr : α) (v23 : ∀ w, (zeroValue 9).run Tryz.prog w = .ok (enc zr) w) (blk off cap : Nat) (d : Array α) (w : World) (hp : PredAt Tryz.prog g lb enc p w) (hpo : PredOver Tryz.prog g lb enc p blk off d.size w) (hH : Holds enc w blk off d) (hsz : d.size ≤ 9223372036854775807) (hcap : d.size ≤ cap) :
  Calls Tryz.prog 98 #[.slice (some ⟨blk, off, none⟩) d.size cap, .func (.func g) #[] lb] w fun e w' => e = .returned (.slice (some ⟨blk, off, none⟩) (d.toList.filter fun x => !p x).length cap) ∧ ∃ q, w' = putRow enc (Sort.ahead w q) blk off ((d.toList.filter fun x => !p x) ++ List.replicate (d.size - (d.toList.filter fun x => !p x).length) zr).toArray := AnyE.slices_DeleteFunc Tryz.laysSlH10_f98 enc hO p g lb eg zr v23 blk off cap d w hp hpo hH hsz hcap
end Go.Proofs
