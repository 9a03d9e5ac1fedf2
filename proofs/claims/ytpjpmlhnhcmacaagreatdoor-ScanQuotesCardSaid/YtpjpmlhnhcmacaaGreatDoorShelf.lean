/- Contracts of Go's library, laid at this seat's dump by the shelf's tool, in plain words: strings_IndexByte, strings_HasPrefix, strings_TrimSuffix, strings_Index_one, strings_Count_one, strconv_Atoi, Builder_String_any, strings_Trim_one, strings_ReplaceAll. -/
import Derived.Shelf.Strings.Builder1
import Derived.Shelf.Strings.Builder2
import Derived.Shelf.Strings.Trim
import Derived.Shelf.Small.Utf8
import Derived.Shelf.Small.Strs
import Derived.Shelf.Strconv.Atoi
import Derived.Shelf.Strings.Search1
import Derived.Shelf.Strings.Search2
import Derived.Shelf.Strings.Search3
import Derived.Shelf.Strings.Count
import Derived.Shelf.LaysM
import Derived.Shelf.Strings.Shaped
import Derived.Shelf.Strings.Prefix
import Derived.Shelf.Strings.Split
import Derived.Shelf.Strings.Replace
import Derived.Shelf.Strings.Runes
import Derived.Shelf.Strings.AsciiSet
import Derived.Shelf.Unicode.DecodeSlow
import Derived.Shelf.Slices.Turned
import Derived.Test.YtpjpmlhnhcmacaaGreatDoorProg
namespace Go.Proofs
open Go.Shelf
def Tryz.lays169_ren : Go.Shelf.Ren := ⟨fun | 169 => 94 | n => n, fun | 70 => 145 | 9 => 9 | 0 => 0 | 72 => 147 | 37 => 48 | 127 => 181 | 3 => 3 | 5 => 5 | n => n, fun | n => n⟩
theorem Tryz.lays169 : Go.Proofs.Lays.n169 Tryz.prog Tryz.lays169_ren := {
  mixed := by kernel_rfl
  f169 := Tryz.func94.trans (congrArg some (by kernel_rfl))
  t0 := Tryz.underlying0
  a0 := Tryz.isAgg0
  z0 := Tryz.sizeOf0
  v0 := Tryz.zeroValue0
  t3 := Tryz.underlying3
  a3 := Tryz.isAgg3
  z3 := Tryz.sizeOf3
  v3 := Tryz.zeroValue3
  t9 := Tryz.underlying9
  a9 := Tryz.isAgg9
  z9 := Tryz.sizeOf9
  v9 := Tryz.zeroValue9
  t37 := Tryz.underlying48
  a37 := Tryz.isAgg48
  z37 := Tryz.sizeOf48
  v37 := Tryz.zeroValue48
  t70 := Tryz.underlying145
  a70 := Tryz.isAgg145
  z70 := Tryz.sizeOf145
  v70 := Tryz.zeroValue145
  t72 := Tryz.underlying147
  a72 := Tryz.isAgg147
  z72 := Tryz.sizeOf147
  v72 := Tryz.zeroValue147
  t127 := Tryz.underlying181
  a127 := Tryz.isAgg181
  z127 := Tryz.sizeOf181
  v127 := Tryz.zeroValue181 }
theorem Tryz.Builder_Extra_169 : Builder.Extra Tryz.prog Tryz.lays169_ren := {
  sizeBuilder := by kernel_rfl
  liesBuilder := by kernel_rfl
  t5 := Tryz.underlying5
  a5 := Tryz.isAgg5
  z5 := Tryz.sizeOf5
  v5 := Tryz.zeroValue5
  infoByte := by kernel_rfl
  cellsByte := by kernel_rfl
  sizeByte := by kernel_rfl
  neB5 := by decide }
open Go.RowKit in
theorem Tryz.Builder_String_any (B b : Nat) (l : List UInt8) (w : World) (h : Lib.IsBuilder 147 5 B b (Lib.byteCells l) w) (hBw : B ≤ w.heap.size) :
    Calls Tryz.prog 94 #[.pointer (some ⟨b, 0, none⟩)] w fun e w' => e = .returned (.string ⟨l.toArray⟩) ∧ Below B w w' := Any.Builder_String_any Tryz.lays169 Tryz.Builder_Extra_169 B b l w h hBw
def Tryz.lays160_ren : Go.Shelf.Ren := ⟨fun | 160 => 177 | 232 => 213 | 231 => 212 | 227 => 214 | 234 => 216 | 233 => 215 | 236 => 218 | 235 => 217 | 228 => 236 | 271 => 238 | 151 => 237 | 197 => 120 | 120 => 248 | 152 => 247 | 260 => 164 | 137 => 107 | 119 => 256 | 224 => 203 | 225 => 202 | 217 => 153 | 266 => 196 | n => n, fun | 9 => 9 | 4 => 4 | 3 => 3 | 5 => 5 | 117 => 224 | 116 => 223 | 0 => 0 | 124 => 227 | 21 => 21 | 105 => 174 | 46 => 214 | 119 => 215 | 139 => 218 | 138 => 217 | n => n, fun | 3 => 1 | 4 => 2 | n => n⟩
theorem Tryz.lays160 : Go.Proofs.Lays.n160 Tryz.prog Tryz.lays160_ren := {
  mixed := by kernel_rfl
  f119 := Tryz.func256.trans (congrArg some (by kernel_rfl))
  f120 := Tryz.func248.trans (congrArg some (by kernel_rfl))
  f137 := Tryz.func107.trans (congrArg some (by kernel_rfl))
  f151 := Tryz.func237.trans (congrArg some (by kernel_rfl))
  f152 := Tryz.func247.trans (congrArg some (by kernel_rfl))
  f160 := Tryz.func177.trans (congrArg some (by kernel_rfl))
  f197 := Tryz.func120.trans (congrArg some (by kernel_rfl))
  f217 := Tryz.func153.trans (congrArg some (by kernel_rfl))
  f224 := Tryz.func203.trans (congrArg some (by kernel_rfl))
  f225 := Tryz.func202.trans (congrArg some (by kernel_rfl))
  f227 := Tryz.func214.trans (congrArg some (by kernel_rfl))
  f228 := Tryz.func236.trans (congrArg some (by kernel_rfl))
  f231 := Tryz.func212.trans (congrArg some (by kernel_rfl))
  f232 := Tryz.func213.trans (congrArg some (by kernel_rfl))
  f233 := Tryz.func215.trans (congrArg some (by kernel_rfl))
  f234 := Tryz.func216.trans (congrArg some (by kernel_rfl))
  f235 := Tryz.func217.trans (congrArg some (by kernel_rfl))
  f236 := Tryz.func218.trans (congrArg some (by kernel_rfl))
  f260 := Tryz.func164.trans (congrArg some (by kernel_rfl))
  f266 := Tryz.func196.trans (congrArg some (by kernel_rfl))
  f271 := Tryz.func238.trans (congrArg some (by kernel_rfl))
  t0 := Tryz.underlying0
  a0 := Tryz.isAgg0
  z0 := Tryz.sizeOf0
  v0 := Tryz.zeroValue0
  t3 := Tryz.underlying3
  a3 := Tryz.isAgg3
  z3 := Tryz.sizeOf3
  v3 := Tryz.zeroValue3
  t4 := Tryz.underlying4
  a4 := Tryz.isAgg4
  z4 := Tryz.sizeOf4
  v4 := Tryz.zeroValue4
  t5 := Tryz.underlying5
  a5 := Tryz.isAgg5
  z5 := Tryz.sizeOf5
  v5 := Tryz.zeroValue5
  t9 := Tryz.underlying9
  a9 := Tryz.isAgg9
  z9 := Tryz.sizeOf9
  v9 := Tryz.zeroValue9
  t21 := Tryz.underlying21
  a21 := Tryz.isAgg21
  z21 := Tryz.sizeOf21
  v21 := Tryz.zeroValue21
  t46 := Tryz.underlying214
  a46 := Tryz.isAgg214
  z46 := Tryz.sizeOf214
  v46 := Tryz.zeroValue214
  t105 := Tryz.underlying174
  a105 := Tryz.isAgg174
  z105 := Tryz.sizeOf174
  v105 := Tryz.zeroValue174
  t116 := Tryz.underlying223
  a116 := Tryz.isAgg223
  z116 := Tryz.sizeOf223
  t117 := Tryz.underlying224
  a117 := Tryz.isAgg224
  z117 := Tryz.sizeOf224
  v117 := Tryz.zeroValue224
  t119 := Tryz.underlying215
  a119 := Tryz.isAgg215
  z119 := Tryz.sizeOf215
  t124 := Tryz.underlying227
  a124 := Tryz.isAgg227
  z124 := Tryz.sizeOf227
  v124 := Tryz.zeroValue227
  t138 := Tryz.underlying217
  a138 := Tryz.isAgg217
  z138 := Tryz.sizeOf217
  v138 := Tryz.zeroValue217
  t139 := Tryz.underlying218
  a139 := Tryz.isAgg218
  z139 := Tryz.sizeOf218
  v139 := Tryz.zeroValue218
  g3 := by kernel_rfl
  g4 := by kernel_rfl }
open Go.RowKit in
theorem Tryz.strings_Trim_one (s : ByteArray) (c : UInt8) (hc : c.toNat < 128) (w : World) (hs : s.size ≤ 9223372036854775807) :
    Calls Tryz.prog 177 #[.string s, .string ⟨#[c]⟩] w fun e w' => e = .returned (.string ⟨(Lib.trimB s.data.toList c).toArray⟩) ∧ (w' = w ∨ w' = w.drew) := Any.strings_Trim_one Tryz.lays160 s c hc w hs
def Tryz.lays137_ren : Go.Shelf.Ren := ⟨fun | 137 => 107 | 217 => 153 | 266 => 196 | n => n, fun | 9 => 9 | 5 => 5 | 3 => 3 | n => n, fun | n => n⟩
theorem Tryz.lays137 : Go.Proofs.Lays.n137 Tryz.prog Tryz.lays137_ren := {
  mixed := by kernel_rfl
  f137 := Tryz.func107.trans (congrArg some (by kernel_rfl))
  f217 := Tryz.func153.trans (congrArg some (by kernel_rfl))
  f266 := Tryz.func196.trans (congrArg some (by kernel_rfl))
  t3 := Tryz.underlying3
  a3 := Tryz.isAgg3
  z3 := Tryz.sizeOf3
  v3 := Tryz.zeroValue3
  t5 := Tryz.underlying5
  a5 := Tryz.isAgg5
  z5 := Tryz.sizeOf5
  v5 := Tryz.zeroValue5
  t9 := Tryz.underlying9
  a9 := Tryz.isAgg9
  z9 := Tryz.sizeOf9
  v9 := Tryz.zeroValue9 }
open Go.RowKit in
theorem Tryz.strings_IndexByte (s : ByteArray) (c : Int) (w : World) :
    Calls Tryz.prog 107 #[.string s, .int .u8 c] w fun e w' => e = .returned (.int .i64 (Lib.indexByte s.data.toList c.toNat.toUInt8)) ∧ w' = w := Any.strings_IndexByte Tryz.lays137 s c w
def Tryz.lays172_ren : Go.Shelf.Ren := ⟨fun | 172 => 112 | 244 => 156 | 245 => 157 | 247 => 197 | 279 => 198 | 280 => 199 | 281 => 200 | 282 => 201 | 287 => 230 | 316 => 231 | 171 => 57 | 205 => 232 | 321 => 243 | 322 => 244 | 243 => 97 | 246 => 149 | 283 => 185 | 284 => 186 | 285 => 187 | 286 => 188 | 129 => 223 | 317 => 222 | 318 => 224 | 319 => 225 | 320 => 226 | 337 => 239 | 338 => 240 | n => n, fun | 9 => 9 | 3 => 3 | 75 => 149 | 76 => 150 | 4 => 4 | 5 => 5 | 167 => 207 | 37 => 48 | 0 => 0 | 85 => 208 | 2 => 2 | 168 => 210 | 53 => 198 | 175 => 238 | 46 => 214 | 210 => 241 | 127 => 181 | 145 => 250 | 143 => 248 | 21 => 21 | 171 => 197 | 173 => 201 | 212 => 230 | 51 => 231 | 20 => 20 | 213 => 232 | 232 => 253 | 233 => 254 | 80 => 152 | n => n, fun | 15 => 4 | 16 => 5 | 17 => 3 | 18 => 6 | 19 => 7 | n => n⟩
theorem Tryz.lays172 : Go.Proofs.Lays.n172 Tryz.prog Tryz.lays172_ren := {
  mixed := by kernel_rfl
  f129 := Tryz.func223.trans (congrArg some (by kernel_rfl))
  f171 := Tryz.func57.trans (congrArg some (by kernel_rfl))
  f172 := Tryz.func112.trans (congrArg some (by kernel_rfl))
  f205 := Tryz.func232.trans (congrArg some (by kernel_rfl))
  f243 := Tryz.func97.trans (congrArg some (by kernel_rfl))
  f244 := Tryz.func156.trans (congrArg some (by kernel_rfl))
  f245 := Tryz.func157.trans (congrArg some (by kernel_rfl))
  f246 := Tryz.func149.trans (congrArg some (by kernel_rfl))
  f247 := Tryz.func197.trans (congrArg some (by kernel_rfl))
  f279 := Tryz.func198.trans (congrArg some (by kernel_rfl))
  f280 := Tryz.func199.trans (congrArg some (by kernel_rfl))
  f281 := Tryz.func200.trans (congrArg some (by kernel_rfl))
  f282 := Tryz.func201.trans (congrArg some (by kernel_rfl))
  f283 := Tryz.func185.trans (congrArg some (by kernel_rfl))
  f284 := Tryz.func186.trans (congrArg some (by kernel_rfl))
  f285 := Tryz.func187.trans (congrArg some (by kernel_rfl))
  f286 := Tryz.func188.trans (congrArg some (by kernel_rfl))
  f287 := Tryz.func230.trans (congrArg some (by kernel_rfl))
  f316 := Tryz.func231.trans (congrArg some (by kernel_rfl))
  f317 := Tryz.func222.trans (congrArg some (by kernel_rfl))
  f318 := Tryz.func224.trans (congrArg some (by kernel_rfl))
  f319 := Tryz.func225.trans (congrArg some (by kernel_rfl))
  f320 := Tryz.func226.trans (congrArg some (by kernel_rfl))
  f321 := Tryz.func243.trans (congrArg some (by kernel_rfl))
  f322 := Tryz.func244.trans (congrArg some (by kernel_rfl))
  f337 := Tryz.func239.trans (congrArg some (by kernel_rfl))
  f338 := Tryz.func240.trans (congrArg some (by kernel_rfl))
  t0 := Tryz.underlying0
  a0 := Tryz.isAgg0
  z0 := Tryz.sizeOf0
  v0 := Tryz.zeroValue0
  t2 := Tryz.underlying2
  a2 := Tryz.isAgg2
  z2 := Tryz.sizeOf2
  v2 := Tryz.zeroValue2
  t3 := Tryz.underlying3
  a3 := Tryz.isAgg3
  z3 := Tryz.sizeOf3
  v3 := Tryz.zeroValue3
  t4 := Tryz.underlying4
  a4 := Tryz.isAgg4
  z4 := Tryz.sizeOf4
  v4 := Tryz.zeroValue4
  t5 := Tryz.underlying5
  a5 := Tryz.isAgg5
  z5 := Tryz.sizeOf5
  v5 := Tryz.zeroValue5
  t9 := Tryz.underlying9
  a9 := Tryz.isAgg9
  z9 := Tryz.sizeOf9
  v9 := Tryz.zeroValue9
  t20 := Tryz.underlying20
  a20 := Tryz.isAgg20
  z20 := Tryz.sizeOf20
  v20 := Tryz.zeroValue20
  t21 := Tryz.underlying21
  a21 := Tryz.isAgg21
  z21 := Tryz.sizeOf21
  v21 := Tryz.zeroValue21
  t37 := Tryz.underlying48
  a37 := Tryz.isAgg48
  z37 := Tryz.sizeOf48
  v37 := Tryz.zeroValue48
  t46 := Tryz.underlying214
  a46 := Tryz.isAgg214
  z46 := Tryz.sizeOf214
  v46 := Tryz.zeroValue214
  t51 := Tryz.underlying231
  a51 := Tryz.isAgg231
  z51 := Tryz.sizeOf231
  v51 := Tryz.zeroValue231
  t53 := Tryz.underlying198
  a53 := Tryz.isAgg198
  z53 := Tryz.sizeOf198
  v53 := Tryz.zeroValue198
  t75 := Tryz.underlying149
  a75 := Tryz.isAgg149
  z75 := Tryz.sizeOf149
  v75 := Tryz.zeroValue149
  t76 := Tryz.underlying150
  a76 := Tryz.isAgg150
  z76 := Tryz.sizeOf150
  v76 := Tryz.zeroValue150
  t85 := Tryz.underlying208
  a85 := Tryz.isAgg208
  z85 := Tryz.sizeOf208
  v85 := Tryz.zeroValue208
  t127 := Tryz.underlying181
  a127 := Tryz.isAgg181
  z127 := Tryz.sizeOf181
  v127 := Tryz.zeroValue181
  t143 := Tryz.underlying248
  a143 := Tryz.isAgg248
  z143 := Tryz.sizeOf248
  v143 := Tryz.zeroValue248
  t145 := Tryz.underlying250
  a145 := Tryz.isAgg250
  z145 := Tryz.sizeOf250
  v145 := Tryz.zeroValue250
  t167 := Tryz.underlying207
  a167 := Tryz.isAgg207
  z167 := Tryz.sizeOf207
  v167 := Tryz.zeroValue207
  t168 := Tryz.underlying210
  a168 := Tryz.isAgg210
  z168 := Tryz.sizeOf210
  v168 := Tryz.zeroValue210
  t171 := Tryz.underlying197
  a171 := Tryz.isAgg197
  z171 := Tryz.sizeOf197
  v171 := Tryz.zeroValue197
  t173 := Tryz.underlying201
  a173 := Tryz.isAgg201
  z173 := Tryz.sizeOf201
  v173 := Tryz.zeroValue201
  t175 := Tryz.underlying238
  a175 := Tryz.isAgg238
  z175 := Tryz.sizeOf238
  v175 := Tryz.zeroValue238
  t210 := Tryz.underlying241
  a210 := Tryz.isAgg241
  z210 := Tryz.sizeOf241
  v210 := Tryz.zeroValue241
  t212 := Tryz.underlying230
  a212 := Tryz.isAgg230
  z212 := Tryz.sizeOf230
  v212 := Tryz.zeroValue230
  t213 := Tryz.underlying232
  a213 := Tryz.isAgg232
  z213 := Tryz.sizeOf232
  t232 := Tryz.underlying253
  a232 := Tryz.isAgg253
  z232 := Tryz.sizeOf253
  v232 := Tryz.zeroValue253
  t233 := Tryz.underlying254
  a233 := Tryz.isAgg254
  z233 := Tryz.sizeOf254
  v233 := Tryz.zeroValue254
  g15 := by kernel_rfl
  g16 := by kernel_rfl
  g17 := by kernel_rfl
  g18 := by kernel_rfl
  g19 := by kernel_rfl }
open Go.RowKit in
theorem Tryz.strconv_Atoi (s : ByteArray) (n : Int) (hl : s.size ≤ 18) (h : Lib.atoi s.data.toList = some n) (w : World) :
    Calls Tryz.prog 112 #[.string s] w fun e w' => e = .returned (.tuple #[.int .i64 n, .nilIface]) ∧ ∃ t, w' = Lib.bytesWorld w 5 t := Any.strconv_Atoi Tryz.lays172 s n hl h w
def Tryz.lays143_ren : Go.Shelf.Ren := ⟨fun | 143 => 119 | 219 => 163 | 217 => 153 | 225 => 202 | 224 => 203 | 267 => 204 | 266 => 196 | 314 => 233 | n => n, fun | 9 => 9 | 3 => 3 | 4 => 4 | 5 => 5 | 46 => 214 | 146 => 243 | 51 => 231 | n => n, fun | 1 => 0 | n => n⟩
theorem Tryz.lays143 : Go.Proofs.Lays.n143 Tryz.prog Tryz.lays143_ren := {
  mixed := by kernel_rfl
  f143 := Tryz.func119.trans (congrArg some (by kernel_rfl))
  f217 := Tryz.func153.trans (congrArg some (by kernel_rfl))
  f219 := Tryz.func163.trans (congrArg some (by kernel_rfl))
  f224 := Tryz.func203.trans (congrArg some (by kernel_rfl))
  f225 := Tryz.func202.trans (congrArg some (by kernel_rfl))
  f266 := Tryz.func196.trans (congrArg some (by kernel_rfl))
  f267 := Tryz.func204.trans (congrArg some (by kernel_rfl))
  f314 := Tryz.func233.trans (congrArg some (by kernel_rfl))
  t3 := Tryz.underlying3
  a3 := Tryz.isAgg3
  z3 := Tryz.sizeOf3
  v3 := Tryz.zeroValue3
  t4 := Tryz.underlying4
  a4 := Tryz.isAgg4
  z4 := Tryz.sizeOf4
  v4 := Tryz.zeroValue4
  t5 := Tryz.underlying5
  a5 := Tryz.isAgg5
  z5 := Tryz.sizeOf5
  v5 := Tryz.zeroValue5
  t9 := Tryz.underlying9
  a9 := Tryz.isAgg9
  z9 := Tryz.sizeOf9
  v9 := Tryz.zeroValue9
  t46 := Tryz.underlying214
  a46 := Tryz.isAgg214
  z46 := Tryz.sizeOf214
  v46 := Tryz.zeroValue214
  t51 := Tryz.underlying231
  a51 := Tryz.isAgg231
  z51 := Tryz.sizeOf231
  v51 := Tryz.zeroValue231
  t146 := Tryz.underlying243
  a146 := Tryz.isAgg243
  z146 := Tryz.sizeOf243
  v146 := Tryz.zeroValue243
  g1 := by kernel_rfl }
open Go.RowKit Go.Lib in
theorem Tryz.strings_Index_one (s : ByteArray) (c : UInt8) (w : World) :
    Calls Tryz.prog 119 #[.string s, .string ⟨#[c]⟩] w fun e w' => e = .returned (.int .i64 (Lib.indexByte s.data.toList c)) ∧ w' = w := Any.strings_Index_one Tryz.lays143 s c w
def Tryz.lays138_ren : Go.Shelf.Ren := ⟨fun | 138 => 118 | 195 => 161 | 218 => 162 | 143 => 119 | 219 => 163 | 217 => 153 | 225 => 202 | 224 => 203 | 267 => 204 | 266 => 196 | 314 => 233 | n => n, fun | 9 => 9 | 3 => 3 | 4 => 4 | 5 => 5 | 0 => 0 | 46 => 214 | 146 => 243 | 51 => 231 | n => n, fun | 1 => 0 | n => n⟩
theorem Tryz.lays138 : Go.Proofs.Lays.n138 Tryz.prog Tryz.lays138_ren := {
  mixed := by kernel_rfl
  f138 := Tryz.func118.trans (congrArg some (by kernel_rfl))
  f143 := Tryz.func119.trans (congrArg some (by kernel_rfl))
  f195 := Tryz.func161.trans (congrArg some (by kernel_rfl))
  f217 := Tryz.func153.trans (congrArg some (by kernel_rfl))
  f218 := Tryz.func162.trans (congrArg some (by kernel_rfl))
  f219 := Tryz.func163.trans (congrArg some (by kernel_rfl))
  f224 := Tryz.func203.trans (congrArg some (by kernel_rfl))
  f225 := Tryz.func202.trans (congrArg some (by kernel_rfl))
  f266 := Tryz.func196.trans (congrArg some (by kernel_rfl))
  f267 := Tryz.func204.trans (congrArg some (by kernel_rfl))
  f314 := Tryz.func233.trans (congrArg some (by kernel_rfl))
  t0 := Tryz.underlying0
  a0 := Tryz.isAgg0
  z0 := Tryz.sizeOf0
  v0 := Tryz.zeroValue0
  t3 := Tryz.underlying3
  a3 := Tryz.isAgg3
  z3 := Tryz.sizeOf3
  v3 := Tryz.zeroValue3
  t4 := Tryz.underlying4
  a4 := Tryz.isAgg4
  z4 := Tryz.sizeOf4
  v4 := Tryz.zeroValue4
  t5 := Tryz.underlying5
  a5 := Tryz.isAgg5
  z5 := Tryz.sizeOf5
  v5 := Tryz.zeroValue5
  t9 := Tryz.underlying9
  a9 := Tryz.isAgg9
  z9 := Tryz.sizeOf9
  v9 := Tryz.zeroValue9
  t46 := Tryz.underlying214
  a46 := Tryz.isAgg214
  z46 := Tryz.sizeOf214
  v46 := Tryz.zeroValue214
  t51 := Tryz.underlying231
  a51 := Tryz.isAgg231
  z51 := Tryz.sizeOf231
  v51 := Tryz.zeroValue231
  t146 := Tryz.underlying243
  a146 := Tryz.isAgg243
  z146 := Tryz.sizeOf243
  v146 := Tryz.zeroValue243
  g1 := by kernel_rfl }
open Go.RowKit Go.Lib in
theorem Tryz.strings_Count_one (s : ByteArray) (c : UInt8) (w : World) :
    Calls Tryz.prog 118 #[.string s, .string ⟨#[c]⟩] w fun e w' => e = .returned (.int .i64 (Lib.countByte s.data.toList c)) ∧ w' = w := Any.strings_Count_one Tryz.lays138 s c w
def Tryz.lays99_ren : Go.Shelf.Ren := ⟨fun | 99 => 115 | 206 => 159 | n => n, fun | 9 => 9 | 4 => 4 | 3 => 3 | n => n, fun | n => n⟩
theorem Tryz.lays99 : Go.Proofs.Lays.n99 Tryz.prog Tryz.lays99_ren := {
  mixed := by kernel_rfl
  f99 := Tryz.func115.trans (congrArg some (by kernel_rfl))
  f206 := Tryz.func159.trans (congrArg some (by kernel_rfl))
  t3 := Tryz.underlying3
  a3 := Tryz.isAgg3
  z3 := Tryz.sizeOf3
  v3 := Tryz.zeroValue3
  t4 := Tryz.underlying4
  a4 := Tryz.isAgg4
  z4 := Tryz.sizeOf4
  v4 := Tryz.zeroValue4
  t9 := Tryz.underlying9
  a9 := Tryz.isAgg9
  z9 := Tryz.sizeOf9
  v9 := Tryz.zeroValue9 }
open Go.RowKit Go.Lib in
theorem Tryz.strings_HasPrefix (s p : ByteArray) (w : World) :
    Calls Tryz.prog 115 #[.string s, .string p] w fun e w' => e = .returned (.bool (Lib.hasPrefix s.data.toList p.data.toList)) ∧ w' = w := Any.strings_HasPrefix Tryz.lays99 s p w
def Tryz.lays102_ren : Go.Shelf.Ren := ⟨fun | 102 => 145 | 209 => 180 | 207 => 220 | n => n, fun | 9 => 9 | 4 => 4 | 3 => 3 | n => n, fun | n => n⟩
theorem Tryz.lays102 : Go.Proofs.Lays.n102 Tryz.prog Tryz.lays102_ren := {
  mixed := by kernel_rfl
  f102 := Tryz.func145.trans (congrArg some (by kernel_rfl))
  f207 := Tryz.func220.trans (congrArg some (by kernel_rfl))
  f209 := Tryz.func180.trans (congrArg some (by kernel_rfl))
  t3 := Tryz.underlying3
  a3 := Tryz.isAgg3
  z3 := Tryz.sizeOf3
  v3 := Tryz.zeroValue3
  t4 := Tryz.underlying4
  a4 := Tryz.isAgg4
  z4 := Tryz.sizeOf4
  v4 := Tryz.zeroValue4
  t9 := Tryz.underlying9
  a9 := Tryz.isAgg9
  z9 := Tryz.sizeOf9
  v9 := Tryz.zeroValue9 }
open Go.RowKit Go.Lib in
theorem Tryz.strings_TrimSuffix (s p : ByteArray) (w : World) (hs : s.size ≤ 9223372036854775807) :
    Calls Tryz.prog 145 #[.string s, .string p] w fun e w' => e = .returned (.string ⟨(Lib.trimSuffix s.data.toList p.data.toList).toArray⟩) ∧ w' = w := Any.strings_TrimSuffix Tryz.lays102 s p w hs
def Tryz.lays155_ren : Go.Shelf.Ren := ⟨fun | 155 => 43 | 154 => 66 | 138 => 118 | 165 => 92 | 143 => 119 | 166 => 93 | 197 => 120 | 169 => 94 | 195 => 161 | 218 => 162 | 240 => 146 | 241 => 147 | 219 => 163 | 260 => 164 | 276 => 181 | 277 => 182 | 217 => 153 | 225 => 202 | 224 => 203 | 267 => 204 | 266 => 196 | 314 => 233 | n => n, fun | 9 => 9 | 3 => 3 | 4 => 4 | 72 => 147 | 0 => 0 | 76 => 150 | 105 => 174 | 21 => 21 | 5 => 5 | 70 => 145 | 20 => 20 | 37 => 48 | 75 => 149 | 127 => 181 | 164 => 192 | 46 => 214 | 119 => 215 | 139 => 218 | 138 => 217 | 146 => 243 | 51 => 231 | 80 => 152 | n => n, fun | 1 => 0 | 3 => 1 | 4 => 2 | n => n⟩
theorem Tryz.lays155 : Go.Proofs.Lays.n155 Tryz.prog Tryz.lays155_ren := {
  mixed := by kernel_rfl
  f138 := Tryz.func118.trans (congrArg some (by kernel_rfl))
  f143 := Tryz.func119.trans (congrArg some (by kernel_rfl))
  f154 := Tryz.func66.trans (congrArg some (by kernel_rfl))
  f155 := Tryz.func43.trans (congrArg some (by kernel_rfl))
  f165 := Tryz.func92.trans (congrArg some (by kernel_rfl))
  f166 := Tryz.func93.trans (congrArg some (by kernel_rfl))
  f169 := Tryz.func94.trans (congrArg some (by kernel_rfl))
  f195 := Tryz.func161.trans (congrArg some (by kernel_rfl))
  f197 := Tryz.func120.trans (congrArg some (by kernel_rfl))
  f217 := Tryz.func153.trans (congrArg some (by kernel_rfl))
  f218 := Tryz.func162.trans (congrArg some (by kernel_rfl))
  f219 := Tryz.func163.trans (congrArg some (by kernel_rfl))
  f224 := Tryz.func203.trans (congrArg some (by kernel_rfl))
  f225 := Tryz.func202.trans (congrArg some (by kernel_rfl))
  f240 := Tryz.func146.trans (congrArg some (by kernel_rfl))
  f241 := Tryz.func147.trans (congrArg some (by kernel_rfl))
  f260 := Tryz.func164.trans (congrArg some (by kernel_rfl))
  f266 := Tryz.func196.trans (congrArg some (by kernel_rfl))
  f267 := Tryz.func204.trans (congrArg some (by kernel_rfl))
  f276 := Tryz.func181.trans (congrArg some (by kernel_rfl))
  f277 := Tryz.func182.trans (congrArg some (by kernel_rfl))
  f314 := Tryz.func233.trans (congrArg some (by kernel_rfl))
  t0 := Tryz.underlying0
  a0 := Tryz.isAgg0
  z0 := Tryz.sizeOf0
  v0 := Tryz.zeroValue0
  t3 := Tryz.underlying3
  a3 := Tryz.isAgg3
  z3 := Tryz.sizeOf3
  v3 := Tryz.zeroValue3
  t4 := Tryz.underlying4
  a4 := Tryz.isAgg4
  z4 := Tryz.sizeOf4
  v4 := Tryz.zeroValue4
  t5 := Tryz.underlying5
  a5 := Tryz.isAgg5
  z5 := Tryz.sizeOf5
  v5 := Tryz.zeroValue5
  t9 := Tryz.underlying9
  a9 := Tryz.isAgg9
  z9 := Tryz.sizeOf9
  v9 := Tryz.zeroValue9
  t20 := Tryz.underlying20
  a20 := Tryz.isAgg20
  z20 := Tryz.sizeOf20
  v20 := Tryz.zeroValue20
  t21 := Tryz.underlying21
  a21 := Tryz.isAgg21
  z21 := Tryz.sizeOf21
  v21 := Tryz.zeroValue21
  t37 := Tryz.underlying48
  a37 := Tryz.isAgg48
  z37 := Tryz.sizeOf48
  v37 := Tryz.zeroValue48
  t46 := Tryz.underlying214
  a46 := Tryz.isAgg214
  z46 := Tryz.sizeOf214
  v46 := Tryz.zeroValue214
  t51 := Tryz.underlying231
  a51 := Tryz.isAgg231
  z51 := Tryz.sizeOf231
  v51 := Tryz.zeroValue231
  t70 := Tryz.underlying145
  a70 := Tryz.isAgg145
  z70 := Tryz.sizeOf145
  v70 := Tryz.zeroValue145
  t72 := Tryz.underlying147
  a72 := Tryz.isAgg147
  z72 := Tryz.sizeOf147
  v72 := Tryz.zeroValue147
  t75 := Tryz.underlying149
  a75 := Tryz.isAgg149
  z75 := Tryz.sizeOf149
  v75 := Tryz.zeroValue149
  t76 := Tryz.underlying150
  a76 := Tryz.isAgg150
  z76 := Tryz.sizeOf150
  v76 := Tryz.zeroValue150
  t105 := Tryz.underlying174
  a105 := Tryz.isAgg174
  z105 := Tryz.sizeOf174
  v105 := Tryz.zeroValue174
  t119 := Tryz.underlying215
  a119 := Tryz.isAgg215
  z119 := Tryz.sizeOf215
  t127 := Tryz.underlying181
  a127 := Tryz.isAgg181
  z127 := Tryz.sizeOf181
  v127 := Tryz.zeroValue181
  t138 := Tryz.underlying217
  a138 := Tryz.isAgg217
  z138 := Tryz.sizeOf217
  v138 := Tryz.zeroValue217
  t139 := Tryz.underlying218
  a139 := Tryz.isAgg218
  z139 := Tryz.sizeOf218
  v139 := Tryz.zeroValue218
  t146 := Tryz.underlying243
  a146 := Tryz.isAgg243
  z146 := Tryz.sizeOf243
  v146 := Tryz.zeroValue243
  t164 := Tryz.underlying192
  a164 := Tryz.isAgg192
  z164 := Tryz.sizeOf192
  v164 := Tryz.zeroValue192
  g1 := by kernel_rfl
  g3 := by kernel_rfl
  g4 := by kernel_rfl }
theorem Tryz.Builder_Extra_155 : Builder.Extra Tryz.prog Tryz.lays155_ren := {
  sizeBuilder := by kernel_rfl
  liesBuilder := by kernel_rfl
  t5 := Tryz.underlying5
  a5 := Tryz.isAgg5
  z5 := Tryz.sizeOf5
  v5 := Tryz.zeroValue5
  infoByte := by kernel_rfl
  cellsByte := by kernel_rfl
  sizeByte := by kernel_rfl
  neB5 := by decide }
open Go.RowKit Go.Lib in
theorem Tryz.strings_ReplaceAll (s old new : ByteArray) (m : Int) (w : World) (hs : s.size < 4294967281) (hm : w.cell? ⟨0, 0, none⟩ = some (.int .i64 m)) (h1 : 1 ≤ old.size) (hlen : s.size + Lib.countB s old * new.size ≤ 140737488355328) :
    Calls Tryz.prog 43 #[.string s, .string old, .string new] w fun e w' =>
      e = .returned (.string ⟨(Lib.replaceAll s.data.toList old.data.toList new.data.toList).toArray⟩) ∧ Below w.heap.size w w' := Any.strings_ReplaceAll Tryz.lays155 Tryz.Builder_Extra_155 s old new m w hs hm h1 hlen
end Go.Proofs
