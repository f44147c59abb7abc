import Derived.Shelf.Utf8.RuneCount
import Derived.Shelf.Strconv.Atoi
import Derived.Shelf.Strconv.Itoa0
import Derived.Shelf.Strconv.Itoa1
import Derived.Shelf.LaysM
import Derived.Shelf.Strconv.Itoa2
import Derived.Shelf.Strconv.Itoa3
import Derived.Shelf.Strconv.AtoiErrFast
import Derived.Shelf.Strconv.ParseIntEmpty
import Derived.Shelf.Strconv.AtoiFail
import Derived.Shelf.Strconv.Clone
import Derived.Shelf.Strconv.SyntaxError
import Derived.Shelf.LaysC
import Derived.Shelf.Strconv.ToError
import Derived.Shelf.Strconv.Lower
import Derived.Shelf.Strconv.ParseUint10
import Derived.Shelf.Strconv.ParseUint10Empty
import Derived.Shelf.Strconv.ParseUint10Any
import Derived.Shelf.Strconv.ParseInt10
import Derived.Shelf.Strconv.AtoiLong
import Derived.Shelf.Strconv.AtoiInnerAll
import Derived.Shelf.Strconv.RangeError
import Derived.Shelf.Strconv.ToErrorRange
import Derived.Shelf.Strconv.AtoiAll
import Derived.Shelf.Strconv.ErrVarAll
import Derived.Shelf.Strconv.ParseUintEmpty
import Derived.Shelf.Strconv.ParseUint10b64
import Derived.Shelf.Strconv.ParseUint10b32
import Derived.Shelf.Strconv.ParseUint10b16
import Derived.Shelf.Strconv.ParseUint10b8
import Derived.Shelf.Strings.Search1
import Derived.Shelf.Strings.Search2
import Derived.Shelf.Strings.Search3
import Derived.Shelf.Strings.Cut
import Derived.Shelf.Strings.Count
import Derived.Shelf.Strings.Shaped
import Derived.Shelf.Strings.Prefix
import Derived.Shelf.Strings.Split
import Derived.Shelf.Strings.SplitShaped
import Derived.Shelf.Unicode.Decode
import Derived.Shelf.Strings.RuneCount
import Derived.Shelf.Strings.Explode
import Derived.Shelf.Bits.Mul64
import Derived.Shelf.Unicode.DecodeSlow
import Derived.Shelf.Unicode.DecodeAny
import Derived.Shelf.Slices.Turned
import Derived.Shelf.Slices.Equal
import Derived.Ground.Names2Prog
import Derived.Shelf.Slices.Clone
import Derived.Shelf.Slices.Empties2
import Derived.Ground.SlgnProg
import Derived.Shelf.SlicesE.Clone
import Derived.Test.YtlgkplnifaoeeaaGreatDoorProg
import Derived.Test.YtlgkplnifaoeeaaGreatDoorJ6
import Derived.Lib.AppendIntMem
import Derived.Lib.SmallJoins
import Derived.Lib.ConvBytes
import Derived.Lib.SplitLaws
import Derived.Lib.ItoaLen
import Derived.Test.YtlgkplnifaoeeaaGreatDoorJ3
import Derived.Test.YtlgkplnifaoeeaaGreatDoorJ5
set_option linter.unusedSimpArgs false
set_option linter.unusedVariables false
namespace Go.Proofs
open Go.Shelf
def Tryz.laysM171_ren : Go.Shelf.Ren := ⟨fun | 171 => 125 | 243 => 170 | 246 => 205 | 283 => 225 | 284 => 226 | 285 => 227 | 286 => 228 | 129 => 238 | 317 => 237 | 318 => 239 | 319 => 240 | 320 => 241 | 337 => 244 | 338 => 245 | n => n, fun | 3 => 3 | 9 => 9 | 2 => 2 | 4 => 4 | 171 => 266 | 0 => 0 | 53 => 192 | 37 => 94 | 5 => 5 | 173 => 269 | 212 => 280 | 51 => 107 | 20 => 20 | 213 => 281 | 46 => 79 | 232 => 290 | 233 => 291 | n => n, fun | 17 => 4 | 18 => 7 | 19 => 8 | n => n⟩
theorem Tryz.laysM171 : Go.Proofs.LaysM.n171 Tryz.prog Tryz.laysM171_ren := {
  mixed := by kernel_rfl
  f129 := Tryz.func238.trans (congrArg some (by kernel_rfl))
  f171 := Tryz.func125.trans (congrArg some (by kernel_rfl))
  f243 := Tryz.func170.trans (congrArg some (by kernel_rfl))
  f246 := Tryz.func205.trans (congrArg some (by kernel_rfl))
  f283 := Tryz.func225.trans (congrArg some (by kernel_rfl))
  f284 := Tryz.func226.trans (congrArg some (by kernel_rfl))
  f285 := Tryz.func227.trans (congrArg some (by kernel_rfl))
  f286 := Tryz.func228.trans (congrArg some (by kernel_rfl))
  f317 := Tryz.func237.trans (congrArg some (by kernel_rfl))
  f318 := Tryz.func239.trans (congrArg some (by kernel_rfl))
  f319 := Tryz.func240.trans (congrArg some (by kernel_rfl))
  f320 := Tryz.func241.trans (congrArg some (by kernel_rfl))
  f337 := Tryz.func244.trans (congrArg some (by kernel_rfl))
  f338 := Tryz.func245.trans (congrArg some (by kernel_rfl))
  t0 := Tryz.underlying0
  a0 := Tryz.isAgg0
  z0 := Tryz.sizeOf0
  v0 := Tryz.zeroValue0
  t2 := Tryz.underlying2
  a2 := Tryz.isAgg2
  z2 := Tryz.sizeOf2
  v2 := Tryz.zeroValue2
  t3 := Tryz.underlying3
  a3 := Tryz.isAgg3
  z3 := Tryz.sizeOf3
  v3 := Tryz.zeroValue3
  t4 := Tryz.underlying4
  a4 := Tryz.isAgg4
  z4 := Tryz.sizeOf4
  v4 := Tryz.zeroValue4
  t5 := Tryz.underlying5
  a5 := Tryz.isAgg5
  z5 := Tryz.sizeOf5
  v5 := Tryz.zeroValue5
  t9 := Tryz.underlying9
  a9 := Tryz.isAgg9
  z9 := Tryz.sizeOf9
  v9 := Tryz.zeroValue9
  t20 := Tryz.underlying20
  a20 := Tryz.isAgg20
  z20 := Tryz.sizeOf20
  v20 := Tryz.zeroValue20
  t37 := Tryz.underlying94
  a37 := Tryz.isAgg94
  z37 := Tryz.sizeOf94
  v37 := Tryz.zeroValue94
  t46 := Tryz.underlying79
  a46 := Tryz.isAgg79
  z46 := Tryz.sizeOf79
  v46 := Tryz.zeroValue79
  t51 := Tryz.underlying107
  a51 := Tryz.isAgg107
  z51 := Tryz.sizeOf107
  v51 := Tryz.zeroValue107
  t53 := Tryz.underlying192
  a53 := Tryz.isAgg192
  z53 := Tryz.sizeOf192
  v53 := Tryz.zeroValue192
  t171 := Tryz.underlying266
  a171 := Tryz.isAgg266
  z171 := Tryz.sizeOf266
  v171 := Tryz.zeroValue266
  t173 := Tryz.underlying269
  a173 := Tryz.isAgg269
  z173 := Tryz.sizeOf269
  v173 := Tryz.zeroValue269
  t212 := Tryz.underlying280
  a212 := Tryz.isAgg280
  z212 := Tryz.sizeOf280
  v212 := Tryz.zeroValue280
  t213 := Tryz.underlying281
  a213 := Tryz.isAgg281
  z213 := Tryz.sizeOf281
  t232 := Tryz.underlying290
  a232 := Tryz.isAgg290
  z232 := Tryz.sizeOf290
  v232 := Tryz.zeroValue290
  t233 := Tryz.underlying291
  a233 := Tryz.isAgg291
  z233 := Tryz.sizeOf291
  v233 := Tryz.zeroValue291
  g17 := by kernel_rfl
  g18 := by kernel_rfl
  g19 := by kernel_rfl
  i0 := by kernel_rfl
  i2 := by kernel_rfl
  i3 := by kernel_rfl
  i4 := by kernel_rfl
  i5 := by kernel_rfl
  i9 := by kernel_rfl
  i20 := by kernel_rfl
  i37 := by kernel_rfl
  i46 := by kernel_rfl
  i51 := by kernel_rfl
  i53 := by kernel_rfl
  i171 := by kernel_rfl
  i173 := by kernel_rfl
  i212 := by kernel_rfl
  i232 := by kernel_rfl
  i233 := by kernel_rfl
  m17 := by kernel_rfl
  m18 := by kernel_rfl
  m19 := by kernel_rfl }
open Go.RowKit Go.Sort Go.Lib in
theorem Tryz.strconv_Itoa (n : Int) (h0 : -9223372036854775808 ≤ n) (h1 : n ≤ 9223372036854775807) (w : World) (htab : Lib.TabIs Tryz.prog w "internal/strconv.uint64pow10" .u64 Lib.pow10Tab) :
    Calls Tryz.prog 125 #[.int .i64 n] w fun e w' => e = .returned (.string ⟨(Lib.itoa n).toArray⟩) ∧ ∃ k os, w' = grow (w.drewN k) os := Any.strconv_Itoa Tryz.laysM171 n h0 h1 w htab
def Tryz.laysC172_ren : Go.Shelf.Ren := ⟨fun | 172 => 124 | 244 => 168 | 245 => 169 | 247 => 200 | 279 => 201 | 280 => 202 | 281 => 203 | 282 => 204 | 287 => 222 | 316 => 223 | 171 => 125 | 205 => 224 | 321 => 235 | 322 => 236 | 243 => 170 | 246 => 205 | 283 => 225 | 284 => 226 | 285 => 227 | 286 => 228 | 129 => 238 | 317 => 237 | 318 => 239 | 319 => 240 | 320 => 241 | 337 => 244 | 338 => 245 | n => n, fun | 9 => 9 | 3 => 3 | 75 => 116 | 76 => 168 | 4 => 4 | 5 => 5 | 167 => 230 | 37 => 94 | 0 => 0 | 85 => 231 | 2 => 2 | 168 => 233 | 53 => 192 | 175 => 260 | 46 => 79 | 210 => 264 | 127 => 275 | 145 => 278 | 143 => 276 | 21 => 21 | 171 => 266 | 173 => 269 | 212 => 280 | 51 => 107 | 20 => 20 | 213 => 281 | 232 => 290 | 233 => 291 | 80 => 47 | n => n, fun | 15 => 2 | 16 => 3 | 17 => 4 | 18 => 7 | 19 => 8 | n => n⟩
theorem Tryz.laysC172 : Go.Proofs.LaysC.n172 Tryz.prog Tryz.laysC172_ren := {
  mixed := by kernel_rfl
  f129 := Tryz.func238.trans (congrArg some (by kernel_rfl))
  f171 := Tryz.func125.trans (congrArg some (by kernel_rfl))
  f172 := Tryz.func124.trans (congrArg some (by kernel_rfl))
  f205 := Tryz.func224.trans (congrArg some (by kernel_rfl))
  f243 := Tryz.func170.trans (congrArg some (by kernel_rfl))
  f244 := Tryz.func168.trans (congrArg some (by kernel_rfl))
  f245 := Tryz.func169.trans (congrArg some (by kernel_rfl))
  f246 := Tryz.func205.trans (congrArg some (by kernel_rfl))
  f247 := Tryz.func200.trans (congrArg some (by kernel_rfl))
  f279 := Tryz.func201.trans (congrArg some (by kernel_rfl))
  f280 := Tryz.func202.trans (congrArg some (by kernel_rfl))
  f281 := Tryz.func203.trans (congrArg some (by kernel_rfl))
  f282 := Tryz.func204.trans (congrArg some (by kernel_rfl))
  f283 := Tryz.func225.trans (congrArg some (by kernel_rfl))
  f284 := Tryz.func226.trans (congrArg some (by kernel_rfl))
  f285 := Tryz.func227.trans (congrArg some (by kernel_rfl))
  f286 := Tryz.func228.trans (congrArg some (by kernel_rfl))
  f287 := Tryz.func222.trans (congrArg some (by kernel_rfl))
  f316 := Tryz.func223.trans (congrArg some (by kernel_rfl))
  f317 := Tryz.func237.trans (congrArg some (by kernel_rfl))
  f318 := Tryz.func239.trans (congrArg some (by kernel_rfl))
  f319 := Tryz.func240.trans (congrArg some (by kernel_rfl))
  f320 := Tryz.func241.trans (congrArg some (by kernel_rfl))
  f321 := Tryz.func235.trans (congrArg some (by kernel_rfl))
  f322 := Tryz.func236.trans (congrArg some (by kernel_rfl))
  f337 := Tryz.func244.trans (congrArg some (by kernel_rfl))
  f338 := Tryz.func245.trans (congrArg some (by kernel_rfl))
  t0 := Tryz.underlying0
  a0 := Tryz.isAgg0
  z0 := Tryz.sizeOf0
  v0 := Tryz.zeroValue0
  t2 := Tryz.underlying2
  a2 := Tryz.isAgg2
  z2 := Tryz.sizeOf2
  v2 := Tryz.zeroValue2
  t3 := Tryz.underlying3
  a3 := Tryz.isAgg3
  z3 := Tryz.sizeOf3
  v3 := Tryz.zeroValue3
  t4 := Tryz.underlying4
  a4 := Tryz.isAgg4
  z4 := Tryz.sizeOf4
  v4 := Tryz.zeroValue4
  t5 := Tryz.underlying5
  a5 := Tryz.isAgg5
  z5 := Tryz.sizeOf5
  v5 := Tryz.zeroValue5
  t9 := Tryz.underlying9
  a9 := Tryz.isAgg9
  z9 := Tryz.sizeOf9
  v9 := Tryz.zeroValue9
  t20 := Tryz.underlying20
  a20 := Tryz.isAgg20
  z20 := Tryz.sizeOf20
  v20 := Tryz.zeroValue20
  t21 := Tryz.underlying21
  a21 := Tryz.isAgg21
  z21 := Tryz.sizeOf21
  v21 := Tryz.zeroValue21
  t37 := Tryz.underlying94
  a37 := Tryz.isAgg94
  z37 := Tryz.sizeOf94
  v37 := Tryz.zeroValue94
  t46 := Tryz.underlying79
  a46 := Tryz.isAgg79
  z46 := Tryz.sizeOf79
  v46 := Tryz.zeroValue79
  t51 := Tryz.underlying107
  a51 := Tryz.isAgg107
  z51 := Tryz.sizeOf107
  v51 := Tryz.zeroValue107
  t53 := Tryz.underlying192
  a53 := Tryz.isAgg192
  z53 := Tryz.sizeOf192
  v53 := Tryz.zeroValue192
  t75 := Tryz.underlying116
  a75 := Tryz.isAgg116
  z75 := Tryz.sizeOf116
  v75 := Tryz.zeroValue116
  t76 := Tryz.underlying168
  a76 := Tryz.isAgg168
  z76 := Tryz.sizeOf168
  v76 := Tryz.zeroValue168
  t85 := Tryz.underlying231
  a85 := Tryz.isAgg231
  z85 := Tryz.sizeOf231
  v85 := Tryz.zeroValue231
  t127 := Tryz.underlying275
  a127 := Tryz.isAgg275
  z127 := Tryz.sizeOf275
  v127 := Tryz.zeroValue275
  t143 := Tryz.underlying276
  a143 := Tryz.isAgg276
  z143 := Tryz.sizeOf276
  v143 := Tryz.zeroValue276
  t145 := Tryz.underlying278
  a145 := Tryz.isAgg278
  z145 := Tryz.sizeOf278
  v145 := Tryz.zeroValue278
  t167 := Tryz.underlying230
  a167 := Tryz.isAgg230
  z167 := Tryz.sizeOf230
  v167 := Tryz.zeroValue230
  t168 := Tryz.underlying233
  a168 := Tryz.isAgg233
  z168 := Tryz.sizeOf233
  v168 := Tryz.zeroValue233
  t171 := Tryz.underlying266
  a171 := Tryz.isAgg266
  z171 := Tryz.sizeOf266
  v171 := Tryz.zeroValue266
  t173 := Tryz.underlying269
  a173 := Tryz.isAgg269
  z173 := Tryz.sizeOf269
  v173 := Tryz.zeroValue269
  t175 := Tryz.underlying260
  a175 := Tryz.isAgg260
  z175 := Tryz.sizeOf260
  v175 := Tryz.zeroValue260
  t210 := Tryz.underlying264
  a210 := Tryz.isAgg264
  z210 := Tryz.sizeOf264
  v210 := Tryz.zeroValue264
  t212 := Tryz.underlying280
  a212 := Tryz.isAgg280
  z212 := Tryz.sizeOf280
  v212 := Tryz.zeroValue280
  t213 := Tryz.underlying281
  a213 := Tryz.isAgg281
  z213 := Tryz.sizeOf281
  t232 := Tryz.underlying290
  a232 := Tryz.isAgg290
  z232 := Tryz.sizeOf290
  v232 := Tryz.zeroValue290
  t233 := Tryz.underlying291
  a233 := Tryz.isAgg291
  z233 := Tryz.sizeOf291
  v233 := Tryz.zeroValue291
  g15 := by kernel_rfl
  g16 := by kernel_rfl
  g17 := by kernel_rfl
  g18 := by kernel_rfl
  g19 := by kernel_rfl
  t80 := Tryz.underlying47
  a80 := Tryz.isAgg47
  z80 := Tryz.sizeOf47
  v80 := Tryz.zeroValue47
  i0 := by kernel_rfl
  i2 := by kernel_rfl
  i3 := by kernel_rfl
  i4 := by kernel_rfl
  i5 := by kernel_rfl
  i9 := by kernel_rfl
  i20 := by kernel_rfl
  i21 := by kernel_rfl
  i37 := by kernel_rfl
  i46 := by kernel_rfl
  i51 := by kernel_rfl
  i53 := by kernel_rfl
  i75 := by kernel_rfl
  i76 := by kernel_rfl
  i80 := by kernel_rfl
  i85 := by kernel_rfl
  i127 := by kernel_rfl
  i143 := by kernel_rfl
  i145 := by kernel_rfl
  i167 := by kernel_rfl
  i168 := by kernel_rfl
  i171 := by kernel_rfl
  i173 := by kernel_rfl
  i175 := by kernel_rfl
  i210 := by kernel_rfl
  i212 := by kernel_rfl
  i232 := by kernel_rfl
  i233 := by kernel_rfl
  m15 := by kernel_rfl
  m16 := by kernel_rfl
  m17 := by kernel_rfl
  m18 := by kernel_rfl
  m19 := by kernel_rfl
  c0 := by kernel_rfl
  c2 := by kernel_rfl
  c3 := by kernel_rfl
  c4 := by kernel_rfl
  c5 := by kernel_rfl
  c9 := by kernel_rfl
  c20 := by kernel_rfl
  c21 := by kernel_rfl
  c37 := by kernel_rfl
  c46 := by kernel_rfl
  c51 := by kernel_rfl
  c53 := by kernel_rfl
  c75 := by kernel_rfl
  c76 := by kernel_rfl
  c80 := by kernel_rfl
  c85 := by kernel_rfl
  c127 := by kernel_rfl
  c143 := by kernel_rfl
  c145 := by kernel_rfl
  c167 := by kernel_rfl
  c168 := by kernel_rfl
  c171 := by kernel_rfl
  c173 := by kernel_rfl
  c175 := by kernel_rfl
  c210 := by kernel_rfl
  c212 := by kernel_rfl
  c213 := by kernel_rfl
  c232 := by kernel_rfl
  c233 := by kernel_rfl }
open Go.RowKit in
theorem Tryz.strconv_Atoi_ok (s : ByteArray) (hmax : s.size ≤ 9223372036854775806) (v : Int) (h : Lib.atoiAll s.data.toList = .ok v) (w : World) :
    Calls Tryz.prog 124 #[.string s] w fun e w' => e = .returned (.tuple #[.int .i64 v, .nilIface]) ∧ (w' = w ∨ ∃ t, w' = Lib.bytesWorld w 5 t) := Any.strconv_Atoi_ok Tryz.laysC172 s hmax v h w
open Go.RowKit in
theorem Tryz.strconv_Atoi_syntax_var (s : ByteArray) (hlim : s.size ≤ 281474976710656) (h : Lib.atoiAll s.data.toList = Go.Lib.NumEnd.syntax) (tp : TypeId) (p : Value) (w : World) (hvar : w.var? Tryz.prog "strconv.ErrSyntax" = some #[.iface tp p]) :
    Calls Tryz.prog 124 #[.string s] w fun e w' => ∃ N, e = .returned (.tuple #[.int .i64 0, .iface 233 (.pointer (some ⟨N, 0, none⟩))]) ∧ w.heap.size ≤ N ∧ w'.heap[N]? = some (.cells #[.string ⟨#[65, 116, 111, 105]⟩, .string s, .iface tp p] 264 (0, 0)) ∧ Below w.heap.size w w' := Any.strconv_Atoi_syntax_var Tryz.laysC172 s hlim h tp p w hvar
open Go.RowKit in
theorem Tryz.strconv_Atoi_range_var (s : ByteArray) (hlim : s.size ≤ 281474976710656) (h : Lib.atoiAll s.data.toList = .range) (tp : TypeId) (p : Value) (w : World) (hvar : w.var? Tryz.prog "strconv.ErrRange" = some #[.iface tp p]) :
    Calls Tryz.prog 124 #[.string s] w fun e w' => ∃ N, e = .returned (.tuple #[.int .i64 (Lib.atoiSat s.data.toList), .iface 233 (.pointer (some ⟨N, 0, none⟩))]) ∧ w.heap.size ≤ N ∧ w'.heap[N]? = some (.cells #[.string ⟨#[65, 116, 111, 105]⟩, .string s, .iface tp p] 264 (0, 0)) ∧ Below w.heap.size w w' := Any.strconv_Atoi_range_var Tryz.laysC172 s hlim h tp p w hvar
def Tryz.lays145_ren : Go.Shelf.Ren := ⟨fun | 145 => 83 | 220 => 129 | 219 => 176 | 217 => 210 | 225 => 211 | 224 => 212 | 267 => 213 | 266 => 230 | 314 => 231 | n => n, fun | 9 => 9 | 4 => 4 | 59 => 124 | 3 => 3 | 5 => 5 | 46 => 79 | 146 => 190 | 51 => 107 | n => n, fun | 1 => 1 | n => n⟩
theorem Tryz.lays145 : Go.Proofs.Lays.n145 Tryz.prog Tryz.lays145_ren := {
  mixed := by kernel_rfl
  f145 := Tryz.func83.trans (congrArg some (by kernel_rfl))
  f217 := Tryz.func210.trans (congrArg some (by kernel_rfl))
  f219 := Tryz.func176.trans (congrArg some (by kernel_rfl))
  f220 := Tryz.func129.trans (congrArg some (by kernel_rfl))
  f224 := Tryz.func212.trans (congrArg some (by kernel_rfl))
  f225 := Tryz.func211.trans (congrArg some (by kernel_rfl))
  f266 := Tryz.func230.trans (congrArg some (by kernel_rfl))
  f267 := Tryz.func213.trans (congrArg some (by kernel_rfl))
  f314 := Tryz.func231.trans (congrArg some (by kernel_rfl))
  t3 := Tryz.underlying3
  a3 := Tryz.isAgg3
  z3 := Tryz.sizeOf3
  v3 := Tryz.zeroValue3
  t4 := Tryz.underlying4
  a4 := Tryz.isAgg4
  z4 := Tryz.sizeOf4
  v4 := Tryz.zeroValue4
  t5 := Tryz.underlying5
  a5 := Tryz.isAgg5
  z5 := Tryz.sizeOf5
  v5 := Tryz.zeroValue5
  t9 := Tryz.underlying9
  a9 := Tryz.isAgg9
  z9 := Tryz.sizeOf9
  v9 := Tryz.zeroValue9
  t46 := Tryz.underlying79
  a46 := Tryz.isAgg79
  z46 := Tryz.sizeOf79
  v46 := Tryz.zeroValue79
  t51 := Tryz.underlying107
  a51 := Tryz.isAgg107
  z51 := Tryz.sizeOf107
  v51 := Tryz.zeroValue107
  t59 := Tryz.underlying124
  a59 := Tryz.isAgg124
  z59 := Tryz.sizeOf124
  v59 := Tryz.zeroValue124
  t146 := Tryz.underlying190
  a146 := Tryz.isAgg190
  z146 := Tryz.sizeOf190
  v146 := Tryz.zeroValue190
  g1 := by kernel_rfl }
open Go.RowKit Go.Lib in
theorem Tryz.strings_Cut (s sep : ByteArray) (m : Int) (w : World) (hs : s.size < 4294967281) (hm : w.cell? ⟨1, 0, none⟩ = some (.int .i64 m)) :
    Calls Tryz.prog 83 #[.string s, .string sep] w fun e w' => e = .returned (.tuple #[.string ⟨(Lib.cut s.data.toList sep.data.toList).1.toArray⟩, .string ⟨(Lib.cut s.data.toList sep.data.toList).2.1.toArray⟩, .bool (Lib.cut s.data.toList sep.data.toList).2.2]) ∧ ∃ n, w' = w.drewN n := Any.strings_Cut Tryz.lays145 s sep m w hs hm
def Tryz.lays102_ren : Go.Shelf.Ren := ⟨fun | 102 => 175 | 209 => 209 | 207 => 229 | n => n, fun | 9 => 9 | 4 => 4 | 3 => 3 | n => n, fun | n => n⟩
theorem Tryz.lays102 : Go.Proofs.Lays.n102 Tryz.prog Tryz.lays102_ren := {
  mixed := by kernel_rfl
  f102 := Tryz.func175.trans (congrArg some (by kernel_rfl))
  f207 := Tryz.func229.trans (congrArg some (by kernel_rfl))
  f209 := Tryz.func209.trans (congrArg some (by kernel_rfl))
  t3 := Tryz.underlying3
  a3 := Tryz.isAgg3
  z3 := Tryz.sizeOf3
  v3 := Tryz.zeroValue3
  t4 := Tryz.underlying4
  a4 := Tryz.isAgg4
  z4 := Tryz.sizeOf4
  v4 := Tryz.zeroValue4
  t9 := Tryz.underlying9
  a9 := Tryz.isAgg9
  z9 := Tryz.sizeOf9
  v9 := Tryz.zeroValue9 }
open Go.RowKit Go.Lib in
theorem Tryz.strings_TrimSuffix (s p : ByteArray) (w : World) (hs : s.size ≤ 9223372036854775807) :
    Calls Tryz.prog 175 #[.string s, .string p] w fun e w' => e = .returned (.string ⟨(Lib.trimSuffix s.data.toList p.data.toList).toArray⟩) ∧ w' = w := Any.strings_TrimSuffix Tryz.lays102 s p w hs
def Tryz.lays146_ren : Go.Shelf.Ren := ⟨fun | 146 => 122 | 221 => 167 | 268 => 197 | 138 => 198 | 143 => 199 | 195 => 219 | 197 => 220 | 218 => 221 | 219 => 176 | 260 => 234 | 217 => 210 | 225 => 211 | 224 => 212 | 267 => 213 | 266 => 230 | 314 => 231 | n => n, fun | 9 => 9 | 31 => 35 | 3 => 3 | 4 => 4 | 0 => 0 | 105 => 258 | 21 => 21 | 5 => 5 | 46 => 79 | 119 => 285 | 139 => 288 | 138 => 287 | 146 => 190 | 51 => 107 | n => n, fun | 1 => 1 | 3 => 5 | 4 => 6 | n => n⟩
theorem Tryz.lays146 : Go.Proofs.Lays.n146 Tryz.prog Tryz.lays146_ren := {
  mixed := by kernel_rfl
  f138 := Tryz.func198.trans (congrArg some (by kernel_rfl))
  f143 := Tryz.func199.trans (congrArg some (by kernel_rfl))
  f146 := Tryz.func122.trans (congrArg some (by kernel_rfl))
  f195 := Tryz.func219.trans (congrArg some (by kernel_rfl))
  f197 := Tryz.func220.trans (congrArg some (by kernel_rfl))
  f217 := Tryz.func210.trans (congrArg some (by kernel_rfl))
  f218 := Tryz.func221.trans (congrArg some (by kernel_rfl))
  f219 := Tryz.func176.trans (congrArg some (by kernel_rfl))
  f221 := Tryz.func167.trans (congrArg some (by kernel_rfl))
  f224 := Tryz.func212.trans (congrArg some (by kernel_rfl))
  f225 := Tryz.func211.trans (congrArg some (by kernel_rfl))
  f260 := Tryz.func234.trans (congrArg some (by kernel_rfl))
  f266 := Tryz.func230.trans (congrArg some (by kernel_rfl))
  f267 := Tryz.func213.trans (congrArg some (by kernel_rfl))
  f268 := Tryz.func197.trans (congrArg some (by kernel_rfl))
  f314 := Tryz.func231.trans (congrArg some (by kernel_rfl))
  t0 := Tryz.underlying0
  a0 := Tryz.isAgg0
  z0 := Tryz.sizeOf0
  v0 := Tryz.zeroValue0
  t3 := Tryz.underlying3
  a3 := Tryz.isAgg3
  z3 := Tryz.sizeOf3
  v3 := Tryz.zeroValue3
  t4 := Tryz.underlying4
  a4 := Tryz.isAgg4
  z4 := Tryz.sizeOf4
  v4 := Tryz.zeroValue4
  t5 := Tryz.underlying5
  a5 := Tryz.isAgg5
  z5 := Tryz.sizeOf5
  v5 := Tryz.zeroValue5
  t9 := Tryz.underlying9
  a9 := Tryz.isAgg9
  z9 := Tryz.sizeOf9
  v9 := Tryz.zeroValue9
  t21 := Tryz.underlying21
  a21 := Tryz.isAgg21
  z21 := Tryz.sizeOf21
  v21 := Tryz.zeroValue21
  t31 := Tryz.underlying35
  a31 := Tryz.isAgg35
  z31 := Tryz.sizeOf35
  v31 := Tryz.zeroValue35
  t46 := Tryz.underlying79
  a46 := Tryz.isAgg79
  z46 := Tryz.sizeOf79
  v46 := Tryz.zeroValue79
  t51 := Tryz.underlying107
  a51 := Tryz.isAgg107
  z51 := Tryz.sizeOf107
  v51 := Tryz.zeroValue107
  t105 := Tryz.underlying258
  a105 := Tryz.isAgg258
  z105 := Tryz.sizeOf258
  v105 := Tryz.zeroValue258
  t119 := Tryz.underlying285
  a119 := Tryz.isAgg285
  z119 := Tryz.sizeOf285
  t138 := Tryz.underlying287
  a138 := Tryz.isAgg287
  z138 := Tryz.sizeOf287
  v138 := Tryz.zeroValue287
  t139 := Tryz.underlying288
  a139 := Tryz.isAgg288
  z139 := Tryz.sizeOf288
  v139 := Tryz.zeroValue288
  t146 := Tryz.underlying190
  a146 := Tryz.isAgg190
  z146 := Tryz.sizeOf190
  v146 := Tryz.zeroValue190
  g1 := by kernel_rfl
  g3 := by kernel_rfl
  g4 := by kernel_rfl }
open Go.RowKit Go.Lib in
theorem Tryz.strings_Split (s sep : ByteArray) (m : Int) (w : World) (hs : s.size < 4294967281) (hm : w.cell? ⟨1, 0, none⟩ = some (.int .i64 m)) (h1 : 1 ≤ sep.size) :
    Calls Tryz.prog 122 #[.string s, .string sep] w fun e w' =>
      e = .returned (.slice (some ⟨w.heap.size, 0, none⟩) (Lib.countB s sep + 1) (Lib.countB s sep + 1)) ∧ w' = w.alloc (.cells ((Lib.splitB sep 0 (Lib.countB s sep) s).map Value.string).toArray 9) := Any.strings_Split Tryz.lays146 (by kernel_rfl) s sep m w hs hm h1
end Go.Proofs
namespace Go.Proofs.YtlgkplnifaoeeaaGreatDoor
open Go.RowKit Go.VS
theorem zEh {w w' : World} (h : Below w.heap.size w w') : Keep (fun _ => False) w w' := ⟨h.os, h.tape, h.output, h.size, fun k hk _ => h.block k hk⟩
theorem zBs {P : Program} {f : FuncId} {ad : List AD} {pre : TupA ad → Prop} {post : TupA ad → Out} (hc : zA6 P f) (h1 : ∀ x, (post x).left = []) (h2 : ∀ x, (post x).objs = [])
    (h : ∀ (C : Ctx) (γ : Gam) (x : TupA ad) (vs : List Value), pre x → Entry C γ P ad x vs → Calls P f vs.toArray C.w0 fun e w' => ∃ us, e = .returned (zFG us) ∧ zCb C γ w' (post x).res [] [] us ∧ Keep (fun _ => False) C.w0 w') : FnSpec P f ⟨ad, pre, post⟩ := by
  refine ⟨hc, fun C γ x vs hpre hen => (h C γ x vs hpre hen).mono fun e w' ⟨us, he, hr, hk⟩ => ⟨_, γ, he, ⟨⟨[], [], us, rfl, hr, ?_, ?_⟩, fun p hp => ?_, fun p hp => ?_, fun k l hl => Nat.lt_of_lt_of_le (hen.ownlt k l hl) hk.size⟩, ⟨hk.os, hk.tape, hk.output, hk.size, fun b hb _ => hk.block b hb (fun h => h)⟩⟩⟩
  · show (([] : List Nat) ++ List.map Prod.fst (post x).left).Nodup
    rw [h1]; exact List.nodup_nil
  · show (([] : List Nat) ++ List.map Prod.fst (post x).objs).Nodup
    rw [h2]; exact List.nodup_nil
  · have hp' : p ∈ (post x).left := hp
    rw [h1] at hp'; cases hp'
  · have hp' : p ∈ (post x).objs := hp
    rw [h2] at hp'; cases hp'
def itoaV (n : Int) : ByteArray := ⟨(Lib.itoa n).toArray⟩
def trimV (b p : ByteArray) : ByteArray := ⟨(Lib.trimSuffix b.data.toList p.data.toList).toArray⟩
def cut1 (b p : ByteArray) : ByteArray := ⟨(Lib.cut b.data.toList p.data.toList).1.toArray⟩
def cut2 (b p : ByteArray) : ByteArray := ⟨(Lib.cut b.data.toList p.data.toList).2.1.toArray⟩
def cutB (b p : ByteArray) : Bool := (Lib.cut b.data.toList p.data.toList).2.2
def zAN (b p : ByteArray) : List ByteArray := Lib.splitB p 0 (Lib.countB b p) b
@[push_cast] def zGF : Con := ⟨[.dat .int], fun (x : Int × Unit) => InR x.1, fun (x : Int × Unit) => { res := [.val .str (itoaV x.1)] }⟩
theorem zE8 : FnSpec Tryz.prog 125 zGF := by
  refine zBs ⟨_, Tryz.func125, by kernel_rfl, rfl⟩ (fun _ => rfl) (fun _ => rfl) fun C γ x vs hpre hen => ?_
  have hg := hen.ds.2.gd
  rw [hen.P] at hg
  have hargs := hen.args
  obtain ⟨(n : Int), _⟩ := x
  obtain ⟨v0, _, rfl, h0, rfl⟩ := hargs
  obtain rfl : v0 = .int .i64 n := zAA h0
  obtain ⟨g, hgn⟩ : ∃ g, Tryz.prog.globalNamed "internal/strconv.uint64pow10" = some g := Option.isSome_iff_exists.1 (by kernel_rfl)
  have hn : InR n := hpre
  unfold InR at hn
  refine (Tryz.strconv_Itoa n (by omega) (by omega) C.w0 (hg.pow g hgn)).mono ?_
  rintro e w' ⟨rfl, k, os, rfl⟩
  exact ⟨[_], rfl, ⟨_, [], rfl, ⟨[.string ⟨(Lib.itoa n).toArray⟩], rfl, rfl⟩, rfl, rfl, rfl⟩, zEh (Lib.below_grow _ _ (Nat.le_refl _) k os)⟩
def zCK (s : ByteArray) : Bool := match Lib.atoiAll s.data.toList with
  | .ok _ => true
  | _ => false
def atoiV (s : ByteArray) : Int := match Lib.atoiAll s.data.toList with
  | .ok v => v
  | .range => Lib.atoiSat s.data.toList
  | _ => 0
@[push_cast] def zIe : Con := ⟨[.dat .str], fun (x : ByteArray × Unit) => x.1.size ≤ 1000000, fun (x : ByteArray × Unit) => { res := [.val .int (atoiV x.1), if zCK x.1 = true then .raw .nilIface else .ifc] }⟩
theorem zGt : FnSpec Tryz.prog 124 zIe := by
  refine zBs ⟨_, Tryz.func124, by kernel_rfl, rfl⟩ (fun _ => rfl) (fun _ => rfl) fun C γ x vs hpre hen => ?_
  have hg := hen.ds.2.gd
  rw [hen.P] at hg
  have hargs := hen.args
  obtain ⟨(t : ByteArray), _⟩ := x
  obtain ⟨v0, _, rfl, h0, rfl⟩ := hargs
  obtain rfl : v0 = .string t := zBz h0
  have hn : t.size ≤ 1000000 := hpre
  show Calls _ _ #[.string t] C.w0 _
  cases h : Lib.atoiAll t.data.toList with
  | ok v =>
    have e1 : atoiV t = v := by simp only [atoiV, h]
    have e2 : zCK t = true := by simp only [zCK, h]
    refine (Tryz.strconv_Atoi_ok t (by omega) v h C.w0).mono ?_
    rintro e w' ⟨rfl, hw⟩
    refine ⟨[_, _], rfl, ?_, ?_⟩
    · simp only [e1, e2, if_true]
      exact ⟨_, _, rfl, ⟨[.int .i64 v], rfl, rfl⟩, _, rfl, rfl, rfl, rfl⟩
    · rcases hw with rfl | ⟨t', rfl⟩
      · exact Keep.refl _ _
      · exact zEh (Go.Joins.below_bytesWorld _ _ _ _ (Nat.le_refl _))
  | range =>
    have e1 : atoiV t = Lib.atoiSat t.data.toList := by simp only [atoiV, h]
    have e2 : zCK t = false := by simp only [zCK, h]
    obtain ⟨g, hgn⟩ : ∃ g, Tryz.prog.globalNamed "strconv.ErrRange" = some g := Option.isSome_iff_exists.1 (by kernel_rfl)
    obtain ⟨tp, p, hv⟩ := hg.rng g hgn
    refine (Tryz.strconv_Atoi_range_var t (by omega) h tp p C.w0 hv).mono ?_
    rintro e w' ⟨N, rfl, _, _, hb⟩
    refine ⟨[_, _], rfl, ?_, zEh hb⟩
    simp only [e1, e2, Bool.false_eq_true, if_false]
    exact ⟨_, _, rfl, ⟨[.int .i64 _], rfl, rfl⟩, _, _, _, rfl, rfl, rfl, rfl⟩
  | _ =>
    have e1 : atoiV t = 0 := by simp only [atoiV, h]
    have e2 : zCK t = false := by simp only [zCK, h]
    obtain ⟨g, hgn⟩ : ∃ g, Tryz.prog.globalNamed "strconv.ErrSyntax" = some g := Option.isSome_iff_exists.1 (by kernel_rfl)
    obtain ⟨tp, p, hv⟩ := hg.syn g hgn
    refine (Tryz.strconv_Atoi_syntax_var t (by omega) h tp p C.w0 hv).mono ?_
    rintro e w' ⟨N, rfl, _, _, hb⟩
    refine ⟨[_, _], rfl, ?_, zEh hb⟩
    simp only [e1, e2, Bool.false_eq_true, if_false]
    exact ⟨_, _, rfl, ⟨[.int .i64 0], rfl, rfl⟩, _, _, _, rfl, rfl, rfl, rfl⟩
@[push_cast] def zPY : Con := ⟨[.dat .str, .dat .str], fun (x : ByteArray × ByteArray × Unit) => x.1.size ≤ 1000000, fun (x : ByteArray × ByteArray × Unit) => { res := [.val .str (trimV x.1 x.2.1)] }⟩
theorem zPZ : FnSpec Tryz.prog 175 zPY := by
  refine zBs ⟨_, Tryz.func175, by kernel_rfl, rfl⟩ (fun _ => rfl) (fun _ => rfl) fun C γ x vs hpre hen => ?_
  have hargs := hen.args
  obtain ⟨(t : ByteArray), (u : ByteArray), _⟩ := x
  obtain ⟨v0, _, rfl, h0, v1, _, rfl, h1, rfl⟩ := hargs
  obtain rfl : v0 = .string t := zBz h0
  obtain rfl : v1 = .string u := zBz h1
  have hn : t.size ≤ 1000000 := hpre
  refine (Tryz.strings_TrimSuffix t u C.w0 (by omega)).mono ?_
  rintro e w' ⟨rfl, rfl⟩
  exact ⟨[_], rfl, ⟨_, [], rfl, ⟨[.string _], rfl, rfl⟩, rfl, rfl, rfl⟩, Keep.refl _ _⟩
@[push_cast] def zOj : Con := ⟨[.dat .str, .dat .str], fun (x : ByteArray × ByteArray × Unit) => x.1.size ≤ 1000000, fun (x : ByteArray × ByteArray × Unit) =>
  { res := [.val .str (cut1 x.1 x.2.1), .val .str (cut2 x.1 x.2.1), .val .bool (cutB x.1 x.2.1)] }⟩
theorem zLL : FnSpec Tryz.prog 83 zOj := by
  refine zBs ⟨_, Tryz.func83, by kernel_rfl, rfl⟩ (fun _ => rfl) (fun _ => rfl) fun C γ x vs hpre hen => ?_
  have hg := hen.ds.2.gd
  rw [hen.P] at hg
  have hargs := hen.args
  obtain ⟨(t : ByteArray), (u : ByteArray), _⟩ := x
  obtain ⟨v0, _, rfl, h0, v1, _, rfl, h1, rfl⟩ := hargs
  obtain rfl : v0 = .string t := zBz h0
  obtain rfl : v1 = .string u := zBz h1
  have hn : t.size ≤ 1000000 := hpre
  obtain ⟨m, hm⟩ := hg.max 1 (by kernel_rfl)
  refine (Tryz.strings_Cut t u m C.w0 (by omega) hm).mono ?_
  rintro e w' ⟨rfl, n, rfl⟩
  exact ⟨[_, _, _], rfl, ⟨_, _, rfl, ⟨[.string _], rfl, rfl⟩, _, _, rfl, ⟨[.string _], rfl, rfl⟩, _, _, rfl, ⟨[.bool _], rfl, rfl⟩, rfl, rfl, rfl⟩, ⟨rfl, rfl, rfl, Nat.le_refl _, fun _ _ _ => rfl⟩⟩
@[push_cast] def zIK : Con := ⟨[.dat .str, .dat .str], fun (x : ByteArray × ByteArray × Unit) => x.1.size ≤ 1000000 ∧ 1 ≤ x.2.1.size, fun (x : ByteArray × ByteArray × Unit) =>
  { res := [.val (.sl .str) (zAN x.1 x.2.1)] }⟩
theorem zHW : FnSpec Tryz.prog 122 zIK := by
  refine zBs ⟨_, Tryz.func122, by kernel_rfl, rfl⟩ (fun _ => rfl) (fun _ => rfl) fun C γ x vs hpre hen => ?_
  have hg := hen.ds.2.gd
  rw [hen.P] at hg
  have hlt := hen.ownlt
  have hargs := hen.args
  obtain ⟨(t : ByteArray), (u : ByteArray), _⟩ := x
  obtain ⟨v0, _, rfl, h0, v1, _, rfl, h1, rfl⟩ := hargs
  obtain rfl : v0 = .string t := zBz h0
  obtain rfl : v1 = .string u := zBz h1
  obtain ⟨hn, hu⟩ := hpre
  dsimp only at hn hu
  obtain ⟨m, hm⟩ := hg.max 1 (by kernel_rfl)
  refine (Tryz.strings_Split t u m C.w0 (by omega) hm hu).mono ?_
  rintro e w' ⟨rfl, rfl⟩
  refine ⟨[_], rfl, ⟨_, [], rfl, ?_, rfl, rfl, rfl⟩, ⟨rfl, rfl, rfl, by simp only [World.alloc, Array.size_push]; omega, fun k hk _ => by simp only [World.alloc, Array.getElem?_push]; rw [if_neg (by omega)]⟩⟩
  have hlen : (Lib.splitB u 0 (Lib.countB t u) t).length = Lib.countB t u + 1 := Lib.splitB_all u hu 0 _ t rfl
  have hcl : Lib.countB t u ≤ t.size := Lib.countB_le u hu _ t (Nat.le_refl _)
  have hfm : (Lib.splitB u 0 (Lib.countB t u) t).flatMap (Sh.str).cells = (Lib.splitB u 0 (Lib.countB t u) t).map Value.string := by
    generalize Lib.splitB u 0 (Lib.countB t u) t = m
    induction m with
    | nil => rfl
    | cons x m ih => simp only [List.flatMap_cons, List.map_cons, ih]; rfl
  refine ⟨[.slice (some ⟨C.w0.heap.size, 0, none⟩) _ _], zAZ (e := 9) (sh := .str) rfl ?_ (fun g hg => ?_), rfl⟩
  · show World.ownsRow _ 0 _ 1 _ (Lib.splitB u 0 (Lib.countB t u) t).length ((Lib.splitB u 0 (Lib.countB t u) t).flatMap (Sh.str).cells)
    rw [hfm, hlen]
    have hheap : (C.w0.alloc (.cells ((Lib.splitB u 0 (Lib.countB t u) t).map Value.string).toArray 9)).heap[C.w0.heap.size]? = some (.cells ((Lib.splitB u 0 (Lib.countB t u) t).map Value.string).toArray 9 (0, 0)) := by simp only [World.alloc, Array.getElem?_push, if_true]
    exact ⟨by simp [hlen], .inr ⟨C.w0.heap.size, Lib.countB t u + 1, ((Lib.splitB u 0 (Lib.countB t u) t).map Value.string).toArray, rfl, Nat.zero_le _, hheap, Nat.le_refl _, by unfold maxLen; omega, by simp [hlen], by rw [List.toList_toArray, List.take_of_length_le (by simp [hlen])]⟩⟩
  · simp only [Value.ownBlock, Option.some.injEq] at hg
    subst hg
    refine ⟨.inr (.inl (Nat.le_refl _)), ?_⟩
    cases ho : γ.own C.w0.heap.size with
    | none => rfl
    | some l => have := hlt _ l ho; omega
theorem zNF (b p : ByteArray) : (trimV b p).size ≤ b.size := by
  have h := Lib.trimSuffix_le b.data.toList p.data.toList
  rw [Lib.size_eq b]
  show (Lib.trimSuffix b.data.toList p.data.toList).toArray.size ≤ _
  rw [List.size_toArray]
  exact h
theorem zOi (b p : ByteArray) : (cut1 b p).size ≤ b.size := by
  rw [Lib.size_eq b]
  show (Lib.cut b.data.toList p.data.toList).1.toArray.size ≤ _
  rw [List.size_toArray]
  unfold Lib.cut
  split
  · rw [List.length_take]; omega
  · exact Nat.le_refl _
theorem zHT (p : ByteArray) : ∀ (k : Nat) (b : ByteArray), ∀ x ∈ Lib.splitB p 0 k b, x.size ≤ b.size
  | 0, b, x, h => by
    rw [Lib.splitB_zero, List.mem_singleton] at h
    rw [h]; exact Nat.le_refl _
  | k + 1, b, x, h => by
    by_cases hi : Lib.indexB b p = -1
    · rw [Lib.splitB_miss p 0 _ b hi, List.mem_singleton] at h
      rw [h]; exact Nat.le_refl _
    · have h0 : -1 ≤ Lib.indexB b p := Lib.index_ge b.data.toList p.data.toList
      obtain ⟨i, hi2⟩ : ∃ i : Nat, Lib.indexB b p = i := ⟨(Lib.indexB b p).toNat, by omega⟩
      rw [Lib.splitB_hit p 0 k b i hi2] at h
      rcases List.mem_cons.1 h with rfl | h
      · rw [ByteArray.size_extract]; omega
      · have := zHT p k _ x h
        rw [ByteArray.size_extract] at this
        omega
theorem zHV (b p : ByteArray) : ∀ x ∈ zAN b p, x.size ≤ b.size := zHT p _ b
theorem zEu (b p : ByteArray) (h : 1 ≤ p.size) : (zAN b p).length = Lib.countB b p + 1 := Lib.splitB_all p h 0 _ b rfl
theorem zHU (b p : ByteArray) (h : 1 ≤ p.size) : (zAN b p).length ≤ b.size + 1 := by
  rw [zEu b p h]
  have := Lib.countB_le p h _ b (Nat.le_refl _)
  omega
theorem zCI {n : Int} (h : InR n) : (itoaV n).size ≤ 21 := by
  unfold InR at h
  have := Lib.itoa_length_le n (by omega) (by omega)
  show (Lib.itoa n).toArray.size ≤ _
  rw [List.size_toArray]; exact this
end Go.Proofs.YtlgkplnifaoeeaaGreatDoor
namespace Go.Proofs.YtlgkplnifaoeeaaGreatDoor
open Go.RowKit Go.VS
def chgE (l : List Int) (i n y : Int) : Int := if (l.length : Int) ≤ i then 4 else if n = 0 then 1 else if 30 < l.getD i.toNat 0 + y then 3 else if l.getD i.toNat 0 + y < 0 then 9 else 0
def chgL (l : List Int) (i n y : Int) : List Int := if chgE l i n y = 0 then l.set i.toNat (l.getD i.toNat 0 + y) else l
structure ChgPre (rc : RC) (i y : Int) : Prop where
  hrc : rc = .flat 3 .int (flatI rc)
  len : (flatI rc).length ≤ 1000
  at' : ∀ k, k < (flatI rc).length → 0 ≤ (flatI rc).getD k 0 ∧ (flatI rc).getD k 0 ≤ 30
  i : 0 ≤ i ∧ i ≤ 99999
  y : -99999 ≤ y ∧ y ≤ 99999
@[push_cast] def zOa : Con := ⟨[.lend, .dat .int, .dat .int, .dat .int], fun (x : RC × Int × Int × Int × Unit) => ChgPre x.1 x.2.1 x.2.2.2.1,
  fun (x : RC × Int × Int × Int × Unit) => Out.mk [.val (.err 161) (chgE (flatI x.1) x.2.1 x.2.2.1 x.2.2.2.1)] [(0, .flat 3 .int (chgL (flatI x.1) x.2.1 x.2.2.1 x.2.2.2.1))] []⟩
theorem zQg : FnSpec Tryz.prog 127 zOa := by
  refine FnSpec.of_tri' (E := know [] [] [] []) (zAn all_nil all_nil all_nil) Tryz.func127 rfl rfl (by kernel_rfl) ?_
  intro C x hE hnl hfit hpre
  simp only [Tryz.ntmps127, Tryz.results127, maxLen, Nat.reduceSub, Nat.reducePow, Nat.reduceAdd, Int.cast_ofNat_Int, push_cast] at hnl hfit hpre ⊢
  obtain ⟨(rc : RC), (i : Int), (n : Int), (y : Int), _⟩ := x
  dsimp only at hfit hpre ⊢
  obtain ⟨hrc, hlen, hat, hi, hy⟩ := hpre
  generalize flatI rc = l at *
  subst hrc
  by_cases h1 : (l.length : Int) ≤ i
  · have e1 : chgE l i n y = 4 := if_pos h1
    have e2 : chgL l i n y = l := by rw [chgL, e1]; rfl
    replace hnl := And.intro hnl (And.intro e1 e2)
    exact auB
  have hk := hat i.toNat (by omega)
  by_cases h2 : n = 0
  · have e1 : chgE l i n y = 1 := by rw [chgE, if_neg h1, if_pos h2]
    have e2 : chgL l i n y = l := by rw [chgL, e1]; rfl
    replace hnl := And.intro hnl (And.intro e1 e2)
    exact auB
  by_cases h3 : 30 < l.getD i.toNat 0 + y
  · have e1 : chgE l i n y = 3 := by rw [chgE, if_neg h1, if_neg h2, if_pos h3]
    have e2 : chgL l i n y = l := by rw [chgL, e1]; rfl
    replace hnl := And.intro hnl (And.intro e1 e2)
    exact auB
  by_cases h4 : l.getD i.toNat 0 + y < 0
  · have e1 : chgE l i n y = 9 := by rw [chgE, if_neg h1, if_neg h2, if_neg h3, if_pos h4]
    have e2 : chgL l i n y = l := by rw [chgL, e1]; rfl
    replace hnl := And.intro hnl (And.intro e1 e2)
    exact auB
  have e1 : chgE l i n y = 0 := by rw [chgE, if_neg h1, if_neg h2, if_neg h3, if_neg h4]
  have e2 : chgL l i n y = l.set i.toNat (l.getD i.toNat 0 + y) := by rw [chgL, if_pos e1]
  replace hnl := And.intro hnl (And.intro e1 e2)
  exact auB
end Go.Proofs.YtlgkplnifaoeeaaGreatDoor
