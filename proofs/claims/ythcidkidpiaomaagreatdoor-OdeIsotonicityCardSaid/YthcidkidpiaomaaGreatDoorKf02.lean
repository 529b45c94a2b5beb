/- Shelf FxT Bld FxF FxP -/
import Derived.Shelf.Strings.Builder1
import Derived.Shelf.Strings.Trim
import Derived.Shelf.Small.Utf8
import Derived.Shelf.Small.Strs
import Derived.Shelf.Strings.BuilderF
import Derived.Shelf.Strings.BuilderK
import Derived.Shelf.Strconv.Itoa0
import Derived.Shelf.Strconv.Itoa1
import Derived.Shelf.LaysM
import Derived.Shelf.Strconv.Itoa2
import Derived.Shelf.Strconv.Itoa3
import Derived.Shelf.Strconv.Itoa4
import Derived.Shelf.Strconv.ParseIntEmpty
import Derived.Shelf.Strconv.Clone
import Derived.Shelf.Strconv.SyntaxError
import Derived.Shelf.LaysC
import Derived.Shelf.Strconv.ToError
import Derived.Shelf.Strconv.Lower
import Derived.Shelf.Strconv.ParseUint10
import Derived.Shelf.Strconv.ParseUint10Empty
import Derived.Shelf.Strconv.ParseUint10Any
import Derived.Shelf.Strconv.ParseInt10
import Derived.Shelf.Strconv.RangeError
import Derived.Shelf.Strconv.ToErrorRange
import Derived.Shelf.Strconv.ParseUintEmpty
import Derived.Shelf.Strconv.ParseUint10b64
import Derived.Shelf.Strconv.ParseUint10b32
import Derived.Shelf.Strconv.ParseUint10b16
import Derived.Shelf.Strconv.ParseUint10b8
import Derived.Shelf.Strconv.ParseUint10At
import Derived.Shelf.Strconv.ParseInt10At64
import Derived.Shelf.Strconv.ParseInt10At32
import Derived.Shelf.Strconv.ParseInt10At16
import Derived.Shelf.Strconv.ParseInt10At8
import Derived.Shelf.Strconv.ParseInt10All
import Derived.Shelf.Strconv.ParseIntPublic10
import Derived.Shelf.Strconv.ErrVarParseInt
import Derived.Shelf.Strings.Search1
import Derived.Shelf.Strings.Prefix
import Derived.Shelf.Strings.Runes
import Derived.Shelf.Strings.AsciiSet
import Derived.Shelf.Unicode.DecodeSlow
import Derived.Ground.SlgnProg
import Derived.Shelf.SlicesE.Index
import Derived.Test.YthcidkidpiaomaaGreatDoorProg
import Derived.WalkKit
import Derived.WalkSmall
import Derived.KernelRfl
import Derived.Lib.LaidTab
import Derived.Lib.Builder
import Derived.Sort.Grow
import Derived.WalkLawsBesides
import Derived.Lib.Hide
import Derived.Lib.AppendStr
import Derived.Lib.UnsafeStr
import Derived.Lib.Walk
import Derived.Laws.Externs
import Derived.Outline
import Derived.Deep.LoopGhost
import Derived.Laws.BitsLemmas
import Derived.Deep.DeepCutAuto
import Derived.Deep.CutBlock
import Derived.Lib.ConvBytes
import Derived.Laws.BytesArg
import Derived.Lib.TrimByte
import Derived.Test.YthcidkidpiaomaaGreatDoorKf01
section
namespace Go.Proofs
open Go.Shelf
def Tryz.lays169_ren : Go.Shelf.Ren := ⟨fun | 169 => 98 | n => n, fun | 70 => 123 | 9 => 9 | 0 => 0 | 72 => 125 | 37 => 70 | 127 => 155 | 3 => 3 | 5 => 5 | n => n, fun | n => n⟩
theorem Tryz.lays169 : Go.Proofs.Lays.n169 Tryz.prog Tryz.lays169_ren := {
  mixed := by kernel_rfl
  f169 := Tryz.func98.trans (congrArg some (by kernel_rfl))
  t0 := Tryz.underlying0
  a0 := Tryz.isAgg0
  z0 := Tryz.sizeOf0
  v0 := Tryz.zeroValue0
  t3 := Tryz.underlying3
  a3 := Tryz.isAgg3
  z3 := Tryz.sizeOf3
  v3 := Tryz.zeroValue3
  t9 := Tryz.underlying9
  a9 := Tryz.isAgg9
  z9 := Tryz.sizeOf9
  v9 := Tryz.zeroValue9
  t37 := Tryz.underlying70
  a37 := Tryz.isAgg70
  z37 := Tryz.sizeOf70
  v37 := Tryz.zeroValue70
  t70 := Tryz.underlying123
  a70 := Tryz.isAgg123
  z70 := Tryz.sizeOf123
  v70 := Tryz.zeroValue123
  t72 := Tryz.underlying125
  a72 := Tryz.isAgg125
  z72 := Tryz.sizeOf125
  v72 := Tryz.zeroValue125
  t127 := Tryz.underlying155
  a127 := Tryz.isAgg155
  z127 := Tryz.sizeOf155
  v127 := Tryz.zeroValue155 }
theorem Tryz.Builder_Extra_169 : Builder.Extra Tryz.prog Tryz.lays169_ren := {
  sizeBuilder := by kernel_rfl
  liesBuilder := by kernel_rfl
  t5 := Tryz.underlying5
  a5 := Tryz.isAgg5
  z5 := Tryz.sizeOf5
  v5 := Tryz.zeroValue5
  infoByte := by kernel_rfl
  cellsByte := by kernel_rfl
  sizeByte := by kernel_rfl
  neB5 := by decide }
open Go.RowKit in
theorem Tryz.Builder_String_any (B b : Nat) (l : List UInt8) (w : World) (h : Lib.IsBuilder 125 5 B b (Lib.byteCells l) w) (hBw : B ≤ w.heap.size) :
    Calls Tryz.prog 98 #[.pointer (some ⟨b, 0, none⟩)] w fun e w' => e = .returned (.string ⟨l.toArray⟩) ∧ Below B w w' := Any.Builder_String_any Tryz.lays169 Tryz.Builder_Extra_169 B b l w h hBw
def Tryz.lays160_ren : Go.Shelf.Ren := ⟨fun | 160 => 206 | 232 => 213 | 231 => 142 | 227 => 143 | 234 => 214 | 233 => 144 | 236 => 215 | 235 => 145 | 228 => 161 | 271 => 222 | 151 => 163 | 197 => 162 | 120 => 224 | 152 => 172 | 260 => 171 | 137 => 133 | 119 => 185 | 224 => 186 | 225 => 187 | 217 => 155 | 266 => 168 | n => n, fun | 9 => 9 | 4 => 4 | 3 => 3 | 5 => 5 | 117 => 159 | 116 => 158 | 0 => 0 | 124 => 162 | 21 => 21 | 105 => 182 | 46 => 174 | 119 => 195 | 139 => 198 | 138 => 197 | n => n, fun | 3 => 3 | 4 => 4 | n => n⟩
theorem Tryz.lays160 : Go.Proofs.Lays.n160 Tryz.prog Tryz.lays160_ren := {
  mixed := by kernel_rfl
  f119 := Tryz.func185.trans (congrArg some (by kernel_rfl))
  f120 := Tryz.func224.trans (congrArg some (by kernel_rfl))
  f137 := Tryz.func133.trans (congrArg some (by kernel_rfl))
  f151 := Tryz.func163.trans (congrArg some (by kernel_rfl))
  f152 := Tryz.func172.trans (congrArg some (by kernel_rfl))
  f160 := Tryz.func206.trans (congrArg some (by kernel_rfl))
  f197 := Tryz.func162.trans (congrArg some (by kernel_rfl))
  f217 := Tryz.func155.trans (congrArg some (by kernel_rfl))
  f224 := Tryz.func186.trans (congrArg some (by kernel_rfl))
  f225 := Tryz.func187.trans (congrArg some (by kernel_rfl))
  f227 := Tryz.func143.trans (congrArg some (by kernel_rfl))
  f228 := Tryz.func161.trans (congrArg some (by kernel_rfl))
  f231 := Tryz.func142.trans (congrArg some (by kernel_rfl))
  f232 := Tryz.func213.trans (congrArg some (by kernel_rfl))
  f233 := Tryz.func144.trans (congrArg some (by kernel_rfl))
  f234 := Tryz.func214.trans (congrArg some (by kernel_rfl))
  f235 := Tryz.func145.trans (congrArg some (by kernel_rfl))
  f236 := Tryz.func215.trans (congrArg some (by kernel_rfl))
  f260 := Tryz.func171.trans (congrArg some (by kernel_rfl))
  f266 := Tryz.func168.trans (congrArg some (by kernel_rfl))
  f271 := Tryz.func222.trans (congrArg some (by kernel_rfl))
  t0 := Tryz.underlying0
  a0 := Tryz.isAgg0
  z0 := Tryz.sizeOf0
  v0 := Tryz.zeroValue0
  t3 := Tryz.underlying3
  a3 := Tryz.isAgg3
  z3 := Tryz.sizeOf3
  v3 := Tryz.zeroValue3
  t4 := Tryz.underlying4
  a4 := Tryz.isAgg4
  z4 := Tryz.sizeOf4
  v4 := Tryz.zeroValue4
  t5 := Tryz.underlying5
  a5 := Tryz.isAgg5
  z5 := Tryz.sizeOf5
  v5 := Tryz.zeroValue5
  t9 := Tryz.underlying9
  a9 := Tryz.isAgg9
  z9 := Tryz.sizeOf9
  v9 := Tryz.zeroValue9
  t21 := Tryz.underlying21
  a21 := Tryz.isAgg21
  z21 := Tryz.sizeOf21
  v21 := Tryz.zeroValue21
  t46 := Tryz.underlying174
  a46 := Tryz.isAgg174
  z46 := Tryz.sizeOf174
  v46 := Tryz.zeroValue174
  t105 := Tryz.underlying182
  a105 := Tryz.isAgg182
  z105 := Tryz.sizeOf182
  v105 := Tryz.zeroValue182
  t116 := Tryz.underlying158
  a116 := Tryz.isAgg158
  z116 := Tryz.sizeOf158
  t117 := Tryz.underlying159
  a117 := Tryz.isAgg159
  z117 := Tryz.sizeOf159
  v117 := Tryz.zeroValue159
  t119 := Tryz.underlying195
  a119 := Tryz.isAgg195
  z119 := Tryz.sizeOf195
  t124 := Tryz.underlying162
  a124 := Tryz.isAgg162
  z124 := Tryz.sizeOf162
  v124 := Tryz.zeroValue162
  t138 := Tryz.underlying197
  a138 := Tryz.isAgg197
  z138 := Tryz.sizeOf197
  v138 := Tryz.zeroValue197
  t139 := Tryz.underlying198
  a139 := Tryz.isAgg198
  z139 := Tryz.sizeOf198
  v139 := Tryz.zeroValue198
  g3 := by kernel_rfl
  g4 := by kernel_rfl }
open Go.RowKit in
theorem Tryz.strings_Trim_one (s : ByteArray) (c : UInt8) (hc : c.toNat < 128) (w : World) (hs : s.size ≤ 9223372036854775807) :
    Calls Tryz.prog 206 #[.string s, .string ⟨#[c]⟩] w fun e w' => e = .returned (.string ⟨(Lib.trimB s.data.toList c).toArray⟩) ∧ (w' = w ∨ w' = w.drew) := Any.strings_Trim_one Tryz.lays160 s c hc w hs
def Tryz.lays137_ren : Go.Shelf.Ren := ⟨fun | 137 => 133 | 217 => 155 | 266 => 168 | n => n, fun | 9 => 9 | 5 => 5 | 3 => 3 | n => n, fun | n => n⟩
theorem Tryz.lays137 : Go.Proofs.Lays.n137 Tryz.prog Tryz.lays137_ren := {
  mixed := by kernel_rfl
  f137 := Tryz.func133.trans (congrArg some (by kernel_rfl))
  f217 := Tryz.func155.trans (congrArg some (by kernel_rfl))
  f266 := Tryz.func168.trans (congrArg some (by kernel_rfl))
  t3 := Tryz.underlying3
  a3 := Tryz.isAgg3
  z3 := Tryz.sizeOf3
  v3 := Tryz.zeroValue3
  t5 := Tryz.underlying5
  a5 := Tryz.isAgg5
  z5 := Tryz.sizeOf5
  v5 := Tryz.zeroValue5
  t9 := Tryz.underlying9
  a9 := Tryz.isAgg9
  z9 := Tryz.sizeOf9
  v9 := Tryz.zeroValue9 }
open Go.RowKit in
theorem Tryz.strings_IndexByte (s : ByteArray) (c : Int) (w : World) :
    Calls Tryz.prog 133 #[.string s, .int .u8 c] w fun e w' => e = .returned (.int .i64 (Lib.indexByte s.data.toList c.toNat.toUInt8)) ∧ w' = w := Any.strings_IndexByte Tryz.lays137 s c w
def Tryz.lays129_ren : Go.Shelf.Ren := ⟨fun | 129 => 151 | n => n, fun | 53 => 176 | 3 => 3 | 4 => 4 | 46 => 174 | 5 => 5 | 9 => 9 | n => n, fun | n => n⟩
theorem Tryz.lays129 : Go.Proofs.Lays.n129 Tryz.prog Tryz.lays129_ren := {
  mixed := by kernel_rfl
  f129 := Tryz.func151.trans (congrArg some (by kernel_rfl))
  t3 := Tryz.underlying3
  a3 := Tryz.isAgg3
  z3 := Tryz.sizeOf3
  v3 := Tryz.zeroValue3
  t4 := Tryz.underlying4
  a4 := Tryz.isAgg4
  z4 := Tryz.sizeOf4
  v4 := Tryz.zeroValue4
  t5 := Tryz.underlying5
  a5 := Tryz.isAgg5
  z5 := Tryz.sizeOf5
  v5 := Tryz.zeroValue5
  t9 := Tryz.underlying9
  a9 := Tryz.isAgg9
  z9 := Tryz.sizeOf9
  v9 := Tryz.zeroValue9
  t46 := Tryz.underlying174
  a46 := Tryz.isAgg174
  z46 := Tryz.sizeOf174
  v46 := Tryz.zeroValue174
  t53 := Tryz.underlying176
  a53 := Tryz.isAgg176
  z53 := Tryz.sizeOf176
  v53 := Tryz.zeroValue176 }
theorem Tryz.bits_Len64 (x : Int) (w : World) (h0 : 0 ≤ x) (h1 : x ≤ 18446744073709551615) :
    Calls Tryz.prog 151 #[.int .u64 x] w fun e w' => e = .returned (.int .i64 (Lib.bitLen x.toNat)) ∧ w' = w := Any.bits_Len64 Tryz.lays129 x w h0 h1
def Tryz.laysM173_ren : Go.Shelf.Ren := ⟨fun | 173 => 159 | 246 => 170 | 283 => 181 | 284 => 182 | 285 => 183 | 286 => 184 | 129 => 151 | 317 => 190 | 318 => 191 | 319 => 192 | 320 => 193 | 337 => 201 | 338 => 202 | n => n, fun | 2 => 2 | 3 => 3 | 9 => 9 | 4 => 4 | 171 => 191 | 0 => 0 | 53 => 176 | 37 => 70 | 5 => 5 | 173 => 193 | 212 => 204 | 51 => 205 | 20 => 20 | 213 => 206 | 46 => 174 | 232 => 221 | 233 => 222 | n => n, fun | 17 => 5 | 18 => 6 | 19 => 7 | n => n⟩
theorem Tryz.laysM173 : Go.Proofs.LaysM.n173 Tryz.prog Tryz.laysM173_ren := {
  mixed := by kernel_rfl
  f129 := Tryz.func151.trans (congrArg some (by kernel_rfl))
  f173 := Tryz.func159.trans (congrArg some (by kernel_rfl))
  f246 := Tryz.func170.trans (congrArg some (by kernel_rfl))
  f283 := Tryz.func181.trans (congrArg some (by kernel_rfl))
  f284 := Tryz.func182.trans (congrArg some (by kernel_rfl))
  f285 := Tryz.func183.trans (congrArg some (by kernel_rfl))
  f286 := Tryz.func184.trans (congrArg some (by kernel_rfl))
  f317 := Tryz.func190.trans (congrArg some (by kernel_rfl))
  f318 := Tryz.func191.trans (congrArg some (by kernel_rfl))
  f319 := Tryz.func192.trans (congrArg some (by kernel_rfl))
  f320 := Tryz.func193.trans (congrArg some (by kernel_rfl))
  f337 := Tryz.func201.trans (congrArg some (by kernel_rfl))
  f338 := Tryz.func202.trans (congrArg some (by kernel_rfl))
  t0 := Tryz.underlying0
  a0 := Tryz.isAgg0
  z0 := Tryz.sizeOf0
  v0 := Tryz.zeroValue0
  t2 := Tryz.underlying2
  a2 := Tryz.isAgg2
  z2 := Tryz.sizeOf2
  v2 := Tryz.zeroValue2
  t3 := Tryz.underlying3
  a3 := Tryz.isAgg3
  z3 := Tryz.sizeOf3
  v3 := Tryz.zeroValue3
  t4 := Tryz.underlying4
  a4 := Tryz.isAgg4
  z4 := Tryz.sizeOf4
  v4 := Tryz.zeroValue4
  t5 := Tryz.underlying5
  a5 := Tryz.isAgg5
  z5 := Tryz.sizeOf5
  v5 := Tryz.zeroValue5
  t9 := Tryz.underlying9
  a9 := Tryz.isAgg9
  z9 := Tryz.sizeOf9
  v9 := Tryz.zeroValue9
  t20 := Tryz.underlying20
  a20 := Tryz.isAgg20
  z20 := Tryz.sizeOf20
  v20 := Tryz.zeroValue20
  t37 := Tryz.underlying70
  a37 := Tryz.isAgg70
  z37 := Tryz.sizeOf70
  v37 := Tryz.zeroValue70
  t46 := Tryz.underlying174
  a46 := Tryz.isAgg174
  z46 := Tryz.sizeOf174
  v46 := Tryz.zeroValue174
  t51 := Tryz.underlying205
  a51 := Tryz.isAgg205
  z51 := Tryz.sizeOf205
  v51 := Tryz.zeroValue205
  t53 := Tryz.underlying176
  a53 := Tryz.isAgg176
  z53 := Tryz.sizeOf176
  v53 := Tryz.zeroValue176
  t171 := Tryz.underlying191
  a171 := Tryz.isAgg191
  z171 := Tryz.sizeOf191
  v171 := Tryz.zeroValue191
  t173 := Tryz.underlying193
  a173 := Tryz.isAgg193
  z173 := Tryz.sizeOf193
  v173 := Tryz.zeroValue193
  t212 := Tryz.underlying204
  a212 := Tryz.isAgg204
  z212 := Tryz.sizeOf204
  v212 := Tryz.zeroValue204
  t213 := Tryz.underlying206
  a213 := Tryz.isAgg206
  z213 := Tryz.sizeOf206
  t232 := Tryz.underlying221
  a232 := Tryz.isAgg221
  z232 := Tryz.sizeOf221
  v232 := Tryz.zeroValue221
  t233 := Tryz.underlying222
  a233 := Tryz.isAgg222
  z233 := Tryz.sizeOf222
  v233 := Tryz.zeroValue222
  g17 := by kernel_rfl
  g18 := by kernel_rfl
  g19 := by kernel_rfl
  i0 := by kernel_rfl
  i2 := by kernel_rfl
  i3 := by kernel_rfl
  i4 := by kernel_rfl
  i5 := by kernel_rfl
  i9 := by kernel_rfl
  i20 := by kernel_rfl
  i37 := by kernel_rfl
  i46 := by kernel_rfl
  i51 := by kernel_rfl
  i53 := by kernel_rfl
  i171 := by kernel_rfl
  i173 := by kernel_rfl
  i212 := by kernel_rfl
  i232 := by kernel_rfl
  i233 := by kernel_rfl
  m17 := by kernel_rfl
  m18 := by kernel_rfl
  m19 := by kernel_rfl }
open Go.RowKit Go.Sort Go.Lib in
theorem Tryz.strconv_FormatInt_10 (n : Int) (h0 : -9223372036854775808 ≤ n) (h1 : n ≤ 9223372036854775807) (w : World) (htab : Lib.TabIs Tryz.prog w "internal/strconv.uint64pow10" .u64 Lib.pow10Tab) :
    Calls Tryz.prog 159 #[.int .i64 n, .int .i64 10] w fun e w' => e = .returned (.string ⟨(Lib.itoa n).toArray⟩) ∧ ∃ k os, w' = grow (w.drewN k) os := Any.strconv_FormatInt_10 Tryz.laysM173 n h0 h1 w htab
def Tryz.laysC174_ren : Go.Shelf.Ren := ⟨fun | 174 => 196 | 247 => 204 | 245 => 205 | 287 => 208 | 279 => 209 | 280 => 210 | 281 => 211 | 282 => 212 | 321 => 217 | 322 => 218 | 316 => 219 | 171 => 221 | 205 => 220 | 243 => 223 | 246 => 170 | 283 => 181 | 284 => 182 | 285 => 183 | 286 => 184 | 129 => 151 | 317 => 190 | 318 => 191 | 319 => 192 | 320 => 193 | 337 => 201 | 338 => 202 | n => n, fun | 9 => 9 | 3 => 3 | 2 => 2 | 75 => 127 | 85 => 210 | 4 => 4 | 167 => 223 | 5 => 5 | 53 => 176 | 175 => 224 | 46 => 174 | 168 => 226 | 37 => 70 | 0 => 0 | 210 => 232 | 21 => 21 | 127 => 155 | 145 => 236 | 143 => 234 | 171 => 191 | 173 => 193 | 212 => 204 | 51 => 205 | 20 => 20 | 213 => 206 | 232 => 221 | 233 => 222 | 80 => 130 | n => n, fun | 15 => 8 | 16 => 9 | 17 => 5 | 18 => 6 | 19 => 7 | n => n⟩
theorem Tryz.laysC174 : Go.Proofs.LaysC.n174 Tryz.prog Tryz.laysC174_ren := {
  mixed := by kernel_rfl
  f129 := Tryz.func151.trans (congrArg some (by kernel_rfl))
  f171 := Tryz.func221.trans (congrArg some (by kernel_rfl))
  f174 := Tryz.func196.trans (congrArg some (by kernel_rfl))
  f205 := Tryz.func220.trans (congrArg some (by kernel_rfl))
  f243 := Tryz.func223.trans (congrArg some (by kernel_rfl))
  f245 := Tryz.func205.trans (congrArg some (by kernel_rfl))
  f246 := Tryz.func170.trans (congrArg some (by kernel_rfl))
  f247 := Tryz.func204.trans (congrArg some (by kernel_rfl))
  f279 := Tryz.func209.trans (congrArg some (by kernel_rfl))
  f280 := Tryz.func210.trans (congrArg some (by kernel_rfl))
  f281 := Tryz.func211.trans (congrArg some (by kernel_rfl))
  f282 := Tryz.func212.trans (congrArg some (by kernel_rfl))
  f283 := Tryz.func181.trans (congrArg some (by kernel_rfl))
  f284 := Tryz.func182.trans (congrArg some (by kernel_rfl))
  f285 := Tryz.func183.trans (congrArg some (by kernel_rfl))
  f286 := Tryz.func184.trans (congrArg some (by kernel_rfl))
  f287 := Tryz.func208.trans (congrArg some (by kernel_rfl))
  f316 := Tryz.func219.trans (congrArg some (by kernel_rfl))
  f317 := Tryz.func190.trans (congrArg some (by kernel_rfl))
  f318 := Tryz.func191.trans (congrArg some (by kernel_rfl))
  f319 := Tryz.func192.trans (congrArg some (by kernel_rfl))
  f320 := Tryz.func193.trans (congrArg some (by kernel_rfl))
  f321 := Tryz.func217.trans (congrArg some (by kernel_rfl))
  f322 := Tryz.func218.trans (congrArg some (by kernel_rfl))
  f337 := Tryz.func201.trans (congrArg some (by kernel_rfl))
  f338 := Tryz.func202.trans (congrArg some (by kernel_rfl))
  t0 := Tryz.underlying0
  a0 := Tryz.isAgg0
  z0 := Tryz.sizeOf0
  v0 := Tryz.zeroValue0
  t2 := Tryz.underlying2
  a2 := Tryz.isAgg2
  z2 := Tryz.sizeOf2
  v2 := Tryz.zeroValue2
  t3 := Tryz.underlying3
  a3 := Tryz.isAgg3
  z3 := Tryz.sizeOf3
  v3 := Tryz.zeroValue3
  t4 := Tryz.underlying4
  a4 := Tryz.isAgg4
  z4 := Tryz.sizeOf4
  v4 := Tryz.zeroValue4
  t5 := Tryz.underlying5
  a5 := Tryz.isAgg5
  z5 := Tryz.sizeOf5
  v5 := Tryz.zeroValue5
  t9 := Tryz.underlying9
  a9 := Tryz.isAgg9
  z9 := Tryz.sizeOf9
  v9 := Tryz.zeroValue9
  t20 := Tryz.underlying20
  a20 := Tryz.isAgg20
  z20 := Tryz.sizeOf20
  v20 := Tryz.zeroValue20
  t21 := Tryz.underlying21
  a21 := Tryz.isAgg21
  z21 := Tryz.sizeOf21
  v21 := Tryz.zeroValue21
  t37 := Tryz.underlying70
  a37 := Tryz.isAgg70
  z37 := Tryz.sizeOf70
  v37 := Tryz.zeroValue70
  t46 := Tryz.underlying174
  a46 := Tryz.isAgg174
  z46 := Tryz.sizeOf174
  v46 := Tryz.zeroValue174
  t51 := Tryz.underlying205
  a51 := Tryz.isAgg205
  z51 := Tryz.sizeOf205
  v51 := Tryz.zeroValue205
  t53 := Tryz.underlying176
  a53 := Tryz.isAgg176
  z53 := Tryz.sizeOf176
  v53 := Tryz.zeroValue176
  t75 := Tryz.underlying127
  a75 := Tryz.isAgg127
  z75 := Tryz.sizeOf127
  v75 := Tryz.zeroValue127
  t85 := Tryz.underlying210
  a85 := Tryz.isAgg210
  z85 := Tryz.sizeOf210
  v85 := Tryz.zeroValue210
  t127 := Tryz.underlying155
  a127 := Tryz.isAgg155
  z127 := Tryz.sizeOf155
  v127 := Tryz.zeroValue155
  t143 := Tryz.underlying234
  a143 := Tryz.isAgg234
  z143 := Tryz.sizeOf234
  v143 := Tryz.zeroValue234
  t145 := Tryz.underlying236
  a145 := Tryz.isAgg236
  z145 := Tryz.sizeOf236
  v145 := Tryz.zeroValue236
  t167 := Tryz.underlying223
  a167 := Tryz.isAgg223
  z167 := Tryz.sizeOf223
  v167 := Tryz.zeroValue223
  t168 := Tryz.underlying226
  a168 := Tryz.isAgg226
  z168 := Tryz.sizeOf226
  v168 := Tryz.zeroValue226
  t171 := Tryz.underlying191
  a171 := Tryz.isAgg191
  z171 := Tryz.sizeOf191
  v171 := Tryz.zeroValue191
  t173 := Tryz.underlying193
  a173 := Tryz.isAgg193
  z173 := Tryz.sizeOf193
  v173 := Tryz.zeroValue193
  t175 := Tryz.underlying224
  a175 := Tryz.isAgg224
  z175 := Tryz.sizeOf224
  v175 := Tryz.zeroValue224
  t210 := Tryz.underlying232
  a210 := Tryz.isAgg232
  z210 := Tryz.sizeOf232
  v210 := Tryz.zeroValue232
  t212 := Tryz.underlying204
  a212 := Tryz.isAgg204
  z212 := Tryz.sizeOf204
  v212 := Tryz.zeroValue204
  t213 := Tryz.underlying206
  a213 := Tryz.isAgg206
  z213 := Tryz.sizeOf206
  t232 := Tryz.underlying221
  a232 := Tryz.isAgg221
  z232 := Tryz.sizeOf221
  v232 := Tryz.zeroValue221
  t233 := Tryz.underlying222
  a233 := Tryz.isAgg222
  z233 := Tryz.sizeOf222
  v233 := Tryz.zeroValue222
  g15 := by kernel_rfl
  g16 := by kernel_rfl
  g17 := by kernel_rfl
  g18 := by kernel_rfl
  g19 := by kernel_rfl
  t80 := Tryz.underlying130
  a80 := Tryz.isAgg130
  z80 := Tryz.sizeOf130
  v80 := Tryz.zeroValue130
  i0 := by kernel_rfl
  i2 := by kernel_rfl
  i3 := by kernel_rfl
  i4 := by kernel_rfl
  i5 := by kernel_rfl
  i9 := by kernel_rfl
  i20 := by kernel_rfl
  i21 := by kernel_rfl
  i37 := by kernel_rfl
  i46 := by kernel_rfl
  i51 := by kernel_rfl
  i53 := by kernel_rfl
  i75 := by kernel_rfl
  i80 := by kernel_rfl
  i85 := by kernel_rfl
  i127 := by kernel_rfl
  i143 := by kernel_rfl
  i145 := by kernel_rfl
  i167 := by kernel_rfl
  i168 := by kernel_rfl
  i171 := by kernel_rfl
  i173 := by kernel_rfl
  i175 := by kernel_rfl
  i210 := by kernel_rfl
  i212 := by kernel_rfl
  i232 := by kernel_rfl
  i233 := by kernel_rfl
  m15 := by kernel_rfl
  m16 := by kernel_rfl
  m17 := by kernel_rfl
  m18 := by kernel_rfl
  m19 := by kernel_rfl
  c0 := by kernel_rfl
  c2 := by kernel_rfl
  c3 := by kernel_rfl
  c4 := by kernel_rfl
  c5 := by kernel_rfl
  c9 := by kernel_rfl
  c20 := by kernel_rfl
  c21 := by kernel_rfl
  c37 := by kernel_rfl
  c46 := by kernel_rfl
  c51 := by kernel_rfl
  c53 := by kernel_rfl
  c75 := by kernel_rfl
  c80 := by kernel_rfl
  c85 := by kernel_rfl
  c127 := by kernel_rfl
  c143 := by kernel_rfl
  c145 := by kernel_rfl
  c167 := by kernel_rfl
  c168 := by kernel_rfl
  c171 := by kernel_rfl
  c173 := by kernel_rfl
  c175 := by kernel_rfl
  c210 := by kernel_rfl
  c212 := by kernel_rfl
  c213 := by kernel_rfl
  c232 := by kernel_rfl
  c233 := by kernel_rfl }
open Go.RowKit in
theorem Tryz.strconv_ParseInt_10_at64_ok (s : ByteArray) (hmax : s.size ≤ 9223372036854775806) (v : Int) (h : Lib.parseIntB 64 s.data.toList = .ok v) (w : World) :
    Calls Tryz.prog 196 #[.string s, .int .i64 10, .int .i64 64] w fun e w' => e = .returned (.tuple #[.int .i64 v, .nilIface]) ∧ (w' = w ∨ ∃ t, w' = Lib.bytesWorld w 5 t) := Any.strconv_ParseInt_10_at64_ok Tryz.laysC174 s hmax v h w
open Go.RowKit in
theorem Tryz.strconv_ParseInt_10_at64_range_var (s : ByteArray) (hlim : s.size ≤ 281474976710656) (h : Lib.parseIntB 64 s.data.toList = .range) (tp : TypeId) (p : Value) (w : World) (hvar : w.var? Tryz.prog "strconv.ErrRange" = some #[.iface tp p]) :
    Calls Tryz.prog 196 #[.string s, .int .i64 10, .int .i64 64] w fun e w' => ∃ N, e = .returned (.tuple #[.int .i64 (Lib.intSat 64 s.data.toList), .iface 226 (.pointer (some ⟨N, 0, none⟩))]) ∧ w.heap.size ≤ N ∧ w'.heap[N]? = some (.cells #[.string ⟨#[80, 97, 114, 115, 101, 73, 110, 116]⟩, .string s, .iface tp p] 232 (0, 0)) ∧ Below w.heap.size w w' := Any.strconv_ParseInt_10_at64_range_var Tryz.laysC174 s hlim h tp p w hvar
def Tryz.lays99_ren : Go.Shelf.Ren := ⟨fun | 99 => 194 | 206 => 203 | n => n, fun | 9 => 9 | 4 => 4 | 3 => 3 | n => n, fun | n => n⟩
theorem Tryz.lays99 : Go.Proofs.Lays.n99 Tryz.prog Tryz.lays99_ren := {
  mixed := by kernel_rfl
  f99 := Tryz.func194.trans (congrArg some (by kernel_rfl))
  f206 := Tryz.func203.trans (congrArg some (by kernel_rfl))
  t3 := Tryz.underlying3
  a3 := Tryz.isAgg3
  z3 := Tryz.sizeOf3
  v3 := Tryz.zeroValue3
  t4 := Tryz.underlying4
  a4 := Tryz.isAgg4
  z4 := Tryz.sizeOf4
  v4 := Tryz.zeroValue4
  t9 := Tryz.underlying9
  a9 := Tryz.isAgg9
  z9 := Tryz.sizeOf9
  v9 := Tryz.zeroValue9 }
open Go.RowKit Go.Lib in
theorem Tryz.strings_HasPrefix (s p : ByteArray) (w : World) :
    Calls Tryz.prog 194 #[.string s, .string p] w fun e w' => e = .returned (.bool (Lib.hasPrefix s.data.toList p.data.toList)) ∧ w' = w := Any.strings_HasPrefix Tryz.lays99 s p w
def Tryz.laysSlE29_f108_ren : Go.Shelf.Ren := ⟨fun | 29 => 108 | n => n, fun | 22 => 22 | 23 => 9 | 3 => 3 | 0 => 0 | 4 => 4 | n => n, fun | n => n⟩
theorem Tryz.laysSlE29_f108 : Go.Proofs.SlLaysE.n29 Tryz.prog Tryz.laysSlE29_f108_ren := {
  mixed := by kernel_rfl
  f29 := ⟨Tryz.f108.name, by decide, Tryz.func108.trans (congrArg some (by kernel_rfl))⟩
  t0 := Tryz.underlying0
  a0 := Tryz.isAgg0
  z0 := Tryz.sizeOf0
  v0 := Tryz.zeroValue0
  t3 := Tryz.underlying3
  a3 := Tryz.isAgg3
  z3 := Tryz.sizeOf3
  v3 := Tryz.zeroValue3
  t4 := Tryz.underlying4
  a4 := Tryz.isAgg4
  z4 := Tryz.sizeOf4
  v4 := Tryz.zeroValue4
  t22 := Tryz.underlying22
  a22 := Tryz.isAgg22
  z22 := Tryz.sizeOf22
  v22 := Tryz.zeroValue22
  a23 := Tryz.isAgg9
  z23 := Tryz.sizeOf9 }
open Go.Lib in
theorem Tryz.slices_Index {α : Type} [Inhabited α] (enc : α → Value) (eq : α → α → Bool) (heq : EqlAt Tryz.prog 9 enc eq) (b off n c : Nat) (zs : List α) (x : α) (w : World) (hz : n ≤ zs.length) (hbig : n ≤ 9223372036854775807) (hc : ∀ j, j < zs.length → w.cell? ⟨b, off + j, none⟩ = some (enc zs[j]!)) :
    Calls Tryz.prog 108 #[.slice (some ⟨b, off, none⟩) n c, enc x] w fun e w' => e = .returned (.int .i64 (Lib.idxBy eq (zs.take n) x)) ∧ w' = w := AnyE.slices_Index Tryz.laysSlE29_f108 enc eq heq b off n c zs x w hz hbig hc
open Go.Lib in
theorem Tryz.slices_Index_empty {α : Type} [Inhabited α] (a : Option Addr) (c : Nat) (xv : Value) (w : World) :
    Calls Tryz.prog 108 #[.slice a 0 c, xv] w fun e w' => e = .returned (.int .i64 (-1)) ∧ w' = w := AnyE.slices_Index_empty Tryz.laysSlE29_f108 a c xv w
def Tryz.laysSlE31_f62_ren : Go.Shelf.Ren := ⟨fun | 31 => 62 | 29 => 108 | n => n, fun | 22 => 22 | 23 => 9 | 4 => 4 | 3 => 3 | 0 => 0 | n => n, fun | n => n⟩
theorem Tryz.laysSlE31_f62 : Go.Proofs.SlLaysE.n31 Tryz.prog Tryz.laysSlE31_f62_ren := {
  mixed := by kernel_rfl
  f29 := ⟨Tryz.f108.name, by decide, Tryz.func108.trans (congrArg some (by kernel_rfl))⟩
  f31 := ⟨Tryz.f62.name, by decide, Tryz.func62.trans (congrArg some (by kernel_rfl))⟩
  t0 := Tryz.underlying0
  a0 := Tryz.isAgg0
  z0 := Tryz.sizeOf0
  v0 := Tryz.zeroValue0
  t3 := Tryz.underlying3
  a3 := Tryz.isAgg3
  z3 := Tryz.sizeOf3
  v3 := Tryz.zeroValue3
  t4 := Tryz.underlying4
  a4 := Tryz.isAgg4
  z4 := Tryz.sizeOf4
  v4 := Tryz.zeroValue4
  t22 := Tryz.underlying22
  a22 := Tryz.isAgg22
  z22 := Tryz.sizeOf22
  v22 := Tryz.zeroValue22
  a23 := Tryz.isAgg9
  z23 := Tryz.sizeOf9 }
open Go.Lib in
theorem Tryz.slices_Contains {α : Type} [Inhabited α] (enc : α → Value) (eq : α → α → Bool) (heq : EqlAt Tryz.prog 9 enc eq) (b off n c : Nat) (zs : List α) (x : α) (w : World) (hz : n ≤ zs.length) (hbig : n ≤ 9223372036854775807) (hc : ∀ j, j < zs.length → w.cell? ⟨b, off + j, none⟩ = some (enc zs[j]!)) :
    Calls Tryz.prog 62 #[.slice (some ⟨b, off, none⟩) n c, enc x] w fun e w' => e = .returned (.bool ((zs.take n).any fun y => eq x y)) ∧ w' = w := AnyE.slices_Contains Tryz.laysSlE31_f62 enc eq heq b off n c zs x w hz hbig hc
open Go.Lib in
theorem Tryz.slices_Contains_empty {α : Type} [Inhabited α] (a : Option Addr) (c : Nat) (xv : Value) (w : World) :
    Calls Tryz.prog 62 #[.slice a 0 c, xv] w fun e w' => e = .returned (.bool false) ∧ w' = w := AnyE.slices_Contains_empty Tryz.laysSlE31_f62 a c xv w
end Go.Proofs
end
section
set_option linter.unusedVariables false
namespace Go.Proofs.YthcidkidpiaomaaGreatDoor.Fx
open Go.RowKit Go.Sort Go.Proofs.YthcidkidpiaomaaGreatDoorW.PrintWords
theorem gPow : Tryz.prog.globalNamed "internal/strconv.uint64pow10" = some 5 := by kernel_rfl
theorem gRange : Tryz.prog.globalNamed "strconv.ErrRange" = some 9 := by kernel_rfl
structure Tabs (w : World) : Prop where
  pow : Lib.TabIs Tryz.prog w "internal/strconv.uint64pow10" .u64 Lib.pow10Tab
  rng : ∃ tp p, w.var? Tryz.prog "strconv.ErrRange" = some #[.iface tp p]
theorem var_lt {w : World} {n : String} {g : Nat} {cs : Array Value} (hg : Tryz.prog.globalNamed n = some g) (h : w.var? Tryz.prog n = some cs) : g < w.heap.size := by
  unfold World.var? at h
  simp only [hg, Option.bind_some] at h
  rcases Nat.lt_or_ge g w.heap.size with h' | h'
  · exact h'
  · simp [Array.getElem?_eq_none h'] at h
theorem Tabs.below {w w' : World} (h : Tabs w) (hb : Below w.heap.size w w') : Tabs w' := by
  obtain ⟨hp, tp, p, hr⟩ := h
  exact ⟨var?_below hb gPow (var_lt gPow hp) hp, tp, p, var?_below hb gRange (var_lt gRange hr) hr⟩
theorem Tabs.later {B : Nat} {w w' : World} (h : Tabs w) (hb : Below B w w') (hB : w.heap.size ≤ B) : Tabs w' := h.below (hb.mono hB)
theorem Grow_below {B : Nat} {w w1 : World} (h : Below B w w1) (hB : B ≤ w1.heap.size) (os : Array Obj) : Below B w (grow w1 os) :=
  h.trans ⟨rfl, rfl, rfl, by simp [grow], fun k hk => by simp only [grow]; rw [Array.getElem?_append_left (by omega)]⟩
theorem IsBuilder_below {T e : TypeId} {B b : Nat} {bs : List Value} {w w1 : World} (h : Lib.IsBuilder T e B b bs w) (hb : Below w.heap.size w w1) : Lib.IsBuilder T e B b bs w1 := by
  have key : ∀ p, Lib.BuilderAt T e B b p bs w → Lib.BuilderAt T e B b p bs w1 := by
    rintro p ⟨h1, v, h2, h3, h4⟩
    refine ⟨h1, v, ?_, pw_own_below h3 hb, h4⟩
    rw [hb.block b ?_, h2]
    rcases Nat.lt_or_ge b w.heap.size with h' | h'
    · exact h'
    · simp [Array.getElem?_eq_none h'] at h2
  rcases h with h | h
  · exact .inl (key _ h)
  · exact .inr (key _ h)
theorem IsBuilder_new {T e : TypeId} (w : World) : Lib.IsBuilder T e w.heap.size w.heap.size [] (w.alloc (.cells #[.pointer none, .slice none 0 0] T)) :=
  .inl ⟨Nat.le_refl _, .slice none 0 0, by show (w.heap.push _)[w.heap.size]? = _; simp, own_nil _ _ _ _, by simp [Value.ownBlock]⟩
theorem FormatInt_B (n : Int) (w : World) (h0 : -9223372036854775808 ≤ n) (h1 : n ≤ 9223372036854775807) (ht : Tabs w) :
    Calls Tryz.prog 159 #[.int .i64 n, .int .i64 10] w fun e w' => e = .returned (.string ⟨(Lib.itoa n).toArray⟩) ∧ Below w.heap.size w w' := by
  refine (Tryz.strconv_FormatInt_10 n h0 h1 w ht.pow).mono ?_
  rintro e w' ⟨rfl, k, os, rfl⟩
  exact ⟨rfl, Grow_below (below_drewN (Below.refl _ _) k) (Nat.le_refl _) os⟩
end Go.Proofs.YthcidkidpiaomaaGreatDoor.Fx
end
section
set_option linter.unusedVariables false
namespace Go.Proofs.YthcidkidpiaomaaGreatDoor.Bld
open Go.RowKit
theorem sizeB : (Tryz.prog.info? 125).map (·.size) = some 2 := by kernel_rfl
theorem liesB : liesAt Tryz.prog Tryz.prog.depth 125 (2 / Tryz.prog.cellsOf 125) 0 125 1 = true := by kernel_rfl
theorem infoByte : (Tryz.prog.info? 5).map (fun i => (i.zero, i.size, i.bytes)) = some (some (.int .u8 0), 1, 1) := by kernel_rfl
set_option maxHeartbeats 1000000 in
set_option maxRecDepth 100000 in
theorem copyCheck_used (b : Nat) (w : World) (h0 : w.cell? ⟨b, 0, none⟩ = some (.pointer (some ⟨b, 0, none⟩))) :
    Calls Tryz.prog 138 #[.pointer (some ⟨b, 0, none⟩)] w fun e w' => e = .returned (.tuple #[]) ∧ w' = w := by
  obtain ⟨j, hj, _⟩ := Option.map_eq_some_iff.1 sizeB
  go_enter Tryz.func138, Tryz.ntmps138
  go_wp2
  rw [Lib.run_neq_ptr_same w _ Tryz.underlying123 hj]
  go_wp2
  go_end0
  exact ⟨rfl, rfl⟩
set_option maxHeartbeats 1000000 in
set_option maxRecDepth 100000 in
theorem copyCheck_fresh (b : Nat) (w : World) (h0 : w.cell? ⟨b, 0, none⟩ = some (.pointer none)) (hsh : w.shape? b = some (125, 2)) (hfz : w.frozen? ⟨b, 0, none⟩ = false) :
    Calls Tryz.prog 138 #[.pointer (some ⟨b, 0, none⟩)] w fun e w' => e = .returned (.tuple #[]) ∧ w' = w.setCell ⟨b, 0, none⟩ (.pointer (some ⟨b, 0, none⟩)) := by
  obtain ⟨j, hj, hjs⟩ := Option.map_eq_some_iff.1 sizeB
  go_enter Tryz.func138, Tryz.ntmps138
  go_wp2
  rw [Lib.run_to_unsafe w ⟨b, 0, none⟩ Tryz.underlying123 Tryz.underlying178 hj (by rw [hjs]; decide) hsh (Nat.zero_lt_succ 1)]
  simp only [Result.andThen]
  rw [Oper.upon_value]
  go_wp2
  rw [run_callFunc_extern Tryz.func157 (by kernel_rfl) (by kernel_rfl) (by kernel_rfl) (e := Extern.AbiNoEscape.same) (by kernel_rfl)]
  rw [Lib.run_noEscape]
  simp only [Result.andThen]
  rw [Oper.upon_value]
  go_wp2
  rw [Lib.run_from_unsafe w ⟨b, 0, none⟩ Tryz.underlying178 Tryz.underlying123 hj hsh liesB]
  simp only [Result.andThen]
  rw [Oper.upon_value]
  go_wp2
  go_end0
  exact ⟨rfl, rfl⟩
theorem copyCheck (B b : Nat) (bs : List Value) (w : World) (h : Lib.IsBuilder 125 5 B b bs w) :
    Calls Tryz.prog 138 #[.pointer (some ⟨b, 0, none⟩)] w fun e w' => e = .returned (.tuple #[]) ∧ (Lib.BuilderAt 125 5 B b (.pointer (some ⟨b, 0, none⟩)) bs w' ∧ Below B w w') := by
  rcases h with h | h
  · refine (copyCheck_fresh b w h.cell0 h.shape h.frozen0).mono ?_
    rintro e w' ⟨rfl, rfl⟩
    exact ⟨rfl, h.used _, (Below.refl B w).setCell (p := ⟨b, 0, none⟩) h.1 _⟩
  · refine (copyCheck_used b w h.cell0).mono ?_
    rintro e w' ⟨rfl, rfl⟩
    exact ⟨rfl, h, Below.refl B _⟩
theorem lt_of_heap {w : World} {b : Nat} {o : Obj} (h : w.heap[b]? = some o) : b < w.heap.size := by
  rcases Nat.lt_or_ge b w.heap.size with h' | h'
  · exact h'
  · simp [Array.getElem?_eq_none h'] at h
set_option maxHeartbeats 2000000 in
set_option maxRecDepth 100000 in
theorem WriteByte (B b : Nat) (bs : List Value) (c : Int) (w : World) (h : Lib.IsBuilder 125 5 B b bs w) (hlen : bs.length + 1 ≤ 140737488355328) (hBw : B ≤ w.heap.size) :
    Calls Tryz.prog 158 #[.pointer (some ⟨b, 0, none⟩), .int .u8 c] w fun e w' => e = .returned .nilIface ∧ (Lib.IsBuilder 125 5 B b (bs ++ [.int .u8 c]) w' ∧ Below B w w') := by
  obtain ⟨i0, hi, hz0, hz1, hz2⟩ := info_parts infoByte
  go_enter Tryz.func158, Tryz.ntmps158
  go_wp2_with (go_at_call 138; refine (copyCheck B b bs _ h).mono ?_)
  rintro e w1 ⟨rfl, h1, hb1⟩
  obtain ⟨hB, v, hbk, hown, hne⟩ := h1
  have c0 : w1.cell? ⟨b, 0, none⟩ = some (.pointer (some ⟨b, 0, none⟩)) := by rw [Lib.cell_of_heap hbk]; rfl
  have c1 : w1.cell? ⟨b, 1, none⟩ = some v := by rw [Lib.cell_of_heap hbk]; rfl
  go_wp2_with (at_builtin; refine wpList_append_own _ rfl _ _ 70 rfl B 5 i0 (.int .u8 0) 1 1 Tryz.underlying70 hi hz0 hz1 hz2 rfl (by decide) _ _ _ rfl (hown.alloc _) ⟨w1.heap.size, 0, none⟩ 1 1 [.int .u8 c] rfl rfl ?c1 ?c2 ?c3 ?c4 ?c5 ?_)
  case c1 =>
    intro j u hj
    match j, hj with
    | 0, hj => simp at hj; subst hj; simp [Addr.add]
  case c2 => intro u hu; simp at hu; subst hu; rfl
  case c3 => unfold maxLen; omega
  case c4 => omega
  case c5 => have := hb1.size; simp; omega
  intro v' w2 hown' hgrow _
  have hlt := lt_of_heap hbk
  have hb2 : w2.heap[b]? = some (.cells #[.pointer (some ⟨b, 0, none⟩), v] 125 (0, 0)) := by
    rw [hgrow.block b (by simp; omega) (fun e => hne e.symm), World.alloc, Array.getElem?_push_lt hlt, ← Array.getElem?_eq_getElem hlt]
    exact hbk
  have d0 : w2.cell? ⟨b, 0, none⟩ = some (.pointer (some ⟨b, 0, none⟩)) := by rw [Lib.cell_of_heap hb2]; rfl
  have d1 : w2.cell? ⟨b, 1, none⟩ = some v := by rw [Lib.cell_of_heap hb2]; rfl
  have f1 : w2.frozen? ⟨b, 1, none⟩ = false := Lib.frozen_of_heap hb2 1
  obtain ⟨g, cap, rfl⟩ : ∃ g cap, v' = .slice (some ⟨g, 0, none⟩) (bs.length + 1) cap := by
    rcases hown'.2 with ⟨_, h0⟩ | ⟨g, cap, cur, hv, _⟩
    · omega
    · exact ⟨g, cap, hv⟩
  go_wp2
  go_ret
  refine ⟨rfl, .inr ?_, ?_⟩
  · exact Lib.BuilderAt.put (T := 125) (e := 5) hB hb2 (bs' := bs ++ [.int .u8 c]) (by simpa using hown') (by decide)
  · exact ((hb1.alloc (by have := hb1.size; omega) _).grown hgrow (by have := hb1.size; simp; omega) (fun k hk => (hown.lt k hk).1)).setCell (p := ⟨b, 1, none⟩) hB _
set_option maxHeartbeats 2000000 in
set_option maxRecDepth 100000 in
theorem WriteString (B b : Nat) (bs : List Value) (s : ByteArray) (w : World) (h : Lib.IsBuilder 125 5 B b bs w) (hlen : bs.length + s.size ≤ 140737488355328) (hBw : B ≤ w.heap.size) :
    Calls Tryz.prog 97 #[.pointer (some ⟨b, 0, none⟩), .string s] w fun e w' => e = .returned (.tuple #[.int .i64 s.size, .nilIface]) ∧ (Lib.IsBuilder 125 5 B b (bs ++ Lib.strCells s) w' ∧ Below B w w') := by
  obtain ⟨i0, hi, hz0, hz1, hz2⟩ := info_parts infoByte
  go_enter Tryz.func97, Tryz.ntmps97
  go_wp2_with (go_at_call 138; refine (copyCheck B b bs _ h).mono ?_)
  rintro e w1 ⟨rfl, h1, hb1⟩
  obtain ⟨hB, v, hbk, hown, hne⟩ := h1
  have c0 : w1.cell? ⟨b, 0, none⟩ = some (.pointer (some ⟨b, 0, none⟩)) := by rw [Lib.cell_of_heap hbk]; rfl
  have c1 : w1.cell? ⟨b, 1, none⟩ = some v := by rw [Lib.cell_of_heap hbk]; rfl
  go_wp2_with (at_builtin; refine Lib.wpList_append_own_string _ rfl _ _ 70 9 rfl B 5 i0 Tryz.underlying70 Tryz.underlying9 hi hz0 hz1 hz2 _ _ _ rfl hown s rfl ?c3 ?c4 ?c5 ?_)
  case c3 => unfold maxLen; omega
  case c4 => omega
  case c5 => have := hb1.size; omega
  intro v' w2 hown' hgrow _
  have hlt := lt_of_heap hbk
  have hb2 : w2.heap[b]? = some (.cells #[.pointer (some ⟨b, 0, none⟩), v] 125 (0, 0)) := by
    rw [hgrow.block b hlt (fun e => hne e.symm)]
    exact hbk
  have d0 : w2.cell? ⟨b, 0, none⟩ = some (.pointer (some ⟨b, 0, none⟩)) := by rw [Lib.cell_of_heap hb2]; rfl
  have d1 : w2.cell? ⟨b, 1, none⟩ = some v := by rw [Lib.cell_of_heap hb2]; rfl
  have f1 : w2.frozen? ⟨b, 1, none⟩ = false := Lib.frozen_of_heap hb2 1
  obtain ⟨ao, n', cap, rfl⟩ : ∃ ao n' cap, v' = .slice ao n' cap := by
    rcases hown'.2 with ⟨hv, _⟩ | ⟨g, cap, cur, hv, _⟩
    · exact ⟨_, _, _, hv⟩
    · exact ⟨_, _, _, hv⟩
  go_wp2
  go_ret2
  refine ⟨rfl, .inr ?_, ?_⟩
  · exact Lib.BuilderAt.put (T := 125) (e := 5) hB hb2 (bs' := bs ++ Lib.strCells s) (by simpa [Lib.strCells_length] using hown') (by decide)
  · exact (hb1.grown hgrow (by have := hb1.size; omega) (fun k hk => (hown.lt k hk).1)).setCell (p := ⟨b, 1, none⟩) hB _
end Go.Proofs.YthcidkidpiaomaaGreatDoor.Bld
end
section
set_option linter.unusedVariables false
namespace Go.Proofs.YthcidkidpiaomaaGreatDoor.Fx
open Go.RowKit Go.Proofs.YthcidkidpiaomaaGreatDoorW.PrintWords
def fracL : Nat → Int → List UInt8
  | 0, _ => []
  | k + 1, f => if f ≤ 0 then [] else UInt8.ofNat (48 + (f * 10 / 65536).toNat) :: fracL k (f * 10 % 65536)
def fmtP (x : Int) : List UInt8 := Lib.decDigits (x / 65536).toNat ++ (if x % 65536 = 0 then [] else 46 :: fracL 16 (x % 65536))
def fmtL (x : Int) : List UInt8 := if x < 0 then 45 :: fmtP (-x) else fmtP x
theorem strCells_bytes (l : List UInt8) : Lib.strCells ⟨l.toArray⟩ = Lib.byteCells l := by simp [Lib.strCells, Lib.byteCells]
theorem byteCells_append (a b : List UInt8) : Lib.byteCells (a ++ b) = Lib.byteCells a ++ Lib.byteCells b := by simp [Lib.byteCells]
theorem and_low (x : Int) (h0 : 0 ≤ x) (h1 : x < 9223372036854775808) : bits .and .i64 x 65535 = x % 65536 :=
  bits_mask .i64 63 (by decide) (fun n h0 h1 => by rw [IntKind.wrap_i64]; omega) 16 (by decide) x h0 (by omega)
theorem decDigits_len (u : Nat) : (Lib.decDigits u).length ≤ u + 1 := by
  induction u using Nat.strongRecOn with
  | _ u ih =>
    unfold Lib.decDigits
    split
    · simp
    · have := ih (u / 10) (by omega)
      simp only [List.length_append, List.length_cons, List.length_nil]
      omega
theorem size_mk (l : List UInt8) : ByteArray.size ⟨l.toArray⟩ = l.length := by simp [ByteArray.size]
theorem itoa_pos (n : Int) (h : 0 ≤ n) : Lib.itoa n = Lib.decDigits n.toNat := by unfold Lib.itoa; rw [if_neg (by omega)]
theorem dvd_start (f : Int) : (65536 : Int) ∣ f * 2 ^ 16 := ⟨f, by omega⟩
theorem dvd_round {f : Int} {g : Nat} (h : (65536 : Int) ∣ f * 2 ^ (g + 1)) : (65536 : Int) ∣ (f * 10 % 65536) * 2 ^ g := by
  obtain ⟨m, hm⟩ := h
  have e := Int.mul_ediv_add_emod (f * 10) 65536
  refine ⟨5 * m - (f * 10 / 65536) * 2 ^ g, ?_⟩
  have e1 : f * 10 % 65536 = f * 10 - 65536 * (f * 10 / 65536) := by omega
  rw [e1]
  generalize f * 10 / 65536 = q
  rw [Int.pow_succ] at hm
  generalize (2 : Int) ^ g = p at *
  rw [Int.sub_mul, Int.mul_sub]
  have : f * 10 * p = 5 * (f * (p * 2)) := by
    rw [Int.mul_comm p 2, ← Int.mul_assoc f 2 p, Int.mul_comm f 2]
    rw [Int.mul_assoc 2 f p, ← Int.mul_assoc 5 2]
    rw [Int.mul_comm f 10, Int.mul_assoc]; rfl
  rw [this, hm, Int.mul_assoc 65536 q p]
  omega
def FmtRel (w : World) (total : List UInt8) (g : Nat) (v : Value) (wr : World) : Prop :=
  ∃ (f : Int) (l : List UInt8), v = .int .i64 f ∧ 0 ≤ f ∧ f < 65536 ∧ (65536 : Int) ∣ f * 2 ^ g ∧ g ≤ 16 ∧ l.length + g ≤ 70000 ∧ l ++ fracL g f = total ∧
    Lib.IsBuilder 125 5 w.heap.size w.heap.size (Lib.byteCells l) wr ∧ Below w.heap.size w wr
set_option maxRecDepth 100000 in
set_option maxHeartbeats 1000000 in
theorem Format_any (x0 : Int) (w : World) (h0 : -2147483648 < x0) (h1 : x0 < 2147483648) (ht : Tabs w) :
    Calls Tryz.prog 139 #[.int .i64 x0] w fun e w' => e = .returned (.string ⟨(fmtL x0).toArray⟩) ∧ Below w.heap.size w w' := by
  have hb0 : Below w.heap.size w (w.alloc (.cells #[.pointer none, .slice none 0 0] 125)) := (Below.refl _ _).alloc (Nat.le_refl _) _
  have hB0 := IsBuilder_new (T := 125) (e := 5) w
  go_enter Tryz.func139, Tryz.ntmps139
  go_upto_if 5 with (fail)
  go_cut [0] (fun v wc => ∃ (x : Int) (pre : List UInt8), v = .int .i64 x ∧ 0 ≤ x ∧ x < 2147483648 ∧ pre.length ≤ 1 ∧ Hid (fmtL x0 = pre ++ fmtP x) ∧ Lib.IsBuilder 125 5 w.heap.size w.heap.size (Lib.byteCells pre) wc ∧ w.heap.size + 1 ≤ wc.heap.size ∧ Below w.heap.size w wc)
  case first =>
    by_cases hneg : x0 < 0
    · have hfm : fmtL x0 = [45] ++ fmtP (-x0) := by simp [fmtL, hneg]
      have HM := Lib.hid hfm
      clear hfm
      go_wp2_with (first | (go_at_call 158; refine (Bld.WriteByte _ _ _ _ _ hB0 (by simp) (by simp)).mono ?_; rintro e w3 ⟨rfl, hB3, hb3⟩))
      have hs3 := hb3.size
      rw [World.size_alloc] at hs3
      go_wp2
      go_meet
      case rel => exact ⟨-x0, [45], rfl, by omega, by omega, by simp, HM, hB3, hs3, hb0.trans hb3⟩
    · have hfm : fmtL x0 = [] ++ fmtP x0 := by simp [fmtL, hneg]
      have HM := Lib.hid hfm
      clear hfm
      go_wp2
      go_meet
      case rel => exact ⟨x0, [], rfl, by omega, by omega, by simp, HM, hB0, by simp, hb0⟩
  case rest =>
    obtain ⟨x, pre, rfl, x1, x2, hpre, HM, hBc, hsc, hbc⟩ := hcut
    have htc := ht.below hbc
    have hand := and_low x x1 (by omega)
    have hlen := decDigits_len (x / 65536).toNat
    have hit := itoa_pos (x / 65536) (by omega)
    have HI := Lib.hid hit
    clear hit hB0 hb0
    go_wp2_with (first | (go_at_call 159; refine (FormatInt_B (x / 65536) _ (by omega) (by omega) htc).mono ?_; rintro e w1 ⟨rfl, hb1⟩))
    rw [HI.out]
    have hB1 := IsBuilder_below hBc hb1
    have hs1 := hb1.size
    have hbw1 : Below w.heap.size w w1 := hbc.trans (hb1.mono (by omega))
    have hsz : (Lib.byteCells pre).length + ByteArray.size ⟨(Lib.decDigits (x / 65536).toNat).toArray⟩ ≤ 140737488355328 := by rw [size_mk, Lib.byteCells_length]; omega
    refine (Bld.WriteString _ _ _ _ _ hB1 hsz (by omega)).mono ?_
    rintro e w2 ⟨rfl, hB2, hb2⟩
    rw [strCells_bytes, ← byteCells_append] at hB2
    have hs2 := hb2.size
    have hl1 : (pre ++ Lib.decDigits (x / 65536).toNat).length ≤ 60000 := by rw [List.length_append]; omega
    have hassoc : fmtL x0 = (pre ++ Lib.decDigits (x / 65536).toNat) ++ (if x % 65536 = 0 then [] else 46 :: fracL 16 (x % 65536)) := by rw [HM.out, fmtP, List.append_assoc]
    have HA := Lib.hid hassoc
    clear hsz hassoc HM HI hB1 hBc hlen
    generalize pre ++ Lib.decDigits (x / 65536).toNat = l0 at *
    by_cases hf : x % 65536 = 0
    · have hfin : fmtL x0 = l0 := by rw [HA.out, if_pos hf, List.append_nil]
      have HF := Lib.hid hfin
      have hf0 : decide (0 < x % 65536) = false := by simp; omega
      clear hfin HA hf
      go_wp2_with fail
      go_loopg [0] 1 (fun g v wr => w2 = wr ∧ v = .int .i64 (x % 65536))
      case atStart => exact ⟨rfl, rfl⟩
      case round =>
        obtain ⟨rfl, rfl⟩ := hrel
        go_wp2_with (first | (go_at_call 98; refine (Tryz.Builder_String_any _ _ _ _ hB2 (by omega)).mono ?_; rintro e w3 ⟨rfl, hb3⟩))
        go_ret
        rw [HF.out]
        exact ⟨rfl, hbw1.trans (hb2.trans hb3)⟩
    · have hlast : fmtL x0 = (l0 ++ [46]) ++ fracL 16 (x % 65536) := by rw [HA.out, if_neg hf, List.append_assoc]; rfl
      have HL := Lib.hid hlast
      have hf0 : 0 < x % 65536 := by omega
      clear hlast HA hf
      have hsz2 : (Lib.byteCells l0).length + 1 ≤ 140737488355328 := by rw [Lib.byteCells_length]; omega
      go_wp2_with (first | (go_at_call 158; refine (Bld.WriteByte _ _ _ _ _ hB2 hsz2 (by omega)).mono ?_; rintro e w3 ⟨rfl, hB3, hb3⟩))
      have hs3 := hb3.size
      have hB3' : Lib.IsBuilder 125 5 w.heap.size w.heap.size (Lib.byteCells (l0 ++ [46])) w3 := by rw [byteCells_append]; exact hB3
      have hl2 : (l0 ++ [46]).length ≤ 60001 := by rw [List.length_append, List.length_cons, List.length_nil]; omega
      clear hand hsz2 hB3 hB2
      generalize l0 ++ [46] = l2 at *
      go_loopg [0] 16 (fun g v wr => FmtRel w (l2 ++ fracL 16 (x % 65536)) g v wr)
      case atStart => exact ⟨x % 65536, l2, rfl, by omega, by omega, dvd_start _, by omega, by omega, rfl, hB3', hbw1.trans (hb2.trans hb3)⟩
      case round =>
        obtain ⟨f, l, rfl, f0, f1, fd, fg, fl, ft, fB, fb⟩ := hrel
        have FT := Lib.hid ft
        have FD := Lib.hid fd
        clear ft fd
        have hbs := fb.size
        by_cases hz : f = 0
        · subst hz
          have hft : l2 ++ fracL 16 (x % 65536) = l := by
            rw [← FT.out]
            cases gk with
            | zero => simp [fracL]
            | succ g => simp [fracL]
          have HT := Lib.hid hft
          clear hft
          go_wp2_with (first | (go_at_call 98; refine (Tryz.Builder_String_any _ _ _ _ fB (by omega)).mono ?_; rintro e w4 ⟨rfl, hb4⟩))
          go_ret
          rw [HL.out, HT.out]
          exact ⟨rfl, fb.trans hb4⟩
        · have f2 : 0 < f := by omega
          cases gk with
          | zero =>
            have := FD.out
            rw [Int.pow_zero, Int.mul_one] at this
            have := Int.emod_eq_zero_of_dvd this
            omega
          | succ g =>
            have hand := and_low (f * 10) (by omega) (by omega)
            have hcl : (Lib.byteCells l).length + 1 ≤ 140737488355328 := by rw [Lib.byteCells_length]; omega
            go_wp2_with (first | (go_at_call 158; refine (Bld.WriteByte _ _ _ _ _ fB hcl (by omega)).mono ?_; rintro e w4 ⟨rfl, hB4, hb4⟩))
            have hB5 : Lib.IsBuilder 125 5 w.heap.size w.heap.size (Lib.byteCells (l ++ [UInt8.ofNat (48 + (f * 10 / 65536).toNat)])) w4 := by
              rw [byteCells_append]
              have e1 : Lib.byteCells [UInt8.ofNat (48 + (f * 10 / 65536).toNat)] = [.int .u8 (48 + f * 10 / 65536)] := by
                simp only [Lib.byteCells, List.map_cons, List.map_nil, UInt8.toNat_ofNat']
                rw [show ((48 + (f * 10 / 65536).toNat) % 2 ^ 8 : Nat) = 48 + (f * 10 / 65536).toNat from by omega]
                rw [show ((48 + (f * 10 / 65536).toNat : Nat) : Int) = 48 + f * 10 / 65536 from by omega]
              rw [e1]; exact hB4
            go_wp2
            go_roundg g
            case measure => omega
            case rel =>
              refine ⟨_, _, rfl, by omega, by omega, dvd_round FD.out, by omega, ?_, ?_, hB5, fb.trans hb4⟩
              · simp only [List.length_append, List.length_cons, List.length_nil]; omega
              · rw [← FT.out]
                simp only [fracL]
                rw [if_neg (by omega), List.append_assoc]; rfl
end Go.Proofs.YthcidkidpiaomaaGreatDoor.Fx
end
section
set_option linter.unusedVariables false
namespace Go.Proofs.YthcidkidpiaomaaGreatDoor.Fx
open Go.RowKit Go.Proofs.YthcidkidpiaomaaGreatDoorW.PrintWords
def dbl : List Int → List Int × Int
  | [] => ([], 0)
  | d :: t => ((2 * d + (dbl t).2) % 10 :: (dbl t).1, (2 * d + (dbl t).2) / 10)
def sf : Nat → List Int → Int → List Int × Int
  | 0, ds, out => (ds, out)
  | k + 1, ds, out => sf k (dbl ds).1 (2 * out + (dbl ds).2)
def Digs (ds : List Int) : Prop := ∀ d ∈ ds, 0 ≤ d ∧ d ≤ 9
theorem dbl_len (ds : List Int) : (dbl ds).1.length = ds.length := by
  induction ds with
  | nil => rfl
  | cons d t ih => simp [dbl, ih]
theorem dbl_ok {ds : List Int} (h : Digs ds) : Digs (dbl ds).1 ∧ 0 ≤ (dbl ds).2 ∧ (dbl ds).2 ≤ 1 := by
  induction ds with
  | nil => exact ⟨h, by simp [dbl], by simp [dbl]⟩
  | cons d t ih =>
    obtain ⟨h1, h2, h3⟩ := ih (fun x hx => h x (List.mem_cons_of_mem _ hx))
    have hd := h d (List.mem_cons_self ..)
    refine ⟨?_, ?_, ?_⟩
    · intro x hx
      simp only [dbl, List.mem_cons] at hx
      rcases hx with rfl | hx
      · omega
      · exact h1 x hx
    · simp only [dbl]; omega
    · simp only [dbl]; omega
structure Dig (w : World) (b : Nat) (ds : List Int) : Prop where
  cell : ∀ j, j < ds.length → w.cell? ⟨b, j, none⟩ = some (.int .u8 (48 + ds.getD j 0))
  free : ∀ j, j < ds.length → w.frozen? ⟨b, j, none⟩ = false
theorem Dig.set {w : World} {b : Nat} {ds : List Int} (h : Dig w b ds) (i : Nat) (hi : i < ds.length) (d : Int) :
    Dig (w.setCell ⟨b, i, none⟩ (.int .u8 (48 + d))) b (ds.set i d) := by
  constructor
  · intro j hj
    rw [List.length_set] at hj
    by_cases e : j = i
    · subst e
      rw [World.cell?_setCell_same _ _ _ (h.cell j hj)]
      simp [List.getD_eq_getElem?_getD, hi]
    · have hne : (⟨b, i, none⟩ : Addr) ≠ ⟨b, j, none⟩ := fun h' => e (by injection h' with _ h'; exact h'.symm)
      rw [World.cell?_setCell_other w _ _ _ hne, h.cell j hj]
      simp [List.getD_eq_getElem?_getD, List.getElem?_set_ne (Ne.symm e)]
  · intro j hj
    rw [List.length_set] at hj
    rw [World.frozen?_setCell]
    exact h.free j hj
theorem Dig.cast {w : World} {b : Nat} {ds ds' : List Int} (h : Dig w b ds) (e : ds = ds') : Dig w b ds' := e ▸ h
theorem bytesWorld_below (w : World) (e : TypeId) (s : ByteArray) : Below w.heap.size w (Lib.bytesWorld w e s) :=
  ⟨rfl, rfl, rfl, by rw [Lib.bytesWorld_size]; omega, fun k hk => Lib.bytesWorld_at_old w e s k hk⟩
theorem bytesWorld_dig (w : World) (e : TypeId) (s : ByteArray) (ds : List Int) (h : s.data.toList.map (fun b => (b.toNat : Int) - 48) = ds) (_hd : Digs ds) : Dig (Lib.bytesWorld w e s) w.heap.size ds := by
  have hl : ds.length = s.size := by rw [← h, List.length_map, Array.length_toList]; rfl
  constructor
  · intro j hj
    rw [Lib.bytesWorld_cell w e s j (by omega)]
    have hj' : j < s.data.toList.length := by rw [Array.length_toList]; have : s.data.size = s.size := rfl; omega
    rw [← h]
    simp only [List.getD_eq_getElem?_getD, List.getElem?_map, List.getElem?_eq_getElem hj', Option.map_some, Option.getD_some]
    rw [show (48 : Int) + (((s.data.toList[j]).toNat : Int) - 48) = ((s.data.toList[j]).toNat : Int) from by omega]
  · intro j hj
    have h1 : j < (Lib.bytesCells w e s).size := by simp [Lib.bytesCells]; have : s.data.size = s.size := rfl; omega
    simp only [World.frozen?, Lib.bytesWorld_at_new]
    simp; omega
theorem dropWhile_nil {α : Type} (p : α → Bool) : ∀ l : List α, l.dropWhile p = [] ↔ ∀ x ∈ l, p x = true
  | [] => by simp
  | a :: l => by
    have ih := dropWhile_nil p l
    cases h : p a
    · simp only [List.dropWhile_cons, h]
      simp [h]
    · simp only [List.dropWhile_cons, h, if_true, ih]
      simp [h]
theorem takeWhile_all {α : Type} (p : α → Bool) : ∀ l : List α, ∀ x ∈ l.takeWhile p, p x = true
  | [] => by simp
  | a :: l => by
    intro x hx
    cases h : p a
    · simp [h] at hx
    · simp only [List.takeWhile_cons, h, if_true, List.mem_cons] at hx
      rcases hx with rfl | hx
      · exact h
      · exact takeWhile_all p l x hx
theorem size_mk' (l : List UInt8) : ByteArray.size ⟨l.toArray⟩ = l.length := by simp [ByteArray.size]
theorem nums_any (l : List Int) (h : Digs l) : (Lib.trimB (l.map fun n => UInt8.ofNat (48 + n).toNat) 48).isEmpty = !(l.any (· != 0)) := by
  have hb : ∀ n : Int, 0 ≤ n ∧ n ≤ 9 → (UInt8.ofNat (48 + n).toNat == 48) = (n == 0) := by
    rintro n ⟨h0, h1⟩
    obtain ⟨k, rfl⟩ := Int.eq_ofNat_of_zero_le h0
    have : k < 10 := by omega
    rw [show (48 + (k : Int)).toNat = 48 + k from by omega]
    match k, this with
    | 0, _ => rfl
    | 1, _ => rfl
    | 2, _ => rfl
    | 3, _ => rfl
    | 4, _ => rfl
    | 5, _ => rfl
    | 6, _ => rfl
    | 7, _ => rfl
    | 8, _ => rfl
    | 9, _ => rfl
  have key : ∀ m : List UInt8, (Lib.trimB m 48).isEmpty = m.all (· == 48) := by
    intro m
    unfold Lib.trimB Lib.trimLeftB Lib.trimRightB
    rw [Bool.eq_iff_iff, List.isEmpty_iff, List.all_eq_true]
    constructor
    · intro h x hx
      have h1 : ∀ y ∈ (m.reverse.dropWhile (· == (48 : UInt8))).reverse, y == 48 := by
        exact (dropWhile_nil _ _).1 h
      have hx' := List.mem_reverse.2 hx
      rw [← List.takeWhile_append_dropWhile (p := (· == (48 : UInt8))) (l := m.reverse)] at hx'
      rcases List.mem_append.1 hx' with g | g
      · exact takeWhile_all _ _ x g
      · exact h1 x (List.mem_reverse.2 g)
    · intro h
      have : m.reverse.dropWhile (· == (48 : UInt8)) = [] := (dropWhile_nil _ _).2 (fun y hy => h y (List.mem_reverse.1 hy))
      rw [this]; rfl
  rw [key, List.all_map]
  induction l with
  | nil => rfl
  | cons d t ih =>
    rw [List.all_cons, List.any_cons, ih (fun x hx => h x (List.mem_cons_of_mem _ hx))]
    simp only [Function.comp]
    rw [hb d (h d (List.mem_cons_self ..))]
    cases hz : d == 0 <;> simp [bne, hz]
theorem take_drop_dbl {dk : List Int} {m : Nat} (h : m < dk.length) :
    (dk.take (m + 1) ++ (dbl (dk.drop (m + 1))).1).set m ((2 * dk.getD m 0 + (dbl (dk.drop (m + 1))).2) % 10) = dk.take m ++ (dbl (dk.drop m)).1 ∧ (dbl (dk.drop m)).2 = (2 * dk.getD m 0 + (dbl (dk.drop (m + 1))).2) / 10 ∧ (dk.take (m + 1) ++ (dbl (dk.drop (m + 1))).1).getD m 0 = dk.getD m 0 := by
  have hd : dk.drop m = dk[m] :: dk.drop (m + 1) := List.drop_eq_getElem_cons h
  have hg : dk.getD m 0 = dk[m] := by rw [List.getD_eq_getElem?_getD, List.getElem?_eq_getElem h]; rfl
  have ht : dk.take (m + 1) = dk.take m ++ [dk[m]] := (List.take_append_getElem h).symm
  have hl : (dk.take m).length = m := by rw [List.length_take]; omega
  refine ⟨?_, ?_, ?_⟩
  · rw [ht, hg, hd, List.append_assoc, List.set_append_right _ _ (by omega), hl, Nat.sub_self]
    simp [dbl]
  · rw [hd, hg]; simp [dbl]
  · rw [List.getD_eq_getElem?_getD, List.getElem?_append_left (by rw [List.length_take]; omega), List.getElem?_take_of_lt (by omega), ← List.getD_eq_getElem?_getD]
set_option maxRecDepth 100000 in
set_option maxHeartbeats 1000000 in
theorem parseFraction_any (s : ByteArray) (w : World) (hs : s.size ≤ 140737488351232) (ds : List Int) (hds : s.data.toList.map (fun b => (b.toNat : Int) - 48) = ds) (hd : Digs ds) :
    Calls Tryz.prog 197 #[.string s] w fun e w' => e = .returned (.tuple #[.int .i64 (sf 16 ds 0).2, .bool ((sf 16 ds 0).1.any (· != 0))]) ∧ Below w.heap.size w w' := by
  have hconv := fun w => Lib.run_convert_string_bytes (P := Tryz.prog) w 9 70 5 s Tryz.underlying9 Tryz.underlying70 Tryz.underlying5
  have HDS := Lib.hid hds
  clear hds
  go_enter Tryz.func197, Tryz.ntmps197
  go_wp2_with fail
  obtain ⟨wb, hwb⟩ : ∃ wb, Lib.bytesWorld w 5 s = wb := ⟨_, rfl⟩
  obtain ⟨cp, hcp⟩ : ∃ cp, grownCap w s.size 0 5 = cp := ⟨_, rfl⟩
  obtain ⟨b, hb⟩ : ∃ b, w.heap.size = b := ⟨_, rfl⟩
  have hn : ds.length = s.size := by rw [← HDS.out, List.length_map, Array.length_toList]; rfl
  have hsz : wb.heap.size = b + 1 := by rw [← hwb, Lib.bytesWorld_size, hb]
  have hbel : Below b w wb := by rw [← hwb, ← hb]; exact bytesWorld_below w _ s
  have hdig : Dig wb b ds := by rw [← hwb, ← hb]; exact bytesWorld_dig w _ s ds HDS.out hd
  rw [hwb, hcp, hb]
  clear hwb hcp hconv
  have HN := Lib.hid hn
  clear hn hsz
  go_loopg [5, 6, 7, 8, 11] 16 (fun g v5 v6 v7 v8 v11 wr => ∃ (out : Int) (dk : List Int), v5 = .int .i64 out ∧ v11 = .int .i64 (16 - (g : Int)) ∧ g ≤ 16 ∧ 0 ≤ out ∧ (out + 1) * 2 ^ g ≤ 65536 ∧ dk.length = s.size ∧ Digs dk ∧ sf g dk out = sf 16 ds 0 ∧ Dig wr b dk ∧ Below b w wr)
  case atStart => exact ⟨0, ds, rfl, rfl, by omega, by omega, by omega, HN.out, hd, rfl, hdig, hbel⟩
  case round =>
    obtain ⟨out, dk, rfl, rfl, hg, ho0, ho1, hlen, hdk, hsf, hdig, hbel⟩ := hrel
    cases gk with
    | zero =>
      have hback := run_convert_bytes_arg (P := Tryz.prog) wr 70 5 Tryz.underlying70 Tryz.underlying5 b 0 s.size cp (dk.map fun n => 48 + n) (by rw [List.length_map]; exact hlen) (fun i hi => by
        rw [Nat.zero_add, hdig.cell i (by omega)]
        simp [List.getD_eq_getElem?_getD, List.getElem?_eq_getElem (show i < dk.length by omega)]) 9 Tryz.underlying9
      have HSF := Lib.hid hsf
      clear hsf
      have hstr : strOfNums (dk.map fun n => 48 + n) = ⟨(dk.map fun n => UInt8.ofNat (48 + n).toNat).toArray⟩ := by simp [strOfNums, List.map_map, Function.comp_def]
      have hsl : (strOfNums (dk.map fun n => 48 + n)).size ≤ 9223372036854775807 := by rw [hstr, size_mk']; rw [List.length_map]; omega
      have hany := nums_any dk hdk
      have HSTR := Lib.hid hstr
      have HANY := Lib.hid hany
      clear hstr hany
      generalize strOfNums (dk.map fun n => 48 + n) = str at *
      go_wp2_with (first | (go_at_call 206; refine (Tryz.strings_Trim_one str 48 (by decide) _ hsl).mono ?_; rintro e w2 ⟨rfl, hw2⟩))
      go_ret2
      rw [HSTR.out, HANY.out, Bool.not_not]
      rw [← HSF.out, hb]
      refine ⟨rfl, ?_⟩
      rcases hw2 with rfl | rfl
      · exact hbel
      · exact hbel.drew
    | succ g =>
      have HSF := Lib.hid hsf
      clear hsf
      have hb2 : (2 * (out + 1)) * 2 ^ g ≤ 65536 := by rw [Int.pow_succ] at ho1; rw [Int.mul_comm 2, Int.mul_assoc, Int.mul_comm 2]; exact ho1
      have hpow : (1 : Int) ≤ 2 ^ g := Int.pow_pos (by omega)
      have ho2 : out ≤ 65535 := by
        have := Int.mul_le_mul_of_nonneg_left hpow (show 0 ≤ 2 * (out + 1) by omega)
        omega
      go_wp2_with fail
      go_loopg [6, 7, 8] s.size (fun m v6 v7 v8 wi => v6 = .int .u8 (dbl (dk.drop m)).2 ∧ v7 = .int .i64 ((m : Int) - 1) ∧ m ≤ s.size ∧ Dig wi b (dk.take m ++ (dbl (dk.drop m)).1) ∧ Below b w wi)
      case atStart => exact ⟨by rw [← hlen, List.drop_length]; rfl, rfl, by omega, hdig.cast (by rw [← hlen, List.drop_length, List.take_length]; simp [dbl]), hbel⟩
      case round =>
        obtain ⟨rfl, rfl, hm, hdig2, hbel2⟩ := hrel
        cases gk with
        | zero =>
          rw [List.drop_zero, List.take_zero, List.nil_append] at hdig2
          rw [List.drop_zero]
          obtain ⟨hdk', hc0, hc1⟩ := dbl_ok hdk
          have hlen' : (dbl dk).1.length = s.size := by rw [dbl_len, hlen]
          have HL := Lib.hid hlen'
          clear hlen'
          have hsf' : sf g (dbl dk).1 (2 * out + (dbl dk).2) = sf 16 ds 0 := HSF.out
          have HS' := Lib.hid hsf'
          clear hsf'
          go_wp2_with fail
          go_roundg g
          case measure => omega
          case rel =>
            refine ⟨2 * out + (dbl dk).2, (dbl dk).1, rfl, by go_num, by omega, by omega, ?_, HL.out, hdk', HS'.out, hdig2, hbel2⟩
            refine Int.le_trans ?_ hb2
            refine Int.mul_le_mul_of_nonneg_right ?_ (Int.le_of_lt (Int.pow_pos (by omega)))
            omega
        | succ m =>
          obtain ⟨hc1, hc2, hc3⟩ := take_drop_dbl (dk := dk) (m := m) (by omega)
          have hcell := hdig2.cell m (by rw [List.length_append, List.length_take, dbl_len, List.length_drop]; omega)
          have hfree := hdig2.free m (by rw [List.length_append, List.length_take, dbl_len, List.length_drop]; omega)
          rw [hc3] at hcell
          have hdm := hdk (dk.getD m 0) (by rw [List.getD_eq_getElem?_getD, List.getElem?_eq_getElem (by omega)]; exact List.getElem_mem _)
          obtain ⟨_, hcb0, hcb1⟩ := dbl_ok (ds := dk.drop (m + 1)) (fun x hx => hdk x (List.mem_of_mem_drop hx))
          have hnew := hdig2.set m (by rw [List.length_append, List.length_take, dbl_len, List.length_drop]; omega) ((2 * dk.getD m 0 + (dbl (dk.drop (m + 1))).2) % 10)
          rw [hc1] at hnew
          have HC2 := Lib.hid hc2
          clear hc1 hc2 hc3
          obtain ⟨cc, hcd⟩ : ∃ cc, (dbl (dk.drop (m + 1))).2 = cc := ⟨_, rfl⟩
          obtain ⟨dd, hdd⟩ : ∃ dd, dk.getD m 0 = dd := ⟨_, rfl⟩
          rw [hcd] at hcb0 hcb1 hnew HC2 ⊢
          rw [hdd] at hcell hdm hnew HC2
          have e48 : (48 : Int) + dd - 48 = dd := by omega
          clear hcd hdd
          go_wp2_with fail
          go_roundg m
          case measure => omega
          case rel =>
            exact ⟨by rw [HC2.out], by go_num, by omega, hnew, hbel2.setCell (Nat.le_refl _) _⟩
end Go.Proofs.YthcidkidpiaomaaGreatDoor.Fx
end
