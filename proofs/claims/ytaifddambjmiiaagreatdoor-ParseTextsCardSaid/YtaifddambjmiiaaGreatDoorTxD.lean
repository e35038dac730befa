/- Texts of mine for parseTexts_card, part 4. -/
import Derived.Shelf.Strings.Builder1
import Derived.Shelf.Strings.Builder2
import Derived.Shelf.Small.Utf8
import Derived.Shelf.Small.Strs
import Derived.Shelf.Small.Wraps
import Derived.Shelf.Strings.BuilderF
import Derived.Shelf.Strings.BuilderK
import Derived.Shelf.Strings.Builder2Cap
import Derived.Shelf.Strconv.Itoa0
import Derived.Shelf.Strconv.Itoa1
import Derived.Shelf.LaysM
import Derived.Shelf.Strconv.Itoa2
import Derived.Shelf.Strconv.Itoa3
import Derived.Shelf.Strings.Search1
import Derived.Shelf.Strings.Search2
import Derived.Shelf.Strings.Search3
import Derived.Shelf.Strings.Shaped
import Derived.Shelf.Strings.Prefix
import Derived.Shelf.Strings.Fields
import Derived.Shelf.Strings.SplitShaped
import Derived.Shelf.Unicode.Latin
import Derived.Shelf.Unicode.Decode
import Derived.Shelf.Bits.Mul64
import Derived.Shelf.Strings.Repeat
import Derived.Shelf.Unicode.DecodeSlow
import Derived.Shelf.Unicode.DecodeAny
import Derived.Shelf.Unicode.Is16White
import Derived.Shelf.Unicode.IsSpaceAny
import Derived.Shelf.Unicode.Is16WhiteD
import Derived.Shelf.Unicode.IsSpaceAnyD
import Derived.Shelf.Strings.FieldsAny
import Derived.Shelf.Strings.FieldsFuncAny
import Derived.Shelf.Unicode.Is16Any
import Derived.Shelf.Unicode.Is32Any
import Derived.Shelf.Unicode.ExclAny
import Derived.Shelf.Strings.BuilderCap
import Derived.Test.YtaifddambjmiiaaGreatDoorProg
import Derived.Laws.MathBits
import Derived.Lib.IndexMore
import Derived.Defers
import Derived.Test.YtaifddambjmiiaaGreatDoorTxC
set_option linter.unusedSimpArgs false
set_option linter.unusedVariables false
set_option linter.unusedSectionVars false
namespace Go.Proofs
open Go.Shelf
def Tryz.lays169_ren:Go.Shelf.Ren:=⟨λ| 169=>12 | n=>n,λ| 70=>41 | 9=>9 | 0=>0 | 72=>44 | 37=>42 | 127=>74 | 3=>3 | 5=>5 | n=>n,λ| n=>n⟩
theorem Tryz.lays169:Go.Proofs.Lays.n169 Tryz.prog Tryz.lays169_ren:={
 mixed:=by kernel_rfl
 f169:=Tryz.func12.trans (congrArg some (by kernel_rfl))
 t0:=Tryz.underlying0
 a0:=Tryz.isAgg0
 z0:=Tryz.sizeOf0
 v0:=Tryz.zeroValue0
 t3:=Tryz.underlying3
 a3:=Tryz.isAgg3
 z3:=Tryz.sizeOf3
 v3:=Tryz.zeroValue3
 t9:=Tryz.underlying9
 a9:=Tryz.isAgg9
 z9:=Tryz.sizeOf9
 v9:=Tryz.zeroValue9
 t37:=Tryz.underlying42
 a37:=Tryz.isAgg42
 z37:=Tryz.sizeOf42
 v37:=Tryz.zeroValue42
 t70:=Tryz.underlying41
 a70:=Tryz.isAgg41
 z70:=Tryz.sizeOf41
 v70:=Tryz.zeroValue41
 t72:=Tryz.underlying44
 a72:=Tryz.isAgg44
 z72:=Tryz.sizeOf44
 v72:=Tryz.zeroValue44
 t127:=Tryz.underlying74
 a127:=Tryz.isAgg74
 z127:=Tryz.sizeOf74
 v127:=Tryz.zeroValue74 }
theorem Tryz.Builder_Extra_169:Builder.Extra Tryz.prog Tryz.lays169_ren:={
 sizeBuilder:=by kernel_rfl
 liesBuilder:=by kernel_rfl
 t5:=Tryz.underlying5
 a5:=Tryz.isAgg5
 z5:=Tryz.sizeOf5
 v5:=Tryz.zeroValue5
 infoByte:=by kernel_rfl
 cellsByte:=by kernel_rfl
 sizeByte:=by kernel_rfl
 neB5:=by decide }
open Go.RowKit in
theorem Tryz.Builder_String_any (B b:Nat) (l:List UInt8) (w:World) (h:Lib.IsBuilder 44 5 B b (Lib.byteCells l) w) (hBw:B<=w.heap.size) :
  Calls Tryz.prog 12 #[.pointer (some ⟨b,0,none⟩)] w λe w'=>e=.returned (.string ⟨l.toArray⟩)/\Below B w w':=Any.Builder_String_any Tryz.lays169 Tryz.Builder_Extra_169 B b l w h hBw
def Tryz.Bpm:Go.Shelf.Ren:=⟨λ| 119=>120 | n=>n,λ| 21=>21 | 4=>4 | n=>n,λ| n=>n⟩
theorem Tryz.lays119:Go.Proofs.Lays.n119 Tryz.prog Tryz.Bpm:={
 mixed:=by kernel_rfl
 f119:=Tryz.func120.trans (congrArg some (by kernel_rfl))
 t4:=Tryz.underlying4
 a4:=Tryz.isAgg4
 z4:=Tryz.sizeOf4
 v4:=Tryz.zeroValue4
 t21:=Tryz.underlying21
 a21:=Tryz.isAgg21
 z21:=Tryz.sizeOf21
 v21:=Tryz.zeroValue21 }
theorem Tryz.utf8_ValidRune (r:Int) (w:World) :
  Calls Tryz.prog 120 #[.int .i32 r] w λe w'=>e=.returned (.bool (Lib.validRune r))/\w'=w:=Any.utf8_ValidRune Tryz.lays119 r w
def Tryz.Bpo:Go.Shelf.Ren:=⟨λ| 137=>138 | 217=>143 | 266=>156 | n=>n,λ| 9=>9 | 5=>5 | 3=>3 | n=>n,λ| n=>n⟩
theorem Tryz.lays137:Go.Proofs.Lays.n137 Tryz.prog Tryz.Bpo:={
 mixed:=by kernel_rfl
 f137:=Tryz.func138.trans (congrArg some (by kernel_rfl))
 f217:=Tryz.func143.trans (congrArg some (by kernel_rfl))
 f266:=Tryz.func156.trans (congrArg some (by kernel_rfl))
 t3:=Tryz.underlying3
 a3:=Tryz.isAgg3
 z3:=Tryz.sizeOf3
 v3:=Tryz.zeroValue3
 t5:=Tryz.underlying5
 a5:=Tryz.isAgg5
 z5:=Tryz.sizeOf5
 v5:=Tryz.zeroValue5
 t9:=Tryz.underlying9
 a9:=Tryz.isAgg9
 z9:=Tryz.sizeOf9
 v9:=Tryz.zeroValue9 }
open Go.RowKit in
theorem Tryz.strings_IndexByte (s:ByteArray) (c:Int) (w:World) :
  Calls Tryz.prog 138 #[.string s,.int .u8 c] w λe w'=>e=.returned (.int .i64 (Lib.indexByte s.data.toList c.toNat.toUInt8))/\w'=w:=Any.strings_IndexByte Tryz.lays137 s c w
def Tryz.Bpl:Go.Shelf.Ren:=⟨λ| 103=>147 | 210=>158 | 206=>95 | n=>n,λ| 9=>9 | 4=>4 | 24=>162 | 3=>3 | n=>n,λ| n=>n⟩
theorem Tryz.Bpk:Go.Proofs.Lays.n103 Tryz.prog Tryz.Bpl:={
 mixed:=by kernel_rfl
 f103:=Tryz.func147.trans (congrArg some (by kernel_rfl))
 f206:=Tryz.func95.trans (congrArg some (by kernel_rfl))
 f210:=Tryz.func158.trans (congrArg some (by kernel_rfl))
 t3:=Tryz.underlying3
 a3:=Tryz.isAgg3
 z3:=Tryz.sizeOf3
 v3:=Tryz.zeroValue3
 t4:=Tryz.underlying4
 a4:=Tryz.isAgg4
 z4:=Tryz.sizeOf4
 v4:=Tryz.zeroValue4
 t9:=Tryz.underlying9
 a9:=Tryz.isAgg9
 z9:=Tryz.sizeOf9
 v9:=Tryz.zeroValue9
 t24:=Tryz.underlying162
 a24:=Tryz.isAgg162
 z24:=Tryz.sizeOf162
 v24:=Tryz.zeroValue162 }
open Go.RowKit in
theorem Tryz.strings_CutPrefix (s p:ByteArray) (w:World) :
  Calls Tryz.prog 147 #[.string s,.string p] w λe w'=>e=.returned (.tuple #[.string ⟨(Lib.trimPrefix s.data.toList p.data.toList).toArray⟩,.bool (Lib.hasPrefix s.data.toList p.data.toList)])/\w'=w:=Any.strings_CutPrefix Tryz.Bpk s p w
def Tryz.Bpv:Go.Shelf.Ren:=⟨λ| 171=>115 | 243=>131 | 246=>141 | 283=>152 | 284=>153 | 285=>154 | 286=>155 | 129=>160 | 317=>159 | 318=>161 | 319=>162 | 320=>163 | 337=>164 | 338=>165 | n=>n,λ| 3=>3 | 9=>9 | 2=>2 | 4=>4 | 171=>177 | 0=>0 | 53=>104 | 37=>42 | 5=>5 | 173=>180 | 212=>186 | 51=>145 | 20=>20 | 213=>187 | 46=>121 | 232=>190 | 233=>191 | n=>n,λ| 17=>5 | 18=>6 | 19=>7 | n=>n⟩
theorem Tryz.laysM171:Go.Proofs.LaysM.n171 Tryz.prog Tryz.Bpv:={
 mixed:=by kernel_rfl
 f129:=Tryz.func160.trans (congrArg some (by kernel_rfl))
 f171:=Tryz.func115.trans (congrArg some (by kernel_rfl))
 f243:=Tryz.func131.trans (congrArg some (by kernel_rfl))
 f246:=Tryz.func141.trans (congrArg some (by kernel_rfl))
 f283:=Tryz.func152.trans (congrArg some (by kernel_rfl))
 f284:=Tryz.func153.trans (congrArg some (by kernel_rfl))
 f285:=Tryz.func154.trans (congrArg some (by kernel_rfl))
 f286:=Tryz.func155.trans (congrArg some (by kernel_rfl))
 f317:=Tryz.func159.trans (congrArg some (by kernel_rfl))
 f318:=Tryz.func161.trans (congrArg some (by kernel_rfl))
 f319:=Tryz.func162.trans (congrArg some (by kernel_rfl))
 f320:=Tryz.func163.trans (congrArg some (by kernel_rfl))
 f337:=Tryz.func164.trans (congrArg some (by kernel_rfl))
 f338:=Tryz.func165.trans (congrArg some (by kernel_rfl))
 t0:=Tryz.underlying0
 a0:=Tryz.isAgg0
 z0:=Tryz.sizeOf0
 v0:=Tryz.zeroValue0
 t2:=Tryz.underlying2
 a2:=Tryz.isAgg2
 z2:=Tryz.sizeOf2
 v2:=Tryz.zeroValue2
 t3:=Tryz.underlying3
 a3:=Tryz.isAgg3
 z3:=Tryz.sizeOf3
 v3:=Tryz.zeroValue3
 t4:=Tryz.underlying4
 a4:=Tryz.isAgg4
 z4:=Tryz.sizeOf4
 v4:=Tryz.zeroValue4
 t5:=Tryz.underlying5
 a5:=Tryz.isAgg5
 z5:=Tryz.sizeOf5
 v5:=Tryz.zeroValue5
 t9:=Tryz.underlying9
 a9:=Tryz.isAgg9
 z9:=Tryz.sizeOf9
 v9:=Tryz.zeroValue9
 t20:=Tryz.underlying20
 a20:=Tryz.isAgg20
 z20:=Tryz.sizeOf20
 v20:=Tryz.zeroValue20
 t37:=Tryz.underlying42
 a37:=Tryz.isAgg42
 z37:=Tryz.sizeOf42
 v37:=Tryz.zeroValue42
 t46:=Tryz.underlying121
 a46:=Tryz.isAgg121
 z46:=Tryz.sizeOf121
 v46:=Tryz.zeroValue121
 t51:=Tryz.underlying145
 a51:=Tryz.isAgg145
 z51:=Tryz.sizeOf145
 v51:=Tryz.zeroValue145
 t53:=Tryz.underlying104
 a53:=Tryz.isAgg104
 z53:=Tryz.sizeOf104
 v53:=Tryz.zeroValue104
 t171:=Tryz.underlying177
 a171:=Tryz.isAgg177
 z171:=Tryz.sizeOf177
 v171:=Tryz.zeroValue177
 t173:=Tryz.underlying180
 a173:=Tryz.isAgg180
 z173:=Tryz.sizeOf180
 v173:=Tryz.zeroValue180
 t212:=Tryz.underlying186
 a212:=Tryz.isAgg186
 z212:=Tryz.sizeOf186
 v212:=Tryz.zeroValue186
 t213:=Tryz.underlying187
 a213:=Tryz.isAgg187
 z213:=Tryz.sizeOf187
 t232:=Tryz.underlying190
 a232:=Tryz.isAgg190
 z232:=Tryz.sizeOf190
 v232:=Tryz.zeroValue190
 t233:=Tryz.underlying191
 a233:=Tryz.isAgg191
 z233:=Tryz.sizeOf191
 v233:=Tryz.zeroValue191
 g17:=by kernel_rfl
 g18:=by kernel_rfl
 g19:=by kernel_rfl
 i0:=by kernel_rfl
 i2:=by kernel_rfl
 i3:=by kernel_rfl
 i4:=by kernel_rfl
 i5:=by kernel_rfl
 i9:=by kernel_rfl
 i20:=by kernel_rfl
 i37:=by kernel_rfl
 i46:=by kernel_rfl
 i51:=by kernel_rfl
 i53:=by kernel_rfl
 i171:=by kernel_rfl
 i173:=by kernel_rfl
 i212:=by kernel_rfl
 i232:=by kernel_rfl
 i233:=by kernel_rfl
 m17:=by kernel_rfl
 m18:=by kernel_rfl
 m19:=by kernel_rfl }
open Go.RowKit Go.Sort Go.Lib in
theorem Tryz.strconv_Itoa (n:Int) (h0:-9223372036854775808<=n) (h1:n<=9223372036854775807) (w:World) (htab:Lib.TabIs Tryz.prog w "internal/strconv.uint64pow10" .u64 Lib.pow10Tab) :
  Calls Tryz.prog 115 #[.int .i64 n] w λe w'=>e=.returned (.string ⟨(Lib.itoa n).toArray⟩)/\∃ k os,w'=grow (w.drewN k) os:=Any.strconv_Itoa Tryz.laysM171 n h0 h1 w htab
def Tryz.Bpp:Go.Shelf.Ren:=⟨λ| 144=>99 | 143=>121 | 219=>135 | 217=>143 | 225=>144 | 224=>145 | 267=>146 | 266=>156 | 314=>157 | n=>n,λ| 9=>9 | 4=>4 | 3=>3 | 5=>5 | 46=>121 | 146=>146 | 51=>145 | n=>n,λ| 1=>4 | n=>n⟩
theorem Tryz.lays144:Go.Proofs.Lays.n144 Tryz.prog Tryz.Bpp:={
 mixed:=by kernel_rfl
 f143:=Tryz.func121.trans (congrArg some (by kernel_rfl))
 f144:=Tryz.func99.trans (congrArg some (by kernel_rfl))
 f217:=Tryz.func143.trans (congrArg some (by kernel_rfl))
 f219:=Tryz.func135.trans (congrArg some (by kernel_rfl))
 f224:=Tryz.func145.trans (congrArg some (by kernel_rfl))
 f225:=Tryz.func144.trans (congrArg some (by kernel_rfl))
 f266:=Tryz.func156.trans (congrArg some (by kernel_rfl))
 f267:=Tryz.func146.trans (congrArg some (by kernel_rfl))
 f314:=Tryz.func157.trans (congrArg some (by kernel_rfl))
 t3:=Tryz.underlying3
 a3:=Tryz.isAgg3
 z3:=Tryz.sizeOf3
 v3:=Tryz.zeroValue3
 t4:=Tryz.underlying4
 a4:=Tryz.isAgg4
 z4:=Tryz.sizeOf4
 v4:=Tryz.zeroValue4
 t5:=Tryz.underlying5
 a5:=Tryz.isAgg5
 z5:=Tryz.sizeOf5
 v5:=Tryz.zeroValue5
 t9:=Tryz.underlying9
 a9:=Tryz.isAgg9
 z9:=Tryz.sizeOf9
 v9:=Tryz.zeroValue9
 t46:=Tryz.underlying121
 a46:=Tryz.isAgg121
 z46:=Tryz.sizeOf121
 v46:=Tryz.zeroValue121
 t51:=Tryz.underlying145
 a51:=Tryz.isAgg145
 z51:=Tryz.sizeOf145
 v51:=Tryz.zeroValue145
 t146:=Tryz.underlying146
 a146:=Tryz.isAgg146
 z146:=Tryz.sizeOf146
 v146:=Tryz.zeroValue146
 g1:=by kernel_rfl }
open Go.RowKit Go.Lib in
theorem Tryz.strings_Contains (s sub:ByteArray) (m:Int) (w:World) (hs:s.size < 4294967281) (hm:w.cell? ⟨4,0,none⟩=some (.int .i64 m)) :
  Calls Tryz.prog 99 #[.string s,.string sub] w λe w'=>e=.returned (.bool (Lib.contains s.data.toList sub.data.toList))/\w'=w:=Any.strings_Contains Tryz.lays144 s sub m w hs hm
def Tryz.Bpu:Go.Shelf.Ren:=⟨λ| 144=>99 | 143=>121 | 219=>135 | 217=>143 | 225=>144 | 224=>145 | 267=>146 | 266=>156 | 314=>157 | n=>n,λ| 9=>9 | 4=>4 | 3=>3 | 5=>5 | 46=>121 | 146=>146 | 51=>145 | n=>n,λ| 1=>4 | n=>n⟩
theorem Tryz.laysM144:Go.Proofs.LaysM.n144 Tryz.prog Tryz.Bpu:={
 mixed:=by kernel_rfl
 f143:=Tryz.func121.trans (congrArg some (by kernel_rfl))
 f144:=Tryz.func99.trans (congrArg some (by kernel_rfl))
 f217:=Tryz.func143.trans (congrArg some (by kernel_rfl))
 f219:=Tryz.func135.trans (congrArg some (by kernel_rfl))
 f224:=Tryz.func145.trans (congrArg some (by kernel_rfl))
 f225:=Tryz.func144.trans (congrArg some (by kernel_rfl))
 f266:=Tryz.func156.trans (congrArg some (by kernel_rfl))
 f267:=Tryz.func146.trans (congrArg some (by kernel_rfl))
 f314:=Tryz.func157.trans (congrArg some (by kernel_rfl))
 t3:=Tryz.underlying3
 a3:=Tryz.isAgg3
 z3:=Tryz.sizeOf3
 v3:=Tryz.zeroValue3
 t4:=Tryz.underlying4
 a4:=Tryz.isAgg4
 z4:=Tryz.sizeOf4
 v4:=Tryz.zeroValue4
 t5:=Tryz.underlying5
 a5:=Tryz.isAgg5
 z5:=Tryz.sizeOf5
 v5:=Tryz.zeroValue5
 t9:=Tryz.underlying9
 a9:=Tryz.isAgg9
 z9:=Tryz.sizeOf9
 v9:=Tryz.zeroValue9
 t46:=Tryz.underlying121
 a46:=Tryz.isAgg121
 z46:=Tryz.sizeOf121
 v46:=Tryz.zeroValue121
 t51:=Tryz.underlying145
 a51:=Tryz.isAgg145
 z51:=Tryz.sizeOf145
 v51:=Tryz.zeroValue145
 t146:=Tryz.underlying146
 a146:=Tryz.isAgg146
 z146:=Tryz.sizeOf146
 v146:=Tryz.zeroValue146
 g1:=by kernel_rfl
 i3:=by kernel_rfl
 i4:=by kernel_rfl
 i5:=by kernel_rfl
 i9:=by kernel_rfl
 i46:=by kernel_rfl
 i51:=by kernel_rfl
 i146:=by kernel_rfl
 m1:=by kernel_rfl
 s1_3:=λw h=>Go.Proofs.cell_of_shapedOpen_int (zero:=#[.int .i64 0]) (t:=3) h (of_decide_eq_true (by kernel_rfl)) (by kernel_rfl) rfl (by kernel_rfl) (by kernel_rfl) Tryz.underlying3 }
def Tryz.lays99_ren:Go.Shelf.Ren:=⟨λ| 99=>67 | 206=>95 | n=>n,λ| 9=>9 | 4=>4 | 3=>3 | n=>n,λ| n=>n⟩
theorem Tryz.lays99:Go.Proofs.Lays.n99 Tryz.prog Tryz.lays99_ren:={
 mixed:=by kernel_rfl
 f99:=Tryz.func67.trans (congrArg some (by kernel_rfl))
 f206:=Tryz.func95.trans (congrArg some (by kernel_rfl))
 t3:=Tryz.underlying3
 a3:=Tryz.isAgg3
 z3:=Tryz.sizeOf3
 v3:=Tryz.zeroValue3
 t4:=Tryz.underlying4
 a4:=Tryz.isAgg4
 z4:=Tryz.sizeOf4
 v4:=Tryz.zeroValue4
 t9:=Tryz.underlying9
 a9:=Tryz.isAgg9
 z9:=Tryz.sizeOf9
 v9:=Tryz.zeroValue9 }
open Go.RowKit Go.Lib in
theorem Tryz.strings_HasPrefix (s p:ByteArray) (w:World) :
  Calls Tryz.prog 67 #[.string s,.string p] w λe w'=>e=.returned (.bool (Lib.hasPrefix s.data.toList p.data.toList))/\w'=w:=Any.strings_HasPrefix Tryz.lays99 s p w
def Tryz.lays157_ren:Go.Shelf.Ren:=⟨λ| 157=>103 | 229=>127 | 199=>128 | 261=>139 | 311=>150 | 312=>151 | n=>n,λ| 9=>9 | 31=>49 | 3=>3 | 5=>5 | 4=>4 | 119=>138 | 0=>0 | 40=>107 | 152=>155 | 21=>21 | 154=>157 | 51=>145 | 141=>159 | 196=>169 | 193=>166 | 198=>172 | 49=>170 | 194=>167 | 201=>175 | 226=>183 | 46=>121 | 227=>184 | n=>n,λ| 0=>2 | 6=>3 | n=>n⟩
theorem Tryz.lays157:Go.Proofs.Lays.n157 Tryz.prog Tryz.lays157_ren:={
 mixed:=by kernel_rfl
 f157:=Tryz.func103.trans (congrArg some (by kernel_rfl))
 f199:=Tryz.func128.trans (congrArg some (by kernel_rfl))
 f229:=Tryz.func127.trans (congrArg some (by kernel_rfl))
 f261:=Tryz.func139.trans (congrArg some (by kernel_rfl))
 f311:=Tryz.func150.trans (congrArg some (by kernel_rfl))
 f312:=Tryz.func151.trans (congrArg some (by kernel_rfl))
 t0:=Tryz.underlying0
 a0:=Tryz.isAgg0
 z0:=Tryz.sizeOf0
 v0:=Tryz.zeroValue0
 t3:=Tryz.underlying3
 a3:=Tryz.isAgg3
 z3:=Tryz.sizeOf3
 v3:=Tryz.zeroValue3
 t4:=Tryz.underlying4
 a4:=Tryz.isAgg4
 z4:=Tryz.sizeOf4
 v4:=Tryz.zeroValue4
 t5:=Tryz.underlying5
 a5:=Tryz.isAgg5
 z5:=Tryz.sizeOf5
 v5:=Tryz.zeroValue5
 t9:=Tryz.underlying9
 a9:=Tryz.isAgg9
 z9:=Tryz.sizeOf9
 v9:=Tryz.zeroValue9
 t21:=Tryz.underlying21
 a21:=Tryz.isAgg21
 z21:=Tryz.sizeOf21
 v21:=Tryz.zeroValue21
 t31:=Tryz.underlying49
 a31:=Tryz.isAgg49
 z31:=Tryz.sizeOf49
 v31:=Tryz.zeroValue49
 t40:=Tryz.underlying107
 a40:=Tryz.isAgg107
 z40:=Tryz.sizeOf107
 v40:=Tryz.zeroValue107
 t46:=Tryz.underlying121
 a46:=Tryz.isAgg121
 z46:=Tryz.sizeOf121
 v46:=Tryz.zeroValue121
 t49:=Tryz.underlying170
 a49:=Tryz.isAgg170
 z49:=Tryz.sizeOf170
 v49:=Tryz.zeroValue170
 t51:=Tryz.underlying145
 a51:=Tryz.isAgg145
 z51:=Tryz.sizeOf145
 v51:=Tryz.zeroValue145
 t119:=Tryz.underlying138
 a119:=Tryz.isAgg138
 z119:=Tryz.sizeOf138
 t141:=Tryz.underlying159
 a141:=Tryz.isAgg159
 z141:=Tryz.sizeOf159
 v141:=Tryz.zeroValue159
 t152:=Tryz.underlying155
 a152:=Tryz.isAgg155
 z152:=Tryz.sizeOf155
 v152:=Tryz.zeroValue155
 t154:=Tryz.underlying157
 a154:=Tryz.isAgg157
 z154:=Tryz.sizeOf157
 v154:=Tryz.zeroValue157
 t193:=Tryz.underlying166
 a193:=Tryz.isAgg166
 z193:=Tryz.sizeOf166
 v193:=Tryz.zeroValue166
 t194:=Tryz.underlying167
 a194:=Tryz.isAgg167
 z194:=Tryz.sizeOf167
 v194:=Tryz.zeroValue167
 t196:=Tryz.underlying169
 a196:=Tryz.isAgg169
 z196:=Tryz.sizeOf169
 v196:=Tryz.zeroValue169
 t198:=Tryz.underlying172
 a198:=Tryz.isAgg172
 z198:=Tryz.sizeOf172
 v198:=Tryz.zeroValue172
 t201:=Tryz.underlying175
 a201:=Tryz.isAgg175
 z201:=Tryz.sizeOf175
 v201:=Tryz.zeroValue175
 t226:=Tryz.underlying183
 a226:=Tryz.isAgg183
 z226:=Tryz.sizeOf183
 v226:=Tryz.zeroValue183
 t227:=Tryz.underlying184
 a227:=Tryz.isAgg184
 z227:=Tryz.sizeOf184
 v227:=Tryz.zeroValue184
 g0:=by kernel_rfl
 g6:=by kernel_rfl }
open Go.RowKit Go.Lib in
theorem Tryz.strings_Fields (s:ByteArray) (w:World) (hs:s.size < 4294967281) (hascii:∀ (j:Nat) b,s.data.toList[j]? = some b->b.toNat < 128) (htab:Lib.TabIs Tryz.prog w "strings.asciiSpace" .u8 Lib.asciiSpaceTab) :
  Calls Tryz.prog 103 #[.string s] w λe w' =>
   e=.returned (.slice (some ⟨w.heap.size,0,none⟩) (Lib.fields s.data.toList).length (Lib.fields s.data.toList).length)/\w'=w.alloc (.cells ((Lib.fields s.data.toList).map λl=>Value.string ⟨l.toArray⟩).toArray 9):=Any.strings_Fields Tryz.lays157 (by kernel_rfl) (by kernel_rfl) s w hs hascii htab
def Tryz.lays197_ren:Go.Shelf.Ren:=⟨λ| 197=>66 | 260=>94 | n=>n,λ| 9=>9 | 21=>21 | 3=>3 | 4=>4 | 5=>5 | 105=>108 | 119=>138 | 0=>0 | 46=>121 | 139=>141 | 138=>140 | n=>n,λ| 3=>0 | 4=>1 | n=>n⟩
theorem Tryz.lays197:Go.Proofs.Lays.n197 Tryz.prog Tryz.lays197_ren:={
 mixed:=by kernel_rfl
 f197:=Tryz.func66.trans (congrArg some (by kernel_rfl))
 f260:=Tryz.func94.trans (congrArg some (by kernel_rfl))
 t0:=Tryz.underlying0
 a0:=Tryz.isAgg0
 z0:=Tryz.sizeOf0
 v0:=Tryz.zeroValue0
 t3:=Tryz.underlying3
 a3:=Tryz.isAgg3
 z3:=Tryz.sizeOf3
 v3:=Tryz.zeroValue3
 t4:=Tryz.underlying4
 a4:=Tryz.isAgg4
 z4:=Tryz.sizeOf4
 v4:=Tryz.zeroValue4
 t5:=Tryz.underlying5
 a5:=Tryz.isAgg5
 z5:=Tryz.sizeOf5
 v5:=Tryz.zeroValue5
 t9:=Tryz.underlying9
 a9:=Tryz.isAgg9
 z9:=Tryz.sizeOf9
 v9:=Tryz.zeroValue9
 t21:=Tryz.underlying21
 a21:=Tryz.isAgg21
 z21:=Tryz.sizeOf21
 v21:=Tryz.zeroValue21
 t46:=Tryz.underlying121
 a46:=Tryz.isAgg121
 z46:=Tryz.sizeOf121
 v46:=Tryz.zeroValue121
 t105:=Tryz.underlying108
 a105:=Tryz.isAgg108
 z105:=Tryz.sizeOf108
 v105:=Tryz.zeroValue108
 t119:=Tryz.underlying138
 a119:=Tryz.isAgg138
 z119:=Tryz.sizeOf138
 t138:=Tryz.underlying140
 a138:=Tryz.isAgg140
 z138:=Tryz.sizeOf140
 v138:=Tryz.zeroValue140
 t139:=Tryz.underlying141
 a139:=Tryz.isAgg141
 z139:=Tryz.sizeOf141
 v139:=Tryz.zeroValue141
 g3:=by kernel_rfl
 g4:=by kernel_rfl }
def Tryz.Bpq:Go.Shelf.Ren:=⟨λ| 264=>133 | n=>n,λ| 53=>104 | 46=>121 | n=>n,λ| n=>n⟩
theorem Tryz.lays264:Go.Proofs.Lays.n264 Tryz.prog Tryz.Bpq:={
 mixed:=by kernel_rfl
 f264:=Tryz.func133.trans (congrArg some (by kernel_rfl))
 t46:=Tryz.underlying121
 a46:=Tryz.isAgg121
 z46:=Tryz.sizeOf121
 v46:=Tryz.zeroValue121
 t53:=Tryz.underlying104
 a53:=Tryz.isAgg104
 z53:=Tryz.sizeOf104
 v53:=Tryz.zeroValue104 }
open Go.RowKit Go.Lib in
theorem Tryz.bits_Mul64 (x y:Nat) (hx:x < 18446744073709551616) (hy:y < 18446744073709551616) (w:World) :
  Calls Tryz.prog 133 #[.int .u64 x,.int .u64 y] w λe w'=>e=.returned (.tuple #[.int .u64 ((x * y / 18446744073709551616:Nat):Int),.int .u64 ((x * y % 18446744073709551616:Nat):Int)])/\w'=w:=Any.bits_Mul64 Tryz.lays264 x y hx hy w
def Tryz.lays105_ren:Go.Shelf.Ren:=⟨λ| 105=>93 | 212=>118 | 99=>67 | 165=>119 | 166=>56 | 170=>54 | 169=>12 | 263=>132 | 264=>133 | 206=>95 | 240=>90 | 241=>134 | 276=>114 | 277=>142 | n=>n,λ| 9=>9 | 3=>3 | 4=>4 | 20=>20 | 0=>0 | 46=>121 | 109=>136 | 5=>5 | 72=>44 | 76=>101 | 51=>145 | 146=>146 | 53=>104 | 148=>148 | 70=>41 | 37=>42 | 75=>99 | 127=>74 | 164=>132 | 80=>48 | n=>n,λ| n=>n⟩
theorem Tryz.lays105:Go.Proofs.Lays.n105 Tryz.prog Tryz.lays105_ren:={
 mixed:=by kernel_rfl
 f99:=Tryz.func67.trans (congrArg some (by kernel_rfl))
 f105:=Tryz.func93.trans (congrArg some (by kernel_rfl))
 f165:=Tryz.func119.trans (congrArg some (by kernel_rfl))
 f166:=Tryz.func56.trans (congrArg some (by kernel_rfl))
 f169:=Tryz.func12.trans (congrArg some (by kernel_rfl))
 f170:=Tryz.func54.trans (congrArg some (by kernel_rfl))
 f206:=Tryz.func95.trans (congrArg some (by kernel_rfl))
 f212:=Tryz.func118.trans (congrArg some (by kernel_rfl))
 f240:=Tryz.func90.trans (congrArg some (by kernel_rfl))
 f241:=Tryz.func134.trans (congrArg some (by kernel_rfl))
 f263:=Tryz.func132.trans (congrArg some (by kernel_rfl))
 f264:=Tryz.func133.trans (congrArg some (by kernel_rfl))
 f276:=Tryz.func114.trans (congrArg some (by kernel_rfl))
 f277:=Tryz.func142.trans (congrArg some (by kernel_rfl))
 t0:=Tryz.underlying0
 a0:=Tryz.isAgg0
 z0:=Tryz.sizeOf0
 v0:=Tryz.zeroValue0
 t3:=Tryz.underlying3
 a3:=Tryz.isAgg3
 z3:=Tryz.sizeOf3
 v3:=Tryz.zeroValue3
 t4:=Tryz.underlying4
 a4:=Tryz.isAgg4
 z4:=Tryz.sizeOf4
 v4:=Tryz.zeroValue4
 t5:=Tryz.underlying5
 a5:=Tryz.isAgg5
 z5:=Tryz.sizeOf5
 v5:=Tryz.zeroValue5
 t9:=Tryz.underlying9
 a9:=Tryz.isAgg9
 z9:=Tryz.sizeOf9
 v9:=Tryz.zeroValue9
 t20:=Tryz.underlying20
 a20:=Tryz.isAgg20
 z20:=Tryz.sizeOf20
 v20:=Tryz.zeroValue20
 t37:=Tryz.underlying42
 a37:=Tryz.isAgg42
 z37:=Tryz.sizeOf42
 v37:=Tryz.zeroValue42
 t46:=Tryz.underlying121
 a46:=Tryz.isAgg121
 z46:=Tryz.sizeOf121
 v46:=Tryz.zeroValue121
 t51:=Tryz.underlying145
 a51:=Tryz.isAgg145
 z51:=Tryz.sizeOf145
 v51:=Tryz.zeroValue145
 t53:=Tryz.underlying104
 a53:=Tryz.isAgg104
 z53:=Tryz.sizeOf104
 v53:=Tryz.zeroValue104
 t70:=Tryz.underlying41
 a70:=Tryz.isAgg41
 z70:=Tryz.sizeOf41
 v70:=Tryz.zeroValue41
 t72:=Tryz.underlying44
 a72:=Tryz.isAgg44
 z72:=Tryz.sizeOf44
 v72:=Tryz.zeroValue44
 t75:=Tryz.underlying99
 a75:=Tryz.isAgg99
 z75:=Tryz.sizeOf99
 v75:=Tryz.zeroValue99
 t76:=Tryz.underlying101
 a76:=Tryz.isAgg101
 z76:=Tryz.sizeOf101
 v76:=Tryz.zeroValue101
 t109:=Tryz.underlying136
 a109:=Tryz.isAgg136
 z109:=Tryz.sizeOf136
 v109:=Tryz.zeroValue136
 t127:=Tryz.underlying74
 a127:=Tryz.isAgg74
 z127:=Tryz.sizeOf74
 v127:=Tryz.zeroValue74
 t146:=Tryz.underlying146
 a146:=Tryz.isAgg146
 z146:=Tryz.sizeOf146
 v146:=Tryz.zeroValue146
 t148:=Tryz.underlying148
 a148:=Tryz.isAgg148
 z148:=Tryz.sizeOf148
 v148:=Tryz.zeroValue148
 t164:=Tryz.underlying132
 a164:=Tryz.isAgg132
 z164:=Tryz.sizeOf132
 v164:=Tryz.zeroValue132 }
theorem Tryz.Builder_Extra_105:Builder.Extra Tryz.prog Tryz.lays105_ren:={
 sizeBuilder:=by kernel_rfl
 liesBuilder:=by kernel_rfl
 t5:=Tryz.underlying5
 a5:=Tryz.isAgg5
 z5:=Tryz.sizeOf5
 v5:=Tryz.zeroValue5
 infoByte:=by kernel_rfl
 cellsByte:=by kernel_rfl
 sizeByte:=by kernel_rfl
 neB5:=by decide }
open Go.RowKit Go.Lib in
theorem Tryz.strings_Repeat (s:ByteArray) (c:Nat) (w:World) (hc:c<=9223372036854775807) (hlen:s.size * c<=140737488355328) :
  Calls Tryz.prog 93 #[.string s,.int .i64 c] w λe w'=>e=.returned (.string ⟨(Lib.repeatL s.data.toList c).toArray⟩)/\Below w.heap.size w w':=Any.strings_Repeat Tryz.lays105 Tryz.Builder_Extra_105 s c w hc hlen
def Tryz.Aj9:Go.Shelf.Ren:=⟨λ| 260=>94 | n=>n,λ| 9=>9 | 21=>21 | 3=>3 | 4=>4 | 5=>5 | 119=>138 | 0=>0 | 46=>121 | 139=>141 | 138=>140 | n=>n,λ| 3=>0 | 4=>1 | n=>n⟩
theorem Tryz.lays260:Go.Proofs.Lays.n260 Tryz.prog Tryz.Aj9:={
 mixed:=by kernel_rfl
 f260:=Tryz.func94.trans (congrArg some (by kernel_rfl))
 t0:=Tryz.underlying0
 a0:=Tryz.isAgg0
 z0:=Tryz.sizeOf0
 v0:=Tryz.zeroValue0
 t3:=Tryz.underlying3
 a3:=Tryz.isAgg3
 z3:=Tryz.sizeOf3
 v3:=Tryz.zeroValue3
 t4:=Tryz.underlying4
 a4:=Tryz.isAgg4
 z4:=Tryz.sizeOf4
 v4:=Tryz.zeroValue4
 t5:=Tryz.underlying5
 a5:=Tryz.isAgg5
 z5:=Tryz.sizeOf5
 v5:=Tryz.zeroValue5
 t9:=Tryz.underlying9
 a9:=Tryz.isAgg9
 z9:=Tryz.sizeOf9
 v9:=Tryz.zeroValue9
 t21:=Tryz.underlying21
 a21:=Tryz.isAgg21
 z21:=Tryz.sizeOf21
 v21:=Tryz.zeroValue21
 t46:=Tryz.underlying121
 a46:=Tryz.isAgg121
 z46:=Tryz.sizeOf121
 v46:=Tryz.zeroValue121
 t119:=Tryz.underlying138
 a119:=Tryz.isAgg138
 z119:=Tryz.sizeOf138
 t138:=Tryz.underlying140
 a138:=Tryz.isAgg140
 z138:=Tryz.sizeOf140
 v138:=Tryz.zeroValue140
 t139:=Tryz.underlying141
 a139:=Tryz.isAgg141
 z139:=Tryz.sizeOf141
 v139:=Tryz.zeroValue141
 g3:=by kernel_rfl
 g4:=by kernel_rfl }
open Go.RowKit Go.Lib in
theorem Tryz.utf8_DecodeRuneInString (s:ByteArray) (w:World) (hT:Lib.Utf8Tabs 0 1 w) :
  Calls Tryz.prog 66 #[.string s] w λe w'=>e=.returned (.tuple #[.int .i32 (Lib.decodeGo s).1,.int .i64 (Lib.decodeGo s).2])/\Below w.heap.size w w':=Any.utf8_DecodeRuneInString Tryz.lays197 s w hT
end Go.Proofs
namespace Go.Proofs.YtaifddambjmiiaaGreatDoor
set_option maxRecDepth 100000
section
open Go Go.RowKit Lx
theorem B3e (r:Int):Lib.validRune r=Utf8.valid r:=by
 simp only [Lib.validRune,Utf8.valid];by_cases h:(0<=r/\r < 55296)\/(57343 < r/\r<=1114111);rw [decide_eq_true h];rcases h with h | h <;> simp <;> omega
 rw [decide_eq_false h];simp;omega
theorem Asr (r:Int) (w:World):Calls Tryz.prog 120 #[.int .i32 r] w λe w'=>e=.returned (.bool (Utf8.valid r))/\w=w' :=
 (Tryz.utf8_ValidRune r w).mono λ_ _ ⟨h1,h2⟩=>⟨by rw [h1,B3e],h2.symm⟩
theorem A1s (r:Int) (w:World):Calls Tryz.prog 100 #[.int .i64 r] w λe w'=>e=.returned (.bool (decide (48<=r/\r<=57)))/\w=w':=by
 by_cases h1:48<=r
 ·go_enter Tryz.func100,Tryz.ntmps100
  go_wp2
  go_ret
  exact ⟨by simp [h1],rfl⟩
 ·go_enter Tryz.func100,Tryz.ntmps100
  go_wp2
  go_ret
  exact ⟨by simp;omega,rfl⟩
def RK (r:Int):Bool:=decide (97<=r/\r<=122\/65<=r/\r<=90\/r=95\/(128<=r/\r<=1114111/\r≠65533/\Utf8.valid r=true))
theorem Sx {a b:Bool} (h:a=b):Ending.returned (.bool a)=.returned (.bool b):=by rw [h]
set_option maxHeartbeats 1000000 in
theorem Bp1 (r:Int) (w:World) (h0:0<=r) (h1:r<=2147483647):Calls Tryz.prog 96 #[.int .i64 r] w λe w'=>e=.returned (.bool (RK r))/\w=w':=by
  have hw:IntKind.i32.wrap r=r:=by unfold IntKind.wrap;simp [IntKind.bits,IntKind.signed];omega
  obtain ⟨lz,hlz⟩:∃ x,RK r=x:=⟨_,rfl⟩
  rw [hlz]
  have HL:=Lib.hid hlz
  clear hlz
  obtain ⟨v,hv⟩:∃ v,Utf8.valid r=v:=⟨_,rfl⟩
  have hva:=Asr r
  rw [hv] at hva
  have HV:=Lib.hid hv
  have HVA:=Lib.hid hva
  clear hv hva
  have HW:=Lib.hid hw
  go_enter Tryz.func96,Tryz.ntmps96
  go_wp2_with ((go_at_call 120;refine (HVA.out _).mono ?_;rintro e w' ⟨rfl,rfl⟩))
  all_goals go_ret
  all_goals refine ⟨Sx ?_,rfl⟩
  all_goals have hl:=HL.out
  all_goals have hv:=HV.out
  all_goals clear HL HV HVA HW hw
  all_goals subst hl
  all_goals unfold RK
  all_goals simp only [hv]
  all_goals try simp only [beq_iff_eq,beq_eq_false_iff_ne,ne_eq] at *
  all_goals first
    | exact (decide_eq_true (by omega)).symm
    | exact (decide_eq_false (by omega)).symm
    | (cases v
       · rw [Bool.and_false];exact (decide_eq_false (by simp;omega)).symm
       · rw [Bool.and_true];by_cases h:r=65533
         · subst h;rfl
         · rw [show (r != 65533)=true from bne_iff_ne.2 h];exact (decide_eq_true (by simp;omega)).symm)
theorem Bpz (r:Nat):RK r=G5 r:=by
 unfold RK G5;generalize Utf8.valid (r:Int)=v;rw [Bool.eq_iff_iff];simp only [decide_eq_true_eq,Bool.or_eq_true,Bool.and_eq_true,beq_iff_eq,bne_iff_ne];constructor;rintro (h | h | h | ⟨h1,h2,h3,h4⟩);exact .inl (.inl (.inl ⟨by omega,by omega⟩));exact .inl (.inl (.inr ⟨by omega,by omega⟩));exact .inl (.inr (by omega));exact .inr ⟨⟨⟨by omega,by omega⟩,by omega⟩,h4⟩;rintro (((⟨h1,h2⟩ | ⟨h1,h2⟩) | h) | ⟨⟨⟨h1,h2⟩,h3⟩,h4⟩);exact .inl ⟨by omega,by omega⟩;exact .inr (.inl ⟨by omega,by omega⟩);exact .inr (.inr (.inl (by omega)));exact .inr (.inr (.inr ⟨by omega,by omega,by omega,h4⟩))
theorem A1n (r:Nat):decide (48<=(r:Int)/\(r:Int)<=57)=FO r:=by
 unfold FO;rw [Bool.eq_iff_iff];simp only [decide_eq_true_eq,Bool.and_eq_true];omega
theorem Z3:OJ 69 G5:=by
 refine ⟨λargs w=>enters_of Tryz.func69 (by kernel_rfl) rfl args w,λr w hr=>?_⟩
 have hc:=Bp1 r
 rw [Bpz] at hc
 have HC:=Lib.hid hc
 clear hc
 have h1:(0:Int)<=r:=by omega
 have h2:(r:Int)<=2147483647:=by omega
 go_enter Tryz.func69,Tryz.ntmps69
 go_wp2_with ((go_at_call 96;refine (HC.out _ h1 h2).mono ?_;rintro e w' ⟨rfl,rfl⟩))
 go_ret
 exact ⟨rfl,rfl⟩
theorem UH:OJ 71 FO:=by
 refine ⟨λargs w=>enters_of Tryz.func71 (by kernel_rfl) rfl args w,λr w hr=>?_⟩
 have hc:=A1s r
 rw [A1n] at hc
 have HC:=Lib.hid hc
 clear hc
 have h2:(r:Int)<=2147483647:=by omega
 go_enter Tryz.func71,Tryz.ntmps71
 go_wp2_with ((go_at_call 100;refine (HC.out _).mono ?_;rintro e w' ⟨rfl,rfl⟩))
 go_ret
 exact ⟨rfl,rfl⟩
theorem Ap2:OJ 97 BJ:=by
 refine ⟨λargs w=>enters_of Tryz.func97 (by kernel_rfl) rfl args w,λr w hr=>?_⟩
 have H1:=Lib.hid (λw=>Z3.2 r w hr)
 have H2:=Lib.hid (λw=>UH.2 r w hr)
 obtain ⟨pr,hpr⟩:∃ x,BJ r=x:=⟨_,rfl⟩
 have HP:=Lib.hid hpr
 rw [hpr]
 clear hpr
 generalize hl:G5 r=lr at *
 generalize hd:FO r=dr at *
 have HL:=Lib.hid hl
 have HD:=Lib.hid hd
 clear hl hd
 cases lr
 ·go_enter Tryz.func97,Tryz.ntmps97
  go_wp2_with (first | ((go_at_call 69;refine (H1.out _).mono ?_;rintro e w' ⟨rfl,rfl⟩)) | ((go_at_call 71;refine (H2.out _).mono ?_;rintro e w' ⟨rfl,rfl⟩)))
  go_ret
  refine ⟨Sx ?_,rfl⟩
  rw [<- HP.out,BJ,HL.out,HD.out];rfl
 ·go_enter Tryz.func97,Tryz.ntmps97
  go_wp2_with (first | ((go_at_call 69;refine (H1.out _).mono ?_;rintro e w' ⟨rfl,rfl⟩)) | ((go_at_call 71;refine (H2.out _).mono ?_;rintro e w' ⟨rfl,rfl⟩)))
  go_ret
  refine ⟨Sx ?_,rfl⟩
  rw [<- HP.out,BJ,HL.out];rfl
theorem B1q:OJ 65 Cn:=by
 refine ⟨λargs w=>enters_of Tryz.func65 (by kernel_rfl) rfl args w,λr w hr=>?_⟩
 obtain ⟨pr,hpr⟩:∃ x,Cn r=x:=⟨_,rfl⟩
 have HP:=Lib.hid hpr
 rw [hpr]
 clear hpr
 go_enter Tryz.func65,Tryz.ntmps65
 go_wp2
 all_goals go_ret
 all_goals refine ⟨Sx ?_,rfl⟩
 all_goals rw [<- HP.out];clear HP
 all_goals unfold Cn
 all_goals rw [Bool.eq_iff_iff]
 all_goals simp only [Bool.or_eq_true,beq_iff_eq,beq_eq_false_iff_ne,Bool.true_eq_false,Bool.false_eq_true,true_iff,false_iff,not_or] at *
 all_goals omega
theorem B1r:OJ 68 Jv:=by
 refine ⟨λargs w=>enters_of Tryz.func68 (by kernel_rfl) rfl args w,λr w hr=>?_⟩
 obtain ⟨pr,hpr⟩:∃ x,Jv r=x:=⟨_,rfl⟩
 have HP:=Lib.hid hpr
 rw [hpr]
 clear hpr
 go_enter Tryz.func68,Tryz.ntmps68
 go_wp2
 go_ret
 refine ⟨Sx ?_,rfl⟩
 rw [<- HP.out]
 unfold Jv
 rw [Bool.eq_iff_iff]
 simp only [bne_iff_ne]
 omega
theorem Nn (c k:UInt8):(c=k) ↔ ((c.toNat:Int) == (k.toNat:Int))=true:=by
 rw [beq_iff_eq,Int.natCast_inj,UInt8.toNat_inj]
set_option maxHeartbeats 1000000 in
theorem YC (c:UInt8) (w:World):Calls Tryz.prog 123 #[.int .u8 c.toNat] w λe w'=>e=.returned (.int .u8 (Fy c).toNat)/\w=w':=by
 obtain ⟨x,hx⟩:∃ x,(Fy c).toNat=x:=⟨_,rfl⟩
 have HX:=Lib.hid hx
 rw [hx]
 clear hx
 go_enter Tryz.func123,Tryz.ntmps123
 go_wp2
 all_goals go_ret
 all_goals refine ⟨Lr ?_,rfl⟩
 all_goals rw [<- HX.out];clear HX
 all_goals simp only [Fy,Nn]
 all_goals simp_all
theorem TN (m:Nat) (b:UInt8) (t:Bs) (n k:Nat):BD (m+1) (b :: t) n k=match hexD b with | none=>(n,k) | some d=>BD m t (16 * n+d) (k+1):=rfl
def Ba1:Bs:=[48,49,50,51,52,53,54,55,56,57,97,98,99,100,101,102]
def OZ (b:UInt8):Int:=Lib.indexByte Ba1 (Go.bits .or .u8 (b.toNat:Int) 32).toNat.toUInt8
def TO (b:UInt8):Bool :=
 match hexD b with
 | none=>decide (OZ b < 0) || decide (b.toNat < 48)
 | some d=>decide (OZ b=d) && decide (48<=b.toNat) && decide (d < 16)
theorem Bax:∀ n,n < 256->TO (UInt8.ofNat n)=true:=by decide +kernel
theorem Af7 (b:UInt8):TO b=true:=by
 have:=Bax b.toNat b.toNat_lt
 simpa using this
theorem Bat {b:UInt8} (h:hexD b=none):OZ b < 0\/b.toNat < 48:=by
 have:=Af7 b
 simpa [TO,h] using this
theorem TM {b:UInt8} {d:Nat} (h:hexD b=some d):OZ b=d/\48<=b.toNat/\d < 16:=by
 have:=Af7 b
 simpa [TO,h,and_assoc] using this
theorem YE {k:Nat} (h:k<=8):16 ^ k<=4294967296:=by
 have:=Nat.pow_le_pow_right (n:=16) (by omega) h;omega
theorem Bl8 (b:UInt8) (w:World):Calls Tryz.prog 138 #[.string ⟨#[48,49,50,51,52,53,54,55,56,57,97,98,99,100,101,102]⟩,.int .u8 (Go.bits .or .u8 (b.toNat:Int) 32)] w λe w'=>e=.returned (.int .i64 (OZ b))/\w=w' :=
 (Tryz.strings_IndexByte _ _ w).mono λ_ _ ⟨h1,h2⟩=>⟨h1,h2.symm⟩
theorem drop_at (s:Ah) (k:Nat) (h:k < s.size):(bs s).drop k=s[k] :: (bs s).drop (k+1):=by
 rw [List.drop_eq_getElem_cons (by rw [B0];exact h)];rfl
set_option maxHeartbeats 1000000 in
theorem Agb (s:Ah) (most:Nat) (w:World) (hm:most<=8) (hs:s.size<=1000000) :
  Calls Tryz.prog 124 #[.string s,.int .i64 most] w λe w'=>e=.returned (.tuple #[.int .i64 (BD most (bs s) 0 0).1,.int .i64 (BD most (bs s) 0 0).2])/\w=w':=by
 obtain ⟨R,hR⟩:∃ R,BD most (bs s) 0 0=R:=⟨_,rfl⟩
 rw [hR]
 have HR:=Lib.hid hR
 clear hR
 go_enter Tryz.func124,Tryz.ntmps124
 go_wp2
 go_loop [6,7,8] (λn k _=>∃ Ag K:Nat,K<=most/\K<=s.size/\Ag < 16 ^ K/\n=.int .i64 Ag/\k=.int .i64 K/\Hid (BD (most - K) ((bs s).drop K) Ag K=R)) (λ_ k _=>most - (intOf k).toNat)
 case atStart=>exact ⟨0,0,by omega,by omega,by simp,rfl,rfl,HR.out⟩
 case round =>
  obtain ⟨Ag,K,hK,hKs,hN,rfl,rfl,hG⟩:=hrel
  have hp:=YE (show K<=8 by omega)
  have hN2:Ag < 4294967296:=by omega
  have HN:=Lib.hid hN
  clear hN hp
  by_cases hlt:K < most
  ·by_cases hls:K < s.size
   ·have hix:=Bl8 s[K]
    obtain ⟨Ae,hD⟩:∃ Ae,OZ s[K]=Ae:=⟨_,rfl⟩
    rw [hD] at hix
    have HIX:=Lib.hid hix
    have HD:=Lib.hid hD
    clear hix hD
    go_wp2_with ((go_at_call 138;refine (HIX.out _).mono ?_;rintro e w' ⟨rfl,rfl⟩))
    ·go_ret2
     have hn:hexD s[K]=none:=by
      cases h:hexD s[K] with
      | none=>rfl
      | some d=>have:=TM h;rw [HD.out] at this;omega
     have h:=hG
     unfold Hid at h
     rw [show most - K=(most - K - 1)+1 by omega,drop_at s K hls,TN,hn] at h
     rw [<- h]
     exact ⟨rfl,rfl⟩
    ·go_round
     case rel =>
      obtain ⟨d,hd⟩:∃ d,hexD s[K]=some d:=by
       cases h:hexD s[K] with
       | none=>have:=Bat h;rw [HD.out] at this;omega
       | some d=>exact ⟨d,rfl⟩
      have hs:=TM hd
      rw [HD.out] at hs
      obtain ⟨hDd,_,OY⟩:=hs
      have hN16:=HN.out
      refine ⟨16 * Ag+d,K+1,by omega,by omega,by rw [Nat.pow_succ];omega,?_,by go_num,?_⟩
      ·rw [hDd];congr 1;unfold wrap64;omega
      ·have h:=hG
       unfold Hid at h ⊢
       rw [show most - K=(most - (K+1))+1 by omega,drop_at s K hls,TN,hd] at h
       exact h
     case measure=>simp [intOf];omega
    ·go_ret2
     have hn:hexD s[K]=none:=by
      cases h:hexD s[K] with
      | none=>rfl
      | some d=>have:=TM h;rw [HD.out] at this;omega
     have h:=hG
     unfold Hid at h
     rw [show most - K=(most - K - 1)+1 by omega,drop_at s K hls,TN,hn] at h
     rw [<- h]
     exact ⟨rfl,rfl⟩
   ·go_wp2
    go_ret2
    have h:=hG
    unfold Hid at h
    rw [show most - K=(most - K - 1)+1 by omega,List.drop_of_length_le (by rw [B0];omega)] at h
    rw [<- h]
    exact ⟨rfl,rfl⟩
  ·go_wp2
   go_ret2
   have h:=hG
   unfold Hid at h
   rw [show most - K=0 by omega] at h
   rw [<- h]
   exact ⟨rfl,rfl⟩
theorem N1:∀ (m:Nat) (l:Bs) (n k:Nat),n < 16 ^ k->(BD m l n k).1 < 16 ^ (BD m l n k).2/\k<=(BD m l n k).2/\(BD m l n k).2<=k+m/\(BD m l n k).2<=k+l.length
 | 0,_,n,k,h=>by simp only [BD];exact ⟨h,by omega,by omega,by omega⟩
 | m+1,[],n,k,h=>by simp only [BD];exact ⟨h,by omega,by omega,by simp⟩
 | m+1,b :: t,n,k,h=>by
  rw [TN];cases hd:hexD b with
  | none=>simp only [];exact ⟨h,by omega,by omega,by omega⟩
  | some d =>
   simp only [];have h16:=(TM hd).2.2;have:=N1 m t (16 * n+d) (k+1) (by rw [Nat.pow_succ];omega);simp only [AH];exact ⟨this.1,by omega,by omega,by omega⟩
set_option maxHeartbeats 1000000 in
theorem A3k (n:Int) (w:World) (h0:0<=n) (h1:n<=4294967296) :
  Calls Tryz.prog 126 #[.int .i64 n] w λe w'=>e=.returned (.tuple #[.string (if Utf8.valid n then Utf8.encode n else ⟨#[]⟩),.int .i64 (if Utf8.valid n then 0 else 3)])/\w=w':=by
 obtain ⟨v,hv⟩:∃ v,Utf8.valid n=v:=⟨_,rfl⟩
 rw [hv]
 by_cases hbig:n<=1114111
 ·have hw:IntKind.i32.wrap n=n:=by unfold IntKind.wrap;simp [IntKind.bits,IntKind.signed];omega
  have hva:=Asr n
  rw [hv] at hva
  have HVA:=Lib.hid hva
  clear hva hv
  obtain ⟨E,hE⟩:∃ E,Utf8.encode n=E:=⟨_,rfl⟩
  rw [hE]
  have hconv:∀ w,(convert 21 9 (.int .i32 n)).run Tryz.prog w=.ok (.string E) w:=λw=>by
   rw [<- hE];exact run_convert_int_string w 21 9 .i32 n (by rw [Tryz.underlying21];rfl) Tryz.underlying9
  clear hE
  cases v
  ·go_enter Tryz.func126,Tryz.ntmps126
   go_wp2_with ((go_at_call 120;refine (HVA.out _).mono ?_;rintro e w' ⟨rfl,rfl⟩))
   go_ret2
   exact ⟨rfl,rfl⟩
  ·go_enter Tryz.func126,Tryz.ntmps126
   go_wp2_with ((go_at_call 120;refine (HVA.out _).mono ?_;rintro e w' ⟨rfl,rfl⟩))
   go_ret2
   exact ⟨rfl,rfl⟩
 ·have hvf:v=false:=by rw [<- hv];unfold Utf8.valid;simp;omega
  subst hvf
  clear hv
  go_enter Tryz.func126,Tryz.ntmps126
  go_wp2_with (fail)
  go_ret2
  exact ⟨rfl,rfl⟩
def Hz (r:Nat):Int:=match I1 r with | some d=>d | none=>-1
theorem A1l (r:Nat):Hz r=if 48<=r/\r<=57 then (r:Int) - 48 else if 97<=r/\r<=102 then (r:Int) - 87 else if 65<=r/\r<=70 then (r:Int) - 55 else -1:=by
 unfold Hz I1
 (repeat' split) <;> simp_all <;> omega
set_option maxHeartbeats 1000000 in
theorem ZN (r:Nat) (w:World) (hr:r<=1114111):Calls Tryz.prog 148 #[.int .i32 r] w λe w'=>e=.returned (.int .i64 (Hz r))/\w=w':=by
 obtain ⟨x,hx⟩:∃ x,Hz r=x:=⟨_,rfl⟩
 rw [hx]
 rw [A1l] at hx
 have HX:=Lib.hid hx
 clear hx
 have hr':(r:Int)<=1114111:=by omega
 go_enter Tryz.func148,Tryz.ntmps148
 go_wp2
 all_goals go_ret
 all_goals refine ⟨Lr ?_,rfl⟩
 all_goals rw [<- HX.out];clear HX
 all_goals (repeat' split)
 all_goals (first | omega | (unfold wrap32 wrap64;omega) | (exfalso;omega) | (simp_all;omega))
theorem Apz (hex:Bool):∀ (f g n:Nat) (l:Bs),l.length<=f->l.length<=g->JJ hex f n l=JJ hex g n l
 | 0,0,_,_,_,_=>rfl
 | 0,g+1,n,l,h,_=>by
  have:l=[]:=List.eq_nil_of_length_eq_zero (by omega);subst this;rfl
 | f+1,0,n,l,_,h=>by
  have:l=[]:=List.eq_nil_of_length_eq_zero (by omega);subst this;rfl
 | f+1,g+1,n,[],_,_=>rfl
 | f+1,g+1,n,b :: t,h,h'=>by
  simp only [JJ];have hw:=(Gf (b :: t)).1;split;rfl;split;rfl;exact Apz hex f g _ _ (by rw [BA];simp only [AH] at *;omega) (by rw [BA];simp only [AH] at *;omega)
theorem Z2 (hex:Bool) (n:Nat) (l:Bs) (h:l≠[]):EU hex n l =
  match I1 (Ba l).1 with
  | none=>none
  | some d=>if d > 9 && !hex then none else
    EU hex (if hex then (n * 16+d) % 18446744073709551616 else min (10 * n+d) 18446744073709551615) (l.drop (Ba l).2):=by
 cases l with
 | nil=>exact absurd rfl h
 | cons b t =>
  have hw:=(Gf (b :: t)).1;unfold EU;simp only [AH,JJ];cases hd:I1 (Ba (b :: t)).1 with
  | none=>rfl
  | some d =>
   simp only [];split;rfl;rw [Apz hex t.length ((b :: t).drop (Ba (b :: t)).2).length _ ((b :: t).drop (Ba (b :: t)).2) (by rw [BA];simp only [AH];omega) (Nat.le_refl _)]
theorem Z1 (hex:Bool) (n:Nat):EU hex n []=some n:=rfl
theorem Alj (Ag d:Nat) (hd:d < 16):bits .or .u64 (IntKind.u64.wrap ((Ag:Int) * 16)) (d:Int)=(((Ag * 16+d) % 18446744073709551616:Nat):Int):=by
 have hw:IntKind.u64.wrap ((Ag:Int) * 16)=((2 ^ 4 * (Ag % 1152921504606846976):Nat):Int):=by
  unfold IntKind.wrap;simp [IntKind.bits,IntKind.signed];omega
 rw [hw,bits_or_u64_nat _ _ (by omega) (by omega),<- Nat.two_pow_add_eq_or_of_lt (by omega:d < 2 ^ 4)];congr 1;omega
theorem Axq (x y:Int) (w:World) (hx:0<=x) (hy:0<=y):(callFunc 149 #[.int .u64 x,.int .u64 y,.int .u64 0]).run Tryz.prog w =
  .ok (.value (.tuple #[.int .u64 ((x+y) % 18446744073709551616),.int .u64 ((x+y) / 18446744073709551616)])) w:=by
 rw [run_callFunc_extern Tryz.func149 (by kernel_rfl) (by kernel_rfl) (by kernel_rfl) (e:=add64Entry) (by kernel_rfl),run_add64 x y 0 hx hy (by omega) (by omega)];simp [Result.andThen]
theorem Bp9 (Ag:Nat) (hN:Ag < 18446744073709551616) (w:World):Calls Tryz.prog 133 #[.int .u64 Ag,.int .u64 10] w λe w' =>
  e=.returned (.tuple #[.int .u64 ((Ag * 10 / 18446744073709551616:Nat)),.int .u64 ((Ag * 10 % 18446744073709551616:Nat))])/\w=w' :=
 (Tryz.bits_Mul64 Ag 10 hN (by omega) w).mono λ_ _ ⟨h1,h2⟩=>⟨h1,h2.symm⟩
theorem A1d (Ag d hi lo sm cy:Nat) (hN:Ag < 18446744073709551616) (hd:d < 16) (hhi:Ag * 10 / 18446744073709551616=hi) (hlo:Ag * 10 % 18446744073709551616=lo)
  (hsm:(lo+d) % 18446744073709551616=sm) (hcy:(lo+d) / 18446744073709551616=cy) :
  (hi+cy=0->sm=10 * Ag+d/\Ag<=sm/\sm < 18446744073709551616)/\(hi+cy≠0->18446744073709551616<=10 * Ag+d)/\hi<=9/\cy<=1:=by
 omega
abbrev Azm (c:Int):Ending:=.panicked [{ v:=.iface 151 (.agg #[.int .i64 c]),recovered:=false }]
def Tl (r:Option Nat) (hex:Bool) (w:World) (e:Ending) (w':World):Prop :=
 (match r with | none=>e=Azm 4 | some u=>e=.returned (.tuple #[.int .u64 u,.bool hex]))/\Below w.heap.size w w'
set_option maxHeartbeats 1000000 in
theorem B1k (s A1:Ah) (w:World) (hs:s.size<=1000000) (hsz:A1.size<=1000000) (hne:bs A1≠[])
  (hc:∀ w,Calls Tryz.prog 147 #[.string s,.string ⟨#[48,120]⟩] w λe w'=>e=.returned (.tuple #[.string A1,.bool true])/\w=w') :
  Calls Tryz.prog 137 #[.string s] w (Tl (EU true 0 (bs A1)) true w):=by
 have HC:=Lib.hid hc
 clear hc
 have HNE:=Lib.hid hne
 have he:A1.toList.isEmpty=false:=by
  rw [Lib.toList_data];cases h:A1.data.toList with
  | nil=>exact absurd h hne
  | cons _ _=>rfl
 clear hne
 go_enter Tryz.func137,Tryz.ntmps137
 go_wp2_with ((go_at_call 147;refine (HC.out _).mono ?_;rintro e w' ⟨rfl,rfl⟩))
 have Hsz:=Lib.hid hsz
 generalize hM:A1.size=Ac at *
 have HM:=Lib.hid hM
 clear hM
 go_loopw [2] (λn wr=>∃ pos Ag:Nat,pos<=Ac/\Hid (Ag < 18446744073709551616)/\n=.int .u64 Ag/\Hid (EU true 0 (bs A1)=EU true Ag ((bs A1).drop pos))/\wr=w.iter A1 pos) (λ_ wr=>Ac - wr.iterPos w.heap.size)
 case atStart=>exact ⟨0,0,Nat.zero_le _,by unfold Hid;omega,rfl,by unfold Hid;simp,rfl⟩
 case round =>
  obtain ⟨pos,Ag,hpos,hN,rfl,hG,rfl⟩:=hrel
  by_cases hlt:pos < Ac
  ·have hnext:=run_next_any (P:=Tryz.prog) w A1 pos
   have hd:=M0 ((bs A1).drop pos)
   have hnx:∀ ty,(Instr.next (.pointer (some ⟨w.heap.size,0,none⟩)) true ty).run Tryz.prog (w.iter A1 pos)=.ok (.tuple #[.bool true,.int .i64 pos,.int .i32 (Ba ((bs A1).drop pos)).1]) (w.iter A1 (pos+(Ba ((bs A1).drop pos)).2)):=λty=>by
    have:=hnext ty (by rw [HM.out];exact hlt)
    rw [decode_eq A1 pos] at this
    exact this
   clear hnext
   have hne:(bs A1).drop pos≠[]:=λh=>by
    have:=congrArg List.length h
    rw [BA,B0,HM.out] at this
    simp at this;omega
   have HS:=Lib.hid (Z2 true Ag ((bs A1).drop pos) hne)
   have HW:=Lib.hid (Gf ((bs A1).drop pos))
   have HLL:=Lib.hid (show ((bs A1).drop pos).length=Ac - pos by rw [BA,B0,HM.out])
   have OI:=Lib.hid hne
   clear hne
   generalize hr:(Ba ((bs A1).drop pos)).1=r at *
   generalize hk:(Ba ((bs A1).drop pos)).2=k at *
   have HR:=Lib.hid hr
   have HK:=Lib.hid hk
   clear hr hk
   have HDG:=Lib.hid (λw=>ZN r w hd)
   go_wp2_with fail
   refine (HDG.out _).mono ?_
   rintro e w' ⟨rfl,rfl⟩
   cases hdg:I1 r with
   | none =>
    have hD:Hz r=-1:=by unfold Hz;rw [hdg]
    rw [hD]
    clear hD
    have HDN:=Lib.hid hdg
    clear hdg
    go_wp2_with fail
    refine ⟨rfl,?_⟩
    have hres:EU true 0 (bs A1)=none:=by rw [hG.out,HS.out,HDN.out]
    rw [hres]
    exact ⟨rfl,(Below.refl _ w).alloc (Nat.le_refl _) _⟩
   | some d =>
    have hD:Hz r=d:=by unfold Hz;rw [hdg]
    have OY:d < 16:=by unfold I1 at hdg;revert hdg;(repeat' split) <;> intro h <;> (try cases h) <;> omega
    rw [hD]
    clear hD
    have HDN:=Lib.hid hdg
    clear hdg
    have hdz:(d:Int) < 16:=by omega
    go_wp2_with fail
    all_goals
     go_roundw
     case rel =>
      have hN':=hN.out
      refine ⟨pos+k,(Ag * 16+d) % 18446744073709551616,?_,?_,?_,?_,rfl⟩
      ·have:=HW.out.2.2 OI.out;rw [HLL.out] at this;omega
      ·unfold Hid;omega
      ·rw [Alj Ag d OY]
      ·unfold Hid
       rw [hG.out,HS.out,HDN.out,List.drop_drop]
       simp
     case measure =>
      have hk1:=HW.out.1
      have e:∀ q,(w.iter A1 q).iterPos w.heap.size=q:=λq=>World.iterPos_iter w A1 q
      simp only [e]
      omega
  ·have hnx:=λty=>run_next_end (P:=Tryz.prog) w A1 pos ty (by rw [HM.out];exact hlt)
   have Ws:∀ ty,(Instr.next (.pointer (some ⟨w.heap.size,0,none⟩)) true ty).run Tryz.prog (w.iter A1 pos)=.ok (.tuple #[.bool false]) (w.iter A1 pos):=hnx
   clear hnx
   go_wp2_with fail
   go_ret2
   have hres:EU true 0 (bs A1)=some Ag:=by
    rw [hG.out,List.drop_of_length_le (by rw [B0,HM.out];omega),Z1]
   rw [hres]
   exact ⟨rfl,(Below.refl _ w).alloc (Nat.le_refl _) _⟩
set_option maxHeartbeats 1000000 in
theorem B1l (s A0 A1:Ah) (w:World) (hs:s.size<=1000000) (hsz:A1.size<=1000000) (hne:bs A1≠[])
  (hc0:∀ w,Calls Tryz.prog 147 #[.string s,.string ⟨#[48,120]⟩] w λe w'=>e=.returned (.tuple #[.string A0,.bool false])/\w=w')
  (hc:∀ w,Calls Tryz.prog 147 #[.string s,.string ⟨#[48,88]⟩] w λe w'=>e=.returned (.tuple #[.string A1,.bool true])/\w=w') :
  Calls Tryz.prog 137 #[.string s] w (Tl (EU true 0 (bs A1)) true w):=by
 have HC:=Lib.hid hc
 have HC0:=Lib.hid hc0
 clear hc hc0
 have HNE:=Lib.hid hne
 have he:A1.toList.isEmpty=false:=by
  rw [Lib.toList_data];cases h:A1.data.toList with
  | nil=>exact absurd h hne
  | cons _ _=>rfl
 clear hne
 go_enter Tryz.func137,Tryz.ntmps137
 go_wp2_with fail
 refine (HC0.out _).mono ?_
 rintro e w' ⟨rfl,rfl⟩
 go_wp2_with fail
 refine (HC.out _).mono ?_
 rintro e w' ⟨rfl,rfl⟩
 go_wp2_with fail
 have Hsz:=Lib.hid hsz
 generalize hM:A1.size=Ac at *
 have HM:=Lib.hid hM
 clear hM
 go_loopw [2] (λn wr=>∃ pos Ag:Nat,pos<=Ac/\Hid (Ag < 18446744073709551616)/\n=.int .u64 Ag/\Hid (EU true 0 (bs A1)=EU true Ag ((bs A1).drop pos))/\wr=w.iter A1 pos) (λ_ wr=>Ac - wr.iterPos w.heap.size)
 case atStart=>exact ⟨0,0,Nat.zero_le _,by unfold Hid;omega,rfl,by unfold Hid;simp,rfl⟩
 case round =>
  obtain ⟨pos,Ag,hpos,hN,rfl,hG,rfl⟩:=hrel
  by_cases hlt:pos < Ac
  ·have hnext:=run_next_any (P:=Tryz.prog) w A1 pos
   have hd:=M0 ((bs A1).drop pos)
   have hnx:∀ ty,(Instr.next (.pointer (some ⟨w.heap.size,0,none⟩)) true ty).run Tryz.prog (w.iter A1 pos)=.ok (.tuple #[.bool true,.int .i64 pos,.int .i32 (Ba ((bs A1).drop pos)).1]) (w.iter A1 (pos+(Ba ((bs A1).drop pos)).2)):=λty=>by
    have:=hnext ty (by rw [HM.out];exact hlt)
    rw [decode_eq A1 pos] at this
    exact this
   clear hnext
   have hne:(bs A1).drop pos≠[]:=λh=>by
    have:=congrArg List.length h
    rw [BA,B0,HM.out] at this
    simp at this;omega
   have HS:=Lib.hid (Z2 true Ag ((bs A1).drop pos) hne)
   have HW:=Lib.hid (Gf ((bs A1).drop pos))
   have HLL:=Lib.hid (show ((bs A1).drop pos).length=Ac - pos by rw [BA,B0,HM.out])
   have OI:=Lib.hid hne
   clear hne
   generalize hr:(Ba ((bs A1).drop pos)).1=r at *
   generalize hk:(Ba ((bs A1).drop pos)).2=k at *
   have HR:=Lib.hid hr
   have HK:=Lib.hid hk
   clear hr hk
   have HDG:=Lib.hid (λw=>ZN r w hd)
   go_wp2_with fail
   refine (HDG.out _).mono ?_
   rintro e w' ⟨rfl,rfl⟩
   cases hdg:I1 r with
   | none =>
    have hD:Hz r=-1:=by unfold Hz;rw [hdg]
    rw [hD]
    clear hD
    have HDN:=Lib.hid hdg
    clear hdg
    go_wp2_with fail
    refine ⟨rfl,?_⟩
    have hres:EU true 0 (bs A1)=none:=by rw [hG.out,HS.out,HDN.out]
    rw [hres]
    exact ⟨rfl,(Below.refl _ w).alloc (Nat.le_refl _) _⟩
   | some d =>
    have hD:Hz r=d:=by unfold Hz;rw [hdg]
    have OY:d < 16:=by unfold I1 at hdg;revert hdg;(repeat' split) <;> intro h <;> (try cases h) <;> omega
    rw [hD]
    clear hD
    have HDN:=Lib.hid hdg
    clear hdg
    have hdz:(d:Int) < 16:=by omega
    go_wp2_with fail
    all_goals
     go_roundw
     case rel =>
      have hN':=hN.out
      refine ⟨pos+k,(Ag * 16+d) % 18446744073709551616,?_,?_,?_,?_,rfl⟩
      ·have:=HW.out.2.2 OI.out;rw [HLL.out] at this;omega
      ·unfold Hid;omega
      ·rw [Alj Ag d OY]
      ·unfold Hid
       rw [hG.out,HS.out,HDN.out,List.drop_drop]
       simp
     case measure =>
      have hk1:=HW.out.1
      have e:∀ q,(w.iter A1 q).iterPos w.heap.size=q:=λq=>World.iterPos_iter w A1 q
      simp only [e]
      omega
  ·have hnx:=λty=>run_next_end (P:=Tryz.prog) w A1 pos ty (by rw [HM.out];exact hlt)
   have Ws:∀ ty,(Instr.next (.pointer (some ⟨w.heap.size,0,none⟩)) true ty).run Tryz.prog (w.iter A1 pos)=.ok (.tuple #[.bool false]) (w.iter A1 pos):=hnx
   clear hnx
   go_wp2_with fail
   go_ret2
   have hres:EU true 0 (bs A1)=some Ag:=by
    rw [hG.out,List.drop_of_length_le (by rw [B0,HM.out];omega),Z1]
   rw [hres]
   exact ⟨rfl,(Below.refl _ w).alloc (Nat.le_refl _) _⟩
set_option maxHeartbeats 1000000 in
theorem B1i (s A0 A1:Ah) (w:World) (hs:s.size<=1000000) (hsz:A1.size<=1000000) (hne:bs A1≠[])
  (hc0:∀ w,Calls Tryz.prog 147 #[.string s,.string ⟨#[48,120]⟩] w λe w'=>e=.returned (.tuple #[.string A0,.bool false])/\w=w')
  (hc:∀ w,Calls Tryz.prog 147 #[.string s,.string ⟨#[48,88]⟩] w λe w'=>e=.returned (.tuple #[.string A1,.bool false])/\w=w') :
  Calls Tryz.prog 137 #[.string s] w (Tl (EU false 0 (bs A1)) false w):=by
 have HC:=Lib.hid hc
 have HC0:=Lib.hid hc0
 clear hc hc0
 have HNE:=Lib.hid hne
 have he:A1.toList.isEmpty=false:=by
  rw [Lib.toList_data];cases h:A1.data.toList with
  | nil=>exact absurd h hne
  | cons _ _=>rfl
 clear hne
 go_enter Tryz.func137,Tryz.ntmps137
 go_wp2_with fail
 refine (HC0.out _).mono ?_
 rintro e w' ⟨rfl,rfl⟩
 go_wp2_with fail
 refine (HC.out _).mono ?_
 rintro e w' ⟨rfl,rfl⟩
 go_wp2_with fail
 have Hsz:=Lib.hid hsz
 generalize hM:A1.size=Ac at *
 have HM:=Lib.hid hM
 clear hM
 go_loopw [2] (λn wr=>∃ pos Ag:Nat,pos<=Ac/\Hid (Ag < 18446744073709551616)/\n=.int .u64 Ag/\Hid (EU false 0 (bs A1)=EU false Ag ((bs A1).drop pos))/\wr=w.iter A1 pos) (λ_ wr=>Ac - wr.iterPos w.heap.size)
 case atStart=>exact ⟨0,0,Nat.zero_le _,by unfold Hid;omega,rfl,by unfold Hid;simp,rfl⟩
 case round =>
  obtain ⟨pos,Ag,hpos,hN,rfl,hG,rfl⟩:=hrel
  by_cases hlt:pos < Ac
  ·have hnext:=run_next_any (P:=Tryz.prog) w A1 pos
   have hd:=M0 ((bs A1).drop pos)
   have hnx:∀ ty,(Instr.next (.pointer (some ⟨w.heap.size,0,none⟩)) true ty).run Tryz.prog (w.iter A1 pos)=.ok (.tuple #[.bool true,.int .i64 pos,.int .i32 (Ba ((bs A1).drop pos)).1]) (w.iter A1 (pos+(Ba ((bs A1).drop pos)).2)):=λty=>by
    have:=hnext ty (by rw [HM.out];exact hlt)
    rw [decode_eq A1 pos] at this
    exact this
   clear hnext
   have hne:(bs A1).drop pos≠[]:=λh=>by
    have:=congrArg List.length h
    rw [BA,B0,HM.out] at this
    simp at this;omega
   have HS:=Lib.hid (Z2 false Ag ((bs A1).drop pos) hne)
   have HW:=Lib.hid (Gf ((bs A1).drop pos))
   have HLL:=Lib.hid (show ((bs A1).drop pos).length=Ac - pos by rw [BA,B0,HM.out])
   have OI:=Lib.hid hne
   clear hne
   generalize hr:(Ba ((bs A1).drop pos)).1=r at *
   generalize hk:(Ba ((bs A1).drop pos)).2=k at *
   have HR:=Lib.hid hr
   have HK:=Lib.hid hk
   clear hr hk
   have HDG:=Lib.hid (λw=>ZN r w hd)
   go_wp2_with fail
   refine (HDG.out _).mono ?_
   rintro e w' ⟨rfl,rfl⟩
   cases hdg:I1 r with
   | none =>
    have hD:Hz r=-1:=by unfold Hz;rw [hdg]
    rw [hD]
    clear hD
    have HDN:=Lib.hid hdg
    clear hdg
    go_wp2_with fail
    refine ⟨rfl,?_⟩
    have hres:EU false 0 (bs A1)=none:=by rw [hG.out,HS.out,HDN.out]
    rw [hres]
    exact ⟨rfl,(Below.refl _ w).alloc (Nat.le_refl _) _⟩
   | some d =>
    have hD:Hz r=d:=by unfold Hz;rw [hdg]
    have OY:d < 16:=by unfold I1 at hdg;revert hdg;(repeat' split) <;> intro h <;> (try cases h) <;> omega
    rw [hD]
    clear hD
    have HDN:=Lib.hid hdg
    clear hdg
    have hdz:(d:Int) < 16:=by omega
    by_cases h9:d<=9
    ·have h9z:(d:Int)<=9:=by omega
     have H9:=Lib.hid h9
     clear h9
     have Aa0:=Lib.hid (Bp9 Ag hN.out)
     have hdw:IntKind.u64.wrap (d:Int)=d:=by unfold IntKind.wrap;simp [IntKind.bits,IntKind.signed];omega
     obtain ⟨hi,hhi⟩:∃ hi,Ag * 10 / 18446744073709551616=hi:=⟨_,rfl⟩
     obtain ⟨lo,hlo⟩:∃ lo,Ag * 10 % 18446744073709551616=lo:=⟨_,rfl⟩
     rw [hhi,hlo] at Aa0
     obtain ⟨sm,hsm⟩:∃ sm,(lo+d) % 18446744073709551616=sm:=⟨_,rfl⟩
     obtain ⟨cy,hcy⟩:∃ cy,(lo+d) / 18446744073709551616=cy:=⟨_,rfl⟩
     have hadd:∀ w,(callFunc 149 #[.int .u64 lo,.int .u64 d,.int .u64 0]).run Tryz.prog w=.ok (.value (.tuple #[.int .u64 sm,.int .u64 cy])) w:=λw=>by
      rw [Axq lo d w (by omega) (by omega),<- hsm,<- hcy]
      rfl
     have hNN:=hN.out
     have SZ:=Lib.hid (A1d Ag d hi lo sm cy hNN OY hhi hlo hsm hcy)
     have hz1:(hi:Int)<=9:=by have:=SZ.out.2.2.1;omega
     have hz2:(cy:Int)<=1:=by have:=SZ.out.2.2.2;omega
     have hz0:(0:Int)<=hi:=by omega
     have hz3:(0:Int)<=cy:=by omega
     clear hhi hlo hsm hcy hNN
     go_wp2_with fail
     refine (Aa0.out _).mono ?_
     rintro e w1 ⟨rfl,rfl⟩
     go_wp2_with fail
     ·go_roundw
      case rel =>
       have hc:hi+cy≠0:=by
        have h:((hi:Int)+cy != 0)=true:=by assumption
        rw [bne_iff_ne] at h;omega
       have ha:=SZ.out.2.1 hc
       have hN':=hN.out
       refine ⟨pos+k,18446744073709551615,?_,?_,?_,?_,rfl⟩
       ·have:=HW.out.2.2 OI.out;rw [HLL.out] at this;omega
       ·unfold Hid;omega
       ·congr 1;omega
       ·unfold Hid
        rw [hG.out,HS.out,HDN.out,List.drop_drop]
        have h9':(decide (d > 9) && !false)=false:=by simp;exact H9.out
        simp only [h9',Bool.false_eq_true,if_false]
        rw [Nat.min_eq_right (by omega)]
      case measure =>
       have hk1:=HW.out.1
       have e:∀ q,(w.iter A1 q).iterPos w.heap.size=q:=λq=>World.iterPos_iter w A1 q
       simp only [e]
       omega
     ·go_roundw
      case rel =>
       have hc:hi+cy=0:=by
        have h:((hi:Int)+cy != 0)=false:=by assumption
        simp at h;omega
       have ha:=SZ.out.1 hc
       have hN':=hN.out
       refine ⟨pos+k,sm,?_,?_,?_,?_,rfl⟩
       ·have:=HW.out.2.2 OI.out;rw [HLL.out] at this;omega
       ·unfold Hid;omega
       ·congr 1;omega
       ·unfold Hid
        rw [hG.out,HS.out,HDN.out,List.drop_drop]
        have h9':(decide (d > 9) && !false)=false:=by simp;exact H9.out
        simp only [h9',Bool.false_eq_true,if_false]
        rw [Nat.min_eq_left (by omega),<- ha.1]
      case measure =>
       have hk1:=HW.out.1
       have e:∀ q,(w.iter A1 q).iterPos w.heap.size=q:=λq=>World.iterPos_iter w A1 q
       simp only [e]
       omega
    ·have h9z:(9:Int) < d:=by omega
     have H9:=Lib.hid h9
     clear h9
     go_wp2_with fail
     refine ⟨rfl,?_⟩
     have hres:EU false 0 (bs A1)=none:=by
      rw [hG.out,HS.out,HDN.out]
      have h9':(decide (d > 9) && !false)=true:=by simp;have:=H9.out;omega
      simp only [h9',if_true]
     rw [hres]
     exact ⟨rfl,(Below.refl _ w).alloc (Nat.le_refl _) _⟩
  ·have hnx:=λty=>run_next_end (P:=Tryz.prog) w A1 pos ty (by rw [HM.out];exact hlt)
   have Ws:∀ ty,(Instr.next (.pointer (some ⟨w.heap.size,0,none⟩)) true ty).run Tryz.prog (w.iter A1 pos)=.ok (.tuple #[.bool false]) (w.iter A1 pos):=hnx
   clear hnx
   go_wp2_with fail
   go_ret2
   have hres:EU false 0 (bs A1)=some Ag:=by
    rw [hG.out,List.drop_of_length_le (by rw [B0,HM.out];omega),Z1]
   rw [hres]
   exact ⟨rfl,(Below.refl _ w).alloc (Nat.le_refl _) _⟩
theorem Acz (s:Ah) (p:Bs) (w:World):Calls Tryz.prog 147 #[.string s,.string (str p)] w λe w' =>
  e=.returned (.tuple #[.string (str (if p.isPrefixOf (bs s) then (bs s).drop p.length else bs s)),.bool (p.isPrefixOf (bs s))])/\w=w' :=
 (Tryz.strings_CutPrefix s (str p) w).mono λ_ _ ⟨h1,h2⟩=>⟨by rw [h1];simp [str,bs,Lib.trimPrefix,Lib.hasPrefix],h2.symm⟩
def JK (l:Bs):Option Nat :=
 let rest:=if Eb l then l.drop 2 else l
 if rest=[] then none else EU (Eb l) 0 rest
theorem size_any (s:Ah) (w:World) (hs:s.size<=1000000):Calls Tryz.prog 137 #[.string s] w (Tl (JK (bs s)) (Eb (bs s)) w):=by
 have h0:=λw=>Acz s [48,120] w
 have h1:=λw=>Acz s [48,88] w
 have hl:=B0 s
 have hstr:∀ l:Bs,l.length<=1000000->(str l).size<=1000000:=λl h=>by rw [Gv];exact h
 by_cases p0:[48,120].isPrefixOf (bs s)=true
 ·have hh:Eb (bs s)=true:=by simp [Eb,p0]
  simp only [p0,if_true] at h0
  unfold JK
  rw [hh]
  simp only [if_true]
  by_cases hn:(bs s).drop 2=[]
  ·rw [if_pos hn]
   have hn':(str ((bs s).drop [48,120].length)).toList.isEmpty=true:=by rw [Lib.toList_data];show ((str ((bs s).drop 2)).data.toList).isEmpty=true;rw [hn];rfl
   have H0:=Lib.hid h0
   generalize str ((bs s).drop [48,120].length)=A at *
   clear h0 h1 hh p0 hl hstr hn
   go_enter Tryz.func137,Tryz.ntmps137
   go_wp2_with fail
   refine (H0.out _).mono ?_
   rintro e w' ⟨rfl,rfl⟩
   go_wp2_with fail
   exact ⟨rfl,rfl,Below.refl _ _⟩
  ·rw [if_neg hn]
   have:=B1k s (str ((bs s).drop 2)) w hs (hstr _ (by rw [BA];omega)) (by rw [F3];exact hn) h0
   rw [F3] at this
   exact this
 ·have p0':[48,120].isPrefixOf (bs s)=false:=Bool.eq_false_iff.2 p0
  simp only [p0',Bool.false_eq_true,if_false] at h0
  by_cases p1:[48,88].isPrefixOf (bs s)=true
  ·have hh:Eb (bs s)=true:=by simp [Eb,p1]
   simp only [p1,if_true] at h1
   unfold JK
   rw [hh]
   simp only [if_true]
   by_cases hn:(bs s).drop 2=[]
   ·rw [if_pos hn]
    have hn':(str ((bs s).drop [48,88].length)).toList.isEmpty=true:=by rw [Lib.toList_data];show ((str ((bs s).drop 2)).data.toList).isEmpty=true;rw [hn];rfl
    have H0:=Lib.hid h0
    have H1:=Lib.hid h1
    generalize str ((bs s).drop [48,88].length)=A at *
    generalize str (bs s)=A0 at *
    clear h0 h1 hh p0 p0' p1 hl hstr hn
    go_enter Tryz.func137,Tryz.ntmps137
    go_wp2_with fail
    refine (H0.out _).mono ?_
    rintro e w' ⟨rfl,rfl⟩
    go_wp2_with fail
    refine (H1.out _).mono ?_
    rintro e w' ⟨rfl,rfl⟩
    go_wp2_with fail
    exact ⟨rfl,rfl,Below.refl _ _⟩
   ·rw [if_neg hn]
    have:=B1l s (str (bs s)) (str ((bs s).drop 2)) w hs (hstr _ (by rw [BA];omega)) (by rw [F3];exact hn) h0 h1
    rw [F3] at this
    exact this
  ·have p1':[48,88].isPrefixOf (bs s)=false:=Bool.eq_false_iff.2 p1
   simp only [p1',Bool.false_eq_true,if_false] at h1
   have hh:Eb (bs s)=false:=by simp [Eb,p0',p1']
   unfold JK
   rw [hh]
   simp only [Bool.false_eq_true,if_false]
   by_cases hn:bs s=[]
   ·rw [if_pos hn]
    have hn':(str (bs s)).toList.isEmpty=true:=by rw [Lib.toList_data];show ((str (bs s)).data.toList).isEmpty=true;rw [hn];rfl
    have H0:=Lib.hid h0
    have H1:=Lib.hid h1
    generalize str (bs s)=A0 at *
    clear h0 h1 hh p0 p0' p1 p1' hl hstr hn
    go_enter Tryz.func137,Tryz.ntmps137
    go_wp2_with fail
    refine (H0.out _).mono ?_
    rintro e w' ⟨rfl,rfl⟩
    go_wp2_with fail
    refine (H1.out _).mono ?_
    rintro e w' ⟨rfl,rfl⟩
    go_wp2_with fail
    exact ⟨rfl,rfl,Below.refl _ _⟩
   ·rw [if_neg hn]
    have:=B1i s (str (bs s)) (str (bs s)) w hs (hstr _ (by omega)) (by rw [F3];exact hn) h0 h1
    rw [F3] at this
    exact this
theorem catch_panicking (p q:Nat) (x y c:Int) (w:World) (hp:w.cell? ⟨p,0,none⟩=some (.int .i64 x)) (hq:w.cell? ⟨q,0,none⟩=some (.int .i64 y)) (fp:w.frozen? ⟨p,0,none⟩=false) (fq:w.frozen? ⟨q,0,none⟩=false) (hne:¬ p=q) :
  CallsD Tryz.prog 136 #[.pointer (some ⟨p,0,none⟩),.pointer (some ⟨q,0,none⟩)] (.panicking [{ v:=.iface 151 (.agg #[.int .i64 c]),recovered:=false }]) w λe u' w' =>
   e=.returned (.tuple #[])/\u'=.panicking [{ v:=.iface 151 (.agg #[.int .i64 c]),recovered:=true }]/\((w.setCell ⟨p,0,none⟩ (.int .i64 0)).setCell ⟨q,0,none⟩ (.int .i64 c)).drew=w':=by
 refine callsD_of_wpS Tryz.func136 rfl λc₀ cs hu=>?_
 have hta:∀ w,(Instr.typeAssert (.iface 151 (.agg #[.int .i64 c])) 20 151 false).run Tryz.prog w=.ok (.agg #[.int .i64 c]) w:=λw=>by kernel_rfl
 have hfa:∀ w,(Instr.field 151 (.agg #[.int .i64 c]) 0).run Tryz.prog w=.ok (.int .i64 c) w:=λw=>by kernel_rfl
 apply wpS_seq
 apply wpS_region
 simp [wpOpsS,go_sem,recoverD,hu,Tryz.ntmps136,Exit.thenS,Array.replicate_succ]
 refine wpS_of_wp ?_
 go_wp2
 refine Jm [(0,0),(1,0),(2,0)] (λ_=>True) (by kernel_rfl) (by kernel_rfl) (λ_ _ d _ _ h=>by cases d <;> exact h) (by trivial) ?_
 simp only [Dz,List.filterMap_cons,List.filterMap_nil,List.getElem?_toArray,List.getElem?_cons_zero,List.getElem?_cons_succ,Option.map_some,List.drop_succ_cons,List.drop_zero,AH,AX]
 iterate 3 (refine DJ (by rfl) (λwq=>by go_simp;with_reducible rfl) ?_;simp only [Act.put,List.setIfInBounds_toArray,List.set_cons_zero,List.set_cons_succ])
 refine JC ?_
 go_wp2
 simp [bodyPostS,results,Tryz.results136]
theorem catch_idle (p q:Value) (w:World) :
  CallsD Tryz.prog 136 #[p,q] .returning w λe u' w'=>e=.returned (.tuple #[])/\u'=.returning/\w=w':=by
 refine callsD_of_wpS Tryz.func136 rfl λc₀ cs hu=>?_
 apply wpS_seq
 apply wpS_region
 simp [wpOpsS,go_sem,recoverD,hu,Tryz.ntmps136,Exit.thenS,Array.replicate_succ]
 refine wpS_of_wp ?_
 go_wp2
 cases c₀
 simp_all [bodyPostS,results,Tryz.results136]
theorem Pz (w:World) (b:Nat) (v:Value) (e:TypeId) (h:w.heap[b]? = some (.cells #[v] e)):w.cell? ⟨b,0,none⟩=some v/\w.frozen? ⟨b,0,none⟩=false :=
 ⟨by rw [Fl h];rfl,IN h 0⟩
set_option maxHeartbeats 1000000 in
theorem Bz0 (s:Ah) (neg:Bool) (w:World) (hs:s.size<=1000000) (hn:JK (bs s)=none) :
  Calls Tryz.prog 122 #[.string s,.bool neg] w λe w'=>e=.returned (.tuple #[.int .i64 0,.int .i64 4])/\Below w.heap.size w w':=by
 have hsz:=λw=>size_any s w hs
 rw [hn] at hsz
 have HS:=Lib.hid hsz
 clear hsz
 have hmf:∀ (fn:Fn) (first cap:Array Value) (w:World),(Instr.makeFunc fn first cap).run Tryz.prog w=.ok (.func fn first cap) w:=λ_ _ _ _=>rfl
 go_enter_defers Tryz.func122,Tryz.ntmps122
 go_wp2_with fail
 refine (HS.out _).mono ?_
 rintro e w1 ⟨he,hb1⟩
 simp only [] at he
 subst he
 have hbn:=JS hb1 (by simp;omega) (L8 (JT w (.cells #[.int .i64 0] 3)))
 have hbe:=JS hb1 (by simp) (JT (w.alloc (.cells #[.int .i64 0] 3)) (.cells #[.int .i64 0] 22))
 simp only [World.size_alloc] at hbe
 have hB:=hb1.mono (B':=w.heap.size) (by simp;omega)
 have HB:=Lib.hid ((((Below.refl w.heap.size w).alloc (Nat.le_refl _) _).alloc (by simp) _).trans hB)
 obtain ⟨cn,fn⟩:=Pz w1 _ _ _ hbn
 obtain ⟨ce,fe⟩:=Pz w1 _ _ _ hbe
 clear hb1 hB hbn hbe
 go_wp2_with fail
 refine leaves_cons (f:=136) (args:=#[.pointer (some ⟨w.heap.size,0,none⟩),.pointer (some ⟨w.heap.size+1,0,none⟩)]) (by simp) (by simp [go_sem]) ?_
 refine (catch_panicking w.heap.size (w.heap.size+1) 0 0 _ w1 cn ce fn fe (by omega)).mono ?_
 rintro e u' w'' ⟨rfl,rfl,rfl⟩
 have hne:¬ w.heap.size+1=w.heap.size:=by omega
 have hn0:((w1.setCell ⟨w.heap.size,0,none⟩ (.int .i64 0)).setCell ⟨w.heap.size+1,0,none⟩ (.int .i64 4)).drew.cell? ⟨w.heap.size,0,none⟩=some (.int .i64 0):=by
  rw [World.cell?_drew,World.cell?_setCell_other _ _ _ _ (by simp),World.cell?_setCell_same _ _ _ cn]
 have hn1:((w1.setCell ⟨w.heap.size,0,none⟩ (.int .i64 0)).setCell ⟨w.heap.size+1,0,none⟩ (.int .i64 4)).drew.cell? ⟨w.heap.size+1,0,none⟩=some (.int .i64 4):=by
  rw [World.cell?_drew]
  exact World.cell?_setCell_same _ _ _ ((World.cell?_setCell_other _ _ _ _ (by simp)).trans ce)
 have HBf:=((HB.out.setCell (p:=⟨w.heap.size,0,none⟩) (Nat.le_refl _) (.int .i64 0)).setCell (p:=⟨w.heap.size+1,0,none⟩) (by simp) (.int .i64 4)).drew
 generalize ((w1.setCell ⟨w.heap.size,0,none⟩ (.int .i64 0)).setCell ⟨w.heap.size+1,0,none⟩ (.int .i64 4)).drew=w9 at *
 simp [Leaves,settle,results,Tryz.results122,go_sem,hn0,hn1]
 exact HBf
theorem Z0 (hex:Bool):∀ (f n:Nat) (l:Bs) (u:Nat),n < 18446744073709551616->JJ hex f n l=some u->u < 18446744073709551616
 | 0,n,l,u,hn,h=>by simp only [JJ,Option.some.injEq] at h;omega
 | f+1,n,[],u,hn,h=>by simp only [JJ,Option.some.injEq] at h;omega
 | f+1,n,b :: t,u,hn,h=>by
  simp only [JJ] at h;split at h;cases h;split at h;cases h;refine Z0 hex f _ _ u ?_ h;split <;> omega
theorem B1h {l:Bs} {u:Nat} (h:JK l=some u):u < 18446744073709551616:=by
 unfold JK at h;simp only [] at h;generalize (if Eb l then l.drop 2 else l)=rest at h;by_cases hr:rest=[];rw [if_pos hr] at h;cases h;rw [if_neg hr] at h;exact Z0 _ _ 0 _ _ (by omega) h
theorem Bxc (l:Bs):Es l=match JK l with | none=>(0,4) | some u=>if !Eb l && decide (u > 9223372036854775807) then (0,14) else (sint u,0):=by
 unfold Es JK;simp only [];generalize (if Eb l then l.drop 2 else l)=rest;by_cases h:rest=[]
 ·simp [h]
 ·simp only [h,if_false]
  all_goals (cases EU (Eb l) 0 rest <;> rfl)
theorem B1d (u:Nat) (h:u < 18446744073709551616):wrap64 (u:Int)=sint u:=by
 unfold wrap64 sint;split <;> omega
set_option maxHeartbeats 1000000 in
theorem Bzx (s:Ah) (w:World) (u:Nat) (hs:s.size<=1000000) (hn:JK (bs s)=some u) (hx:Eb (bs s)=false) (hu:9223372036854775807 < u) :
  Calls Tryz.prog 122 #[.string s,.bool false] w λe w'=>e=.returned (.tuple #[.int .i64 0,.int .i64 14])/\Below w.heap.size w w':=by
 have hsz:=λw=>size_any s w hs
 rw [hn,hx] at hsz
 have HS:=Lib.hid hsz
 have huz:(9223372036854775807:Int) < u:=by omega
 clear hsz hn hx hu
 have hmf:∀ (fn:Fn) (first cap:Array Value) (w:World),(Instr.makeFunc fn first cap).run Tryz.prog w=.ok (.func fn first cap) w:=λ_ _ _ _=>rfl
 go_enter_defers Tryz.func122,Tryz.ntmps122
 go_wp2_with fail
 refine (HS.out _).mono ?_
 rintro e w1 ⟨he,hb1⟩
 simp only [] at he
 subst he
 have hbn:=JS hb1 (by simp;omega) (L8 (JT w (.cells #[.int .i64 0] 3)))
 have hbe:=JS hb1 (by simp) (JT (w.alloc (.cells #[.int .i64 0] 3)) (.cells #[.int .i64 0] 22))
 simp only [World.size_alloc] at hbe
 have hB:=hb1.mono (B':=w.heap.size) (by simp;omega)
 have HB:=Lib.hid ((((Below.refl w.heap.size w).alloc (Nat.le_refl _) _).alloc (by simp) _).trans hB)
 obtain ⟨cn,fn⟩:=Pz w1 _ _ _ hbn
 obtain ⟨ce,fe⟩:=Pz w1 _ _ _ hbe
 clear hb1 hB hbn hbe
 go_wp2_with fail
 refine leaves_cons (f:=136) (args:=#[.pointer (some ⟨w.heap.size,0,none⟩),.pointer (some ⟨w.heap.size+1,0,none⟩)]) (by simp) (by simp [go_sem]) ?_
 refine (catch_panicking w.heap.size (w.heap.size+1) 0 0 _ w1 cn ce fn fe (by omega)).mono ?_
 rintro e u' w'' ⟨rfl,rfl,rfl⟩
 have hne:¬ w.heap.size+1=w.heap.size:=by omega
 have hn0:((w1.setCell ⟨w.heap.size,0,none⟩ (.int .i64 0)).setCell ⟨w.heap.size+1,0,none⟩ (.int .i64 14)).drew.cell? ⟨w.heap.size,0,none⟩=some (.int .i64 0):=by
  rw [World.cell?_drew,World.cell?_setCell_other _ _ _ _ (by simp),World.cell?_setCell_same _ _ _ cn]
 have hn1:((w1.setCell ⟨w.heap.size,0,none⟩ (.int .i64 0)).setCell ⟨w.heap.size+1,0,none⟩ (.int .i64 14)).drew.cell? ⟨w.heap.size+1,0,none⟩=some (.int .i64 14):=by
  rw [World.cell?_drew]
  exact World.cell?_setCell_same _ _ _ ((World.cell?_setCell_other _ _ _ _ (by simp)).trans ce)
 have HBf:=((HB.out.setCell (p:=⟨w.heap.size,0,none⟩) (Nat.le_refl _) (.int .i64 0)).setCell (p:=⟨w.heap.size+1,0,none⟩) (by simp) (.int .i64 14)).drew
 generalize ((w1.setCell ⟨w.heap.size,0,none⟩ (.int .i64 0)).setCell ⟨w.heap.size+1,0,none⟩ (.int .i64 14)).drew=w9 at *
 simp [Leaves,settle,results,Tryz.results122,go_sem,hn0,hn1]
 exact HBf
set_option maxHeartbeats 1000000 in
theorem Ao2 (s:Ah) (w:World) (u:Nat) (hs:s.size<=1000000) (hn:JK (bs s)=some u) (hu:Eb (bs s)=true\/u<=9223372036854775807) :
  Calls Tryz.prog 122 #[.string s,.bool false] w λe w'=>e=.returned (.tuple #[.int .i64 (sint u),.int .i64 0])/\Below w.heap.size w w':=by
 have hsz:=λw=>size_any s w hs
 have Xd:=B1h hn
 rw [hn] at hsz
 obtain ⟨X,hX⟩:∃ X,sint u=X:=⟨_,rfl⟩
 rw [hX]
 have hcv:∀ w,(convert 104 3 (.int .u64 u)).run Tryz.prog w=.ok (.int .i64 X) w:=λw=>by
  rw [<- hX,<- B1d u Xd];simp [go_sem,IntKind.wrap_i64,wrap64]
 have HH:Hid (Eb (bs s)=true\/u<=9223372036854775807):=hu
 have HS:=Lib.hid hsz
 clear hsz hu hn
 generalize Eb (bs s)=hx at *
 have Cfk:=Lib.hid Xd
 clear Xd hX
 have hmf:∀ (fn:Fn) (first cap:Array Value) (w:World),(Instr.makeFunc fn first cap).run Tryz.prog w=.ok (.func fn first cap) w:=λ_ _ _ _=>rfl
 go_enter_defers Tryz.func122,Tryz.ntmps122
 go_wp2_with fail
 refine (HS.out _).mono ?_
 rintro e w1 ⟨he,hb1⟩
 simp only [] at he
 subst he
 have hbn:=JS hb1 (by simp;omega) (L8 (JT w (.cells #[.int .i64 0] 3)))
 have hbe:=JS hb1 (by simp) (JT (w.alloc (.cells #[.int .i64 0] 3)) (.cells #[.int .i64 0] 22))
 simp only [World.size_alloc] at hbe
 have hB:=hb1.mono (B':=w.heap.size) (by simp;omega)
 have HB:=Lib.hid ((((Below.refl w.heap.size w).alloc (Nat.le_refl _) _).alloc (by simp) _).trans hB)
 obtain ⟨cn,fn⟩:=Pz w1 _ _ _ hbn
 obtain ⟨ce,fe⟩:=Pz w1 _ _ _ hbe
 clear hb1 hB hbn hbe
 have Aa3:Hid (hx=true\/(hx=false/\¬ (9223372036854775807:Int) < u)):=by
  unfold Hid at *
  cases hx
  ·exact .inr ⟨rfl,by have:=HH;simp at this;omega⟩
  ·exact .inl rfl
 rcases Aa3.out with rfl | ⟨rfl,huz⟩
 all_goals
  clear Aa3 HH HS
  go_wp2_with fail
  refine leaves_cons (f:=136) (args:=#[.pointer (some ⟨w.heap.size,0,none⟩),.pointer (some ⟨w.heap.size+1,0,none⟩)]) (by simp) (by simp [go_sem]) ?_
  refine (catch_idle _ _ _).mono ?_
  rintro e u' w'' ⟨rfl,rfl,rfl⟩
  have hn0:(((w1.setCell ⟨w.heap.size,0,none⟩ (.int .i64 X)).setCell ⟨w.heap.size,0,none⟩ (.int .i64 X)).setCell ⟨w.heap.size+1,0,none⟩ (.int .i64 0)).cell? ⟨w.heap.size,0,none⟩=some (.int .i64 X):=by
   rw [World.cell?_setCell_other _ _ _ _ (by simp)]
   exact World.cell?_setCell_same _ _ _ (World.cell?_setCell_same _ _ _ cn)
  have hn1:(((w1.setCell ⟨w.heap.size,0,none⟩ (.int .i64 X)).setCell ⟨w.heap.size,0,none⟩ (.int .i64 X)).setCell ⟨w.heap.size+1,0,none⟩ (.int .i64 0)).cell? ⟨w.heap.size+1,0,none⟩=some (.int .i64 0) :=
   World.cell?_setCell_same _ _ _ ((World.cell?_setCell_other _ _ _ _ (by simp)).trans ((World.cell?_setCell_other _ _ _ _ (by simp)).trans ce))
  have HBf:=((HB.out.setCell (p:=⟨w.heap.size,0,none⟩) (Nat.le_refl _) (.int .i64 X)).setCell (p:=⟨w.heap.size,0,none⟩) (Nat.le_refl _) (.int .i64 X)).setCell (p:=⟨w.heap.size+1,0,none⟩) (by simp) (.int .i64 0)
  generalize ((w1.setCell ⟨w.heap.size,0,none⟩ (.int .i64 X)).setCell ⟨w.heap.size,0,none⟩ (.int .i64 X)).setCell ⟨w.heap.size+1,0,none⟩ (.int .i64 0)=w9 at *
  simp [Leaves,settle,results,Tryz.results122,go_sem,hn0,hn1]
  exact HBf
theorem Bzw (s:Ah) (w:World) (hs:s.size<=1000000) :
  Calls Tryz.prog 122 #[.string s,.bool false] w λe w'=>e=.returned (.tuple #[.int .i64 (Es (bs s)).1,.int .i64 (Es (bs s)).2])/\Below w.heap.size w w':=by
 rw [Bxc];cases hn:JK (bs s) with
 | none=>exact Bz0 s false w hs hn
 | some u =>
  simp only [];by_cases hx:Eb (bs s)=true;rw [hx];exact Ao2 s w u hs hn (.inl hx);have hx':Eb (bs s)=false:=Bool.eq_false_iff.2 hx;rw [hx'];by_cases hu:9223372036854775807 < u;simp only [Bool.not_false,Bool.true_and,decide_eq_true (show u > 9223372036854775807 from hu),if_true];exact Bzx s w u hs hn hx' hu;simp only [Bool.not_false,Bool.true_and,decide_eq_false (show ¬ u > 9223372036854775807 from hu),Bool.false_eq_true,if_false];exact Ao2 s w u hs hn (.inr (by omega))
theorem parse_any (s:Ah) (w:World) (hs:s.size<=1000000) :
  Calls Tryz.prog 101 #[.string s] w λe w'=>e=.returned (.tuple #[.int .i64 (Es (bs s)).1,.int .i64 (Es (bs s)).2])/\Below w.heap.size w w':=by
 have hr:=λw=>Bzw s w hs
 generalize Es (bs s)=R at *
 have HR:=Lib.hid hr
 clear hr
 go_enter Tryz.func101,Tryz.ntmps101
 go_wp2_with fail
 refine (HR.out _).mono ?_
 rintro e w' ⟨rfl,hb⟩
 go_wp2_with fail
 go_ret2
 exact ⟨rfl,hb⟩
theorem sizeBuilder:(Tryz.prog.info? 44).map (·.size)=some 2:=by kernel_rfl
theorem liesBuilder:liesAt Tryz.prog Tryz.prog.depth 44 (2 / Tryz.prog.cellsOf 44) 0 44 1=true:=by kernel_rfl
theorem infoByte:(Tryz.prog.info? 5).map (λi=>(i.zero,i.size,i.bytes))=some (some (.int .u8 0),1,1):=by kernel_rfl
set_option maxHeartbeats 1000000 in
theorem A0l (b:Nat) (w:World) (h0:w.cell? ⟨b,0,none⟩=some (.pointer (some ⟨b,0,none⟩))) :
  Calls Tryz.prog 90 #[.pointer (some ⟨b,0,none⟩)] w λe w'=>e=.returned (.tuple #[])/\w=w':=by
 obtain ⟨j,hj,_⟩:=Option.map_eq_some_iff.1 sizeBuilder
 go_enter Tryz.func90,Tryz.ntmps90
 go_wp2
 rw [Lib.run_neq_ptr_same w _ Tryz.underlying41 hj]
 go_wp2
 go_end0
 exact ⟨rfl,rfl⟩
set_option maxHeartbeats 1000000 in
theorem A0k (b:Nat) (w:World) (h0:w.cell? ⟨b,0,none⟩=some (.pointer none)) (hsh:w.shape? b=some (44,2)) (hfz:w.frozen? ⟨b,0,none⟩=false) :
  Calls Tryz.prog 90 #[.pointer (some ⟨b,0,none⟩)] w λe w'=>e=.returned (.tuple #[])/\w.setCell ⟨b,0,none⟩ (.pointer (some ⟨b,0,none⟩))=w':=by
 obtain ⟨j,hj,hjs⟩:=Option.map_eq_some_iff.1 sizeBuilder
 go_enter Tryz.func90,Tryz.ntmps90
 go_wp2
 rw [Lib.run_to_unsafe w ⟨b,0,none⟩ Tryz.underlying41 Tryz.underlying132 hj (by rw [hjs];decide) hsh (Nat.zero_lt_succ 1)]
 simp only [Result.andThen]
 rw [Oper.upon_value]
 go_wp2
 rw [run_callFunc_extern Tryz.func114 (by kernel_rfl) (by kernel_rfl) (by kernel_rfl) (e:=Extern.AbiNoEscape.same) (by kernel_rfl)]
 rw [Lib.run_noEscape]
 simp only [Result.andThen]
 rw [Oper.upon_value]
 go_wp2
 rw [Lib.run_from_unsafe w ⟨b,0,none⟩ Tryz.underlying132 Tryz.underlying41 hj hsh liesBuilder]
 simp only [Result.andThen]
 rw [Oper.upon_value]
 go_wp2
 go_end0
 exact ⟨rfl,rfl⟩
abbrev Bd (B b:Nat) (l:Bs) (w:World):Prop:=Lib.IsBuilder 44 5 B b (Lib.byteCells l) w
theorem K_ (l:Bs):(Lib.byteCells l).length=l.length:=by simp [Lib.byteCells]
def Used (B b:Nat) (l:Bs) (w:World):Prop:=Lib.BuilderAt 44 5 B b (.pointer (some ⟨b,0,none⟩)) (Lib.byteCells l) w
theorem check_any (B b:Nat) (l:Bs) (w:World) (h:Bd B b l w) :
  Calls Tryz.prog 90 #[.pointer (some ⟨b,0,none⟩)] w λe w'=>e=.returned (.tuple #[])/\Used B b l w'/\Below B w w'/\w'.heap.size=w.heap.size:=by
 rcases h with h | h;obtain ⟨hB,v,hb,ho,hne⟩:=h;refine (A0k b w (by rw [Fl hb];rfl) (by simp [World.shape?,hb]) (IN hb 0)).mono ?_;rintro e w' ⟨rfl,rfl⟩;refine ⟨rfl,⟨hB,v,by rw [OP hb];rfl,⟨ho.1,?_⟩,hne⟩,(Below.refl B w).setCell hB _,by simp⟩;rcases ho.2 with h | ⟨g,cap,cur,hv,hg,hh,r⟩;exact .inl h;refine .inr ⟨g,cap,cur,hv,hg,L9 hh (λe=>?_) _,r⟩;subst hv;exact hne (congrArg some e.symm);have h':=h;obtain ⟨hB,v,hb,ho,hne⟩:=h;refine (A0l b w (by rw [Fl hb];rfl)).mono ?_;rintro e w' ⟨rfl,rfl⟩;exact ⟨rfl,h',Below.refl _ _,rfl⟩
set_option maxHeartbeats 1000000 in
theorem Qc (B b:Nat) (l:Bs) (c:UInt8) (w:World) (h:Bd B b l w) (hlen:l.length<=1000000) (hBw:B<=w.heap.size) :
    Calls Tryz.prog 55 #[.pointer (some ⟨b,0,none⟩),.int .u8 c.toNat] w λe w'=>e=.returned .nilIface/\Bd B b (l++[c]) w'/\Below B w w':=by
  have HC:=Lib.hid (check_any B b l w h)
  clear h
  obtain ⟨i0,hi,hz0,hz1,hz2⟩:=info_parts infoByte
  go_enter Tryz.func55,Tryz.ntmps55
  go_wp2_with fail
  refine HC.out.mono ?_
  rintro e w1 ⟨rfl,hu,hb1,hsz⟩
  obtain ⟨hB,v,hblk,hown,hne⟩:=hu
  have hlt:=Jr hblk
  have c1:w1.cell? ⟨b,1,none⟩=some v:=by rw [Fl hblk];rfl
  have HB:=Lib.hid hblk
  have HB1:=Lib.hid hb1
  have hB1:B<=w1.heap.size:=by have:=hb1.size;omega
  have HSZ:=Lib.hid hsz
  clear hblk hb1 hsz
  go_wp2_with (
    (at_builtin
     refine wpList_append_own _ rfl _ _ 42 rfl B 5 i0 _ 1 1 Tryz.underlying42 hi hz0 hz1 hz2 rfl (by decide) v _ _ rfl (hown.alloc _) ⟨w1.heap.size,0,none⟩ 1 1 [.int .u8 c.toNat] rfl rfl ?_ ?_ ?_ ?_ ?_ ?_
     · exact Bqc w1 _ _
     · simp [Value.oneCell']
     · rw [K_];unfold maxLen;omega
     · rw [K_];omega
     · simp;omega
     intro v2 w2 hown2 N3 _
     have HB2:=Lib.hid (Vx N3 hne (L8 HB.out))
     rw [K_] at hown2
     obtain ⟨g2,cap2,hv2,hg2,hne2⟩:=Y5 hown2 HB2.out (by decide)
     rw [hv2]
     have d1:w2.cell? ⟨b,1,none⟩=some v:=by rw [Fl HB2.out];rfl
     have e1:=IN HB2.out 1
     have HO:=Lib.hid hown2
     have HG:=Lib.hid N3
     have HV:=Lib.hid hv2
     clear hown2 N3 hv2 c1))
  go_ret
  have hb2:=((Below.refl B w1).alloc hB1 _).grown HG.out (by simp;omega) (λk hk=>(hown.lt k hk).1)
  refine ⟨rfl,.inr ⟨hB,.slice (some ⟨g2,0,none⟩) (l.length+1) cap2,?_,?_,λh=>hne2 (Ap h)⟩,HB1.out.trans (hb2.setCell hB _)⟩
  · rw [OP HB2.out 1 _];simp
  · have ho:=HO.out
    rw [HV.out] at ho
    have e:Lib.byteCells (l++[c])=Lib.byteCells l++[.int .u8 c.toNat]:=by simp [Lib.byteCells]
    rw [K_,Bv,List.length_singleton,e]
    refine ⟨ho.1,?_⟩
    rcases ho.2 with ⟨h,_⟩ | ⟨g,cap,cur,hv,hg,hh,r⟩
    · cases h
    · cases hv
      exact .inr ⟨g2,cap2,cur,rfl,hg,L9 hh (λh=>hne2 h.symm) _,r⟩
set_option maxHeartbeats 1000000 in
theorem B3o (B b:Nat) (l:Bs) (s:Ah) (w:World) (h:Bd B b l w) (hlen:l.length<=1000000000) (hs:s.size<=1000000000) (hBw:B<=w.heap.size) :
    Calls Tryz.prog 56 #[.pointer (some ⟨b,0,none⟩),.string s] w λe w'=>e=.returned (.tuple #[.int .i64 s.size,.nilIface])/\Bd B b (l++bs s) w'/\Below B w w':=by
  have HC:=Lib.hid (check_any B b l w h)
  clear h
  obtain ⟨i0,hi,hz0,hz1,hz2⟩:=info_parts infoByte
  go_enter Tryz.func56,Tryz.ntmps56
  go_wp2_with fail
  refine HC.out.mono ?_
  rintro e w1 ⟨rfl,hu,hb1,hsz⟩
  obtain ⟨hB,v,hblk,hown,hne⟩:=hu
  have hlt:=Jr hblk
  have c1:w1.cell? ⟨b,1,none⟩=some v:=by rw [Fl hblk];rfl
  have HB:=Lib.hid hblk
  have HB1:=Lib.hid hb1
  have hB1:B<=w1.heap.size:=by have:=hb1.size;omega
  have HSZ:=Lib.hid hsz
  clear hblk hb1 hsz
  go_wp2_with (
    (at_builtin
     refine Lib.wpList_append_own_string _ rfl _ _ 42 9 rfl B 5 i0 Tryz.underlying42 Tryz.underlying9 hi hz0 hz1 hz2 _ _ _ rfl hown s rfl ?_ ?_ ?_ ?_
     · rw [K_];unfold maxLen;omega
     · rw [K_];omega
     · exact hB1
     intro v2 w2 hown2 N3 _
     have HB2:=Lib.hid (Vx N3 hne HB.out)
     rw [K_] at hown2
     obtain ⟨ao,n2,cap2,hv2,hne2⟩:∃ ao n' cap,v2=.slice ao n' cap/\v2.ownBlock≠some b:=by
       rcases hown2.2 with ⟨hv,_⟩ | ⟨g,cap,cur,hv,hg,hh,_⟩
       · exact ⟨_,_,_,hv,by rw [hv];simp [Value.ownBlock]⟩
       · refine ⟨_,_,_,hv,?_⟩
         rw [hv]
         intro h
         have hgb:g=b:=Ap h
         subst hgb
         have:=HB2.out
         rw [hh] at this
         cases this
     rw [hv2]
     have d1:w2.cell? ⟨b,1,none⟩=some v:=by rw [Fl HB2.out];rfl
     have e1:=IN HB2.out 1
     have HO:=Lib.hid hown2
     have HG:=Lib.hid N3
     have HV:=Lib.hid hv2
     have HNE:=Lib.hid hne2
     clear hown2 N3 hv2 c1 hne2))
  go_ret2
  have hb2:=(Below.refl B w1).grown HG.out hB1 (λk hk=>(hown.lt k hk).1)
  have hne2:=HNE.out
  rw [HV.out] at hne2
  refine ⟨rfl,.inr ⟨hB,.slice ao n2 cap2,?_,?_,hne2⟩,HB1.out.trans (hb2.setCell hB _)⟩
  · rw [OP HB2.out 1 _];simp
  · have ho:=HO.out
    rw [HV.out] at ho
    have e:Lib.byteCells (l++bs s)=Lib.byteCells l++Lib.strCells s:=by simp [Lib.byteCells,Lib.strCells,bs]
    rw [K_,Bv,B0,e]
    refine ⟨ho.1,?_⟩
    rcases ho.2 with h | ⟨g,cap,cur,hv,hg,hh,r⟩
    · exact .inl h
    · refine .inr ⟨g,cap,cur,hv,hg,L9 hh (λh=>?_) _,r⟩
      rw [hv] at hne2
      exact hne2 (congrArg some h.symm)
theorem Vw (B b:Nat) (l:Bs) (w:World) (h:Bd B b l w) :
  Calls Tryz.prog 54 #[.pointer (some ⟨b,0,none⟩)] w λe w'=>e=.returned (.int .i64 l.length)/\w=w':=by
 obtain ⟨p,hB,v,hblk,hown,hne⟩:∃ p,B<=b/\∃ v,w.heap[b]? = some (.cells #[p,v] 44)/\w.ownsRow B 5 1 v (Lib.byteCells l).length (Lib.byteCells l)/\v.ownBlock≠some b:=by
  rcases h with ⟨h1,v,h2⟩ | ⟨h1,v,h2⟩
  ·exact ⟨_,h1,v,h2⟩
  ·exact ⟨_,h1,v,h2⟩
 obtain ⟨ao,cap,hv⟩:∃ ao cap,v=W ao l cap:=by
  rcases hown.2 with ⟨hv,h0⟩ | ⟨g,cap,cur,hv,_⟩
  ·rw [K_] at h0;obtain rfl:=List.eq_nil_of_length_eq_zero h0;exact ⟨_,_,hv⟩
  ·rw [K_] at hv;exact ⟨_,_,hv⟩
 have c1:w.cell? ⟨b,1,none⟩=some (W ao l cap):=by rw [Fl hblk,<- hv];rfl
 clear hblk hown hne hv h
 go_enter Tryz.func54,Tryz.ntmps54
 go_wp2
 go_ret
 exact ⟨rfl,rfl⟩
theorem Sm (s:Ah) (p:Bs) (w:World):Calls Tryz.prog 67 #[.string s,.string (str p)] w λe w'=>e=.returned (.bool (p.isPrefixOf (bs s)))/\w=w' :=
 (Tryz.strings_HasPrefix s (str p) w).mono λ_ _ ⟨h1,h2⟩=>⟨by rw [h1];simp [str,bs,Lib.hasPrefix],h2.symm⟩
def OF (r:OD) (at_ i C bb:Nat) (acc:Bs) (w:World) (e:Ending) (w':World):Prop :=
 match r with
 | .ended=>e=IS 4 at_/\Below C w w'
 | .Fh=>e=IS 4 i/\Below C w w'
 | .ok b n=>e=.returned (.int .i64 (i+n:Nat))/\Bd C bb (acc++b) w'/\Below C w w'
theorem Ts (R:Ah) (c:UInt8) (t:Bs) (h:bs R=c :: t):∃ h0:0 < R.size,R[0]'h0=c:=by
 have h0:0 < R.size:=by rw [<- B0,h];simp
 refine ⟨h0,?_⟩;have:=drop_at R 0 h0;rw [List.drop_zero,h] at this;exact (List.cons.inj this).1.symm
theorem RV (R:Ah) (c:UInt8) (t:Bs) (h:bs R=c :: t):R.toList.isEmpty=false:=by
 rw [Lib.toList_data];show (bs R).isEmpty=false;rw [h];rfl
section
variable (sb at_ i C bb:Nat) (src:Ah) (acc:Bs) (w:World)
set_option maxHeartbeats 1000000 in
theorem A4c (hb:sb < w.heap.size) (c0:w.cell? ⟨sb,0,none⟩=some (.string src)) (c1:w.cell? ⟨sb,1,none⟩=some (.int .i64 at_)) (hi:i+1=src.size) (hs:src.size<=1000000) :
  Calls Tryz.prog 102 #[.pointer (some ⟨sb,0,none⟩),.pointer (some ⟨bb,0,none⟩),.int .i64 i] w (OF .ended at_ i C bb acc w):=by
 have h1:(i:Int)+1<=src.size:=by omega
 have h2:((i:Int)+1).toNat=i+1:=by omega
 have he:(src.extract (i+1) src.size).toList.isEmpty=true:=by
  rw [Lib.toList_data];show (bs _).isEmpty=true;rw [GQ,List.drop_of_length_le (by rw [B0];omega)];rfl
 clear hi
 go_enter Tryz.func102,Tryz.ntmps102
 go_wp2_with fail
 refine (M1 _ _ _).mono ?_
 rintro e w' ⟨rfl,rfl⟩
 go_wp2_with fail
 exact ⟨rfl,rfl,by first | exact Below.refl _ _ | exact (Below.refl _ _).drew⟩
set_option maxHeartbeats 1000000 in
theorem A4d (c:UInt8) (t:Bs) (hb:sb < w.heap.size) (c0:w.cell? ⟨sb,0,none⟩=some (.string src)) (hi:i+1<=src.size) (hs:src.size<=1000000)
  (hl:(bs src).drop (i+1)=c :: t) (hp:Fy c≠0) (hB:Bd C bb acc w) (hacc:acc.length<=1000000) (hC:C<=w.heap.size) :
  Calls Tryz.prog 102 #[.pointer (some ⟨sb,0,none⟩),.pointer (some ⟨bb,0,none⟩),.int .i64 i] w (OF (.ok [Fy c] 2) at_ i C bb acc w):=by
 have h1:(i:Int)+1<=src.size:=by omega
 have h2:((i:Int)+1).toNat=i+1:=by omega
 have h3:(i:Int)<=1000000:=by omega
 have hR:=GQ src (i+1)
 rw [hl] at hR
 have HR0:=Lib.hid (Ts _ c t hR)
 have he:=RV _ c t hR
 have h0:=HR0.out.1
 have hc0:=HR0.out.2
 have hpi:((Fy c).toNat:Int)≠0:=λh=>hp (by apply UInt8.toNat_inj.1;rw [show (0:UInt8).toNat=0 from rfl];omega)
 have hpn:(((Fy c).toNat:Int) != 0)=true:=by rw [bne_iff_ne];exact hpi
 have hq:0 < src.size - (i+1):=by have:=congrArg List.length hl;rw [BA,B0] at this;simp at this;omega
 have HP:=Lib.hid (YC c)
 have HW:=Lib.hid (Qc C bb acc (Fy c) w hB hacc hC)
 clear hl hR hp hpi hB
 go_enter Tryz.func102,Tryz.ntmps102
 go_wp2_with fail
 refine (HP.out _).mono ?_
 rintro e w' ⟨rfl,rfl⟩
 go_wp2_with fail
 refine (HP.out _).mono ?_
 rintro e w' ⟨rfl,rfl⟩
 go_wp2_with fail
 refine HW.out.mono ?_
 rintro e w' ⟨rfl,hb',hbel⟩
 go_wp2_with fail
 go_ret
 exact ⟨Lr (by omega),hb',hbel⟩
theorem B2j (s:Ah) (c:UInt8) (t:Bs) (h:bs s=c :: t):bs (s.extract 1 s.size)=t:=by
 rw [GQ,h];rfl
theorem YD (c:UInt8) (h:Fy c=0) (w:World):Calls Tryz.prog 123 #[.int .u8 c.toNat] w λe w'=>e=.returned (.int .u8 0)/\w=w':=by
 have:=YC c w;rw [h] at this;exact this
theorem Tx (n:Nat) (h:n < 4294967296) (w:World):(convert 3 5 (.int .i64 n)).run Tryz.prog w=.ok (.int .u8 (UInt8.ofNat n).toNat) w:=by
 have e:IntKind.u8.wrap (n:Int)=((UInt8.ofNat n).toNat:Int):=by unfold IntKind.wrap;simp [IntKind.bits,IntKind.signed]
 rw [<- e]
 simp [go_sem]
set_option maxHeartbeats 1000000 in
theorem A4h (t:Bs) (hb:sb < w.heap.size) (c0:w.cell? ⟨sb,0,none⟩=some (.string src)) (hi:i+1<=src.size) (hs:src.size<=1000000)
  (hl:(bs src).drop (i+1)=120 :: t) (hB:Bd C bb acc w) (hacc:acc.length<=1000000) (hC:C<=w.heap.size) :
  Calls Tryz.prog 102 #[.pointer (some ⟨sb,0,none⟩),.pointer (some ⟨bb,0,none⟩),.int .i64 i] w
   (OF (if (BD 2 t 0 0).2 < 2 then .Fh else .ok [UInt8.ofNat (BD 2 t 0 0).1] 4) at_ i C bb acc w):=by
 obtain ⟨c,hcc⟩:∃ c:UInt8,c=120:=⟨_,rfl⟩
 rw [<- hcc] at hl
 have h1:(i:Int)+1<=src.size:=by omega
 have h2:((i:Int)+1).toNat=i+1:=by omega
 have h3:(i:Int)<=1000000:=by omega
 have hR:=GQ src (i+1)
 rw [hl] at hR
 have HR0:=Lib.hid (Ts _ c t hR)
 have he:=RV _ c t hR
 have h0:=HR0.out.1
 have hc0:=HR0.out.2
 have hq:0 < src.size - (i+1):=by have:=congrArg List.length hl;rw [BA,B0] at this;simp at this;omega
 have HP:=Lib.hid (λw=>YC c w)
 clear HP
 have HP:=Lib.hid (λw=>YD c (by rw [hcc];rfl) w)
 have hcz:c.toNat=120:=by rw [hcc];rfl
 rw [hcz] at HP
 have hc1:((src.extract (i+1) src.size)[0]'h0).toNat=120:=by rw [hc0,hcz]
 clear hc0
 have hts:(src.extract (i+1) src.size).size=src.size - (i+1):=by rw [<- B0,GQ,BA,B0]
 have HH:=Lib.hid (λw=>Agb ((src.extract (i+1) src.size).extract 1 (src.extract (i+1) src.size).size) 2 w (by omega) (by rw [<- B0,GQ,BA,B0,hts];omega))
 rw [B2j _ c t hR,hts] at HH
 have hle:=N1 2 t 0 0 (by omega)
 have hpw:=YE (show (BD 2 t 0 0).2<=8 by omega)
 have hn1:(BD 2 t 0 0).1 < 4294967296:=by omega
 clear hle hpw
 generalize BD 2 t 0 0=Af at *
 obtain ⟨Ag,K⟩:=Af
 clear hl hR hcc hts
 have hcv:=λw=>Tx Ag hn1 w
 have HW:=Lib.hid (Qc C bb acc (UInt8.ofNat Ag) w hB hacc hC)
 clear hB hn1
 generalize UInt8.ofNat Ag=U at *
 by_cases hK:K < 2
 ·have hkz:(K:Int) < 2:=by omega
  simp only [hK,if_true]
  clear hK
  go_enter Tryz.func102,Tryz.ntmps102
  go_wp2_with fail
  refine (HP.out _).mono ?_
  rintro e w' ⟨rfl,rfl⟩
  go_wp2_with fail
  refine (HH.out _).mono ?_
  rintro e w' ⟨rfl,rfl⟩
  go_wp2_with fail
  refine (Ly _ _ _).mono ?_
  rintro e w' ⟨rfl,rfl⟩
  go_wp2_with fail
  exact ⟨rfl,rfl,by first | exact Below.refl _ _ | exact (Below.refl _ _).drew⟩
 ·have hkz:¬ (K:Int) < 2:=by omega
  simp only [hK,if_false]
  clear hK
  go_enter Tryz.func102,Tryz.ntmps102
  go_wp2_with fail
  refine (HP.out _).mono ?_
  rintro e w' ⟨rfl,rfl⟩
  go_wp2_with fail
  refine (HH.out _).mono ?_
  rintro e w' ⟨rfl,rfl⟩
  go_wp2_with fail
  refine HW.out.mono ?_
  rintro e w' ⟨rfl,hb',hbel⟩
  go_wp2_with fail
  go_ret
  exact ⟨Lr (by omega),hb',hbel⟩
end
theorem Bas (l:Bs) (c:UInt8):[c].isPrefixOf l=decide (l.head? = some c):=by
 cases l with
 | nil=>simp
 | cons b t =>
  show (c == b && ([]:Bs).isPrefixOf t)=decide (some b=some c);have:([]:Bs).isPrefixOf t=true:=by cases t <;> rfl
  rw [this,Bool.and_true];by_cases h:b=c;subst h;simp;simp [h];exact λe=>h e.symm
theorem VC (r:Int):(Utf8.encode r).size<=4:=by
 unfold Utf8.encode;simp only [];generalize (if Utf8.valid r then r.toNat else Utf8.runeError)=c;by_cases h1:c < 128;rw [if_pos h1];show 1<=4;omega;rw [if_neg h1];by_cases h2:c < 2048;rw [if_pos h2];show 2<=4;omega;rw [if_neg h2];by_cases h3:c < 65536;rw [if_pos h3];show 3<=4;omega;rw [if_neg h3];show 4<=4;omega
section
variable (sb at_ i C bb:Nat) (src:Ah) (acc:Bs) (w:World)
set_option maxHeartbeats 1000000 in
theorem A4e (t:Bs) (hb:sb < w.heap.size) (c0:w.cell? ⟨sb,0,none⟩=some (.string src)) (hi:i+1<=src.size) (hs:src.size<=1000000)
  (hl:(bs src).drop (i+1)=117 :: 123 :: t) (hB:Bd C bb acc w) (hacc:acc.length<=1000000) (hC:C<=w.heap.size) :
  Calls Tryz.prog 102 #[.pointer (some ⟨sb,0,none⟩),.pointer (some ⟨bb,0,none⟩),.int .i64 i] w
   (OF (if (BD 8 t 0 0).2=0\/Utf8.valid (BD 8 t 0 0).1=false\/(t.drop (BD 8 t 0 0).2).head?≠some 125 then .Fh
    else .ok (bs (Utf8.encode (BD 8 t 0 0).1)) (4+(BD 8 t 0 0).2)) at_ i C bb acc w):=by
 have h1:(i:Int)+1<=src.size:=by omega
 have h2:((i:Int)+1).toNat=i+1:=by omega
 have h3:(i:Int)<=1000000:=by omega
 have hR:=GQ src (i+1)
 rw [hl] at hR
 have HR0:=Lib.hid (Ts _ _ _ hR)
 have he:=RV _ _ _ hR
 have h0:=HR0.out.1
 have hc0:=HR0.out.2
 have hlen:=congrArg List.length hl
 rw [BA,B0] at hlen
 simp only [AH] at hlen
 have hq:0 < src.size - (i+1):=by omega
 have hq2:2<=src.size - (i+1):=by omega
 have HP:=Lib.hid (λw=>YD 117 (by rfl) w)
 have hc1:((src.extract (i+1) src.size)[0]'h0).toNat=117:=by rw [hc0];rfl
 clear hc0
 have hts:(src.extract (i+1) src.size).size=src.size - (i+1):=by rw [<- B0,GQ,BA,B0]
 have hb2:bs ((src.extract (i+1) src.size).extract 2 (src.size - (i+1)))=t:=by
  rw [<- hts,GQ,hR];rfl
 have HPU:=Lib.hid (λw=>Sm (src.extract (i+1) src.size) [117,123] w)
 rw [hR,show ([117,123]:Bs).isPrefixOf (117 :: 123 :: t)=true by simp] at HPU
 have HH:=Lib.hid (λw=>Agb ((src.extract (i+1) src.size).extract 2 (src.size - (i+1))) 8 w (by omega) (by rw [<- B0,hb2];omega))
 rw [hb2] at HH
 have hle:=N1 8 t 0 0 (by omega)
 have hpw:=YE (show (BD 8 t 0 0).2<=8 by omega)
 have hn1:(BD 8 t 0 0).1<=4294967296:=by omega
 have hk1:(BD 8 t 0 0).2<=t.length:=by omega
 have hk8:(BD 8 t 0 0).2<=8:=by omega
 have hb3:bs ((src.extract (i+1) src.size).extract (2+(BD 8 t 0 0).2) (src.size - (i+1)))=t.drop (BD 8 t 0 0).2:=by
  rw [<- hts,GQ,hR,Nat.add_comm 2];rfl
 have HPB:=Lib.hid (λw=>Sm ((src.extract (i+1) src.size).extract (2+(BD 8 t 0 0).2) (src.size - (i+1))) [125] w)
 rw [hb3,Bas] at HPB
 clear hle hpw hb3 hb2
 generalize BD 8 t 0 0=Af at *
 obtain ⟨Ag,K⟩:=Af
 simp only at hn1 hk1 hk8 HPB HH ⊢
 have HE:=Lib.hid (λw=>A3k Ag w (by omega) (by omega))
 have HW:=Lib.hid (λw hB' hC'=>B3o C bb acc (Utf8.encode Ag) w hB' (by omega) (by have:=VC Ag;omega) hC')
 have HBD:=Lib.hid hB
 have Agi:(K:Int)+2<=((src.size - (i+1):Nat):Int):=by omega
 have Ce8:(K:Int)<=8:=by omega
 clear hl hR hlen hB hk1 hts
 by_cases hK:K=0
 ·have hK':((K:Int) == 0)=true:=by rw [beq_iff_eq];omega
  rw [if_pos (.inl hK)]
  clear hK
  obtain ⟨T,E,HE⟩:∃ T E,Hid (∀ w,Calls Tryz.prog 126 #[.int .i64 Ag] w λe w'=>e=.returned (.tuple #[.string T,.int .i64 E])/\w=w'):=⟨_,_,HE⟩
  go_enter Tryz.func102,Tryz.ntmps102
  go_wp2_with fail
  refine (HP.out _).mono ?_
  rintro e w' ⟨rfl,rfl⟩
  go_wp2_with fail
  refine (HPU.out _).mono ?_
  rintro e w' ⟨rfl,rfl⟩
  go_wp2_with fail
  refine (HH.out _).mono ?_
  rintro e w' ⟨rfl,rfl⟩
  go_wp2_with fail
  refine (HE.out _).mono ?_
  rintro e w' ⟨rfl,rfl⟩
  go_wp2_with fail
  refine (Ly _ _ _).mono ?_
  rintro e w' ⟨rfl,rfl⟩
  go_wp2_with fail
  exact ⟨rfl,rfl,by first | exact Below.refl _ _ | exact (Below.refl _ _).drew⟩
 ·have hK':((K:Int) == 0)=false:=by rw [beq_eq_false_iff_ne];omega
  cases hv:Utf8.valid (Ag:Int) with
  | false =>
   rw [if_pos (.inr (.inl rfl))]
   rw [hv] at HE
   simp only [Bool.false_eq_true,if_false] at HE
   clear hv
   go_enter Tryz.func102,Tryz.ntmps102
   go_wp2_with fail
   refine (HP.out _).mono ?_
   rintro e w' ⟨rfl,rfl⟩
   go_wp2_with fail
   refine (HPU.out _).mono ?_
   rintro e w' ⟨rfl,rfl⟩
   go_wp2_with fail
   refine (HH.out _).mono ?_
   rintro e w' ⟨rfl,rfl⟩
   go_wp2_with fail
   refine (HE.out _).mono ?_
   rintro e w' ⟨rfl,rfl⟩
   go_wp2_with fail
   refine (Ly _ _ _).mono ?_
   rintro e w' ⟨rfl,rfl⟩
   go_wp2_with fail
   exact ⟨rfl,rfl,by first | exact Below.refl _ _ | exact (Below.refl _ _).drew⟩
  | true =>
   rw [hv] at HE
   simp only [if_true] at HE
   clear hv
   by_cases hd:(t.drop K).head? = some 125
   ·rw [decide_eq_true hd] at HPB
    rw [if_neg (by rintro (h | h | h);exact hK h;cases h;exact h hd)]
    clear hd
    go_enter Tryz.func102,Tryz.ntmps102
    go_wp2_with fail
    refine (HP.out _).mono ?_
    rintro e w' ⟨rfl,rfl⟩
    go_wp2_with fail
    refine (HPU.out _).mono ?_
    rintro e w' ⟨rfl,rfl⟩
    go_wp2_with fail
    refine (HH.out _).mono ?_
    rintro e w' ⟨rfl,rfl⟩
    go_wp2_with fail
    refine (HE.out _).mono ?_
    rintro e w' ⟨rfl,rfl⟩
    go_wp2_with fail
    refine (HPB.out _).mono ?_
    rintro e w' ⟨rfl,rfl⟩
    go_wp2_with fail
    refine (HW.out _ HBD.out hC).mono ?_
    rintro e w' ⟨rfl,hb',hbel⟩
    go_wp2_with fail
    go_ret
    exact ⟨Lr (by omega),hb',hbel⟩
   ·rw [decide_eq_false hd] at HPB
    rw [if_pos (.inr (.inr hd))]
    clear hd
    go_enter Tryz.func102,Tryz.ntmps102
    go_wp2_with fail
    refine (HP.out _).mono ?_
    rintro e w' ⟨rfl,rfl⟩
    go_wp2_with fail
    refine (HPU.out _).mono ?_
    rintro e w' ⟨rfl,rfl⟩
    go_wp2_with fail
    refine (HH.out _).mono ?_
    rintro e w' ⟨rfl,rfl⟩
    go_wp2_with fail
    refine (HE.out _).mono ?_
    rintro e w' ⟨rfl,rfl⟩
    go_wp2_with fail
    refine (HPB.out _).mono ?_
    rintro e w' ⟨rfl,rfl⟩
    go_wp2_with fail
    refine (Ly _ _ _).mono ?_
    rintro e w' ⟨rfl,rfl⟩
    go_wp2_with fail
    exact ⟨rfl,rfl,by first | exact Below.refl _ _ | exact (Below.refl _ _).drew⟩
end
theorem T3 (m:Nat) (b:UInt8) (t:Bs) (n k:Nat):D6 (m+1) (b :: t) n k=if 48<=b.toNat/\b.toNat<=57 then D6 m t (10 * n+(b.toNat - 48)) (k+1) else (n,k):=rfl
def La (r:Nat×Nat):OD:=if r.2=0\/r.1 > 255 then .Fh else .ok [UInt8.ofNat r.1] (1+r.2)
section
variable (sb at_ i C bb:Nat) (src:Ah) (acc:Bs) (w:World)
set_option maxHeartbeats 4000000 in
theorem A4b (c:UInt8) (t:Bs) (hb:sb < w.heap.size) (c0:w.cell? ⟨sb,0,none⟩=some (.string src)) (hi:i+1<=src.size) (hs:src.size<=1000000)
  (hl:(bs src).drop (i+1)=c :: t) (hp0:Fy c=0) (hx:c≠120) (hu:¬ (c=117/\t.head? = some 123)) (hB:Bd C bb acc w) (hacc:acc.length<=1000000) (hC:C<=w.heap.size) :
  Calls Tryz.prog 102 #[.pointer (some ⟨sb,0,none⟩),.pointer (some ⟨bb,0,none⟩),.int .i64 i] w
   (OF (La (D6 3 (c :: t) 0 0)) at_ i C bb acc w):=by
 have h1:(i:Int)+1<=src.size:=by omega
 have h2:((i:Int)+1).toNat=i+1:=by omega
 have h3:(i:Int)<=1000000:=by omega
 have hR:=GQ src (i+1)
 rw [hl] at hR
 have HR0:=Lib.hid (Ts _ _ _ hR)
 have he:=RV _ _ _ hR
 have h0:=HR0.out.1
 have hc0:=HR0.out.2
 have hlen:=congrArg List.length hl
 rw [BA,B0] at hlen
 simp only [AH] at hlen
 have hq:0 < src.size - (i+1):=by omega
 have HP:=Lib.hid (λw=>YD c hp0 w)
 have hx1:((c.toNat:Int) == 120)=false:=by
  rw [beq_eq_false_iff_ne];intro h;exact hx (by apply UInt8.toNat_inj.1;rw [show (120:UInt8).toNat=120 from rfl];omega)
 have HPU:=Lib.hid (λw=>Sm (src.extract (i+1) src.size) [117,123] w)
 have hpf:([117,123]:Bs).isPrefixOf (c :: t)=false:=by
  rw [Bool.eq_false_iff]
  intro h
  rw [List.isPrefixOf_iff_prefix] at h
  obtain ⟨r,hr⟩:=h
  simp only [List.cons_append,List.nil_append,List.cons.injEq] at hr
  exact hu ⟨hr.1.symm,by rw [<- hr.2];rfl⟩
 rw [hR,hpf] at HPU
 have hts:(src.extract (i+1) src.size).size=src.size - (i+1):=by rw [<- B0,GQ,BA,B0]
 obtain ⟨R9,hR9⟩:∃ R9,D6 3 (c :: t) 0 0=R9:=⟨_,rfl⟩
 rw [hR9]
 have HR9:=Lib.hid hR9
 have HRR:=Lib.hid hR
 have HBD:=Lib.hid hB
 have HTS:=Lib.hid hts
 clear hl hR hlen hB hR9 hpf hp0 hx hts hu
 go_enter Tryz.func102,Tryz.ntmps102
 go_wp2_with fail
 refine (HP.out _).mono ?_
 rintro e w' ⟨rfl,rfl⟩
 go_wp2_with fail
 refine (HPU.out _).mono ?_
 rintro e w' ⟨rfl,rfl⟩
 go_wp2_with fail
 have HSB:=Lib.hid (show (src.extract (i+1) src.size).size<=1000000 by rw [HTS.out];omega)
 clear he h0 hc0 hq hx1 HR0 HP HPU HTS h1 h2 c0 hb
 generalize src.extract (i+1) src.size=R at *
 have hsb:=HSB.out
 go_loop [14,15] (λn k=>∃ Ag K:Nat,K<=3/\K<=R.size/\Ag < 10 ^ K/\n=.int .i64 Ag/\k=.int .i64 K/\Hid (D6 (3 - K) ((bs R).drop K) Ag K=R9)) (λ_ k=>3 - (intOf k).toNat)
 case atStart=>exact ⟨0,0,by omega,by omega,by simp,rfl,rfl,by unfold Hid;rw [HRR.out];exact HR9.out⟩
 case round =>
  obtain ⟨Ag,K,hK,hKs,hN,rfl,rfl,hG⟩:=hrel
  have hN2:Ag < 1000:=by have:=Nat.pow_le_pow_right (n:=10) (by omega) hK;omega
  have HN:=Lib.hid hN
  clear hN
  by_cases hlt:K < 3
  ·by_cases hls:K < R.size
   ·have hdg:=λw=>UH.2 (R[K]).toNat w (by have:=(R[K]).toNat_lt;omega)
    obtain ⟨Ae,hD⟩:∃ Ae,FO (R[K]).toNat=Ae:=⟨_,rfl⟩
    rw [hD] at hdg
    have HDG:=Lib.hid hdg
    have HD:=Lib.hid hD
    clear hdg hD
    have hblt:=(R[K]).toNat_lt
    have hbw:wrap32 ((R[K]).toNat:Int)=(R[K]).toNat:=by unfold wrap32;omega
    have Agi:(K:Int) < 3:=by omega
    have Ba6:(K:Int) < R.size:=by omega
    cases Ae with
    | true =>
     have hdig:48<=(R[K]).toNat/\(R[K]).toNat<=57:=by have:=HD.out;simpa [FO] using this
     have hd1:(48:Int)<=(R[K]).toNat:=by omega
     have hd2:((R[K]).toNat:Int)<=57:=by omega
     have hbw2:IntKind.u8.wrap (((R[K]).toNat:Int) - 48)=(R[K]).toNat - 48:=by unfold IntKind.wrap;simp [IntKind.bits,IntKind.signed];omega
     clear hdig
     go_wp2_with fail
     refine (HDG.out _).mono ?_
     rintro e w' ⟨rfl,rfl⟩
     go_wp2_with fail
     go_round
     case rel =>
      have hN':=HN.out
      refine ⟨10 * Ag+((R[K]).toNat - 48),K+1,by omega,by omega,by rw [Nat.pow_succ];omega,?_,by go_num,?_⟩
      ·congr 1;omega
      ·have h:=hG
       unfold Hid at h ⊢
       rw [show 3 - K=(3 - (K+1))+1 by omega,drop_at R K hls,T3,if_pos ⟨by omega,by omega⟩] at h
       exact h
     case measure=>simp [intOf];omega
    | false =>
     have hdig:¬ (48<=(R[K]).toNat/\(R[K]).toNat<=57):=by have:=HD.out;simpa [FO] using this
     have hres:(Ag,K)=R9:=by
      have h:=hG
      unfold Hid at h
      rw [show 3 - K=(3 - K - 1)+1 by omega,drop_at R K hls,T3,if_neg hdig] at h
      exact h
     clear hdig hblt
     have hcv:=λw=>Tx Ag (by omega) w
     have HW:=Lib.hid (Qc C bb acc (UInt8.ofNat Ag) w HBD.out hacc hC)
     by_cases hk0:K=0
     ·have hkz:((K:Int) == 0)=true:=by rw [beq_iff_eq];omega
      have hd:La R9=.Fh:=by rw [<- hres];exact if_pos (.inl hk0)
      have HDD:=Lib.hid hd
      clear hd hk0 hres
      go_wp2_with fail
      refine (HDG.out _).mono ?_
      rintro e w' ⟨rfl,rfl⟩
      go_wp2_with fail
      skip
      refine (Ly _ _ _).mono ?_
      rintro e w' ⟨rfl,rfl⟩
      go_wp2_with fail
      refine ⟨rfl,?_⟩
      rw [HDD.out]
      exact ⟨rfl,by first | exact Below.refl _ _ | exact (Below.refl _ _).drew⟩
     ·have hkz:((K:Int) == 0)=false:=by rw [beq_eq_false_iff_ne];omega
      by_cases hn5:Ag > 255
      ·have hnz:(255:Int) < Ag:=by omega
       have hd:La R9=.Fh:=by rw [<- hres];exact if_pos (.inr hn5)
       have HDD:=Lib.hid hd
       clear hd hk0 hres hn5
       go_wp2_with fail
       refine (HDG.out _).mono ?_
       rintro e w' ⟨rfl,rfl⟩
       go_wp2_with fail
       skip
       refine (Ly _ _ _).mono ?_
       rintro e w' ⟨rfl,rfl⟩
       go_wp2_with fail
       refine ⟨rfl,?_⟩
       rw [HDD.out]
       exact ⟨rfl,by first | exact Below.refl _ _ | exact (Below.refl _ _).drew⟩
      ·have hnz:¬ (255:Int) < Ag:=by omega
       have hd:La R9=.ok [UInt8.ofNat Ag] (1+K):=by rw [<- hres];exact if_neg (by simp only;omega)
       have HDD:=Lib.hid hd
       clear hd hk0 hres hn5
       generalize UInt8.ofNat Ag=U at *
       go_wp2_with fail
       refine (HDG.out _).mono ?_
       rintro e w' ⟨rfl,rfl⟩
       go_wp2_with fail
       skip
       refine HW.out.mono ?_
       rintro e w' ⟨rfl,hb',hbel⟩
       go_wp2_with fail
       go_ret
       rw [HDD.out]
       exact ⟨Lr (by omega),hb',hbel⟩
   ·have Ba6:¬ (K:Int) < R.size:=by omega
    have hres:(Ag,K)=R9:=by
     have h:=hG
     unfold Hid at h
     rw [show 3 - K=(3 - K - 1)+1 by omega,List.drop_of_length_le (by rw [B0];omega)] at h
     exact h
    have hcv:=λw=>Tx Ag (by omega) w
    have HW:=Lib.hid (Qc C bb acc (UInt8.ofNat Ag) w HBD.out hacc hC)
    by_cases hk0:K=0
    ·have hkz:((K:Int) == 0)=true:=by rw [beq_iff_eq];omega
     have hd:La R9=.Fh:=by rw [<- hres];exact if_pos (.inl hk0)
     have HDD:=Lib.hid hd
     clear hd hk0 hres
     skip
     go_wp2_with fail
     skip
     refine (Ly _ _ _).mono ?_
     rintro e w' ⟨rfl,rfl⟩
     go_wp2_with fail
     refine ⟨rfl,?_⟩
     rw [HDD.out]
     exact ⟨rfl,by first | exact Below.refl _ _ | exact (Below.refl _ _).drew⟩
    ·have hkz:((K:Int) == 0)=false:=by rw [beq_eq_false_iff_ne];omega
     by_cases hn5:Ag > 255
     ·have hnz:(255:Int) < Ag:=by omega
      have hd:La R9=.Fh:=by rw [<- hres];exact if_pos (.inr hn5)
      have HDD:=Lib.hid hd
      clear hd hk0 hres hn5
      skip
      go_wp2_with fail
      skip
      refine (Ly _ _ _).mono ?_
      rintro e w' ⟨rfl,rfl⟩
      go_wp2_with fail
      refine ⟨rfl,?_⟩
      rw [HDD.out]
      exact ⟨rfl,by first | exact Below.refl _ _ | exact (Below.refl _ _).drew⟩
     ·have hnz:¬ (255:Int) < Ag:=by omega
      have hd:La R9=.ok [UInt8.ofNat Ag] (1+K):=by rw [<- hres];exact if_neg (by simp only;omega)
      have HDD:=Lib.hid hd
      clear hd hk0 hres hn5
      generalize UInt8.ofNat Ag=U at *
      skip
      go_wp2_with fail
      skip
      refine HW.out.mono ?_
      rintro e w' ⟨rfl,hb',hbel⟩
      go_wp2_with fail
      go_ret
      rw [HDD.out]
      exact ⟨Lr (by omega),hb',hbel⟩
  ·have Agi:¬ (K:Int) < 3:=by omega
   have hres:(Ag,K)=R9:=by
    have h:=hG
    unfold Hid at h
    rw [show 3 - K=0 by omega] at h
    exact h
   have hcv:=λw=>Tx Ag (by omega) w
   have HW:=Lib.hid (Qc C bb acc (UInt8.ofNat Ag) w HBD.out hacc hC)
   by_cases hk0:K=0
   ·have hkz:((K:Int) == 0)=true:=by rw [beq_iff_eq];omega
    have hd:La R9=.Fh:=by rw [<- hres];exact if_pos (.inl hk0)
    have HDD:=Lib.hid hd
    clear hd hk0 hres
    skip
    go_wp2_with fail
    skip
    refine (Ly _ _ _).mono ?_
    rintro e w' ⟨rfl,rfl⟩
    go_wp2_with fail
    refine ⟨rfl,?_⟩
    rw [HDD.out]
    exact ⟨rfl,by first | exact Below.refl _ _ | exact (Below.refl _ _).drew⟩
   ·have hkz:((K:Int) == 0)=false:=by rw [beq_eq_false_iff_ne];omega
    by_cases hn5:Ag > 255
    ·have hnz:(255:Int) < Ag:=by omega
     have hd:La R9=.Fh:=by rw [<- hres];exact if_pos (.inr hn5)
     have HDD:=Lib.hid hd
     clear hd hk0 hres hn5
     skip
     go_wp2_with fail
     skip
     refine (Ly _ _ _).mono ?_
     rintro e w' ⟨rfl,rfl⟩
     go_wp2_with fail
     refine ⟨rfl,?_⟩
     rw [HDD.out]
     exact ⟨rfl,by first | exact Below.refl _ _ | exact (Below.refl _ _).drew⟩
    ·have hnz:¬ (255:Int) < Ag:=by omega
     have hd:La R9=.ok [UInt8.ofNat Ag] (1+K):=by rw [<- hres];exact if_neg (by simp only;omega)
     have HDD:=Lib.hid hd
     clear hd hk0 hres hn5
     generalize UInt8.ofNat Ag=U at *
     skip
     go_wp2_with fail
     skip
     refine HW.out.mono ?_
     rintro e w' ⟨rfl,hb',hbel⟩
     go_wp2_with fail
     go_ret
     rw [HDD.out]
     exact ⟨Lr (by omega),hb',hbel⟩
theorem OT (c:UInt8) (t:Bs):Ig (c :: t) =
  if Fy c≠0 then .ok [Fy c] 2
  else if c=120 then
   if (BD 2 t 0 0).2 < 2 then .Fh else .ok [UInt8.ofNat (BD 2 t 0 0).1] 4
  else if c=117/\t.head? = some 123 then
   if (BD 8 t.tail 0 0).2=0\/Utf8.valid (BD 8 t.tail 0 0).1=false\/(t.tail.drop (BD 8 t.tail 0 0).2).head?≠some 125 then .Fh
   else .ok (bs (Utf8.encode (BD 8 t.tail 0 0).1)) (4+(BD 8 t.tail 0 0).2)
  else if (D6 3 (c :: t) 0 0).2=0\/(D6 3 (c :: t) 0 0).1 > 255 then .Fh
  else .ok [UInt8.ofNat (D6 3 (c :: t) 0 0).1] (1+(D6 3 (c :: t) 0 0).2):=rfl
theorem A3z (hb:sb < w.heap.size) (c0:w.cell? ⟨sb,0,none⟩=some (.string src)) (c1:w.cell? ⟨sb,1,none⟩=some (.int .i64 at_)) (hi:i+1<=src.size) (hs:src.size<=1000000)
  (hB:Bd C bb acc w) (hacc:acc.length<=1000000) (hC:C<=w.heap.size) :
  Calls Tryz.prog 102 #[.pointer (some ⟨sb,0,none⟩),.pointer (some ⟨bb,0,none⟩),.int .i64 i] w
   (OF (Ig ((bs src).drop (i+1))) at_ i C bb acc w):=by
 cases hl:(bs src).drop (i+1) with
 | nil =>
  have:=congrArg List.length hl;rw [BA,B0] at this;simp at this;exact A4c sb at_ i C bb src acc w hb c0 c1 (by omega) hs
 | cons c t =>
  rw [OT];by_cases hp:Fy c≠0;rw [if_pos hp];exact A4d sb at_ i C bb src acc w c t hb c0 hi hs hl hp hB hacc hC;rw [if_neg hp];have hp0:Fy c=0:=Classical.not_not.1 hp;by_cases hx:c=120;rw [if_pos hx];subst hx;exact A4h sb at_ i C bb src acc w t hb c0 hi hs hl hB hacc hC;rw [if_neg hx];by_cases hu:c=117/\t.head? = some 123;rw [if_pos hu];obtain ⟨rfl,ht⟩:=hu;cases t with
  | nil=>cases ht
  | cons d t =>
   simp only [List.head?_cons,Option.some.injEq] at ht;subst ht;exact A4e sb at_ i C bb src acc w t hb c0 hi hs hl hB hacc hC
  rw [if_neg hu];exact A4b sb at_ i C bb src acc w c t hb c0 hi hs hl hp0 hx hu hB hacc hC
end
theorem V9:∀ (m:Nat) (l:Bs) (n k:Nat),k<=(D6 m l n k).2/\(D6 m l n k).2<=k+l.length
 | 0,_,_,_=>by simp [D6]
 | _+1,[],_,_=>by simp [D6]
 | m+1,b :: t,n,k=>by
  rw [T3];split;have:=V9 m t (10 * n+(b.toNat - 48)) (k+1);simp only [AH];omega;simp
theorem VD {l:Bs} {b:Bs} {n:Nat} (h:Ig l=.ok b n):2<=n/\n<=l.length+1/\b.length<=n:=by
 cases l with
 | nil=>cases h
 | cons c t =>
  rw [OT] at h;simp only [AH];by_cases hp:Fy c≠0;rw [if_pos hp] at h;cases h;simp;rw [if_neg hp] at h;by_cases hx:c=120;rw [if_pos hx] at h;by_cases h2:(BD 2 t 0 0).2 < 2;rw [if_pos h2] at h;cases h;rw [if_neg h2] at h;have:=N1 2 t 0 0 (by omega);cases h;simp;omega;rw [if_neg hx] at h;by_cases hu:c=117/\t.head? = some 123;rw [if_pos hu] at h;by_cases h3:(BD 8 t.tail 0 0).2=0\/Utf8.valid (BD 8 t.tail 0 0).1=false\/(t.tail.drop (BD 8 t.tail 0 0).2).head?≠some 125;rw [if_pos h3] at h;cases h;rw [if_neg h3] at h;have:=N1 8 t.tail 0 0 (by omega);simp only [not_or] at h3;have hd:(t.tail.drop (BD 8 t.tail 0 0).2).head? = some 125:=Classical.not_not.1 h3.2.2;have hlen:(BD 8 t.tail 0 0).2 < t.tail.length:=by
   rcases Nat.lt_or_ge (BD 8 t.tail 0 0).2 t.tail.length with h' | h';exact h';rw [List.drop_of_length_le h'] at hd;cases hd
  rw [List.length_tail] at hlen;have hes:=VC (BD 8 t.tail 0 0).1;rw [<- B0] at hes;injection h with h4 h5
  subst h4 h5;omega;rw [if_neg hu] at h;by_cases h3:(D6 3 (c :: t) 0 0).2=0\/(D6 3 (c :: t) 0 0).1 > 255;rw [if_pos h3] at h;cases h;rw [if_neg h3] at h;have:=V9 3 (c :: t) 0 0;simp only [AH] at this;injection h with h4 h5
  subst h4 h5;simp;omega
theorem Aqy (q:UInt8) (f:Nat) (acc:Bs) (i:Nat):ED q f [] acc i=.bad 4 0:=by cases f <;> rfl
theorem UJ (q:UInt8) (f:Nat) (b:UInt8) (t:Bs) (acc:Bs) (i:Nat):ED q (f+1) (b :: t) acc i =
  if b=10 then .bad 4 0
  else if b=q then (if acc.length > 10000 then .bad 14 0 else .ok acc (i+1))
  else if b=92 then
   match Ig t with
   | .ended=>.bad 4 0
   | .Fh=>.bad 4 i
   | .ok e n=>ED q f ((b :: t).drop n) (acc++e) (i+n)
  else ED q f t (acc++[b]) (i+1):=rfl
theorem Azq (w:World):Bd w.heap.size w.heap.size [] (w.alloc (.cells #[.pointer none,.slice none 0 0] 44)) :=
 .inl ⟨Nat.le_refl _,.slice none 0 0,JT w _,World.ownsRow_nil _ _ _ _,by simp [Value.ownBlock]⟩
theorem A0f (B b:Nat) (l:Bs) (w:World) (h:Bd B b l w) (hB:B<=w.heap.size) :
  Calls Tryz.prog 12 #[.pointer (some ⟨b,0,none⟩)] w.drew λe w'=>e=.returned (.string (str l))/\Below B w w' :=
 (Tryz.Builder_String_any B b l w.drew h hB).mono λ_ _ ⟨h1,h2⟩=>⟨h1,(Below.refl B w).drew.trans h2⟩
def Abb (r:Vi) (B sb at_:Nat) (src:Ah) (l:List Tok) (w:World) (e:Ending) (w':World):Prop :=
 match r with
 | .bad c rel=>e=IS c (at_+rel:Nat)/\Below B w w'
 | .ok v n=>e=.returned (.tuple #[])/\Sc B sb src (at_+n) (l++[⟨4,v,0,at_⟩]) w'/\Below B w w'
set_option maxHeartbeats 4000000 in
theorem B2o (B sb at_:Nat) (src:Ah) (l:List Tok) (q:UInt8) (t:Bs) (w:World) (h:Sc B sb src at_ l w) (hl:(bs src).drop at_=q :: t) (hs:src.size<=100000) (hll:l.length<=100000) (hBw:B<=w.heap.size) :
  Calls Tryz.prog 73 #[.pointer (some ⟨sb,0,none⟩),.int .u8 q.toNat] w (Abb (ED q (q :: t).length t [] 1) B sb at_ src l w):=by
 have hlen:=congrArg List.length hl
 rw [BA,B0] at hlen
 simp only [AH] at hlen
 obtain ⟨R9,hR9⟩:∃ R9,ED q (q :: t).length t [] 1=R9:=⟨_,rfl⟩
 rw [hR9]
 have HR9:=Lib.hid hR9
 have HL:=Lib.hid hl
 obtain ⟨hb,c0,c1⟩:=h.reads
 have HSC:=Lib.hid h
 have hat:at_ < src.size:=by omega
 have HLEN:=Lib.hid hlen
 clear hR9 hl h hlen
 go_enter Tryz.func73,Tryz.ntmps73
 go_wp2_with fail
 have HB0:=Lib.hid ((Below.refl w.heap.size w).alloc (Nat.le_refl _) (.cells #[.pointer none,.slice none 0 0] 44))
 have Aaz:=Lib.hid (Azq w)
 clear c0 c1 hb
 go_loopw [5] (λV wr=>∃ (i f:Nat) (acc:Bs),at_+1<=i/\i<=src.size/\src.size - i+1<=f/\acc.length<=i/\V=.int .i64 i/\Hid (ED q f ((bs src).drop i) acc (i - at_)=R9)/\Hid (Bd w.heap.size w.heap.size acc wr)/\Hid (Below w.heap.size w wr)) (λV _=>src.size - (intOf V).toNat)
 case atStart =>
  refine ⟨at_+1,(q :: t).length,[],by omega,by omega,by have:=HLEN.out;simp only [AH];omega,by simp,by go_num,?_,Aaz,HB0⟩
  have e:(bs src).drop (at_+1)=t:=by
   have:=congrArg List.tail HL.out
   rw [List.tail_drop] at this
   exact this
  unfold Hid
  rw [e,Nat.add_sub_cancel_left]
  exact HR9.out
 case round =>
  obtain ⟨i,f,acc,hi1,hi2,hf,hacc,rfl,HG,HBD,HBL⟩:=hrel
  have JR:=Lib.hid (HSC.out.later HBL.out)
  obtain ⟨hb,c0,c1⟩:=JR.out.reads
  have hB1:w.heap.size<=wr.heap.size:=HBL.out.size
  clear HB0 Aaz
  by_cases hend:i < src.size
  ·have hz:(i:Int) < src.size:=by omega
   have hz0:¬ (src.size:Int)<=i:=by omega
   have hiz:(i:Int)<=100000:=by omega
   have hg:=HG.out
   obtain ⟨f,rfl⟩:∃ g,f=g+1:=⟨f - 1,by omega⟩
   rw [drop_at src i hend,UJ] at hg
   have HGG:=Lib.hid hg
   clear hg
   by_cases h10:src[i]=10
   ·have hn:((src[i].toNat:Int) == 10)=true:=(Nn _ 10).1 h10
    go_wp2_with fail
    refine (M1 _ _ _).mono ?_
    rintro e w' ⟨rfl,rfl⟩
    go_wp2_with fail
    refine ⟨rfl,?_⟩
    have hg:=HGG.out
    rw [if_pos h10] at hg
    rw [<- hg]
    exact ⟨rfl,HBL.out.mono hBw⟩
   ·have hn:((src[i].toNat:Int) == 10)=false:=Bool.eq_false_iff.2 λh=>h10 ((Nn _ 10).2 h)
    by_cases hq:src[i]=q
    ·have hqn:((src[i].toNat:Int) == (q.toNat:Int))=true:=(Nn _ _).1 hq
     have Beu:(src[i].toNat == q.toNat)=true:=by rw [hq];simp
     have HLN:=Lib.hid (λw h=>Vw w.heap.size w.heap.size acc w h)
     by_cases hbig:acc.length > 10000
     ·have hbz:(10000:Int) < acc.length:=by omega
      have Vd:=Lib.hid (Vw w.heap.size w.heap.size acc wr HBD.out)
      go_wp2_with fail
      refine Vd.out.mono ?_
      rintro e w' ⟨rfl,rfl⟩
      go_wp2_with fail
      refine (M1 _ _ _).mono ?_
      rintro e w' ⟨rfl,rfl⟩
      go_wp2_with fail
      refine ⟨rfl,?_⟩
      have hg:=HGG.out
      rw [if_neg h10,if_pos hq,if_pos hbig] at hg
      rw [<- hg]
      exact ⟨rfl,HBL.out.mono hBw⟩
     ·have hbz:¬ (10000:Int) < acc.length:=by omega
      have Vd:=Lib.hid (Vw w.heap.size w.heap.size acc wr HBD.out)
      go_wp2_with fail
      refine Vd.out.mono ?_
      rintro e w' ⟨rfl,rfl⟩
      go_wp2_with fail
      have hsC:sb < w.heap.size:=HSC.out.lt
      have Au9:=Lib.hid (A0f w.heap.size w.heap.size acc wr HBD.out hB1)
      refine Jm [(0,0),(3,0),(4,0),(5,0),(6,0),(7,0),(8,3),(9,0),(1,1),(2,0)] (λw'=>w'.cell? ⟨sb,1,none⟩=some (.int .i64 at_)) (by kernel_rfl) (by kernel_rfl) (λ_ _ d _ _ h=>by cases d <;> exact h) (by first | exact c1 | exact (hb2.cell (p:=⟨sb,1,none⟩) hsC).trans c1) ?_
      simp only [Dz,List.filterMap_cons,List.filterMap_nil,List.getElem?_toArray,List.getElem?_cons_zero,List.getElem?_cons_succ,Option.map_some,List.drop_succ_cons,List.drop_zero,AH,AX]
      iterate 6 (refine DJ (by rfl) (λwq=>by go_simp;with_reducible rfl) ?_;simp only [Act.put,List.setIfInBounds_toArray,List.set_cons_zero,List.set_cons_succ])
      iterate 1 (refine FA (by rfl) (λwq hq1=>by go_simp;with_reducible rfl) ?_;simp only [Act.put,List.setIfInBounds_toArray,List.set_cons_zero,List.set_cons_succ])
      iterate 1 (refine DJ (by rfl) (λwq=>by go_simp;with_reducible rfl) ?_;simp only [Act.put,List.setIfInBounds_toArray,List.set_cons_zero,List.set_cons_succ])
      refine Ou ?_ ?_
      ·rfl
      intro K hK
      (go_wp2_with fail;refine Au9.out.mono ?_;rintro e w2 ⟨rfl,hb2⟩;go_wp2_with fail)
      refine ⟨by first | exact c1 | exact (hb2.cell (p:=⟨sb,1,none⟩) hsC).trans c1,?_⟩
      iterate 1 (refine DJ (by rfl) (λwq=>by go_simp;with_reducible rfl) ?_;simp only [Act.put,List.setIfInBounds_toArray,List.set_cons_zero,List.set_cons_succ])
      refine JC ?_
      go_wp2_with fail
      have HB2:=Lib.hid (HBL.out.trans hb2)
      have e2:(i:Int)+1 - at_=((i+1 - at_:Nat):Int):=by omega
      rw [e2]
      refine (add_any B sb at_ src l (i+1 - at_) 4 0 0 (str acc) w2 (HSC.out.later HB2.out) (by have:=HB2.out.size;omega) hll (by omega)).mono ?_
      rintro e w3 ⟨rfl,Rq,hb3⟩
      go_wp2_with fail
      refine bodyPost_ret (results_none rfl _ _ _) rfl ?_
      have hg:=HGG.out
      rw [if_neg h10,if_pos hq,if_neg hbig] at hg
      rw [<- hg]
      refine ⟨rfl,?_,(HB2.out.mono hBw).trans hb3⟩
      rw [show i - at_+1=i+1 - at_ by omega]
      rw [F3] at Rq
      exact Rq
    ·have hqn:((src[i].toNat:Int) == (q.toNat:Int))=false:=Bool.eq_false_iff.2 λh=>hq ((Nn _ _).2 h)
     have Beu:(src[i].toNat == q.toNat)=false:=by rw [Bool.eq_false_iff];intro h;exact hq (UInt8.toNat_inj.1 (by simpa using h))
     by_cases Nw:src[i]=92
     ·have hbn:((src[i].toNat:Int) == 92)=true:=(Nn _ 92).1 Nw
      have Au4:=Lib.hid (A3z sb at_ i w.heap.size w.heap.size src acc wr hb c0 c1 (by omega) (by omega) HBD.out (by omega) hB1)
      go_wp2_with fail
      refine Au4.out.mono ?_
      intro e w2 Jt
      have hg:=HGG.out
      rw [if_neg h10,if_neg hq,if_pos Nw] at hg
      cases hE:Ig ((bs src).drop (i+1)) with
      | ended =>
       rw [hE] at Jt hg
       have he:e=IS 4 at_:=Jt.1
       have HB7:=Lib.hid ((HBL.out.trans Jt.2).mono hBw)
       clear Jt
       subst he
       go_wp2_with fail
       refine ⟨rfl,?_⟩
       rw [<- hg]
       exact ⟨rfl,HB7.out⟩
      | Fh =>
       rw [hE] at Jt hg
       have he:e=IS 4 i:=Jt.1
       have HB7:=Lib.hid ((HBL.out.trans Jt.2).mono hBw)
       clear Jt
       subst he
       go_wp2_with fail
       refine ⟨rfl,?_⟩
       rw [<- hg]
       refine ⟨?_,HB7.out⟩
       rw [show at_+(i - at_)=i by omega]
      | ok b n =>
       rw [hE] at Jt hg
       obtain ⟨he,hbd2,hb2⟩:=Jt
       have S_:=Lib.hid (VD hE)
       have HG9:=Lib.hid hg
       subst he
       clear hE hg
       have hn1:=S_.out.2.1
       rw [BA,B0] at hn1
       have hnz:(i:Int)+n<=1000000:=by omega
       go_wp2_with fail
       go_roundw
       case rel =>
        refine ⟨i+n,f,acc++b,by omega,by omega,by have:=S_.out.1;omega,by have:=S_.out.2.2;rw [Bv];omega,by go_num,?_,hbd2,HBL.out.trans hb2⟩
        unfold Hid
        have hg:=HG9.out
        rw [show i+n - at_=i - at_+n by omega,<- List.drop_drop,drop_at src i hend]
        exact hg
       case measure=>have:=S_.out.1;simp [intOf];omega
     ·have hbn:((src[i].toNat:Int) == 92)=false:=Bool.eq_false_iff.2 λh=>Nw ((Nn _ 92).2 h)
      have HWB:=Lib.hid (Qc w.heap.size w.heap.size acc src[i] wr HBD.out (by omega) hB1)
      go_wp2_with fail
      refine HWB.out.mono ?_
      rintro e w2 ⟨rfl,hbd2,hb2⟩
      go_wp2_with fail
      go_roundw
      case rel =>
       refine ⟨i+1,f,acc++[src[i]],by omega,by omega,by omega,by simp;omega,by go_num,?_,hbd2,HBL.out.trans hb2⟩
       have hg:=HGG.out
       rw [if_neg h10,if_neg hq,if_neg Nw] at hg
       unfold Hid
       rw [show i+1 - at_=i - at_+1 by omega]
       exact hg
      case measure=>simp [intOf];omega
  ·have hz:(src.size:Int)<=i:=by omega
   go_wp2_with fail
   refine (M1 _ _ _).mono ?_
   rintro e w' ⟨rfl,rfl⟩
   go_wp2_with fail
   refine ⟨rfl,?_⟩
   have hg:=HG.out
   rw [List.drop_of_length_le (by rw [B0];omega),Aqy] at hg
   rw [<- hg]
   exact ⟨rfl,HBL.out.mono hBw⟩
structure Gl (w:World):Prop where
 utf:Lib.Utf8Tabs 0 1 w
 space:Lib.TabIs Tryz.prog w "strings.asciiSpace" .u8 Lib.asciiSpaceTab
 maxLen:∃ m,w.cell? ⟨4,0,none⟩=some (.int .i64 m)
 size:9<=w.heap.size
theorem B1s:Tryz.prog.globalNamed "strings.asciiSpace" =some 2:=by kernel_rfl
theorem Gl.below {B:Nat} {w w':World} (h:Gl w) (hb:Below B w w') (hB:9<=B):Gl w':=by
 obtain ⟨h1,h2,⟨m,h3⟩,h4⟩:=h;refine ⟨⟨λc hc=>?_,λi hi=>⟨?_,?_⟩⟩,?_,⟨m,?_⟩,by have:=hb.size;omega⟩;rw [hb.cell (p:=⟨0,c,none⟩) (show 0 < B by omega)];exact h1.1 c hc;rw [hb.cell (p:=⟨1,2 * i,none⟩) (show 1 < B by omega)];exact (h1.2 i hi).1;rw [hb.cell (p:=⟨1,2 * i+1,none⟩) (show 1 < B by omega)];exact (h1.2 i hi).2;unfold Lib.TabIs World.var? at h2 ⊢;rw [B1s] at h2 ⊢;simp only [Al] at h2 ⊢;rw [hb.block 2 (by omega)];exact h2;rw [hb.cell (p:=⟨4,0,none⟩) (show 4 < B by omega)];exact h3
theorem Gl.drew {w:World} (h:Gl w):Gl w.drew:=⟨h.utf,h.space,h.maxLen,h.size⟩
def K8:Bs:=[61,61,32,126,61,32,60,61,32,62,61,32,47,47,32,46,46,32,43,32,45,32,42,32,37,32,60,32,62,32,61,32,35,32,40,32,41,32,123,32,125,32,91,32,93,32,59,32,44,32,46]
theorem A5b:Lib.fields K8=Gu:=by decide +kernel
theorem A5a (w:World) (h:Gl w):Calls Tryz.prog 103 #[.string (str K8)] w λe w' =>
  e=.returned (.slice (some ⟨w.heap.size,0,none⟩) 23 23)/\w.alloc (.cells (Gu.map λl=>Value.string (str l)).toArray 9)=w':=by
 have h1:=Tryz.strings_Fields (str K8) w (by rw [Gv];decide) (by
  intro j b hj;have hb:b ∈ K8:=by
   have:(str K8).data.toList=K8:=F3 K8;rw [this] at hj;exact List.mem_of_getElem? hj
  revert b;have:∀ b ∈ K8,b.toNat < 128:=by decide
  intro b _ hb;exact this b hb) h.space
 have e:(str K8).data.toList=K8:=F3 K8;rw [e,A5b] at h1;exact h1.mono λ_ _ ⟨a,b⟩=>⟨a,b.symm⟩
def Avi (r:Option Bs) (B sb at_:Nat) (src:Ah) (l:List Tok) (w:World) (e:Ending) (w':World):Prop :=
 match r with
 | none=>e=IS 4 at_/\Below B w w'
 | some s=>e=.returned (.tuple #[])/\Sc B sb src (at_+s.length) (l++[⟨5,s,0,at_⟩]) w'/\Below B w w'
set_option maxHeartbeats 4000000 in
theorem B05 (B sb at_:Nat) (src:Ah) (l:List Tok) (w:World) (h:Sc B sb src at_ l w) (hg:Gl w) (hat:at_<=src.size) (hs:src.size<=100000) (hll:l.length<=100000) (hBw:B<=w.heap.size) :
  Calls Tryz.prog 74 #[.pointer (some ⟨sb,0,none⟩)] w (Avi (Mg ((bs src).drop at_)) B sb at_ src l w):=by
 obtain ⟨R9,hR9⟩:∃ R9,Mg ((bs src).drop at_)=R9:=⟨_,rfl⟩
 rw [hR9]
 have HR9:=Lib.hid hR9
 have HF:=Lib.hid (A5a w hg)
 have HSC:=Lib.hid h
 have Ce4:(at_:Int)<=src.size:=by omega
 have Ce7:(at_:Int)<=100000:=by omega
 clear hR9 h hg
 go_enter Tryz.func74,Tryz.ntmps74
 go_wp2_with fail
 refine HF.out.mono ?_
 rintro e w' ⟨rfl,rfl⟩
 go_wp2_with fail
 have HB0:=Lib.hid ((Below.refl w.heap.size w).alloc (Nat.le_refl _) (.cells (Gu.map λl=>Value.string (str l)).toArray 9))
 have Au1:=Lib.hid (JT w (.cells (Gu.map λl=>Value.string (str l)).toArray 9))
 generalize w.alloc (.cells (Gu.map λl=>Value.string (str l)).toArray 9)=w1 at *
 go_loopw [6] (λV wr=>∃ k:Nat,k<=23/\V=.int .i64 k/\Hid ((Gu.drop k).find? (λs=>s.isPrefixOf ((bs src).drop at_))=R9)/\Hid (Below (w.heap.size+1) w1 wr)) (λV _=>23 - (intOf V).toNat)
 case atStart=>exact ⟨0,by omega,rfl,HR9.out,Below.refl _ _⟩
 case round =>
  obtain ⟨k,hk,rfl,HG,HBL⟩:=hrel
  have hw1:=HB0.out.size
  have HB9:=Lib.hid (HB0.out.trans (HBL.out.mono (Nat.le_succ _)))
  have JR:=Lib.hid (HSC.out.later HB9.out)
  obtain ⟨hb,c0,c1⟩:=JR.out.reads
  by_cases hlt:k < 23
  ·have hkz:(k:Int) < 23:=by omega
   obtain ⟨s,hsk⟩:∃ s,Gu[k]? = some s:=⟨_,List.getElem?_eq_getElem (show k < Gu.length from hlt)⟩
   have hcell:wr.cell? ⟨w.heap.size,k,none⟩=some (.string (str s)):=by
    rw [Fl (JS HBL.out (by omega) Au1.out)]
    simp [hsk]
   have hdrop:Gu.drop k=s :: Gu.drop (k+1):=by
    rw [List.drop_eq_getElem_cons (show k < Gu.length from hlt)]
    congr 1
    rw [List.getElem?_eq_getElem (show k < Gu.length from hlt)] at hsk
    exact Ap hsk
   have HD:=Lib.hid hdrop
   have Cfi:s.length<=2:=by
    have:∀ x ∈ Gu,x.length<=2:=by decide
    exact this s (List.mem_of_getElem? hsk)
   have HSK:=Lib.hid hsk
   clear hdrop hsk
   go_wp2_with fail
   refine Jm [(0,0),(1,0),(2,0),(3,3),(4,0),(5,0),(6,0),(7,3),(8,0),(9,0)] (λw'=>w'.cell? ⟨sb,0,none⟩=some (.string src)/\w'.cell? ⟨sb,1,none⟩=some (.int .i64 at_)) (by kernel_rfl) (by kernel_rfl) (λ_ _ d _ _ h=>by cases d <;> exact h) (by refine ⟨?_,?_⟩ <;> go_simp) ?_
   simp only [Dz,List.filterMap_cons,List.filterMap_nil,List.getElem?_toArray,List.getElem?_cons_zero,List.getElem?_cons_succ,Option.map_some,List.drop_succ_cons,List.drop_zero,AH,AX]
   iterate 3 (refine DJ (by rfl) (λwq=>by go_simp;with_reducible rfl) ?_;simp only [Act.put,List.setIfInBounds_toArray,List.set_cons_zero,List.set_cons_succ])
   iterate 1 (refine FA (by rfl) (λwq hq=>by obtain ⟨hq0,hq1⟩:=hq;go_simp;with_reducible rfl) ?_;simp only [Act.put,List.setIfInBounds_toArray,List.set_cons_zero,List.set_cons_succ])
   iterate 3 (refine DJ (by rfl) (λwq=>by go_simp;with_reducible rfl) ?_;simp only [Act.put,List.setIfInBounds_toArray,List.set_cons_zero,List.set_cons_succ])
   iterate 1 (refine FA (by rfl) (λwq hq=>by obtain ⟨hq0,hq1⟩:=hq;go_simp;with_reducible rfl) ?_;simp only [Act.put,List.setIfInBounds_toArray,List.set_cons_zero,List.set_cons_succ])
   iterate 2 (refine DJ (by rfl) (λwq=>by go_simp;with_reducible rfl) ?_;simp only [Act.put,List.setIfInBounds_toArray,List.set_cons_zero,List.set_cons_succ])
   refine JC ?_
   go_wp2_with fail
   have hpf:=Sm (src.extract at_ src.size) s wr.drew
   rw [GQ] at hpf
   refine hpf.mono ?_
   rintro e w' ⟨rfl,rfl⟩
   cases hp:s.isPrefixOf ((bs src).drop at_) with
   | true =>
    have HP:=Lib.hid hp
    clear hp hpf
    have KS:=Lib.hid (λhB'=>add_any B sb at_ src l s.length 5 0 0 (str s) wr.drew JR.out.drew hB' hll (by omega))
    have hsz:((str s).size:Int)=s.length:=by rw [Gv]
    go_wp2_with fail
    refine (KS.out (by have:=HB9.out.size;simp;omega)).mono ?_
    rintro e w3 ⟨rfl,Rq,hb3⟩
    go_wp2_with fail
    refine bodyPost_ret (results_none rfl _ _ _) rfl ?_
    have hg:=HG.out
    rw [HD.out,List.find?_cons,HP.out] at hg
    rw [<- hg]
    rw [F3] at Rq
    exact ⟨rfl,Rq,(HB9.out.drew.mono hBw).trans hb3⟩
   | false =>
    have HP:=Lib.hid hp
    clear hp hpf
    go_wp2_with fail
    go_roundw
    case rel =>
     refine ⟨k+1,by omega,by go_num,?_,HBL.out.drew⟩
     have hg:=HG.out
     rw [HD.out,List.find?_cons,HP.out] at hg
     exact hg
    case measure=>simp [intOf];omega
  ·have hkz:¬ (k:Int) < 23:=by omega
   go_wp2_with fail
   refine (M1 _ _ _).mono ?_
   rintro e w' ⟨rfl,rfl⟩
   go_wp2_with fail
   refine ⟨rfl,?_⟩
   have hg:=HG.out
   rw [List.drop_of_length_le (show Gu.length<=k by show 23<=k;omega)] at hg
   rw [<- hg]
   exact ⟨rfl,HB9.out.mono hBw⟩
end
section
namespace Lx
def Mh (ws:List Bs):Bs:=32 :: ws.flatMap (·++[32])
theorem Ap6:∀ (t w x y:Bs),(∀ b ∈ t,b≠32)->(∀ b ∈ w,b≠32)->t++32 :: x=w++32 :: y->t=w
 | [],[],_,_,_,_,_=>rfl
 | [],c :: w,x,y,_,hw,h=>by
  simp only [List.nil_append,List.cons_append,List.cons.injEq] at h;exact absurd h.1.symm (hw c (by simp))
 | c :: t,[],x,y,ht,_,h=>by
  simp only [List.nil_append,List.cons_append,List.cons.injEq] at h;exact absurd h.1 (ht c (by simp))
 | c :: t,d :: w,x,y,ht,hw,h=>by
  simp only [List.cons_append,List.cons.injEq] at h;rw [h.1,Ap6 t w x y (λb hb=>ht b (by simp [hb])) (λb hb=>hw b (by simp [hb])) h.2]
theorem Agx (sub rest:Bs):∀ (w a b:Bs),(∀ c ∈ w,c≠32)->sub.head? = some 32->a++sub++b=w++rest->sub <:+: rest
 | [],a,b,_,_,h=>⟨a,b,h⟩
 | c :: w,[],b,hw,hs,h=>by
  cases sub with
  | nil=>simp at hs
  | cons d s =>
   simp only [List.head?_cons,Option.some.injEq] at hs;simp only [List.nil_append,List.cons_append,List.cons.injEq] at h;exact absurd (h.1.symm.trans hs) (hw c (by simp))
 | c :: w,d :: a,b,hw,hs,h=>by
  simp only [List.cons_append,List.cons.injEq] at h;exact Agx sub rest w a b (λx hx=>hw x (by simp [hx])) hs h.2
theorem Ap3 (w:Bs) (ws:List Bs):Mh (w :: ws)=32 :: (w++Mh ws):=by simp [Mh]
theorem Ag1 (t:Bs) (ht:∀ b ∈ t,b≠32):∀ ws:List Bs,(∀ w ∈ ws,∀ b ∈ w,b≠32)->((32 :: t++[32]) <:+: Mh ws)->t ∈ ws
 | [],_,h=>by
  have:=h.length_le;simp [Mh] at this
 | w :: ws,hws,h=>by
  obtain ⟨a,b,h⟩:=h;rw [Ap3] at h;cases a with
  | nil =>
   simp only [List.nil_append,List.cons_append,Bx,List.cons.injEq,true_and] at h;rw [Ap6 t w b (ws.flatMap (·++[32])) ht (hws w (by simp)) h];simp
  | cons c a =>
   simp only [List.cons_append,List.cons.injEq] at h;have:=Agx (32 :: t++[32]) (Mh ws) w a b (hws w (by simp)) rfl (by simpa using h.2);exact DF _ (Ag1 t ht ws (λx hx=>hws x (by simp [hx])) this)
theorem As6 (t:Bs):∀ ws:List Bs,t ∈ ws->((32 :: t++[32]) <:+: Mh ws)
 | w :: ws,h=>by
  rw [Ap3];rcases List.mem_cons.1 h with h | h;subst h;exact ⟨[],ws.flatMap (·++[32]),by simp [Mh]⟩;obtain ⟨a,b,e⟩:=As6 t ws h;exact ⟨32 :: w++a,b,by simp only [Bx,List.cons_append] at *;rw [e]⟩
theorem A0q (s sub:Bs):Lib.contains s sub=true ↔ sub <:+: s:=by
 unfold Lib.contains;rw [decide_eq_true_iff];rcases Lib.index_spec s sub with ⟨h1,h2⟩ | ⟨i,h1,h2,h3,_⟩;constructor;intro h;omega;rintro ⟨a,b,e⟩;have h3:=h2 a.length (by rw [<- e];simp);rw [<- e] at h3;simp only [Lib.occAt,Bx,List.drop_left] at h3;rw [List.isPrefixOf_iff_prefix.2 ⟨b,rfl⟩] at h3;exact absurd h3 (by decide);constructor;intro _;have:=List.isPrefixOf_iff_prefix.1 h3;obtain ⟨b,hb⟩:=this;exact ⟨s.take i,b,by rw [Bx,hb,List.take_append_drop]⟩;intro _;omega
def SH:Bs:=Mh UO
theorem A0s (t:Bs) (ht:∀ b ∈ t,b≠32):Lib.contains SH (32 :: t++[32])=Ke t:=by
 have hws:∀ w ∈ UO,∀ b ∈ w,b≠32:=by decide
 rw [Bool.eq_iff_iff,A0q];unfold Ke;rw [List.contains_iff_mem];exact ⟨Ag1 t ht _ hws,As6 t _⟩
theorem A06 (p:Nat->Bool) (hp1:p 32=false) (hp2:p 65533=false) (l:Bs) (h:p (Ba l).1=true):∀ b ∈ l.take (Ba l).2,b≠32:=by
 intro b hb;obtain ⟨i,hi⟩:=List.mem_iff_getElem?.1 hb;rw [List.getElem?_take] at hi;split at hi
 case isFalse=>exact absurd hi (by simp)
 rename_i hlt;have hg:l.getD i 0=b:=by rw [List.getD_eq_getElem?_getD,hi];rfl
 rintro rfl;have hg2:(l.getD i 0).toNat=32:=by rw [hg];rfl
 clear hb hi hg;unfold Ba at h hlt;dsimp only at h hlt;have hi4:i=0\/i=1\/i=2\/3<=i:=by omega
 split at h
 ·rename_i h0
  rw [if_pos h0] at hlt;have:i=0:=by simpa using hlt
  subst this;rw [hg2] at h;exact absurd h (by simp [hp1])
 ·rename_i h0
  rw [if_neg h0] at hlt;have hne:i≠0:=by rintro rfl;omega
  split at h
  ·rename_i h1
   rw [if_pos h1] at hlt;simp only [Bool.and_eq_true,beq_iff_eq,decide_eq_true_eq] at h1;split at h
   ·rename_i h2;rw [if_pos h2] at hlt
    rcases hi4 with rfl | rfl | rfl | hi4 <;> dsimp only at hlt <;> omega
   ·exact absurd h (by simp [hp2])
  ·rename_i h1
   rw [if_neg h1] at hlt;split at h
   ·rename_i h1
    rw [if_pos h1] at hlt;simp only [Bool.and_eq_true,beq_iff_eq,decide_eq_true_eq] at h1;split at h
    ·rename_i h2;rw [if_pos h2] at hlt
     rcases hi4 with rfl | rfl | rfl | hi4 <;> dsimp only at hlt <;> omega
    ·exact absurd h (by simp [hp2])
   ·rename_i h1
    rw [if_neg h1] at hlt;split at h
    ·rename_i h1
     rw [if_pos h1] at hlt;simp only [Bool.and_eq_true,beq_iff_eq,decide_eq_true_eq] at h1;split at h
     ·rename_i h2;rw [if_pos h2] at hlt
      have:i=3\/4<=i\/i < 3:=by omega
      rcases hi4 with rfl | rfl | rfl | hi4 <;> dsimp only at hlt <;> try omega
      have:i=3:=by omega
      subst this;omega
     ·exact absurd h (by simp [hp2])
    ·exact absurd h (by simp [hp2])
theorem Api (p:Nat->Bool) (hp1:p 32=false) (hp2:p 65533=false):∀ (n:Nat) (l:Bs),l.length<=n->∀ b ∈ l.take (Bp p l),b≠32
 | 0,l,h=>by
  have:l=[]:=List.eq_nil_of_length_eq_zero (by omega);subst this;simp
 | n+1,l,h=>by
  by_cases hl:l=[];subst hl;simp;rw [Mf p l hl];have hw:=Gf l;split;rename_i hp;rw [List.take_add];intro b hb;rcases GO.1 hb with hb | hb;exact A06 p hp1 hp2 l hp b hb;exact Api p hp1 hp2 n (l.drop (Ba l).2) (by rw [BA];have:=hw.2.2 hl;omega) b hb;simp
end Lx
end
section
open Go Go.RowKit Lx
theorem wrap_in (x:Int) (h0:0<=x) (h1:x<=1000000000):IntKind.i64.wrap x=x:=by unfold IntKind.wrap;simp [IntKind.bits,IntKind.signed];omega
def Ni (m:Nat) (t:Bs) (B sb at_:Nat) (src:Ah) (l:List Tok) (w:World) (e:Ending) (w':World):Prop :=
 if m > 40 then e=IS 14 at_/\Below B w w'
 else e=.returned (.tuple #[])/\Sc B sb src (at_+m) (l++[⟨if Ke t then 2 else 1,t,0,at_⟩]) w'/\Below B w w'
theorem B3i (src:Ah) (at_ m:Nat) (w:World) (hm:Bp BJ ((bs src).drop at_)=m) (hle:at_+m<=src.size) (hs:m<=40) (hg:Gl w) :
  Calls Tryz.prog 99 #[.string (str SH),.string (⟨#[32]⟩++src.extract at_ (at_+m)++⟨#[32]⟩)] w λe w'=>e=.returned (.bool (Ke (((bs src).drop at_).take m)))/\w=w':=by
 obtain ⟨k,hk⟩:=hg.maxLen;refine (Tryz.strings_Contains (str SH) _ k w (by rw [Gv];decide) hk).mono ?_;rintro e w' ⟨rfl,rfl⟩;have e1:(str SH).data.toList=SH:=F3 _;have e2:(⟨#[32]⟩++src.extract at_ (at_+m)++⟨#[32]⟩:Ah).data.toList=32 :: (((bs src).drop at_).take m)++[32]:=by
  have h:=QI src at_ (at_+m);rw [Nat.add_sub_cancel_left] at h;rw [<- h];simp [bs]
 refine ⟨?_,rfl⟩;rw [e1,e2,A0s];rw [<- hm];exact Api BJ (by decide) (by decide) _ _ (Nat.le_refl _)
set_option maxHeartbeats 4000000 in
theorem name_any (B sb at_:Nat) (src:Ah) (l:List Tok) (w:World) (h:Sc B sb src at_ l w) (hg:Gl w) (hat:at_<=src.size) (hs:src.size<=100000) (hll:l.length<=100000) (hBw:B<=w.heap.size) :
  Calls Tryz.prog 70 #[.pointer (some ⟨sb,0,none⟩)] w (Ni (Bp BJ ((bs src).drop at_)) (((bs src).drop at_).take (Bp BJ ((bs src).drop at_))) B sb at_ src l w):=by
 have HMM:=Lib.hid (rfl:Bp BJ ((bs src).drop at_)=Bp BJ ((bs src).drop at_))
 have HG:=Lib.hid hg
 clear hg
 have hm:=Jh BJ ((bs src).drop at_)
 rw [BA,B0] at hm
 obtain ⟨hb,c0,c1⟩:=h.reads
 have Q8:=Lib.hid (run_any 97 BJ sb at_ src w Ap2 hb c0 c1 hat (by omega))
 generalize hM:Bp BJ ((bs src).drop at_)=m at *
 have HM:=Lib.hid hM
 have HSC:=Lib.hid h
 clear hM h
 have hz1:(at_:Int)<=(at_:Int)+m:=by omega
 have hz2:(at_:Int)+m<=src.size:=by omega
 have hz3:((at_:Int)+m).toNat=at_+m:=by omega
 have hz4:(at_:Int)+m<=100000:=by omega
 have hz5:=wrap_in ((at_:Int)+m) (by omega) (by omega)
 go_enter Tryz.func70,Tryz.ntmps70
 go_wp2_with fail
 refine Q8.out.mono ?_
 rintro e w1 ⟨rfl,hb1⟩
 have JQ:=Lib.hid (HSC.out.later hb1)
 have HB1:=Lib.hid hb1
 clear c0 c1 hb hb1
 obtain ⟨hb,c0,c1⟩:=JQ.out.reads
 go_wp2_with fail
 refine Jm [(0,0),(1,0),(2,0),(3,3),(4,0),(5,0),(6,0),(7,3),(8,0),(9,0),(10,0),(11,3),(12,0),(13,0),(14,0),(15,0),(16,1)] (λw'=>w'.cell? ⟨sb,0,none⟩=some (.string src)/\w'.cell? ⟨sb,1,none⟩=some (.int .i64 at_)) (by kernel_rfl) (by kernel_rfl) (λ_ _ d _ _ h=>by cases d <;> exact h) (by refine ⟨?_,?_⟩ <;> go_simp) ?_
 simp only [Dz,List.filterMap_cons,List.filterMap_nil,List.getElem?_toArray,List.getElem?_cons_zero,List.getElem?_cons_succ,Option.map_some,List.drop_succ_cons,List.drop_zero,AH,AX]
 iterate 3 (refine DJ (by rfl) (λwq=>by go_simp;with_reducible rfl) ?_;simp only [Act.put,List.setIfInBounds_toArray,List.set_cons_zero,List.set_cons_succ])
 iterate 1 (refine FA (by rfl) (λwq hq=>by obtain ⟨hq0,hq1⟩:=hq;go_simp;with_reducible rfl) ?_;simp only [Act.put,List.setIfInBounds_toArray,List.set_cons_zero,List.set_cons_succ])
 iterate 3 (refine DJ (by rfl) (λwq=>by go_simp;with_reducible rfl) ?_;simp only [Act.put,List.setIfInBounds_toArray,List.set_cons_zero,List.set_cons_succ])
 iterate 1 (refine FA (by rfl) (λwq hq=>by obtain ⟨hq0,hq1⟩:=hq;go_simp;with_reducible rfl) ?_;simp only [Act.put,List.setIfInBounds_toArray,List.set_cons_zero,List.set_cons_succ])
 iterate 3 (refine DJ (by rfl) (λwq=>by go_simp;with_reducible rfl) ?_;simp only [Act.put,List.setIfInBounds_toArray,List.set_cons_zero,List.set_cons_succ])
 iterate 1 (refine FA (by rfl) (λwq hq=>by obtain ⟨hq0,hq1⟩:=hq;go_simp;with_reducible rfl) ?_;simp only [Act.put,List.setIfInBounds_toArray,List.set_cons_zero,List.set_cons_succ])
 iterate 4 (refine DJ (by rfl) (λwq=>by go_simp;with_reducible rfl) ?_;simp only [Act.put,List.setIfInBounds_toArray,List.set_cons_zero,List.set_cons_succ])
 refine Ou ?_ ?_
 ·rfl
 intro K hK
 go_wp2
 refine ⟨by refine ⟨?_,?_⟩ <;> go_simp,?_⟩
 refine JC ?_
 by_cases h40:m > 40
 ·have h40z:(40:Int) < m:=by omega
  go_wp2_with fail
  refine (M1 _ _ _).mono ?_
  rintro e w' ⟨rfl,rfl⟩
  go_wp2_with fail
  refine ⟨rfl,?_⟩
  show Ni m _ B sb at_ src l w _ _
  unfold Ni
  rw [if_pos h40]
  exact ⟨rfl,((HB1.out.mono hBw).alloc (by have:=HB1.out.size;omega) _).drew⟩
 ·have h40z:¬ (40:Int) < m:=by omega
  go_wp2_with fail
  have HGW:=Lib.hid (HG.out.below HB1.out HG.out.size)
  have Au6:=Lib.hid ((HGW.out.below ((Below.refl w1.heap.size w1).alloc (Nat.le_refl _) (.cells #[.int .i64 1,.string (src.extract at_ (at_+m)),.int .i64 0,.int .i64 0] 60)) HGW.out.size).drew)
  refine (B3i src at_ m _ HM.out (by omega) (by omega) Au6.out).mono ?_
  rintro e w' ⟨rfl,rfl⟩
  generalize HT:Ke (((bs src).drop at_).take m)=bw
  have Agh:bs (src.extract at_ (at_+m))=((bs src).drop at_).take m:=by rw [QI,Nat.add_sub_cancel_left]
  have OH:=Lib.hid Agh
  have Bjn:=HB1.out.size
  clear Agh
  cases bw
  ·have KS:=Lib.hid (add_any B sb at_ src l m 1 0 0 (src.extract at_ (at_+m)) _ ((JQ.out.alloc (.cells #[.int .i64 1,.string (src.extract at_ (at_+m)),.int .i64 0,.int .i64 0] 60)).drew) (by simp;omega) hll (by omega))
   have HT2:=Lib.hid HT
   clear HT
   go_wp2_with fail
   refine KS.out.mono ?_
   rintro e w' ⟨rfl,hsc,hbb⟩
   go_wp2_with fail
   refine bodyPost_ret (results_none rfl _ _ _) rfl ?_
   unfold Ni
   rw [if_neg h40]
   rw [OH.out] at hsc
   rw [HT2.out]
   exact ⟨rfl,hsc,(((HB1.out.mono hBw).alloc (by omega) _).drew).trans hbb⟩
  ·have KS:=Lib.hid (add_any B sb at_ src l m 2 0 0 (src.extract at_ (at_+m)) _ ((JQ.out.alloc (.cells #[.int .i64 2,.string (src.extract at_ (at_+m)),.int .i64 0,.int .i64 0] 60)).drew) (by simp;omega) hll (by omega))
   have HT2:=Lib.hid HT
   clear HT
   go_wp2_with fail
   refine KS.out.mono ?_
   rintro e w' ⟨rfl,hsc,hbb⟩
   go_wp2_with fail
   refine bodyPost_ret (results_none rfl _ _ _) rfl ?_
   unfold Ni
   rw [if_neg h40]
   rw [OH.out] at hsc
   rw [HT2.out]
   exact ⟨rfl,hsc,(((HB1.out.mono hBw).alloc (by omega) _).drew).trans hbb⟩
def NumEnd (m:Nat) (t:Bs) (B sb at_:Nat) (src:Ah) (l:List Tok) (w:World) (e:Ending) (w':World):Prop :=
 if (Es t).2≠0 then e=IS (Es t).2 at_/\Below B w w'
 else e=.returned (.tuple #[])/\Sc B sb src (at_+m) (l++[⟨3,t,(Es t).1,at_⟩]) w'/\Below B w w'
set_option maxHeartbeats 4000000 in
theorem Bqk (B sb at_:Nat) (src:Ah) (l:List Tok) (w:World) (h:Sc B sb src at_ l w) (hat:at_<=src.size) (hs:src.size<=100000) (hll:l.length<=100000) (hBw:B<=w.heap.size) :
  Calls Tryz.prog 72 #[.pointer (some ⟨sb,0,none⟩)] w (NumEnd (Bp BJ ((bs src).drop at_)) (((bs src).drop at_).take (Bp BJ ((bs src).drop at_))) B sb at_ src l w):=by
 have hm:=Jh BJ ((bs src).drop at_)
 rw [BA,B0] at hm
 obtain ⟨hb,c0,c1⟩:=h.reads
 have Q8:=Lib.hid (run_any 97 BJ sb at_ src w Ap2 hb c0 c1 hat (by omega))
 generalize hM:Bp BJ ((bs src).drop at_)=m at *
 have HM:=Lib.hid hM
 have HSC:=Lib.hid h
 clear hM h
 have hz1:(at_:Int)<=(at_:Int)+m:=by omega
 have hz2:(at_:Int)+m<=src.size:=by omega
 have hz3:((at_:Int)+m).toNat=at_+m:=by omega
 have hz4:(at_:Int)+m<=100000:=by omega
 have hz5:=wrap_in ((at_:Int)+m) (by omega) (by omega)
 go_enter Tryz.func72,Tryz.ntmps72
 go_wp2_with fail
 refine Q8.out.mono ?_
 rintro e w1 ⟨rfl,hb1⟩
 have JQ:=Lib.hid (HSC.out.later hb1)
 have HB1:=Lib.hid hb1
 clear c0 c1 hb hb1
 obtain ⟨hb,c0,c1⟩:=JQ.out.reads
 have Bjn:=HB1.out.size
 have OH:=Lib.hid (show bs (src.extract at_ (at_+m))=((bs src).drop at_).take m by rw [QI,Nat.add_sub_cancel_left])
 have HPA:=Lib.hid (λw=>parse_any (src.extract at_ (at_+m)) w (by have:=congrArg List.length OH.out;rw [B0,List.length_take,BA,B0] at this;omega))
 generalize hPF:Es (((bs src).drop at_).take m)=PF at *
 have HPF:=Lib.hid hPF
 clear hPF
 go_wp2_with fail
 refine Jm [(0,0),(1,0),(2,0),(3,3),(4,0),(5,0),(6,0),(7,3),(8,0),(9,0),(10,0),(11,3),(12,0),(13,0)] (λw'=>w'.cell? ⟨sb,0,none⟩=some (.string src)/\w'.cell? ⟨sb,1,none⟩=some (.int .i64 at_)) (by kernel_rfl) (by kernel_rfl) (λ_ _ d _ _ h=>by cases d <;> exact h) (by refine ⟨?_,?_⟩ <;> go_simp) ?_
 simp only [Dz,List.filterMap_cons,List.filterMap_nil,List.getElem?_toArray,List.getElem?_cons_zero,List.getElem?_cons_succ,Option.map_some,List.drop_succ_cons,List.drop_zero,AH,AX]
 iterate 3 (refine DJ (by rfl) (λwq=>by go_simp;with_reducible rfl) ?_;simp only [Act.put,List.setIfInBounds_toArray,List.set_cons_zero,List.set_cons_succ])
 iterate 1 (refine FA (by rfl) (λwq hq=>by obtain ⟨hq0,hq1⟩:=hq;go_simp;with_reducible rfl) ?_;simp only [Act.put,List.setIfInBounds_toArray,List.set_cons_zero,List.set_cons_succ])
 iterate 3 (refine DJ (by rfl) (λwq=>by go_simp;with_reducible rfl) ?_;simp only [Act.put,List.setIfInBounds_toArray,List.set_cons_zero,List.set_cons_succ])
 iterate 1 (refine FA (by rfl) (λwq hq=>by obtain ⟨hq0,hq1⟩:=hq;go_simp;with_reducible rfl) ?_;simp only [Act.put,List.setIfInBounds_toArray,List.set_cons_zero,List.set_cons_succ])
 iterate 3 (refine DJ (by rfl) (λwq=>by go_simp;with_reducible rfl) ?_;simp only [Act.put,List.setIfInBounds_toArray,List.set_cons_zero,List.set_cons_succ])
 iterate 1 (refine FA (by rfl) (λwq hq=>by obtain ⟨hq0,hq1⟩:=hq;go_simp;with_reducible rfl) ?_;simp only [Act.put,List.setIfInBounds_toArray,List.set_cons_zero,List.set_cons_succ])
 iterate 2 (refine DJ (by rfl) (λwq=>by go_simp;with_reducible rfl) ?_;simp only [Act.put,List.setIfInBounds_toArray,List.set_cons_zero,List.set_cons_succ])
 refine JC ?_
 go_wp2_with fail
 refine (HPA.out _).mono ?_
 rintro e w2 ⟨rfl,hb2⟩
 rw [OH.out,HPF.out]
 have HB2:=Lib.hid hb2
 have JR:=Lib.hid (JQ.out.drew.later hb2)
 clear hb2 hb c0 c1
 obtain ⟨hb,c0,c1⟩:=JR.out.reads
 by_cases h0:PF.2=0
 ·rw [h0]
  have KS:=Lib.hid (add_any B sb at_ src l m 3 PF.1 0 (src.extract at_ (at_+m)) w2 JR.out (by have:=HB2.out.size;simp at this;omega) hll (by omega))
  go_wp2_with fail
  refine KS.out.mono ?_
  rintro e w' ⟨rfl,hsc,hbb⟩
  go_wp2_with fail
  refine bodyPost_ret (results_none rfl _ _ _) rfl ?_
  unfold NumEnd
  rw [HPF.out,if_neg (by simp [h0])]
  rw [OH.out] at hsc
  exact ⟨rfl,hsc,((HB1.out.drew.mono hBw).trans (HB2.out.mono (by simp;omega))).trans hbb⟩
 ·have h0':(PF.2 == 0)=false:=by simpa using h0
  go_wp2_with fail
  refine (M1 _ _ _).mono ?_
  rintro e w' ⟨rfl,rfl⟩
  go_wp2_with fail
  refine ⟨rfl,?_⟩
  unfold NumEnd
  rw [HPF.out,if_pos h0]
  exact ⟨rfl,(HB1.out.drew.mono hBw).trans (HB2.out.mono (by simp;omega))⟩
def Avc (r:Step) (B sb at_:Nat) (src:Ah) (l:List Tok) (w:World) (e:Ending) (w':World):Prop :=
 match r with
 | .done=>e=.returned (.bool false)/\Sc B sb src at_ l w'/\Below B w w'
 | .skip n=>e=.returned (.bool true)/\Sc B sb src (at_+n) l w'/\Below B w w'
 | .tok k t n len=>e=.returned (.bool true)/\Sc B sb src (at_+len) (l++[⟨k,t,n,at_⟩]) w'/\Below B w w'
 | .bad c rel=>e=IS c (at_+rel:Nat)/\Below B w w'
theorem A0y (l:Bs) (h:(Ba l).1 < 128):(l.getD 0 0).toNat=(Ba l).1:=by
 unfold Ba at h ⊢;dsimp only at h ⊢;by_cases h0:(l.getD 0 0).toNat < 128
 ·rw [if_pos h0]
 ·rw [if_neg h0] at h ⊢
  exfalso
  (repeat' split at h) <;> simp_all <;> omega
theorem A1i (s:Ah) (h:bs s≠[]):Lib.decodeGo s=Ba (bs s):=by
 unfold Lib.decodeGo;have:s.size≠0:=by
  intro h0;rw [<- B0] at h0;exact h (List.eq_nil_of_length_eq_zero h0)
 rw [if_neg this,decode_eq,List.drop_zero]
set_option maxHeartbeats 4000000 in
theorem next_any (B sb at_:Nat) (src:Ah) (l:List Tok) (w:World) (h:Sc B sb src at_ l w) (hg:Gl w) (hat:at_<=src.size) (hs:src.size<=100000) (hll:l.length<=100000) (hBw:B<=w.heap.size) (hNB:9<=B) :
  Calls Tryz.prog 30 #[.pointer (some ⟨sb,0,none⟩)] w (Avc (De (((bs src).drop at_).drop (Bp Cn ((bs src).drop at_)))) B sb (at_+Bp Cn ((bs src).drop at_)) src l w):=by
 have hm:=Jh Cn ((bs src).drop at_)
 rw [BA,B0] at hm
 obtain ⟨hb,c0,c1⟩:=h.reads
 have Q8:=Lib.hid (run_any 65 Cn sb at_ src w.drew B1q hb c0 c1 hat (by omega))
 rw [List.drop_drop]
 generalize Bp Cn ((bs src).drop at_)=m at *
 have hz5:=wrap_in ((at_:Int)+m) (by omega) (by omega)
 rw [show (at_:Int)+m=((at_+m:Nat):Int) by omega] at hz5
 obtain ⟨a,ha⟩:∃ a,at_+m=a:=⟨_,rfl⟩
 rw [ha] at hz5
 have hz6:(at_:Int)+m=a:=by omega
 rw [ha]
 have hza:a<=src.size:=by omega
 have Cfm:(a:Int)<=src.size:=by omega
 obtain ⟨R9,hR9⟩:∃ R9,De ((bs src).drop a)=R9:=⟨_,rfl⟩
 rw [hR9]
 have HR9:=Lib.hid hR9
 have HSC:=Lib.hid h
 have HG:=Lib.hid hg
 clear h hg hR9
 go_enter Tryz.func30,Tryz.ntmps30
 go_wp2_with fail
 refine Jm [(0,0),(1,0),(2,0),(3,3),(4,0),(5,1)] (λw'=>w'.cell? ⟨sb,1,none⟩=some (.int .i64 at_)) (by kernel_rfl) (by kernel_rfl) (λ_ _ d _ _ h=>by cases d <;> exact h) (by first | exact c1 | exact (hb2.cell (p:=⟨sb,1,none⟩) hb).trans c1) ?_
 simp only [Dz,List.filterMap_cons,List.filterMap_nil,List.getElem?_toArray,List.getElem?_cons_zero,List.getElem?_cons_succ,Option.map_some,List.drop_succ_cons,List.drop_zero,AH,AX]
 iterate 3 (refine DJ (by rfl) (λwq=>by go_simp;with_reducible rfl) ?_;simp only [Act.put,List.setIfInBounds_toArray,List.set_cons_zero,List.set_cons_succ])
 iterate 1 (refine FA (by rfl) (λwq hq1=>by go_simp;with_reducible rfl) ?_;simp only [Act.put,List.setIfInBounds_toArray,List.set_cons_zero,List.set_cons_succ])
 iterate 1 (refine DJ (by rfl) (λwq=>by go_simp;with_reducible rfl) ?_;simp only [Act.put,List.setIfInBounds_toArray,List.set_cons_zero,List.set_cons_succ])
 refine Ou ?_ ?_
 ·rfl
 intro K hK
 (go_wp2_with fail;refine Q8.out.mono ?_;rintro e w1 ⟨rfl,hb2⟩;go_wp2_with fail)
 refine ⟨by first | exact c1 | exact (hb2.cell (p:=⟨sb,1,none⟩) hb).trans c1,?_⟩
 refine JC ?_
 have JQ:=Lib.hid (HSC.out.drew.later hb2)
 have HB1:=Lib.hid (((Below.refl w.heap.size w).drew).trans hb2)
 clear hb c0 c1 hb2
 obtain ⟨hb,c0,c1⟩:=JQ.out.reads
 have hfr:=JQ.out.free 1
 go_wp2_with fail
 have JR:=Lib.hid (JQ.out.move a)
 have HB2:=Lib.hid ((HB1.out.mono hBw).setCell (p:=⟨sb,1,none⟩) JQ.out.base (.int .i64 a))
 generalize w1.setCell ⟨sb,1,none⟩ (.int .i64 a)=w2 at *
 clear hb c0 c1 hfr
 obtain ⟨hb,c0,c1⟩:=JR.out.reads
 refine Jm [(0,0),(1,0),(2,0),(3,3),(4,0),(5,0),(6,0),(7,3)] (λw'=>w'.cell? ⟨sb,0,none⟩=some (.string src)/\w'.cell? ⟨sb,1,none⟩=some (.int .i64 a)) (by kernel_rfl) (by kernel_rfl) (λ_ _ d _ _ h=>by cases d <;> exact h) (by refine ⟨?_,?_⟩ <;> go_simp) ?_
 simp only [Dz,List.filterMap_cons,List.filterMap_nil,List.getElem?_toArray,List.getElem?_cons_zero,List.getElem?_cons_succ,Option.map_some,List.drop_succ_cons,List.drop_zero,AH,AX]
 iterate 3 (refine DJ (by rfl) (λwq=>by go_simp;with_reducible rfl) ?_;simp only [Act.put,List.setIfInBounds_toArray,List.set_cons_zero,List.set_cons_succ])
 iterate 1 (refine FA (by rfl) (λwq hq=>by obtain ⟨hq0,hq1⟩:=hq;go_simp;with_reducible rfl) ?_;simp only [Act.put,List.setIfInBounds_toArray,List.set_cons_zero,List.set_cons_succ])
 iterate 3 (refine DJ (by rfl) (λwq=>by go_simp;with_reducible rfl) ?_;simp only [Act.put,List.setIfInBounds_toArray,List.set_cons_zero,List.set_cons_succ])
 iterate 1 (refine FA (by rfl) (λwq hq=>by obtain ⟨hq0,hq1⟩:=hq;go_simp;with_reducible rfl) ?_;simp only [Act.put,List.setIfInBounds_toArray,List.set_cons_zero,List.set_cons_succ])
 refine JC ?_
 go_wp2_with fail
 have HDT:=Lib.hid (Tryz.utf8_DecodeRuneInString (src.extract a src.size) w2.drew ((HG.out.below HB2.out hNB).drew).utf)
 have HTL:=Lib.hid (GQ src a)
 generalize hL:(bs src).drop a=L at *
 generalize hsx:src.extract a src.size=sx at *
 have HL:=Lib.hid hL
 clear hL hsx
 cases hLc:L with
 | nil =>
  subst hLc
  have he:sx.toList.isEmpty=true:=by
   rw [Lib.toList_data]
   show (bs sx).isEmpty=true
   rw [HTL.out];rfl
  refine HDT.out.mono ?_
  rintro e w3 ⟨rfl,hb3⟩
  have HB3:=Lib.hid (HB2.out.drew.trans (hb3.mono (by have:=HB2.out.size;simp;omega)))
  have Mu:=Lib.hid (JR.out.drew.later hb3)
  clear hb3 hb c0 c1
  go_wp2_with fail
  go_ret
  rw [<- HR9.out]
  exact ⟨rfl,Mu.out,HB3.out⟩
 | cons c t =>
  have hne:¬ (c :: t=([]:Bs)):=by simp
  rw [hLc] at HL HTL HR9
  have HDG:=Lib.hid (A1i sx (by rw [HTL.out];simp))
  rw [HTL.out] at HDG
  have TR:=M0 (c :: t)
  generalize hr:(Ba (c :: t)).1=r at *
  have JP:=Lib.hid hr
  clear hr hLc
  have he:=RV sx c t HTL.out
  have Vc:=HDT.out
  rw [show (Lib.decodeGo sx).1=r by rw [HDG.out];exact JP.out] at Vc
  refine Vc.mono ?_
  rintro e w3 ⟨rfl,hb3⟩
  have HB3:=Lib.hid (HB2.out.drew.trans (hb3.mono (by have:=HB2.out.size;simp;omega)))
  have Mu:=Lib.hid (JR.out.drew.later hb3)
  have hw3:B<=w3.heap.size:=by have:=HB3.out.size;omega
  have HG3:=Lib.hid (HG.out.below HB3.out hNB)
  clear hb3 hb c0 c1 HDT Vc HDG
  obtain ⟨hb,c0,c1⟩:=Mu.out.reads
  have HPX:=Lib.hid (Sm sx [45,45])
  rw [HTL.out] at HPX
  by_cases hpre:([45,45]:Bs).isPrefixOf (c :: t)=true
  ·rw [hpre] at HPX
   have L3:=Lib.hid hpre
   clear hpre
   go_wp2_with fail
   refine (HPX.out w3).mono ?_
   rintro e w' ⟨rfl,rfl⟩
   have hn:=Jh Jv ((bs src).drop a)
   rw [BA,B0,HL.out] at hn
   have HRL:=Lib.hid (run_any 68 Jv sb a src w3.drew B1r hb c0 c1 hza (by omega))
   rw [HL.out] at HRL
   obtain ⟨n,hn2⟩:∃ n,Bp Jv (c :: t)=n:=⟨_,rfl⟩
   rw [hn2] at hn HRL
   have HRN:=Lib.hid hn2
   clear hn2
   have hzn:=wrap_in ((a:Int)+n) (by omega) (by omega)
   rw [show (a:Int)+n=((a+n:Nat):Int) by omega] at hzn
   obtain ⟨an,han⟩:∃ an,a+n=an:=⟨_,rfl⟩
   rw [han] at hzn
   have Cfo:(a:Int)+n=an:=by omega
   go_wp2_with fail
   refine Jm [(0,0),(1,0),(2,0),(3,3),(4,0),(5,1)] (λw'=>w'.cell? ⟨sb,1,none⟩=some (.int .i64 a)) (by kernel_rfl) (by kernel_rfl) (λ_ _ d _ _ h=>by cases d <;> exact h) (by first | exact c1 | exact (hb4.cell (p:=⟨sb,1,none⟩) hb).trans c1) ?_
   simp only [Dz,List.filterMap_cons,List.filterMap_nil,List.getElem?_toArray,List.getElem?_cons_zero,List.getElem?_cons_succ,Option.map_some,List.drop_succ_cons,List.drop_zero,AH,AX]
   iterate 3 (refine DJ (by rfl) (λwq=>by go_simp;with_reducible rfl) ?_;simp only [Act.put,List.setIfInBounds_toArray,List.set_cons_zero,List.set_cons_succ])
   iterate 1 (refine FA (by rfl) (λwq hq1=>by go_simp;with_reducible rfl) ?_;simp only [Act.put,List.setIfInBounds_toArray,List.set_cons_zero,List.set_cons_succ])
   iterate 1 (refine DJ (by rfl) (λwq=>by go_simp;with_reducible rfl) ?_;simp only [Act.put,List.setIfInBounds_toArray,List.set_cons_zero,List.set_cons_succ])
   refine Ou ?_ ?_
   ·rfl
   intro K hK
   (go_wp2_with fail;refine HRL.out.mono ?_;rintro e w4 ⟨rfl,hb4⟩;go_wp2_with fail)
   refine ⟨by first | exact c1 | exact (hb4.cell (p:=⟨sb,1,none⟩) hb).trans c1,?_⟩
   refine JC ?_
   have Tb:=Lib.hid (Mu.out.drew.later hb4)
   have HB4:=Lib.hid (HB3.out.drew.trans (hb4.mono hw3))
   clear hb c0 c1 hb4
   obtain ⟨hb,c0,c1⟩:=Tb.out.reads
   have hfr:=Tb.out.free 1
   go_wp2_with fail
   go_ret
   have hgg:=HR9.out
   unfold De at hgg
   rw [JP.out,if_neg hne,if_pos L3.out,HRN.out] at hgg
   rw [<- hgg]
   refine ⟨rfl,?_,HB4.out.setCell (p:=⟨sb,1,none⟩) Tb.out.base (.int .i64 an)⟩
   rw [han]
   exact Tb.out.move an
  ·have hpre':([45,45]:Bs).isPrefixOf (c :: t)=false:=Bool.eq_false_iff.2 hpre
   rw [hpre'] at HPX
   have L3:=Lib.hid hpre
   clear hpre hpre'
   go_wp2_with fail
   refine (HPX.out w3).mono ?_
   rintro e w' ⟨rfl,rfl⟩
   cases hlet:G5 r with
   | true =>
    have Mt:=Lib.hid hlet
    have HLC:=Lib.hid (Z3.2 r w3 TR)
    rw [hlet] at HLC
    clear hlet
    go_wp2_with fail
    refine HLC.out.mono ?_
    rintro e w' ⟨rfl,rfl⟩
    have HNM:=Lib.hid (name_any B sb a src l w3 Mu.out HG3.out hza hs hll hw3)
    rw [HL.out] at HNM
    by_cases h40:Bp BJ (c :: t) > 40
    ·have Ng:=Lib.hid (HNM.out.mono λe w' h=>(by unfold Ni at h;rw [if_pos h40] at h;exact h:e=IS 14 a/\Below B w3 w'))
     go_wp2_with fail
     refine Ng.out.mono ?_
     rintro e w4 ⟨rfl,hb4⟩
     go_wp2_with fail
     refine ⟨rfl,?_⟩
     have hgg:=HR9.out
     unfold De at hgg
     rw [JP.out,if_neg hne,if_neg L3.out,if_pos Mt.out] at hgg
     dsimp only at hgg
     rw [if_pos h40] at hgg
     rw [<- hgg]
     exact ⟨rfl,HB3.out.trans hb4⟩
    ·have Ng:=Lib.hid (HNM.out.mono λe w' h=>(by unfold Ni at h;rw [if_neg h40] at h;exact h:e=.returned (.tuple #[])/\Sc B sb src (a+Bp BJ (c :: t)) (l++[⟨if Ke ((c :: t).take (Bp BJ (c :: t))) then 2 else 1,(c :: t).take (Bp BJ (c :: t)),0,a⟩]) w'/\Below B w3 w'))
     go_wp2_with fail
     refine Ng.out.mono ?_
     rintro e w4 ⟨rfl,G4,hb4⟩
     go_wp2_with fail
     go_ret
     have hgg:=HR9.out
     unfold De at hgg
     rw [JP.out,if_neg hne,if_neg L3.out,if_pos Mt.out] at hgg
     dsimp only at hgg
     rw [if_neg h40] at hgg
     rw [<- hgg]
     exact ⟨rfl,G4,HB3.out.trans hb4⟩
   | false =>
    have Mt:=Lib.hid (show ¬ G5 r=true by rw [hlet];simp)
    have HLC:=Lib.hid (Z3.2 r w3 TR)
    rw [hlet] at HLC
    clear hlet
    go_wp2_with fail
    refine HLC.out.mono ?_
    rintro e w' ⟨rfl,rfl⟩
    cases hdig:FO r with
    | true =>
     have OG:=Lib.hid hdig
     have HDC:=Lib.hid (UH.2 r w3 TR)
     rw [hdig] at HDC
     clear hdig
     go_wp2_with fail
     refine HDC.out.mono ?_
     rintro e w' ⟨rfl,rfl⟩
     have HNM:=Lib.hid (Bqk B sb a src l w3 Mu.out hza hs hll hw3)
     rw [HL.out] at HNM
     by_cases h40:(Es ((c :: t).take (Bp BJ (c :: t)))).2≠0
     ·have Ng:=Lib.hid (HNM.out.mono λe w' h=>(by unfold NumEnd at h;rw [if_pos h40] at h;exact h:e=IS (Es ((c :: t).take (Bp BJ (c :: t)))).2 a/\Below B w3 w'))
      go_wp2_with fail
      refine Ng.out.mono ?_
      rintro e w4 ⟨rfl,hb4⟩
      go_wp2_with fail
      refine ⟨rfl,?_⟩
      have hgg:=HR9.out
      unfold De at hgg
      rw [JP.out,if_neg hne,if_neg L3.out,if_neg Mt.out,if_pos OG.out] at hgg
      dsimp only at hgg
      rw [if_pos h40] at hgg
      rw [<- hgg]
      exact ⟨rfl,HB3.out.trans hb4⟩
     ·have Ng:=Lib.hid (HNM.out.mono λe w' h=>(by unfold NumEnd at h;rw [if_neg h40] at h;exact h:e=.returned (.tuple #[])/\Sc B sb src (a+Bp BJ (c :: t)) (l++[⟨3,(c :: t).take (Bp BJ (c :: t)),(Es ((c :: t).take (Bp BJ (c :: t)))).1,a⟩]) w'/\Below B w3 w'))
      go_wp2_with fail
      refine Ng.out.mono ?_
      rintro e w4 ⟨rfl,G4,hb4⟩
      go_wp2_with fail
      go_ret
      have hgg:=HR9.out
      unfold De at hgg
      rw [JP.out,if_neg hne,if_neg L3.out,if_neg Mt.out,if_pos OG.out] at hgg
      dsimp only at hgg
      rw [if_neg h40] at hgg
      rw [<- hgg]
      exact ⟨rfl,G4,HB3.out.trans hb4⟩
    | false =>
     have OG:=Lib.hid (show ¬ FO r=true by rw [hdig];simp)
     have HDC:=Lib.hid (UH.2 r w3 TR)
     rw [hdig] at HDC
     clear hdig
     go_wp2_with fail
     refine HDC.out.mono ?_
     rintro e w' ⟨rfl,rfl⟩
     by_cases hq:r=34\/r=39
     ·have hc:(c :: t).getD 0 0=c:=rfl
      have hcr:c.toNat=r:=by
       have:=A0y (c :: t) (by rw [JP.out];omega)
       rw [JP.out] at this
       exact this
      have HQ:=Lib.hid hq
      have hwr:IntKind.u8.wrap (r:Int)=c.toNat:=by
       rw [hcr]
       rcases HQ.out with h | h <;> rw [h] <;> rfl
      have hcu:UInt8.ofNat r=c:=by rw [<- hcr];simp
      have hlen5:src.size<=100000:=hs
      have HTX:=Lib.hid (B2o B sb a src l c t w3 Mu.out HL.out hs hll hw3)
      have HCU:=Lib.hid hcu
      clear hcu hcr hc
      generalize htx:ED c (c :: t).length t [] 1=TX at *
      have HTE:=Lib.hid htx
      clear htx
      have key:∀ e w',Abb TX B sb a src l w3 e w'->True:=λ_ _ _=>trivial
      have hgg:=HR9.out
      unfold De at hgg
      rw [JP.out,if_neg hne,if_neg L3.out,if_neg Mt.out,if_neg OG.out,if_pos HQ.out,HCU.out] at hgg
      rw [List.tail_cons,HTE.out] at hgg
      have HGG:=Lib.hid hgg
      clear hgg key
      rcases hq with hq | hq
      ·have hq1:((r:Int) == 34)=true:=by rw [beq_iff_eq];omega
       clear hq
       go_wp2_with fail
       refine HTX.out.mono ?_
       cases TX with
       | bad ec er =>
        rintro e w4 ⟨rfl,hb4⟩
        go_wp2_with fail
        refine ⟨rfl,?_⟩
        rw [<- HGG.out]
        exact ⟨rfl,HB3.out.trans hb4⟩
       | ok ev en =>
        rintro e w4 ⟨rfl,G4,hb4⟩
        go_wp2_with fail
        go_ret
        rw [<- HGG.out]
        exact ⟨rfl,G4,HB3.out.trans hb4⟩
      ·have hq1:((r:Int) == 34)=false:=by rw [beq_eq_false_iff_ne];omega
       have hq2:((r:Int) == 39)=true:=by rw [beq_iff_eq];omega
       clear hq
       go_wp2_with fail
       refine HTX.out.mono ?_
       cases TX with
       | bad ec er =>
        rintro e w4 ⟨rfl,hb4⟩
        go_wp2_with fail
        refine ⟨rfl,?_⟩
        rw [<- HGG.out]
        exact ⟨rfl,HB3.out.trans hb4⟩
       | ok ev en =>
        rintro e w4 ⟨rfl,G4,hb4⟩
        go_wp2_with fail
        go_ret
        rw [<- HGG.out]
        exact ⟨rfl,G4,HB3.out.trans hb4⟩
     ·have hq1:((r:Int) == 34)=false:=by rw [beq_eq_false_iff_ne];omega
      have hq2:((r:Int) == 39)=false:=by rw [beq_eq_false_iff_ne];omega
      have HSG:=Lib.hid (B05 B sb a src l w3 Mu.out HG3.out hza hs hll hw3)
      rw [HL.out] at HSG
      go_wp2_with fail
      refine HSG.out.mono ?_
      have HQ:=Lib.hid hq
      cases hsg:Mg (c :: t) with
      | none =>
       have Ve:=Lib.hid hsg
       rintro e w4 ⟨rfl,hb4⟩
       clear hsg
       go_wp2_with fail
       refine ⟨rfl,?_⟩
       have hgg:=HR9.out
       unfold De at hgg
       rw [JP.out,if_neg hne,if_neg L3.out,if_neg Mt.out,if_neg OG.out,if_neg HQ.out,Ve.out] at hgg
       rw [<- hgg]
       exact ⟨rfl,HB3.out.trans hb4⟩
      | some sg =>
       have Ve:=Lib.hid hsg
       rintro e w4 ⟨rfl,G4,hb4⟩
       clear hsg
       go_wp2_with fail
       go_ret
       have hgg:=HR9.out
       unfold De at hgg
       rw [JP.out,if_neg hne,if_neg L3.out,if_neg Mt.out,if_neg OG.out,if_neg HQ.out,Ve.out] at hgg
       rw [<- hgg]
       exact ⟨rfl,G4,HB3.out.trans hb4⟩
set_option maxHeartbeats 2000000 in
theorem B0v (p q:Nat) (x:Value) (y1 y2:Int) (c a:Int) (w:World) (hp:w.cell? ⟨p,0,none⟩=some x) (hq0:w.cell? ⟨q,0,none⟩=some (.int .i64 y1)) (hq1:w.cell? ⟨q,1,none⟩=some (.int .i64 y2))
  (fp:w.frozen? ⟨p,0,none⟩=false) (fq:w.frozen? ⟨q,0,none⟩=false) (fq1:w.frozen? ⟨q,1,none⟩=false) (hpl:p < w.heap.size) (hql:q < w.heap.size) (hne:p < q) :
  CallsD Tryz.prog 29 #[.pointer (some ⟨p,0,none⟩),.pointer (some ⟨q,0,none⟩)] (.panicking [{ v:=.iface 78 (.agg #[.int .i64 c,.int .i64 a]),recovered:=false }]) w λe u' w' =>
   e=.returned (.tuple #[])/\u'=.panicking [{ v:=.iface 78 (.agg #[.int .i64 c,.int .i64 a]),recovered:=true }] /\
   w'.cell? ⟨p,0,none⟩=some (.slice none 0 0)/\w'.cell? ⟨q,0,none⟩=some (.int .i64 c)/\w'.cell? ⟨q,1,none⟩=some (.int .i64 a)/\Below p w w':=by
 refine callsD_of_wpS Tryz.func29 rfl λc₀ cs hu=>?_
 have hta:∀ w,(Instr.typeAssert (.iface 78 (.agg #[.int .i64 c,.int .i64 a])) 20 78 true).run Tryz.prog w=.ok (.tuple #[.agg #[.int .i64 c,.int .i64 a],.bool true]) w:=λw=>by kernel_rfl
 apply wpS_seq
 apply wpS_region
 simp [wpOpsS,go_sem,recoverD,hu,Tryz.ntmps29,Exit.thenS,Array.replicate_succ]
 refine wpS_of_wp ?_
 go_wp2
 have hpn:¬ w.heap.size=p:=by omega
 have hqn:¬ w.heap.size=q:=by omega
 have hpq:¬ p=q:=by omega
 have hqp:¬ q=p:=by omega
 have Cfe:¬ p=w.heap.size:=by omega
 have Cfg:¬ q=w.heap.size:=by omega
 refine Jm [(0,3),(1,1)] (λw'=>w'.cell? ⟨w.heap.size,0,none⟩=some (.int .i64 c)/\w'.cell? ⟨w.heap.size,1,none⟩=some (.int .i64 a)) (by kernel_rfl) (by kernel_rfl) (λ_ _ d _ _ h=>by cases d <;> exact h) (by refine ⟨?_,?_⟩ <;> go_simp) ?_
 simp only [Dz,List.filterMap_cons,List.filterMap_nil,List.getElem?_toArray,List.getElem?_cons_zero,List.getElem?_cons_succ,Option.map_some,List.drop_succ_cons,List.drop_zero,AH,AX]
 iterate 1 (refine FA (by rfl) (λwq hq=>by obtain ⟨hq0,hq1⟩:=hq;go_simp;with_reducible rfl) ?_;simp only [Act.put,List.setIfInBounds_toArray,List.set_cons_zero,List.set_cons_succ])
 refine Ou ?_ ?_
 ·rfl
 intro K hK
 go_wp2
 refine ⟨by refine ⟨?_,?_⟩ <;> go_simp,?_⟩
 refine JC ?_
 go_wp2
 simp [bodyPostS,results,Tryz.results29]
 refine ⟨?_,?_,?_,?_⟩
 ·go_simp
 ·go_simp
 ·go_simp
 ·exact (((((Below.refl p w).setCell (p:=⟨p,0,none⟩) (Nat.le_refl _) _).setCell (p:=⟨q,0,none⟩) (Nat.le_of_lt hne) _).setCell (p:=⟨q,1,none⟩) (Nat.le_of_lt hne) _).alloc (by simp;omega) _).drew
theorem B0r (p q:Value) (w:World) :
  CallsD Tryz.prog 29 #[p,q] .returning w λe u' w'=>e=.returned (.tuple #[])/\u'=.returning/\w=w':=by
 refine callsD_of_wpS Tryz.func29 rfl λc₀ cs hu=>?_
 apply wpS_seq
 apply wpS_region
 simp [wpOpsS,go_sem,recoverD,hu,Tryz.ntmps29,Exit.thenS,Array.replicate_succ]
 refine wpS_of_wp ?_
 go_wp2
 cases c₀
 simp_all [bodyPostS,results,Tryz.results29]
end
section
namespace Lx
theorem Sz (p:Nat->Bool) (l:Bs) (hl:l≠[]) (h:p (Ba l).1=true):1<=Bp p l:=by
 rw [Mf p l hl,if_pos h];have:=(Gf l).1;omega
theorem Ap9 (l:Bs) (n:Nat) (h:De l=.skip n):1<=n/\n<=l.length:=by
 unfold De at h;by_cases h0:l=[]
 ·rw [if_pos h0] at h;cases h
 rw [if_neg h0] at h;by_cases h1:[45,45].isPrefixOf l=true
 ·rw [if_pos h1] at h
  cases h;refine ⟨Sz _ _ h0 ?_,Jh _ _⟩;obtain ⟨t,rfl⟩:=List.isPrefixOf_iff_prefix.1 h1;rfl
 ·rw [if_neg h1] at h
  exfalso;dsimp only at h
  (repeat' split at h) <;> cases h
theorem Af6:∀ (m:Nat) (t:Bs) (n k:Nat),(BD m t n k).2<=k+t.length
 | 0,t,n,k=>by simp [BD]
 | m+1,[],n,k=>by simp [BD]
 | m+1,b :: t,n,k=>by
  simp only [BD];split;simp;rename_i d _;have:=Af6 m t (16 * n+d) (k+1);simp only [AH];omega
theorem Ac0:∀ (m:Nat) (t:Bs) (n k:Nat),(D6 m t n k).2<=k+t.length
 | 0,t,n,k=>by simp [D6]
 | m+1,[],n,k=>by simp [D6]
 | m+1,b :: t,n,k=>by
  simp only [D6];split;have:=Ac0 m t (10 * n+(b.toNat - 48)) (k+1);simp only [AH];omega;simp
theorem A3x (l e:Bs) (n:Nat) (h:Ig l=.ok e n):2<=n/\n<=l.length+1:=by
 cases l with
 | nil=>cases h
 | cons c t =>
  simp only [Ig] at h;split at h;cases h;simp;split at h;split at h;cases h;rename_i h2;cases h;have:=Af6 2 t 0 0;have:(BD 2 t 0 0).2<=2:=by
   have hb:∀ m (t:Bs) n k,(BD m t n k).2<=k+m:=by
    intro m;induction m with
    | zero=>intros;simp [BD]
    | succ m ih =>
     intro t n k;cases t with
     | nil=>simp [BD]
     | cons b t =>
      simp only [BD];split;simp;rename_i d _;have:=ih t (16 * n+d) (k+1);omega
   exact hb 2 t 0 0
  simp only [AH];omega;split at h;rename_i h3;split at h;cases h;rename_i h4;simp only [OD.ok.injEq] at h;obtain ⟨-,rfl⟩:=h;cases t with
  | nil=>simp at h3
  | cons d t =>
   simp only [List.tail_cons,not_or,Decidable.not_not] at h4 ⊢;have h5:=h4.2.2;have:(BD 8 t 0 0).2 < t.length:=by
    rcases Nat.lt_or_ge (BD 8 t 0 0).2 t.length with h | h;exact h;rw [List.drop_of_length_le h] at h5;simp at h5
   simp only [AH];omega
  split at h;cases h;rename_i h4;simp only [OD.ok.injEq] at h;obtain ⟨-,rfl⟩:=h;have:=Ac0 3 (c :: t) 0 0;simp only [not_or] at h4;omega
theorem Z9 (q:UInt8):∀ (f:Nat) (l acc:Bs) (i:Nat) (v:Bs) (k:Nat),ED q f l acc i=.ok v k->i < k/\k<=i+l.length
 | 0,l,acc,i,v,k,h=>by cases h
 | f+1,[],acc,i,v,k,h=>by cases h
 | f+1,b :: t,acc,i,v,k,h=>by
  simp only [ED] at h;split at h;cases h;split at h;split at h;cases h;cases h;simp;split at h;split at h;cases h;cases h;rename_i e n he;have h1:=A3x t e n he;have h2:=Z9 q f _ _ _ v k h;rw [BA] at h2;simp only [AH] at h2 ⊢;omega;have h2:=Z9 q f _ _ _ v k h;simp only [AH];omega
theorem Aqa (l:Bs) (k:Int) (t:Bs) (n:Int) (len:Nat) (h:De l=.tok k t n len):1<=len/\len<=l.length:=by
 unfold De at h;by_cases h0:l=[];rw [if_pos h0] at h;cases h;rw [if_neg h0] at h;have hl:1<=l.length:=by cases l with | nil=>exact absurd rfl h0 | cons=>simp
 by_cases h1:[45,45].isPrefixOf l=true;rw [if_pos h1] at h;cases h;rw [if_neg h1] at h;by_cases h2:G5 (Ba l).1=true;rw [if_pos h2] at h;dsimp only at h;split at h;cases h;cases h;exact ⟨Sz _ _ h0 (by unfold BJ;rw [h2];rfl),Jh _ _⟩;rw [if_neg h2] at h;by_cases h3:FO (Ba l).1=true;rw [if_pos h3] at h;dsimp only at h;split at h;cases h;cases h;exact ⟨Sz _ _ h0 (by unfold BJ;rw [h3];simp),Jh _ _⟩;rw [if_neg h3] at h;split at h;split at h;cases h;rename_i v k' ht;cases h;have:=Z9 _ _ _ _ _ _ _ ht;rw [List.length_tail] at this;omega;split at h;cases h;rename_i s hs;cases h;have hm:=List.mem_of_find?_eq_some hs;have hp:=List.find?_some hs;have:∀ s ∈ Gu,1<=s.length:=by decide
 refine ⟨this _ hm,?_⟩;exact (List.isPrefixOf_iff_prefix.1 hp).length_le
end Lx
end
section
open Go Go.RowKit Lx
def Vg (R:(Int×Int) ⊕ List Tok) (w:World) (e:Ending) (w':World):Prop :=
 match R with
 | .inl (c,a)=>e=.returned (.tuple #[.slice none 0 0,.agg #[.int .i64 c,.int .i64 a]])/\Below w.heap.size w w'
 | .inr l=>∃ lv,e=.returned (.tuple #[lv,.agg #[.int .i64 0,.int .i64 0]])/\w'.ownsRow w.heap.size 60 4 lv l.length (KB l)/\Below w.heap.size w w'
def posOf (sb:Nat) (w:World):Nat:=match w.cell? ⟨sb,1,none⟩ with | some (.int _ k)=>k.toNat | _=>0
theorem U4 {B sb at_:Nat} {src:Ah} {l:List Tok} {w:World} (h:Sc B sb src at_ l w):posOf sb w=at_:=by
 unfold posOf;rw [h.reads.2.2];simp
theorem B0d (src:Ah) (B:Nat) (w:World) (hB:B<=w.heap.size):Sc B w.heap.size src 0 [] (w.alloc (.cells #[.string src,.int .i64 0,.slice none 0 0] 81)) :=
 ⟨.slice none 0 0,JT w _,⟨by simp [KB],.inl ⟨rfl,rfl⟩⟩,by simp [Value.ownBlock],hB⟩
theorem ownsRow_base {w:World} {B B':Nat} {e:TypeId} {size n:Nat} {v:Value} {xs:List Value} (h:w.ownsRow B e size v n xs) (hB:B'<=B):w.ownsRow B' e size v n xs:=by
 refine ⟨h.1,?_⟩;rcases h.2 with h | ⟨g,cap,cur,hv,hg,r⟩;exact .inl h;exact .inr ⟨g,cap,cur,hv,by omega,r⟩
set_option maxHeartbeats 4000000 in
theorem B0n (src:Ah) (w:World) (hs:src.size > 20000):Calls Tryz.prog 14 #[.string src] w (Vg (.inl (14,-1)) w):=by
 have hz:(20000:Int) < src.size:=by omega
 go_enter_defers Tryz.func14,Tryz.ntmps14
 go_wp2_with fail
 simp [bodyPostD,Leaves,settle,results,Tryz.results14,go_sem]
 exact ⟨rfl,(((Below.refl w.heap.size w).alloc (Nat.le_refl _) _).alloc (by simp) _)⟩
set_option maxHeartbeats 4000000 in
theorem B00 (src:Ah) (w:World) (hs:src.size<=20000) (hg:Gl w):Calls Tryz.prog 14 #[.string src] w (Vg (FN (src.size+1) (bs src) 0 []) w):=by
 obtain ⟨R9,hR9⟩:∃ R9,FN (src.size+1) (bs src) 0 []=R9:=⟨_,rfl⟩
 rw [hR9]
 have HR9:=Lib.hid hR9
 have HG:=Lib.hid hg
 have hz:¬ (20000:Int) < src.size:=by omega
 clear hR9 hg
 have hmf:∀ (fn:Fn) (first cap:Array Value) (w:World),(Instr.makeFunc fn first cap).run Tryz.prog w=.ok (.func fn first cap) w:=λ_ _ _ _=>rfl
 go_enter_defers Tryz.func14,Tryz.ntmps14
 go_wp2_with fail
 have Ta:=B0d src (w.heap.size+2) ((w.alloc (.cells #[.slice none 0 0] 51)).alloc (.cells #[.int .i64 0,.int .i64 0] 24)) (by simp)
 simp only [World.size_alloc] at Ta
 have Ta:=Lib.hid Ta
 have HBP:=Lib.hid (L8 (o':=.cells #[.string src,.int .i64 0,.slice none 0 0] 81) (L8 (o':=.cells #[.int .i64 0,.int .i64 0] 24) (JT w (.cells #[.slice none 0 0] 51))))
 have hbq:=L8 (o':=.cells #[.string src,.int .i64 0,.slice none 0 0] 81) (JT (w.alloc (.cells #[.slice none 0 0] 51)) (.cells #[.int .i64 0,.int .i64 0] 24))
 simp only [World.size_alloc] at hbq
 have HBQ:=Lib.hid hbq
 have HB0:=Lib.hid ((((Below.refl w.heap.size w).alloc (Nat.le_refl _) (.cells #[.slice none 0 0] 51)).alloc (by simp) (.cells #[.int .i64 0,.int .i64 0] 24)).alloc (by simp;omega) (.cells #[.string src,.int .i64 0,.slice none 0 0] 81))
 clear hbq
 generalize hw3:((w.alloc (.cells #[.slice none 0 0] 51)).alloc (.cells #[.int .i64 0,.int .i64 0] 24)).alloc (.cells #[.string src,.int .i64 0,.slice none 0 0] 81)=w3 at *
 have hsz3:w3.heap.size=w.heap.size+3:=by rw [<- hw3];simp
 clear hw3
 go_loopw [] (λwr=>∃ (at_ f:Nat) (l:List Tok),at_<=src.size/\l.length<=at_/\src.size - at_+1<=f/\Hid (Sc (w.heap.size+2) (w.heap.size+1+1) src at_ l wr)/\Hid (FN f ((bs src).drop at_) at_ l=R9)/\Hid (Below (w.heap.size+2) w3 wr)) (λwr=>src.size - posOf (w.heap.size+1+1) wr)
 case atStart=>exact ⟨0,src.size+1,[],by omega,by simp,by omega,Ta,HR9,Below.refl _ _⟩
 case round =>
  obtain ⟨at_,f,l,h1,h2,h3,HSC,HGG,HBL⟩:=hrel
  have Cfj:=HBL.out.size
  have HNX:=next_any (w.heap.size+2) (w.heap.size+1+1) at_ src l wr HSC.out ((HG.out.below HB0.out HG.out.size).below HBL.out (by have:=HG.out.size;omega)) h1 (by omega) (by omega) (by omega) (by have:=HG.out.size;omega)
  obtain ⟨f,rfl⟩:∃ g,f=g+1:=⟨f - 1,by omega⟩
  have hg:=HGG.out
  simp only [FN] at hg
  have hk:=Jh Cn ((bs src).drop at_)
  generalize Bp Cn ((bs src).drop at_)=k at *
  have hlen:(((bs src).drop at_).drop k).length=src.size - at_ - k:=by rw [BA,BA,B0]
  rw [BA,B0] at hk
  cases hst:De (((bs src).drop at_).drop k) with
  | done =>
   rw [hst] at hg HNX
   simp only at hg
   have HN:=Lib.hid HNX
   have HE:=Lib.hid hg
   clear hg HNX hst hlen HGG
   go_wp2_with fail
   refine HN.out.mono ?_
   rintro e w4 ⟨rfl,G4,hb4⟩
   have KS:=Lib.hid (add_any (w.heap.size+2) (w.heap.size+1+1) (at_+k) src l 0 6 0 0 ByteArray.empty w4 G4 (by have:=hb4.size;omega) (by omega) (by omega))
   have HB4:=Lib.hid (HBL.out.trans hb4)
   clear G4 hb4
   go_wp2_with fail
   refine KS.out.mono ?_
   rintro e w5 ⟨rfl,Bjk,hb5⟩
   have HB5:=Lib.hid (HB4.out.trans hb5)
   have hlen5:(l++[(⟨6,bs ByteArray.empty,0,at_+k⟩:Tok)]).length=l.length+1:=by simp
   obtain ⟨lv,hblk,hown,hne,hsb⟩:=Bjk
   rw [hlen5] at hown
   obtain ⟨g,cap,hv,hg1,hg2⟩:=Y5 hown hblk (by decide)
   subst hv
   have c2:w5.cell? ⟨w.heap.size+1+1,2,none⟩=some (.slice (some ⟨g,0,none⟩) (l.length+1) cap):=by rw [Fl hblk];rfl
   have hb0:=Jr hblk
   have HOWN:=Lib.hid hown
   have hp:=JS HB5.out (by omega) HBP.out
   have hq:=JS HB5.out (by omega) HBQ.out
   have p0:w5.cell? ⟨w.heap.size,0,none⟩=some (.slice none 0 0):=by rw [Fl hp];rfl
   have q0:w5.cell? ⟨w.heap.size+1,0,none⟩=some (.int .i64 0):=by rw [Fl hq];rfl
   have q1:w5.cell? ⟨w.heap.size+1,1,none⟩=some (.int .i64 0):=by rw [Fl hq];rfl
   have pf:=IN hp 0
   have qf0:=IN hq 0
   have qf1:=IN hq 1
   clear hsb hne hown hblk hp hq hb5 hlen5
   go_wp2_with fail
   have hgp:¬ w.heap.size=g:=by omega
   have hgq:¬ w.heap.size+1=g:=by omega
   have r0:(((w5.setCell ⟨w.heap.size,0,none⟩ (.slice (some ⟨g,0,none⟩) (l.length+1) cap)).setCell ⟨w.heap.size+1,0,none⟩ (.int .i64 0)).setCell ⟨w.heap.size+1,1,none⟩ (.int .i64 0)).cell? ⟨w.heap.size,0,none⟩=some (.slice (some ⟨g,0,none⟩) (l.length+1) cap):=by go_simp
   have r1:(((w5.setCell ⟨w.heap.size,0,none⟩ (.slice (some ⟨g,0,none⟩) (l.length+1) cap)).setCell ⟨w.heap.size+1,0,none⟩ (.int .i64 0)).setCell ⟨w.heap.size+1,1,none⟩ (.int .i64 0)).cell? ⟨w.heap.size+1,0,none⟩=some (.int .i64 0):=by go_simp
   have r2:(((w5.setCell ⟨w.heap.size,0,none⟩ (.slice (some ⟨g,0,none⟩) (l.length+1) cap)).setCell ⟨w.heap.size+1,0,none⟩ (.int .i64 0)).setCell ⟨w.heap.size+1,1,none⟩ (.int .i64 0)).cell? ⟨w.heap.size+1,1,none⟩=some (.int .i64 0):=by go_simp
   generalize hw9:((w5.setCell ⟨w.heap.size,0,none⟩ (.slice (some ⟨g,0,none⟩) (l.length+1) cap)).setCell ⟨w.heap.size+1,0,none⟩ (.int .i64 0)).setCell ⟨w.heap.size+1,1,none⟩ (.int .i64 0)=w9 at *
   have HR:Hid (w9.ownsRow (w.heap.size+2) 60 4 (.slice (some ⟨g,0,none⟩) (l.length+1) cap) (l.length+1) (KB (l++[⟨6,bs ByteArray.empty,0,at_+k⟩]))):=by
    refine ⟨HOWN.out.1,?_⟩
    rcases HOWN.out.2 with ⟨h,_⟩ | ⟨g',cap',cur,hv,hg,hh,r⟩
    ·cases h
    ·cases hv
     rw [<- hw9]
     exact .inr ⟨g,cap,cur,rfl,hg,L9 (L9 (L9 hh hgp _) hgq _) hgq _,r⟩
   have HB9:Hid (Below w.heap.size w w9):=by
    rw [<- hw9]
    exact (((HB0.out.trans (HB5.out.mono (by omega))).setCell (p:=⟨w.heap.size,0,none⟩) (Nat.le_refl _) _).setCell (p:=⟨w.heap.size+1,0,none⟩) (by simp) _).setCell (p:=⟨w.heap.size+1,1,none⟩) (by simp) _
   clear hw9 HBP HBQ HSC HB4 HBL HN KS p0 q0 q1 pf qf0 qf1 c2
   refine leaves_cons (f:=29) (args:=#[.pointer (some ⟨w.heap.size,0,none⟩),.pointer (some ⟨w.heap.size+1,0,none⟩)]) (by simp) (by simp [go_sem]) ?_
   refine (B0r _ _ _).mono ?_
   rintro e u' w'' ⟨rfl,rfl,rfl⟩
   rw [<- HE.out]
   simp [Leaves,settle,results,Tryz.results14,go_sem,r0,r1,r2]
   refine ⟨.slice (some ⟨g,0,none⟩) (l.length+1) cap,rfl,?_,HB9.out⟩
   have h9:=HR.out
   rw [show bs ByteArray.empty=[] from rfl] at h9
   exact ownsRow_base (B:=w.heap.size+2) (B':=w.heap.size) (by rw [Bv];exact h9) (Nat.le_add_right _ _)
  | skip n =>
   rw [hst] at hg HNX
   have hn:=Ap9 _ _ hst
   simp only at hg
   have HN:=Lib.hid HNX
   have HE:=Lib.hid hg
   clear hg HNX hst HGG
   go_wp2_with fail
   refine HN.out.mono ?_
   rintro e w4 ⟨rfl,G4,hb4⟩
   have hpo:=U4 G4
   have Wt:=U4 HSC.out
   go_wp2_with fail
   go_roundw
   case rel =>
    refine ⟨at_+k+n,f,l,by omega,by omega,by omega,G4,?_,HBL.out.trans hb4⟩
    unfold Hid
    rw [<- HE.out,List.drop_drop,List.drop_drop,show at_+(k+n)=at_+k+n by omega]
   case measure=>rw [hpo,Wt];omega
  | tok kd tx n len =>
   rw [hst] at hg HNX
   have hn:=Aqa _ _ _ _ _ hst
   simp only at hg
   have HN:=Lib.hid HNX
   have HE:=Lib.hid hg
   clear hg HNX hst HGG
   go_wp2_with fail
   refine HN.out.mono ?_
   rintro e w4 ⟨rfl,G4,hb4⟩
   have hpo:=U4 G4
   have Wt:=U4 HSC.out
   go_wp2_with fail
   go_roundw
   case rel =>
    refine ⟨at_+k+len,f,l++[(⟨kd,tx,n,at_+k⟩:Tok)],by omega,by rw [Bv,List.length_singleton];omega,by omega,G4,?_,HBL.out.trans hb4⟩
    unfold Hid
    rw [<- HE.out,List.drop_drop,List.drop_drop,show at_+(k+len)=at_+k+len by omega]
   case measure=>rw [hpo,Wt];omega
  | bad c r =>
   rw [hst] at hg HNX
   simp only at hg
   have HN:=Lib.hid HNX
   have HE:=Lib.hid hg
   clear hg HNX hst HGG
   go_wp2_with fail
   refine HN.out.mono ?_
   rintro e w4 ⟨rfl,hb4⟩
   have HB4:=Lib.hid (HBL.out.trans hb4)
   go_wp2_with fail
   have hp:=JS HB4.out (by omega) HBP.out
   have hq:=JS HB4.out (by omega) HBQ.out
   refine leaves_cons (f:=29) (args:=#[.pointer (some ⟨w.heap.size,0,none⟩),.pointer (some ⟨w.heap.size+1,0,none⟩)]) (by simp) (by simp [go_sem]) ?_
   have hcz:(at_:Int)+k+r=((at_+k+r:Nat):Int):=by omega
   rw [hcz]
   refine (B0v w.heap.size (w.heap.size+1) (.slice none 0 0) 0 0 c ((at_+k+r:Nat):Int) w4 (by rw [Fl hp];rfl) (by rw [Fl hq];rfl) (by rw [Fl hq];rfl) (IN hp 0) (IN hq 0) (IN hq 1) (Jr hp) (Jr hq) (by omega)).mono ?_
   rintro e u' w'' ⟨rfl,rfl,r0,r1,r2,hb9⟩
   rw [<- HE.out]
   have HB9:=Lib.hid ((HB0.out.trans (HB4.out.mono (by omega))).trans hb9)
   clear hp hq HN HBP HBQ HSC HB4 HBL hb4 hcz
   simp [Leaves,settle,results,Tryz.results14,go_sem,r0,r1,r2]
   exact ⟨rfl,HB9.out⟩
theorem B0j (src:Ah) (w:World) (hg:Gl w):Calls Tryz.prog 14 #[.string src] w (Vg (FF (bs src)) w):=by
 unfold FF;rw [B0];by_cases h:src.size > 20000;rw [if_pos h];exact B0n src w h;rw [if_neg h];exact B00 src w (by omega) hg
def SY (Af:Am):Prop:=∀ w,Af.On w->Gl w
theorem Gl.piece {w:World} (h:Gl w):SY (Go.Proofs.YtaifddambjmiiaaGreatDoor.old w):=λw' hw=>by
 have hb:∀ k,k < w.heap.size->w'.heap[k]? = w.heap[k]?:=λk hk=>by
  have h1:w.heap[k]? = some w.heap[k]:=Array.getElem?_eq_getElem hk;rw [h1];exact hw k w.heap[k] h1
 have hs:w.heap.size<=w'.heap.size:=by
  rcases Nat.lt_or_ge 0 w.heap.size with h0 | h0;have:=hb (w.heap.size - 1) (by omega);have h1:w.heap[w.heap.size - 1]? = some w.heap[w.heap.size - 1]:=Array.getElem?_eq_getElem (by omega);rw [h1] at this;have:=(Array.getElem?_eq_some_iff.1 this).1;omega;omega
 have hl:Gl { w with heap:=w'.heap }:=h.below (B:=w.heap.size) ⟨rfl,rfl,rfl,hs,hb⟩ h.size;exact ⟨hl.utf,hl.space,hl.maxLen,hl.size⟩
def FH (t:Tok):Int×Ah×Int×Int:=(t.kind,str t.text,t.n,t.at_)
theorem Aq3 (l:List Tok):(l.map FH).flatMap e60=KB l:=by
 induction l with
 | nil=>rfl
 | cons t l ih=>simp only [List.map_cons,List.flatMap_cons,ih];rfl
def P0 (s:Ah):List (Int×Ah×Int×Int)×Int×Int :=
 match FF (bs s) with
 | .inl (c,a)=>([],c,a)
 | .inr l=>(l.map FH,0,0)
def RL.f (_k:Nat) (s:Ah):Option (List (Int×Ah×Int×Int)×Int×Int):=some (P0 s)
theorem Bw9 {w:World} {B:Nat} {v:Value} {l:List Tok} (h:w.ownsRow B 60 4 v l.length (KB l)):∃ A c,v=.slice A (l.map FH).length c/\((v=.slice none 0 0/\l=[])\/∃ g cur,B<=g/\A=some ⟨g,0,none⟩/\w.heap[g]? = some (.cells cur 60 (0,0))/\AC e60 60 4 (blk g (.cells cur 60 (0,0))) v (l.map FH)):=by
 rcases h.2 with ⟨rfl,h0⟩ | ⟨g,cap,cur,rfl,hb,hg,h1,h2,h3,h4⟩;have:l=[]:=List.eq_nil_of_length_eq_zero h0;subst this;exact ⟨none,0,rfl,.inl ⟨rfl,rfl⟩⟩;refine ⟨some ⟨g,0,none⟩,cap,by rw [List.length_map],.inr ⟨g,cur,hb,rfl,hg,?_⟩⟩;unfold AC;rw [Aq3,List.length_map];refine ⟨h.1,λu hu=>?_,.inr ⟨g,cap,cur,rfl,rfl,h1,h2,h3,h4⟩⟩;rw [<- Aq3] at hu;exact T5.ones _ u hu
theorem St.fresh {A w w':World} {X:List Am} (hw:St A X w) (hb:Below w.heap.size w w') {g:Nat} {o:Obj} (hg:w.heap.size<=g) (ho:w'.heap[g]? = some o):St A (blk g o :: X) w':=by
 have h:=hw.below hb;refine ⟨⟨λk o' hk=>?_,λf hf k=>?_,h.sat⟩,h.os,h.tape,h.output,h.size⟩;unfold blk at hk;split at hk;rename_i e;subst e;cases hk;exact ho;cases hk;unfold blk;split;rename_i e;subst e;cases hk:f k with
 | none=>exact .inr rfl
 | some o'=>exact absurd (hw.sat.lt hf hk) (by omega)
 exact .inl rfl
theorem RL.ok {k:Nat} {a0:Ah} {Af:Am} {r:List (Int×Ah×Int×Int)×Int×Int} (h:RL.f k a0=some r) (hG:SY Af):
  Ct Tryz.prog 14 #[.string a0] [] [Af] λe l1=>∃ (H0_:Am) (A0_:AG) (c0_:Nat),AC e60 60 4 H0_ (W A0_ r.1 c0_) r.1/\e=.returned (.tuple #[W A0_ r.1 c0_,.agg #[.int .i64 r.2.1,.int .i64 r.2.2]])/\l1=[H0_]:=by
 obtain rfl:=Ap h;intro A w X hh hw;have hg:=hG w (hw.sat.on Af hh.1);refine (B0j a0 w hg).mono λe w' he=>?_;unfold P0;cases hs:FF (bs a0) with
 | inl ca =>
  obtain ⟨c,a⟩:=ca;rw [hs] at he;obtain ⟨rfl,hb⟩:=he;exact ⟨[none_],⟨none_,none,0,AC.nil e60 60 4 none_,I,I⟩,by
   have:=hw.below hb;exact ⟨⟨λ_ _ h=>(by cases h),λ_ _ _=>.inl I,this.sat⟩,this.os,this.tape,this.output,this.size⟩⟩
 | inr l =>
  rw [hs] at he;obtain ⟨lv,rfl,hrow,hb⟩:=he;obtain ⟨A0,c0,rfl,hc⟩:=Bw9 hrow;rcases hc with ⟨he,rfl⟩ | ⟨g,cur,hg1,hA,hg2,hO⟩;cases he;exact ⟨[none_],⟨none_,none,0,AC.nil e60 60 4 none_,I,I⟩,by
   have:=hw.below hb;exact ⟨⟨λ_ _ h=>(by cases h),λ_ _ _=>.inl I,this.sat⟩,this.os,this.tape,this.output,this.size⟩⟩
  exact ⟨[blk g _],⟨_,A0,c0,hO,rfl,rfl⟩,hw.fresh hb hg1 hg2⟩
end
section
open Go Go.RowKit
section
variable {ds:List Deferred} {A:World} {n:Nat} {env env':Env} {l l' X:List Am} {q:Act->World->Prop} {P:Program} {Q:Exit->Act->World->Prop} {ops:Array Oper} {os rest:List Oper} {o:Oper}
theorem A0t {f:FuncId} {fn:Func} {c:Code} {args:List Value} {l0 hs:List Am} {R:Ending->List Am->Prop} (hf:P.funcs[f]? = some fn) (hb:fn.body=some c) (ha:args.length<=fn.ntmps)
  (h:∀ A X,If hs X->K [] A fn.ntmps (QC 0 args) (l0++X) (c.wp P (bodyPostD P fn λe w'=>∃ l1,R e l1/\St A (l1++X) w'))):Ct P f args.toArray l0 hs R:=λA w X hh hw=>by
 refine calls_of_wp_defers hf hb (h A X hh _ w ⟨?_,rfl,λi v hi=>?_⟩ hw);simp;omega;have:=Vl 0 args i v hi;simp only [Nat.sub_zero] at this;have hlt:=(List.getElem?_eq_some_iff.1 this.2).1;simp only [Array.getD_eq_getD_getElem?];rw [Array.getElem?_append_left (by simpa using hlt)];simp [this.2]
theorem Boe (d:Deferred) (hg:BK ops env o=some true) (hs:(D8 o.op && allB o.op.operands.toList env && inB n o.dst)=true) (hp:FB P (execOp (rho env) o)=some (.defer d)) (h:K (d :: ds) A n (Bk env o.dst undef) l (wpList P ops Q rest)):K ds A n env l (wpList P ops Q (o :: rest)) :=
 Ec hg λa w ha hw=>by
  simp only [Bool.and_eq_true] at hs;unfold Oper.wp;rw [execOp_congr a.eval (rho env) o hs.1.1 (ha.rho hs.1.2),PA hp];have ha':Holds (d :: ds) n env { a with defers:=d :: a.defers }:=⟨ha.size,by rw [ha.defers],ha.at_⟩;exact h _ _ (ha'.Bk undef hs.2) hw
theorem Bn0 {fn:Func} {R:Ending->List Am->Prop} {v:Value} (vs:List Orc) (es:List Ev) (l1:List Am) (hr:hasAll fn.results.toList env=true) (hf:follow P (JH fn.results (JI env)) vs=some (v,es)) (hl:Jo l es)
  (hk:K [] A n env l λ_ w=>R (.returned v) l1/\St A (l1++X) w):K [] A n env l (bodyPostD P fn (λe w'=>∃ l1,R e l1/\St A (l1++X) w') .ret):=λa w ha hw=>by
 show Leaves P fn a.tmps _ a.defers .returning w;rw [ha.defers];exact ⟨v,by rw [results_eq,UD ha hr];exact I2 hf (hl.evs hw),l1,hk a w ha hw⟩
theorem Bny {fn:Func} {R:Ending->List Am->Prop} {v:Value} {fv:Fn} {cap dargs:Array Value} {f:FuncId} {args:Array Value} (hi:∀ w,(invoke (.fn fv cap) dargs).run P w=.ok (.enter f args) w) (hidle:∀ w,CallsD P f args .returning w λe u' w'=>e=.returned (.tuple #[])/\u'=.returning/\w=w')
  (vs:List Orc) (es:List Ev) (l1:List Am) (hr:hasAll fn.results.toList env=true) (hf:follow P (JH fn.results (JI env)) vs=some (v,es)) (hl:Jo l es)
  (hk:K [{ target:=.fn fv cap,args:=dargs }] A n env l λ_ w=>R (.returned v) l1/\St A (l1++X) w):K [{ target:=.fn fv cap,args:=dargs }] A n env l (bodyPostD P fn (λe w'=>∃ l1,R e l1/\St A (l1++X) w') .ret):=λa w ha hw=>by
 show Leaves P fn a.tmps _ a.defers .returning w;rw [ha.defers];refine leaves_cons (by simp) (hi w) ((hidle w).mono ?_);rintro e u' w' ⟨rfl,rfl,rfl⟩;exact ⟨v,by rw [results_eq,UD ha hr];exact I2 hf (hl.evs hw),l1,hk a w ha hw⟩
theorem Aie {fn:Func} {R:Ending->List Am->Prop} {v:Value} {fv:Fn} {cap dargs:Array Value} {f:FuncId} {args:Array Value} {c:List PanicEntry} (l':List Am) (hi:∀ w,(invoke (.fn fv cap) dargs).run P w=.ok (.enter f args) w)
  (Bes:∀ w,St A l w->CallsD P f args (.panicking c) w λe u' w'=>e=.returned (.tuple #[])/\settle u'=.returning/\St A l' w')
  (vs:List Orc) (es:List Ev) (l1:List Am) (hr:hasAll fn.results.toList env=true) (hf:follow P (JH fn.results (JI env)) vs=some (v,es)) (hl:Jo l' es)
  (hk:∀ w,St A l' w->R (.returned v) l1/\St A (l1++X) w):K [{ target:=.fn fv cap,args:=dargs }] A n env l (bodyPostD P fn (λe w'=>∃ l1,R e l1/\St A (l1++X) w') (.panic c)):=λa w ha hw=>by
 show Leaves P fn a.tmps _ a.defers (.panicking c) w;rw [ha.defers];refine leaves_cons (by simp) (hi w) ((Bes w hw).mono ?_);rintro e u' w' ⟨rfl,hu,hw'⟩;show Leaves P fn a.tmps _ [] (settle u') w';rw [hu];exact ⟨v,by rw [results_eq,UD ha hr];exact I2 hf (hl.evs hw'),l1,hk w' hw'⟩
theorem Bn1 {R:Prop} (h:R):K ds A n env l λ_ w=>R/\St A l w:=λ_ _ _ hw=>⟨h,hw⟩
def Aa9 (Q:Exit->Act->World->Prop):Exit->Act->World->Prop
 | .panic _,_,_=>False
 | .normal,a,w=>Q .normal a w
 | .exit id,a,w=>Q (.exit id) a w
 | .goto l,a,w=>Q (.goto l) a w
 | .ret,a,w=>Q .ret a w
 | .outgrown,a,w=>Q .outgrown a w
theorem Bn2 {c:Code} (h:K ds A n env l (c.wp P (Aa9 Q))):K ds A n env l (c.wp P Q):=λa w ha hw =>
 wp_mono (h a w ha hw) λe a w h=>by
  cases e with
  | panic c=>exact h.elim
  | normal=>exact h
  | exit id=>exact h
  | goto l=>exact h
  | ret=>exact h
  | outgrown=>exact h
theorem Bn3 (h:K ds A n env l (Q .normal)):K ds A n env l (Aa9 Q .normal):=h
end
def PR.elim {α β ε:Type} (x:Option (PR α ε)) (f:ε->Option β) (g:α->Option β):Option β :=
 match x with
 | none=>none
 | some (.ok a)=>g a
 | some (.bad i)=>f i
theorem Al8 {α β ε:Type} {x:Option (PR α ε)} {f:ε->Option β} {g:α->Option β} {r:β} (h:PR.elim x f g=some r):(∃ i,x=some (.bad i)/\f i=some r)\/∃ a,x=some (.ok a)/\g a=some r:=by
 unfold PR.elim at h;split at h;cases h;exact .inr ⟨_,rfl,h⟩;exact .inl ⟨_,rfl,h⟩
theorem St.XV {A:World} {X:List Am} {w:World}:∀ (n:Nat),St A X w->St A (List.replicate n none_++X) w
 | 0,h=>h
 | n+1,h=>by
  have:=St.XV n h;exact ⟨⟨λ_ _ h=>(by cases h),λ_ _ _=>.inl rfl,this.sat⟩,this.os,this.tape,this.output,this.size⟩
theorem Bxm (p q:Value) (w:World) :
  CallsD Tryz.prog 15 #[p,q] .returning w λe u' w'=>e=.returned (.tuple #[])/\u'=.returning/\w=w':=by
 refine callsD_of_wpS Tryz.func15 rfl λc₀ cs hu=>?_
 apply wpS_seq
 apply wpS_region
 simp [wpOpsS,go_sem,recoverD,hu,Tryz.ntmps15,Exit.thenS,Array.replicate_succ]
 refine wpS_of_wp ?_
 go_wp2
 cases c₀
 simp_all [bodyPostS,results,Tryz.results15]
theorem Alz {A w:World} {X:List Am} {p q:Nat} {x0 x1 x2 x3 x4 y0 y1:Value} {i:Int} (hw:St A (blk p (.cells #[x0,x1,x2,x3,x4] 29 (0,0)) :: blk q (.cells #[y0,y1] 24 (0,0)) :: X) w) :
  CallsD Tryz.prog 15 #[.pointer (some ⟨p,0,none⟩),.pointer (some ⟨q,0,none⟩)] (.panicking [{ v:=G3 i,recovered:=false }]) w λe u' w'=>e=.returned (.tuple #[])/\settle u'=.returning/\St A (blk p (.cells #[.int .i64 (0:Int),.string (⟨#[]⟩:Ah),.int .i64 (0:Int),.int .i64 (0:Int),.slice none 0 0] 29 (0,0)) :: blk q (.cells #[.int .i64 (4:Int),.int .i64 i] 24 (0,0)) :: X) w':=by
 refine callsD_of_wpS Tryz.func15 rfl λc₀ cs hu=>?_
 apply wpS_seq
 apply wpS_region
 simp [wpOpsS,go_sem,recoverD,hu,Tryz.ntmps15,Exit.thenS,Array.replicate_succ]
 refine wpS_of_wp ?_
 refine (?_:K [] A Tryz.f15.ntmps [(0,.pointer (some ⟨p,0,none⟩)),(1,.pointer (some ⟨q,0,none⟩)),(5,.iface 54 (.agg #[.int .i64 (4:Int),.int .i64 i]))] (blk p (.cells #[x0,x1,x2,x3,x4] 29 (0,0)) :: blk q (.cells #[y0,y1] 24 (0,0)) :: X) _) _ w ⟨rfl,rfl,?_⟩ hw
 rotate_left
 ·intro j v hj
  simp only [Env.get] at hj
  match j with
  | 0=>cases hj;rfl
  | 1=>cases hj;rfl
  | 2=>cases hj
  | 3=>cases hj
  | 4=>cases hj
  | 5=>cases hj;rfl
  | j+6=>cases hj
 refine Bq ?_
 refine AU ?_
 refine AK ?_
 refine Aiq 1 [(0,.pointer (some ⟨p,0,none⟩)),(1,.pointer (some ⟨q,0,none⟩)),(5,.iface 54 (.agg #[.int .i64 (4:Int),.int .i64 i])),(7,.bool false)] (by kernel_rfl) ?_
 refine M7 ?_
 refine As ?_
 refine Xx (by kernel_rfl) ?_
 refine AU ?_
 refine AK ?_
 refine Aiq 3 [(0,.pointer (some ⟨p,0,none⟩)),(1,.pointer (some ⟨q,0,none⟩)),(5,.iface 54 (.agg #[.int .i64 (4:Int),.int .i64 i])),(9,.bool true),(10,.agg #[.int .i64 (4:Int),.int .i64 i])] (by kernel_rfl) ?_
 refine M7 ?_
 refine As ?_
 refine Xy (by kernel_rfl) ?_
 refine AU ?_
 refine AK ?_
 refine X0 (.cells #[.int .i64 (0:Int),.int .i64 (0:Int)] 54 (0,0)) (λb=>.pointer (some ⟨b,0,none⟩)) (by kernel_rfl) (by kernel_rfl) (λ_=>by kernel_rfl) λb1=>?_
 refine X2 (cs':=#[.int .i64 (4:Int),.int .i64 i]) [.st ⟨b1,0,none⟩ (.int .i64 (4:Int)),.st ⟨b1,1,none⟩ (.int .i64 i)] (by kernel_rfl) (by kernel_rfl) (by kernel_rfl) ⟨rfl,rfl,Aj⟩ (by kernel_rfl) ?_
 refine M7 ?_
 refine As ?_
 refine Xz [(0,0),(1,3),(2,1)] (λw=>Dh [blk b1 (.cells #[.int .i64 (4:Int),.int .i64 i] 54 (0,0))] w) (by kernel_rfl) (by kernel_rfl) (λ_ _ d _ _ h=>by cases d <;> exact h) (λw h_=>⟨h_.sat.on _ (.head _),Aj⟩) ?_
 simp only [Dz,List.filterMap_cons,List.filterMap_nil,List.getElem?_toArray,List.getElem?_cons_zero,List.getElem?_cons_succ,Option.map_some,List.drop_succ_cons,List.drop_zero,AH,AX]
 refine Bpi 1 [(0,.pointer (some ⟨p,0,none⟩)),(1,.pointer (some ⟨q,0,none⟩)),(3,.pointer (some ⟨b1,0,none⟩)),(11,.agg #[.int .i64 (0:Int),.string (⟨#[]⟩:Ah),.int .i64 (0:Int),.int .i64 (0:Int),.slice none 0 0])] (by kernel_rfl) (by kernel_rfl) ?_
 refine X4 (v:=.agg #[.int .i64 (4:Int),.int .i64 i]) [blk b1 (.cells #[.int .i64 (4:Int),.int .i64 i] 54 (0,0))] [.val (.int .i64 (4:Int)),.val (.int .i64 i)] [.ld ⟨b1,0,none⟩ (.int .i64 (4:Int)),.ld ⟨b1,1,none⟩ (.int .i64 i)] (by kernel_rfl) (by kernel_rfl) (by kernel_rfl) (λ_ h=>h) ⟨⟨0,_,_,_,rfl,rfl,rfl⟩,⟨0,_,_,_,rfl,rfl,rfl⟩,Aj⟩ ?_
 refine Aiv (by kernel_rfl) ?_
 refine Ak ?_
 refine Y4 (cs':=#[.int .i64 (0:Int),.string (⟨#[]⟩:Ah),.int .i64 (0:Int),.int .i64 (0:Int),.slice none 0 0]) [.st ⟨p,0,none⟩ (.int .i64 (0:Int)),.st ⟨p,1,none⟩ (.string (⟨#[]⟩:Ah)),.st ⟨p,2,none⟩ (.int .i64 (0:Int)),.st ⟨p,3,none⟩ (.int .i64 (0:Int)),.st ⟨p,4,none⟩ (.slice none 0 0)] (by kernel_rfl) (by kernel_rfl) ⟨rfl,rfl,rfl,rfl,rfl,Aj⟩ (by kernel_rfl) ?_
 refine IY (λw h_=>⟨h_.sat.on _ (.tail _ (.head _)),Aj⟩) ?_
 refine Air ?_
 refine Aq ?_
 refine X2 (cs':=#[.int .i64 (4:Int),.int .i64 i]) [.st ⟨q,0,none⟩ (.int .i64 (4:Int)),.st ⟨q,1,none⟩ (.int .i64 i)] (by kernel_rfl) (by kernel_rfl) (by kernel_rfl) ⟨rfl,rfl,Aj⟩ (by kernel_rfl) ?_
 refine Aq ?_
 refine Ao ?_
 refine M7 ?_
 refine A_ ?_
 refine Ak ?_
 intro a' w' ha' hw'
 have hd:=ha'.defers
 simp [bodyPostS,results,Tryz.results15,hd,settle]
 exact hw'
end
end Go.Proofs.YtaifddambjmiiaaGreatDoor
