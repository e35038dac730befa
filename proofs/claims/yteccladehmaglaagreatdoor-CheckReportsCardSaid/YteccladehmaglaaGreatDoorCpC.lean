/- Texts of mine for checkReports_card, part 3. -/
import Derived.Shelf.Strings.Builder1
import Derived.Shelf.Small.Utf8
import Derived.Shelf.Small.Strs
import Derived.Shelf.Small.Wraps
import Derived.Shelf.Strings.BuilderF
import Derived.Shelf.Strings.BuilderK
import Derived.Shelf.Strings.Search1
import Derived.Shelf.Strings.Search2
import Derived.Shelf.Strings.Search3
import Derived.Shelf.LaysM
import Derived.Shelf.Strings.Shaped
import Derived.Shelf.Strings.Prefix
import Derived.Shelf.Strings.Fields
import Derived.Shelf.Strings.SplitShaped
import Derived.Shelf.Unicode.Latin
import Derived.Shelf.Unicode.Decode
import Derived.Shelf.Bits.Mul64
import Derived.Shelf.Unicode.DecodeSlow
import Derived.Shelf.Unicode.DecodeAny
import Derived.Shelf.Unicode.Is16White
import Derived.Shelf.Unicode.IsSpaceAny
import Derived.Shelf.Unicode.Is16WhiteD
import Derived.Shelf.Unicode.IsSpaceAnyD
import Derived.Shelf.Strings.FieldsAny
import Derived.Shelf.Strings.FieldsFuncAny
import Derived.Shelf.Unicode.Is16Any
import Derived.Shelf.Unicode.Is32Any
import Derived.Shelf.Unicode.ExclAny
import Derived.Shelf.Strings.BuilderCap
import Derived.Shelf.Slices.Turned
import Derived.Test.YteccladehmaglaaGreatDoorProg
import Derived.Laws.MathBits
import Derived.Lib.IndexMore
import Derived.Test.YteccladehmaglaaGreatDoorCpB
set_option linter.unusedSimpArgs false
set_option linter.unusedVariables false
set_option linter.unusedSectionVars false
namespace Go.Proofs
open Go.Shelf
def Tryz.lays169_ren:Go.Shelf.Ren:=⟨λ| 169=>121 | n=>n,λ| 70=>153 | 9=>9 | 0=>0 | 72=>155 | 37=>140 | 127=>187 | 3=>3 | 5=>5 | n=>n,λ| n=>n⟩
theorem Tryz.lays169:Go.Proofs.Lays.n169 Tryz.prog Tryz.lays169_ren:={
 mixed:=by kernel_rfl
 f169:=Tryz.func121.trans (congrArg some (by kernel_rfl))
 t0:=Tryz.underlying0
 a0:=Tryz.isAgg0
 z0:=Tryz.sizeOf0
 v0:=Tryz.zeroValue0
 t3:=Tryz.underlying3
 a3:=Tryz.isAgg3
 z3:=Tryz.sizeOf3
 v3:=Tryz.zeroValue3
 t9:=Tryz.underlying9
 a9:=Tryz.isAgg9
 z9:=Tryz.sizeOf9
 v9:=Tryz.zeroValue9
 t37:=Tryz.underlying140
 a37:=Tryz.isAgg140
 z37:=Tryz.sizeOf140
 v37:=Tryz.zeroValue140
 t70:=Tryz.underlying153
 a70:=Tryz.isAgg153
 z70:=Tryz.sizeOf153
 v70:=Tryz.zeroValue153
 t72:=Tryz.underlying155
 a72:=Tryz.isAgg155
 z72:=Tryz.sizeOf155
 v72:=Tryz.zeroValue155
 t127:=Tryz.underlying187
 a127:=Tryz.isAgg187
 z127:=Tryz.sizeOf187
 v127:=Tryz.zeroValue187 }
theorem Tryz.Builder_Extra_169:Builder.Extra Tryz.prog Tryz.lays169_ren:={
 sizeBuilder:=by kernel_rfl
 liesBuilder:=by kernel_rfl
 t5:=Tryz.underlying5
 a5:=Tryz.isAgg5
 z5:=Tryz.sizeOf5
 v5:=Tryz.zeroValue5
 infoByte:=by kernel_rfl
 cellsByte:=by kernel_rfl
 sizeByte:=by kernel_rfl
 neB5:=by decide }
open Go.RowKit in
theorem Tryz.Builder_String_any (B b:Nat) (l:List UInt8) (w:World) (h:Lib.IsBuilder 155 5 B b (Lib.byteCells l) w) (hBw:B<=w.heap.size) :
  Calls Tryz.prog 121 #[.pointer (some ⟨b,0,none⟩)] w λe w'=>e=.returned (.string ⟨l.toArray⟩)/\Below B w w':=Any.Builder_String_any Tryz.lays169 Tryz.Builder_Extra_169 B b l w h hBw
def Tryz.lays119_ren:Go.Shelf.Ren:=⟨λ| 119=>137 | n=>n,λ| 21=>21 | 4=>4 | n=>n,λ| n=>n⟩
theorem Tryz.lays119:Go.Proofs.Lays.n119 Tryz.prog Tryz.lays119_ren:={
 mixed:=by kernel_rfl
 f119:=Tryz.func137.trans (congrArg some (by kernel_rfl))
 t4:=Tryz.underlying4
 a4:=Tryz.isAgg4
 z4:=Tryz.sizeOf4
 v4:=Tryz.zeroValue4
 t21:=Tryz.underlying21
 a21:=Tryz.isAgg21
 z21:=Tryz.sizeOf21
 v21:=Tryz.zeroValue21 }
theorem Tryz.utf8_ValidRune (r:Int) (w:World) :
  Calls Tryz.prog 137 #[.int .i32 r] w λe w'=>e=.returned (.bool (Lib.validRune r))/\w'=w:=Any.utf8_ValidRune Tryz.lays119 r w
def Tryz.lays137_ren:Go.Shelf.Ren:=⟨λ| 137=>151 | 217=>154 | 266=>162 | n=>n,λ| 9=>9 | 5=>5 | 3=>3 | n=>n,λ| n=>n⟩
theorem Tryz.lays137:Go.Proofs.Lays.n137 Tryz.prog Tryz.lays137_ren:={
 mixed:=by kernel_rfl
 f137:=Tryz.func151.trans (congrArg some (by kernel_rfl))
 f217:=Tryz.func154.trans (congrArg some (by kernel_rfl))
 f266:=Tryz.func162.trans (congrArg some (by kernel_rfl))
 t3:=Tryz.underlying3
 a3:=Tryz.isAgg3
 z3:=Tryz.sizeOf3
 v3:=Tryz.zeroValue3
 t5:=Tryz.underlying5
 a5:=Tryz.isAgg5
 z5:=Tryz.sizeOf5
 v5:=Tryz.zeroValue5
 t9:=Tryz.underlying9
 a9:=Tryz.isAgg9
 z9:=Tryz.sizeOf9
 v9:=Tryz.zeroValue9 }
open Go.RowKit in
theorem Tryz.strings_IndexByte (s:ByteArray) (c:Int) (w:World) :
  Calls Tryz.prog 151 #[.string s,.int .u8 c] w λe w'=>e=.returned (.int .i64 (Lib.indexByte s.data.toList c.toNat.toUInt8))/\w'=w:=Any.strings_IndexByte Tryz.lays137 s c w
def Tryz.lays103_ren:Go.Shelf.Ren:=⟨λ| 103=>158 | 210=>164 | 206=>113 | n=>n,λ| 9=>9 | 4=>4 | 24=>202 | 3=>3 | n=>n,λ| n=>n⟩
theorem Tryz.lays103:Go.Proofs.Lays.n103 Tryz.prog Tryz.lays103_ren:={
 mixed:=by kernel_rfl
 f103:=Tryz.func158.trans (congrArg some (by kernel_rfl))
 f206:=Tryz.func113.trans (congrArg some (by kernel_rfl))
 f210:=Tryz.func164.trans (congrArg some (by kernel_rfl))
 t3:=Tryz.underlying3
 a3:=Tryz.isAgg3
 z3:=Tryz.sizeOf3
 v3:=Tryz.zeroValue3
 t4:=Tryz.underlying4
 a4:=Tryz.isAgg4
 z4:=Tryz.sizeOf4
 v4:=Tryz.zeroValue4
 t9:=Tryz.underlying9
 a9:=Tryz.isAgg9
 z9:=Tryz.sizeOf9
 v9:=Tryz.zeroValue9
 t24:=Tryz.underlying202
 a24:=Tryz.isAgg202
 z24:=Tryz.sizeOf202
 v24:=Tryz.zeroValue202 }
open Go.RowKit in
theorem Tryz.strings_CutPrefix (s p:ByteArray) (w:World) :
  Calls Tryz.prog 158 #[.string s,.string p] w λe w'=>e=.returned (.tuple #[.string ⟨(Lib.trimPrefix s.data.toList p.data.toList).toArray⟩,.bool (Lib.hasPrefix s.data.toList p.data.toList)])/\w'=w:=Any.strings_CutPrefix Tryz.lays103 s p w
def Tryz.lays144_ren:Go.Shelf.Ren:=⟨λ| 144=>117 | 143=>138 | 219=>148 | 217=>154 | 225=>155 | 224=>156 | 267=>157 | 266=>162 | 314=>163 | n=>n,λ| 9=>9 | 4=>4 | 3=>3 | 5=>5 | 46=>182 | 146=>208 | 51=>150 | n=>n,λ| 1=>4 | n=>n⟩
theorem Tryz.lays144:Go.Proofs.Lays.n144 Tryz.prog Tryz.lays144_ren:={
 mixed:=by kernel_rfl
 f143:=Tryz.func138.trans (congrArg some (by kernel_rfl))
 f144:=Tryz.func117.trans (congrArg some (by kernel_rfl))
 f217:=Tryz.func154.trans (congrArg some (by kernel_rfl))
 f219:=Tryz.func148.trans (congrArg some (by kernel_rfl))
 f224:=Tryz.func156.trans (congrArg some (by kernel_rfl))
 f225:=Tryz.func155.trans (congrArg some (by kernel_rfl))
 f266:=Tryz.func162.trans (congrArg some (by kernel_rfl))
 f267:=Tryz.func157.trans (congrArg some (by kernel_rfl))
 f314:=Tryz.func163.trans (congrArg some (by kernel_rfl))
 t3:=Tryz.underlying3
 a3:=Tryz.isAgg3
 z3:=Tryz.sizeOf3
 v3:=Tryz.zeroValue3
 t4:=Tryz.underlying4
 a4:=Tryz.isAgg4
 z4:=Tryz.sizeOf4
 v4:=Tryz.zeroValue4
 t5:=Tryz.underlying5
 a5:=Tryz.isAgg5
 z5:=Tryz.sizeOf5
 v5:=Tryz.zeroValue5
 t9:=Tryz.underlying9
 a9:=Tryz.isAgg9
 z9:=Tryz.sizeOf9
 v9:=Tryz.zeroValue9
 t46:=Tryz.underlying182
 a46:=Tryz.isAgg182
 z46:=Tryz.sizeOf182
 v46:=Tryz.zeroValue182
 t51:=Tryz.underlying150
 a51:=Tryz.isAgg150
 z51:=Tryz.sizeOf150
 v51:=Tryz.zeroValue150
 t146:=Tryz.underlying208
 a146:=Tryz.isAgg208
 z146:=Tryz.sizeOf208
 v146:=Tryz.zeroValue208
 g1:=by kernel_rfl }
open Go.RowKit Go.Lib in
theorem Tryz.strings_Contains (s sub:ByteArray) (m:Int) (w:World) (hs:s.size < 4294967281) (hm:w.cell? ⟨4,0,none⟩=some (.int .i64 m)) :
  Calls Tryz.prog 117 #[.string s,.string sub] w λe w'=>e=.returned (.bool (Lib.contains s.data.toList sub.data.toList))/\w'=w:=Any.strings_Contains Tryz.lays144 s sub m w hs hm
def Tryz.laysM144_ren:Go.Shelf.Ren:=⟨λ| 144=>117 | 143=>138 | 219=>148 | 217=>154 | 225=>155 | 224=>156 | 267=>157 | 266=>162 | 314=>163 | n=>n,λ| 9=>9 | 4=>4 | 3=>3 | 5=>5 | 46=>182 | 146=>208 | 51=>150 | n=>n,λ| 1=>4 | n=>n⟩
theorem Tryz.laysM144:Go.Proofs.LaysM.n144 Tryz.prog Tryz.laysM144_ren:={
 mixed:=by kernel_rfl
 f143:=Tryz.func138.trans (congrArg some (by kernel_rfl))
 f144:=Tryz.func117.trans (congrArg some (by kernel_rfl))
 f217:=Tryz.func154.trans (congrArg some (by kernel_rfl))
 f219:=Tryz.func148.trans (congrArg some (by kernel_rfl))
 f224:=Tryz.func156.trans (congrArg some (by kernel_rfl))
 f225:=Tryz.func155.trans (congrArg some (by kernel_rfl))
 f266:=Tryz.func162.trans (congrArg some (by kernel_rfl))
 f267:=Tryz.func157.trans (congrArg some (by kernel_rfl))
 f314:=Tryz.func163.trans (congrArg some (by kernel_rfl))
 t3:=Tryz.underlying3
 a3:=Tryz.isAgg3
 z3:=Tryz.sizeOf3
 v3:=Tryz.zeroValue3
 t4:=Tryz.underlying4
 a4:=Tryz.isAgg4
 z4:=Tryz.sizeOf4
 v4:=Tryz.zeroValue4
 t5:=Tryz.underlying5
 a5:=Tryz.isAgg5
 z5:=Tryz.sizeOf5
 v5:=Tryz.zeroValue5
 t9:=Tryz.underlying9
 a9:=Tryz.isAgg9
 z9:=Tryz.sizeOf9
 v9:=Tryz.zeroValue9
 t46:=Tryz.underlying182
 a46:=Tryz.isAgg182
 z46:=Tryz.sizeOf182
 v46:=Tryz.zeroValue182
 t51:=Tryz.underlying150
 a51:=Tryz.isAgg150
 z51:=Tryz.sizeOf150
 v51:=Tryz.zeroValue150
 t146:=Tryz.underlying208
 a146:=Tryz.isAgg208
 z146:=Tryz.sizeOf208
 v146:=Tryz.zeroValue208
 g1:=by kernel_rfl
 i3:=by kernel_rfl
 i4:=by kernel_rfl
 i5:=by kernel_rfl
 i9:=by kernel_rfl
 i46:=by kernel_rfl
 i51:=by kernel_rfl
 i146:=by kernel_rfl
 m1:=by kernel_rfl
 s1_3:=λw h=>Go.Proofs.cell_of_shapedOpen_int (zero:=#[.int .i64 0]) (t:=3) h (of_decide_eq_true (by kernel_rfl)) (by kernel_rfl) rfl (by kernel_rfl) (by kernel_rfl) Tryz.underlying3 }
def Tryz.lays99_ren:Go.Shelf.Ren:=⟨λ| 99=>78 | 206=>113 | n=>n,λ| 9=>9 | 4=>4 | 3=>3 | n=>n,λ| n=>n⟩
theorem Tryz.lays99:Go.Proofs.Lays.n99 Tryz.prog Tryz.lays99_ren:={
 mixed:=by kernel_rfl
 f99:=Tryz.func78.trans (congrArg some (by kernel_rfl))
 f206:=Tryz.func113.trans (congrArg some (by kernel_rfl))
 t3:=Tryz.underlying3
 a3:=Tryz.isAgg3
 z3:=Tryz.sizeOf3
 v3:=Tryz.zeroValue3
 t4:=Tryz.underlying4
 a4:=Tryz.isAgg4
 z4:=Tryz.sizeOf4
 v4:=Tryz.zeroValue4
 t9:=Tryz.underlying9
 a9:=Tryz.isAgg9
 z9:=Tryz.sizeOf9
 v9:=Tryz.zeroValue9 }
open Go.RowKit Go.Lib in
theorem Tryz.strings_HasPrefix (s p:ByteArray) (w:World) :
  Calls Tryz.prog 78 #[.string s,.string p] w λe w'=>e=.returned (.bool (Lib.hasPrefix s.data.toList p.data.toList))/\w'=w:=Any.strings_HasPrefix Tryz.lays99 s p w
def Tryz.lays157_ren:Go.Shelf.Ren:=⟨λ| 157=>37 | 229=>73 | 199=>74 | 261=>111 | 311=>135 | 312=>136 | n=>n,λ| 9=>9 | 31=>23 | 3=>3 | 5=>5 | 4=>4 | 119=>127 | 0=>0 | 40=>129 | 152=>147 | 21=>21 | 154=>149 | 51=>150 | 141=>152 | 196=>174 | 193=>171 | 198=>177 | 49=>175 | 194=>172 | 201=>180 | 226=>192 | 46=>182 | 227=>193 | n=>n,λ| 0=>0 | 6=>1 | n=>n⟩
theorem Tryz.lays157:Go.Proofs.Lays.n157 Tryz.prog Tryz.lays157_ren:={
 mixed:=by kernel_rfl
 f157:=Tryz.func37.trans (congrArg some (by kernel_rfl))
 f199:=Tryz.func74.trans (congrArg some (by kernel_rfl))
 f229:=Tryz.func73.trans (congrArg some (by kernel_rfl))
 f261:=Tryz.func111.trans (congrArg some (by kernel_rfl))
 f311:=Tryz.func135.trans (congrArg some (by kernel_rfl))
 f312:=Tryz.func136.trans (congrArg some (by kernel_rfl))
 t0:=Tryz.underlying0
 a0:=Tryz.isAgg0
 z0:=Tryz.sizeOf0
 v0:=Tryz.zeroValue0
 t3:=Tryz.underlying3
 a3:=Tryz.isAgg3
 z3:=Tryz.sizeOf3
 v3:=Tryz.zeroValue3
 t4:=Tryz.underlying4
 a4:=Tryz.isAgg4
 z4:=Tryz.sizeOf4
 v4:=Tryz.zeroValue4
 t5:=Tryz.underlying5
 a5:=Tryz.isAgg5
 z5:=Tryz.sizeOf5
 v5:=Tryz.zeroValue5
 t9:=Tryz.underlying9
 a9:=Tryz.isAgg9
 z9:=Tryz.sizeOf9
 v9:=Tryz.zeroValue9
 t21:=Tryz.underlying21
 a21:=Tryz.isAgg21
 z21:=Tryz.sizeOf21
 v21:=Tryz.zeroValue21
 t31:=Tryz.underlying23
 a31:=Tryz.isAgg23
 z31:=Tryz.sizeOf23
 v31:=Tryz.zeroValue23
 t40:=Tryz.underlying129
 a40:=Tryz.isAgg129
 z40:=Tryz.sizeOf129
 v40:=Tryz.zeroValue129
 t46:=Tryz.underlying182
 a46:=Tryz.isAgg182
 z46:=Tryz.sizeOf182
 v46:=Tryz.zeroValue182
 t49:=Tryz.underlying175
 a49:=Tryz.isAgg175
 z49:=Tryz.sizeOf175
 v49:=Tryz.zeroValue175
 t51:=Tryz.underlying150
 a51:=Tryz.isAgg150
 z51:=Tryz.sizeOf150
 v51:=Tryz.zeroValue150
 t119:=Tryz.underlying127
 a119:=Tryz.isAgg127
 z119:=Tryz.sizeOf127
 t141:=Tryz.underlying152
 a141:=Tryz.isAgg152
 z141:=Tryz.sizeOf152
 v141:=Tryz.zeroValue152
 t152:=Tryz.underlying147
 a152:=Tryz.isAgg147
 z152:=Tryz.sizeOf147
 v152:=Tryz.zeroValue147
 t154:=Tryz.underlying149
 a154:=Tryz.isAgg149
 z154:=Tryz.sizeOf149
 v154:=Tryz.zeroValue149
 t193:=Tryz.underlying171
 a193:=Tryz.isAgg171
 z193:=Tryz.sizeOf171
 v193:=Tryz.zeroValue171
 t194:=Tryz.underlying172
 a194:=Tryz.isAgg172
 z194:=Tryz.sizeOf172
 v194:=Tryz.zeroValue172
 t196:=Tryz.underlying174
 a196:=Tryz.isAgg174
 z196:=Tryz.sizeOf174
 v196:=Tryz.zeroValue174
 t198:=Tryz.underlying177
 a198:=Tryz.isAgg177
 z198:=Tryz.sizeOf177
 v198:=Tryz.zeroValue177
 t201:=Tryz.underlying180
 a201:=Tryz.isAgg180
 z201:=Tryz.sizeOf180
 v201:=Tryz.zeroValue180
 t226:=Tryz.underlying192
 a226:=Tryz.isAgg192
 z226:=Tryz.sizeOf192
 v226:=Tryz.zeroValue192
 t227:=Tryz.underlying193
 a227:=Tryz.isAgg193
 z227:=Tryz.sizeOf193
 v227:=Tryz.zeroValue193
 g0:=by kernel_rfl
 g6:=by kernel_rfl }
open Go.RowKit Go.Lib in
theorem Tryz.strings_Fields (s:ByteArray) (w:World) (hs:s.size < 4294967281) (hascii:∀ (j:Nat) b,s.data.toList[j]? = some b->b.toNat < 128) (htab:Lib.TabIs Tryz.prog w "strings.asciiSpace" .u8 Lib.asciiSpaceTab) :
  Calls Tryz.prog 37 #[.string s] w λe w' =>
   e=.returned (.slice (some ⟨w.heap.size,0,none⟩) (Lib.fields s.data.toList).length (Lib.fields s.data.toList).length)/\w'=w.alloc (.cells ((Lib.fields s.data.toList).map λl=>Value.string ⟨l.toArray⟩).toArray 9):=Any.strings_Fields Tryz.lays157 (by kernel_rfl) (by kernel_rfl) s w hs hascii htab
def Tryz.lays197_ren:Go.Shelf.Ren:=⟨λ| 197=>77 | 260=>112 | n=>n,λ| 9=>9 | 21=>21 | 3=>3 | 4=>4 | 5=>5 | 105=>131 | 119=>127 | 0=>0 | 46=>182 | 139=>185 | 138=>184 | n=>n,λ| 3=>2 | 4=>3 | n=>n⟩
theorem Tryz.lays197:Go.Proofs.Lays.n197 Tryz.prog Tryz.lays197_ren:={
 mixed:=by kernel_rfl
 f197:=Tryz.func77.trans (congrArg some (by kernel_rfl))
 f260:=Tryz.func112.trans (congrArg some (by kernel_rfl))
 t0:=Tryz.underlying0
 a0:=Tryz.isAgg0
 z0:=Tryz.sizeOf0
 v0:=Tryz.zeroValue0
 t3:=Tryz.underlying3
 a3:=Tryz.isAgg3
 z3:=Tryz.sizeOf3
 v3:=Tryz.zeroValue3
 t4:=Tryz.underlying4
 a4:=Tryz.isAgg4
 z4:=Tryz.sizeOf4
 v4:=Tryz.zeroValue4
 t5:=Tryz.underlying5
 a5:=Tryz.isAgg5
 z5:=Tryz.sizeOf5
 v5:=Tryz.zeroValue5
 t9:=Tryz.underlying9
 a9:=Tryz.isAgg9
 z9:=Tryz.sizeOf9
 v9:=Tryz.zeroValue9
 t21:=Tryz.underlying21
 a21:=Tryz.isAgg21
 z21:=Tryz.sizeOf21
 v21:=Tryz.zeroValue21
 t46:=Tryz.underlying182
 a46:=Tryz.isAgg182
 z46:=Tryz.sizeOf182
 v46:=Tryz.zeroValue182
 t105:=Tryz.underlying131
 a105:=Tryz.isAgg131
 z105:=Tryz.sizeOf131
 v105:=Tryz.zeroValue131
 t119:=Tryz.underlying127
 a119:=Tryz.isAgg127
 z119:=Tryz.sizeOf127
 t138:=Tryz.underlying184
 a138:=Tryz.isAgg184
 z138:=Tryz.sizeOf184
 v138:=Tryz.zeroValue184
 t139:=Tryz.underlying185
 a139:=Tryz.isAgg185
 z139:=Tryz.sizeOf185
 v139:=Tryz.zeroValue185
 g3:=by kernel_rfl
 g4:=by kernel_rfl }
def Tryz.lays264_ren:Go.Shelf.Ren:=⟨λ| 264=>160 | n=>n,λ| 53=>196 | 46=>182 | n=>n,λ| n=>n⟩
theorem Tryz.lays264:Go.Proofs.Lays.n264 Tryz.prog Tryz.lays264_ren:={
 mixed:=by kernel_rfl
 f264:=Tryz.func160.trans (congrArg some (by kernel_rfl))
 t46:=Tryz.underlying182
 a46:=Tryz.isAgg182
 z46:=Tryz.sizeOf182
 v46:=Tryz.zeroValue182
 t53:=Tryz.underlying196
 a53:=Tryz.isAgg196
 z53:=Tryz.sizeOf196
 v53:=Tryz.zeroValue196 }
open Go.RowKit Go.Lib in
theorem Tryz.bits_Mul64 (x y:Nat) (hx:x < 18446744073709551616) (hy:y < 18446744073709551616) (w:World) :
  Calls Tryz.prog 160 #[.int .u64 x,.int .u64 y] w λe w'=>e=.returned (.tuple #[.int .u64 ((x * y / 18446744073709551616:Nat):Int),.int .u64 ((x * y % 18446744073709551616:Nat):Int)])/\w'=w:=Any.bits_Mul64 Tryz.lays264 x y hx hy w
def Tryz.lays260_ren:Go.Shelf.Ren:=⟨λ| 260=>112 | n=>n,λ| 9=>9 | 21=>21 | 3=>3 | 4=>4 | 5=>5 | 119=>127 | 0=>0 | 46=>182 | 139=>185 | 138=>184 | n=>n,λ| 3=>2 | 4=>3 | n=>n⟩
theorem Tryz.lays260:Go.Proofs.Lays.n260 Tryz.prog Tryz.lays260_ren:={
 mixed:=by kernel_rfl
 f260:=Tryz.func112.trans (congrArg some (by kernel_rfl))
 t0:=Tryz.underlying0
 a0:=Tryz.isAgg0
 z0:=Tryz.sizeOf0
 v0:=Tryz.zeroValue0
 t3:=Tryz.underlying3
 a3:=Tryz.isAgg3
 z3:=Tryz.sizeOf3
 v3:=Tryz.zeroValue3
 t4:=Tryz.underlying4
 a4:=Tryz.isAgg4
 z4:=Tryz.sizeOf4
 v4:=Tryz.zeroValue4
 t5:=Tryz.underlying5
 a5:=Tryz.isAgg5
 z5:=Tryz.sizeOf5
 v5:=Tryz.zeroValue5
 t9:=Tryz.underlying9
 a9:=Tryz.isAgg9
 z9:=Tryz.sizeOf9
 v9:=Tryz.zeroValue9
 t21:=Tryz.underlying21
 a21:=Tryz.isAgg21
 z21:=Tryz.sizeOf21
 v21:=Tryz.zeroValue21
 t46:=Tryz.underlying182
 a46:=Tryz.isAgg182
 z46:=Tryz.sizeOf182
 v46:=Tryz.zeroValue182
 t119:=Tryz.underlying127
 a119:=Tryz.isAgg127
 z119:=Tryz.sizeOf127
 t138:=Tryz.underlying184
 a138:=Tryz.isAgg184
 z138:=Tryz.sizeOf184
 v138:=Tryz.zeroValue184
 t139:=Tryz.underlying185
 a139:=Tryz.isAgg185
 z139:=Tryz.sizeOf185
 v139:=Tryz.zeroValue185
 g3:=by kernel_rfl
 g4:=by kernel_rfl }
open Go.RowKit Go.Lib in
theorem Tryz.utf8_DecodeRuneInString (s:ByteArray) (w:World) (hT:Lib.Utf8Tabs 2 3 w) :
  Calls Tryz.prog 77 #[.string s] w λe w'=>e=.returned (.tuple #[.int .i32 (Lib.decodeGo s).1,.int .i64 (Lib.decodeGo s).2])/\Below w.heap.size w w':=Any.utf8_DecodeRuneInString Tryz.lays197 s w hT
end Go.Proofs
namespace Go.Proofs.YteccladehmaglaaGreatDoor
set_option maxRecDepth 100000
section
open Go Go.RowKit Lx
theorem Bu7 (r:Int):Lib.validRune r=Utf8.valid r:=by
 simp only [Lib.validRune,Utf8.valid];by_cases h:(0<=r/\r < 55296)\/(57343 < r/\r<=1114111);rw [decide_eq_true h];rcases h with h | h <;> simp <;> omega
 rw [decide_eq_false h];simp;omega
theorem Avr (r:Int) (w:World):Calls Tryz.prog 137 #[.int .i32 r] w λe w'=>e=.returned (.bool (Utf8.valid r))/\w=w' :=
 (Tryz.utf8_ValidRune r w).mono λ_ _ ⟨h1,h2⟩=>⟨by rw [h1,Bu7],h2.symm⟩
theorem A0u (r:Int) (w:World):Calls Tryz.prog 118 #[.int .i64 r] w λe w'=>e=.returned (.bool (decide (48<=r/\r<=57)))/\w=w':=by
 by_cases h1:48<=r
 ·go_enter Tryz.func118,Tryz.ntmps118
  go_wp2
  go_ret
  exact ⟨by simp [h1],rfl⟩
 ·go_enter Tryz.func118,Tryz.ntmps118
  go_wp2
  go_ret
  exact ⟨by simp;omega,rfl⟩
def Tn (r:Int):Bool:=decide (97<=r/\r<=122\/65<=r/\r<=90\/r=95\/(128<=r/\r<=1114111/\r≠65533/\Utf8.valid r=true))
theorem Uc {a b:Bool} (h:a=b):Ending.returned (.bool a)=.returned (.bool b):=by rw [h]
set_option maxHeartbeats 1000000 in
theorem Bi4 (r:Int) (w:World) (h0:0<=r) (h1:r<=2147483647):Calls Tryz.prog 114 #[.int .i64 r] w λe w'=>e=.returned (.bool (Tn r))/\w=w':=by
  have hw:IntKind.i32.wrap r=r:=by unfold IntKind.wrap;simp [IntKind.bits,IntKind.signed];omega
  obtain ⟨lz,hlz⟩:∃ x,Tn r=x:=⟨_,rfl⟩
  rw [hlz]
  have HL:=Lib.hid hlz
  clear hlz
  obtain ⟨v,hv⟩:∃ v,Utf8.valid r=v:=⟨_,rfl⟩
  have hva:=Avr r
  rw [hv] at hva
  have HV:=Lib.hid hv
  have HVA:=Lib.hid hva
  clear hv hva
  have HW:=Lib.hid hw
  go_enter Tryz.func114,Tryz.ntmps114
  go_wp2_with ((go_at_call 137;refine (HVA.out _).mono ?_;rintro e w' ⟨rfl,rfl⟩))
  all_goals go_ret
  all_goals refine ⟨Uc ?_,rfl⟩
  all_goals have hl:=HL.out
  all_goals have hv:=HV.out
  all_goals clear HL HV HVA HW hw
  all_goals subst hl
  all_goals unfold Tn
  all_goals simp only [hv]
  all_goals try simp only [beq_iff_eq,beq_eq_false_iff_ne,ne_eq] at *
  all_goals first
    | exact (decide_eq_true (by omega)).symm
    | exact (decide_eq_false (by omega)).symm
    | (cases v
       · rw [Bool.and_false];exact (decide_eq_false (by simp;omega)).symm
       · rw [Bool.and_true];by_cases h:r=65533
         · subst h;rfl
         · rw [show (r != 65533)=true from bne_iff_ne.2 h];exact (decide_eq_true (by simp;omega)).symm)
theorem Bi3 (r:Nat):Tn r=HY r:=by
 unfold Tn HY;generalize Utf8.valid (r:Int)=v;rw [Bool.eq_iff_iff];simp only [decide_eq_true_eq,Bool.or_eq_true,Bool.and_eq_true,beq_iff_eq,bne_iff_ne];constructor;rintro (h | h | h | ⟨h1,h2,h3,h4⟩);exact .inl (.inl (.inl ⟨by omega,by omega⟩));exact .inl (.inl (.inr ⟨by omega,by omega⟩));exact .inl (.inr (by omega));exact .inr ⟨⟨⟨by omega,by omega⟩,by omega⟩,h4⟩;rintro (((⟨h1,h2⟩ | ⟨h1,h2⟩) | h) | ⟨⟨⟨h1,h2⟩,h3⟩,h4⟩);exact .inl ⟨by omega,by omega⟩;exact .inr (.inl ⟨by omega,by omega⟩);exact .inr (.inr (.inl (by omega)));exact .inr (.inr (.inr ⟨by omega,by omega,by omega,h4⟩))
theorem A0t (r:Nat):decide (48<=(r:Int)/\(r:Int)<=57)=GF r:=by
 unfold GF;rw [Bool.eq_iff_iff];simp only [decide_eq_true_eq,Bool.and_eq_true];omega
theorem Abt:Qu 80 HY:=by
 refine ⟨λargs w=>enters_of Tryz.func80 (by kernel_rfl) rfl args w,λr w hr=>?_⟩
 have hc:=Bi4 r
 rw [Bi3] at hc
 have HC:=Lib.hid hc
 clear hc
 have h1:(0:Int)<=r:=by omega
 have h2:(r:Int)<=2147483647:=by omega
 go_enter Tryz.func80,Tryz.ntmps80
 go_wp2_with ((go_at_call 114;refine (HC.out _ h1 h2).mono ?_;rintro e w' ⟨rfl,rfl⟩))
 go_ret
 exact ⟨rfl,rfl⟩
theorem W5:Qu 82 GF:=by
 refine ⟨λargs w=>enters_of Tryz.func82 (by kernel_rfl) rfl args w,λr w hr=>?_⟩
 have hc:=A0u r
 rw [A0t] at hc
 have HC:=Lib.hid hc
 clear hc
 have h2:(r:Int)<=2147483647:=by omega
 go_enter Tryz.func82,Tryz.ntmps82
 go_wp2_with ((go_at_call 118;refine (HC.out _).mono ?_;rintro e w' ⟨rfl,rfl⟩))
 go_ret
 exact ⟨rfl,rfl⟩
theorem Ath:Qu 115 Cl:=by
 refine ⟨λargs w=>enters_of Tryz.func115 (by kernel_rfl) rfl args w,λr w hr=>?_⟩
 have H1:=Lib.hid (λw=>Abt.2 r w hr)
 have H2:=Lib.hid (λw=>W5.2 r w hr)
 obtain ⟨pr,hpr⟩:∃ x,Cl r=x:=⟨_,rfl⟩
 have HP:=Lib.hid hpr
 rw [hpr]
 clear hpr
 generalize hl:HY r=lr at *
 generalize hd:GF r=dr at *
 have HL:=Lib.hid hl
 have HD:=Lib.hid hd
 clear hl hd
 cases lr
 ·go_enter Tryz.func115,Tryz.ntmps115
  go_wp2_with (first | ((go_at_call 80;refine (H1.out _).mono ?_;rintro e w' ⟨rfl,rfl⟩)) | ((go_at_call 82;refine (H2.out _).mono ?_;rintro e w' ⟨rfl,rfl⟩)))
  go_ret
  refine ⟨Uc ?_,rfl⟩
  rw [<- HP.out,Cl,HL.out,HD.out];rfl
 ·go_enter Tryz.func115,Tryz.ntmps115
  go_wp2_with (first | ((go_at_call 80;refine (H1.out _).mono ?_;rintro e w' ⟨rfl,rfl⟩)) | ((go_at_call 82;refine (H2.out _).mono ?_;rintro e w' ⟨rfl,rfl⟩)))
  go_ret
  refine ⟨Uc ?_,rfl⟩
  rw [<- HP.out,Cl,HL.out];rfl
theorem Btu:Qu 76 CE:=by
 refine ⟨λargs w=>enters_of Tryz.func76 (by kernel_rfl) rfl args w,λr w hr=>?_⟩
 obtain ⟨pr,hpr⟩:∃ x,CE r=x:=⟨_,rfl⟩
 have HP:=Lib.hid hpr
 rw [hpr]
 clear hpr
 go_enter Tryz.func76,Tryz.ntmps76
 go_wp2
 all_goals go_ret
 all_goals refine ⟨Uc ?_,rfl⟩
 all_goals rw [<- HP.out];clear HP
 all_goals unfold CE
 all_goals rw [Bool.eq_iff_iff]
 all_goals simp only [Bool.or_eq_true,beq_iff_eq,beq_eq_false_iff_ne,Bool.true_eq_false,Bool.false_eq_true,true_iff,false_iff,not_or] at *
 all_goals omega
theorem Btv:Qu 79 KJ:=by
 refine ⟨λargs w=>enters_of Tryz.func79 (by kernel_rfl) rfl args w,λr w hr=>?_⟩
 obtain ⟨pr,hpr⟩:∃ x,KJ r=x:=⟨_,rfl⟩
 have HP:=Lib.hid hpr
 rw [hpr]
 clear hpr
 go_enter Tryz.func79,Tryz.ntmps79
 go_wp2
 go_ret
 refine ⟨Uc ?_,rfl⟩
 rw [<- HP.out]
 unfold KJ
 rw [Bool.eq_iff_iff]
 simp only [bne_iff_ne]
 omega
theorem OI (c k:UInt8):(c=k) ↔ ((c.toNat:Int) == (k.toNat:Int))=true:=by
 rw [beq_iff_eq,Int.natCast_inj,UInt8.toNat_inj]
set_option maxHeartbeats 1000000 in
theorem Aar (c:UInt8) (w:World):Calls Tryz.prog 140 #[.int .u8 c.toNat] w λe w'=>e=.returned (.int .u8 (FR c).toNat)/\w=w':=by
 obtain ⟨x,hx⟩:∃ x,(FR c).toNat=x:=⟨_,rfl⟩
 have HX:=Lib.hid hx
 rw [hx]
 clear hx
 go_enter Tryz.func140,Tryz.ntmps140
 go_wp2
 all_goals go_ret
 all_goals refine ⟨Mq ?_,rfl⟩
 all_goals rw [<- HX.out];clear HX
 all_goals simp only [FR,OI]
 all_goals simp_all
theorem Vo (m:Nat) (b:UInt8) (t:Bs) (n k:Nat):BZ (m+1) (b :: t) n k=match hexD b with | none=>(n,k) | some d=>BZ m t (16 * n+d) (k+1):=rfl
def A9d:Bs:=[48,49,50,51,52,53,54,55,56,57,97,98,99,100,101,102]
def QC (b:UInt8):Int:=Lib.indexByte A9d (Go.bits .or .u8 (b.toNat:Int) 32).toNat.toUInt8
def Vp (b:UInt8):Bool :=
 match hexD b with
 | none=>decide (QC b < 0) || decide (b.toNat < 48)
 | some d=>decide (QC b=d) && decide (48<=b.toNat) && decide (d < 16)
theorem A9b:∀ n,n < 256->Vp (UInt8.ofNat n)=true:=by decide +kernel
theorem Aj3 (b:UInt8):Vp b=true:=by
 have:=A9b b.toNat b.toNat_lt
 simpa using this
theorem A89 {b:UInt8} (h:hexD b=none):QC b < 0\/b.toNat < 48:=by
 have:=Aj3 b
 simpa [Vp,h] using this
theorem Vn {b:UInt8} {d:Nat} (h:hexD b=some d):QC b=d/\48<=b.toNat/\d < 16:=by
 have:=Aj3 b
 simpa [Vp,h,and_assoc] using this
theorem Aau {k:Nat} (h:k<=8):16 ^ k<=4294967296:=by
 have:=Nat.pow_le_pow_right (n:=16) (by omega) h;omega
theorem Bf2 (b:UInt8) (w:World):Calls Tryz.prog 151 #[.string ⟨#[48,49,50,51,52,53,54,55,56,57,97,98,99,100,101,102]⟩,.int .u8 (Go.bits .or .u8 (b.toNat:Int) 32)] w λe w'=>e=.returned (.int .i64 (QC b))/\w=w' :=
 (Tryz.strings_IndexByte _ _ w).mono λ_ _ ⟨h1,h2⟩=>⟨h1,h2.symm⟩
theorem drop_at (s:Ah) (k:Nat) (h:k < s.size):(bs s).drop k=s[k] :: (bs s).drop (k+1):=by
 rw [List.drop_eq_getElem_cons (by rw [BY];exact h)];rfl
set_option maxHeartbeats 1000000 in
theorem Aj4 (s:Ah) (most:Nat) (w:World) (hm:most<=8) (hs:s.size<=1000000) :
  Calls Tryz.prog 141 #[.string s,.int .i64 most] w λe w'=>e=.returned (.tuple #[.int .i64 (BZ most (bs s) 0 0).1,.int .i64 (BZ most (bs s) 0 0).2])/\w=w':=by
 obtain ⟨R,hR⟩:∃ R,BZ most (bs s) 0 0=R:=⟨_,rfl⟩
 rw [hR]
 have HR:=Lib.hid hR
 clear hR
 go_enter Tryz.func141,Tryz.ntmps141
 go_wp2
 go_loop [6,7,8] (λn k _=>∃ Ag K:Nat,K<=most/\K<=s.size/\Ag < 16 ^ K/\n=.int .i64 Ag/\k=.int .i64 K/\Hid (BZ (most - K) ((bs s).drop K) Ag K=R)) (λ_ k _=>most - (intOf k).toNat)
 case atStart=>exact ⟨0,0,by omega,by omega,by simp,rfl,rfl,HR.out⟩
 case round =>
  obtain ⟨Ag,K,hK,hKs,hN,rfl,rfl,hG⟩:=hrel
  have hp:=Aau (show K<=8 by omega)
  have hN2:Ag < 4294967296:=by omega
  have HN:=Lib.hid hN
  clear hN hp
  by_cases hlt:K < most
  ·by_cases hls:K < s.size
   ·have hix:=Bf2 s[K]
    obtain ⟨Ae,hD⟩:∃ Ae,QC s[K]=Ae:=⟨_,rfl⟩
    rw [hD] at hix
    have HIX:=Lib.hid hix
    have HD:=Lib.hid hD
    clear hix hD
    go_wp2_with ((go_at_call 151;refine (HIX.out _).mono ?_;rintro e w' ⟨rfl,rfl⟩))
    ·go_ret2
     have hn:hexD s[K]=none:=by
      cases h:hexD s[K] with
      | none=>rfl
      | some d=>have:=Vn h;rw [HD.out] at this;omega
     have h:=hG
     unfold Hid at h
     rw [show most - K=(most - K - 1)+1 by omega,drop_at s K hls,Vo,hn] at h
     rw [<- h]
     exact ⟨rfl,rfl⟩
    ·go_round
     case rel =>
      obtain ⟨d,hd⟩:∃ d,hexD s[K]=some d:=by
       cases h:hexD s[K] with
       | none=>have:=A89 h;rw [HD.out] at this;omega
       | some d=>exact ⟨d,rfl⟩
      have hs:=Vn hd
      rw [HD.out] at hs
      obtain ⟨hDd,_,QB⟩:=hs
      have hN16:=HN.out
      refine ⟨16 * Ag+d,K+1,by omega,by omega,by rw [Nat.pow_succ];omega,?_,by go_num,?_⟩
      ·rw [hDd];congr 1;unfold wrap64;omega
      ·have h:=hG
       unfold Hid at h ⊢
       rw [show most - K=(most - (K+1))+1 by omega,drop_at s K hls,Vo,hd] at h
       exact h
     case measure=>simp [intOf];omega
    ·go_ret2
     have hn:hexD s[K]=none:=by
      cases h:hexD s[K] with
      | none=>rfl
      | some d=>have:=Vn h;rw [HD.out] at this;omega
     have h:=hG
     unfold Hid at h
     rw [show most - K=(most - K - 1)+1 by omega,drop_at s K hls,Vo,hn] at h
     rw [<- h]
     exact ⟨rfl,rfl⟩
   ·go_wp2
    go_ret2
    have h:=hG
    unfold Hid at h
    rw [show most - K=(most - K - 1)+1 by omega,List.drop_of_length_le (by rw [BY];omega)] at h
    rw [<- h]
    exact ⟨rfl,rfl⟩
  ·go_wp2
   go_ret2
   have h:=hG
   unfold Hid at h
   rw [show most - K=0 by omega] at h
   rw [<- h]
   exact ⟨rfl,rfl⟩
theorem OV:∀ (m:Nat) (l:Bs) (n k:Nat),n < 16 ^ k->(BZ m l n k).1 < 16 ^ (BZ m l n k).2/\k<=(BZ m l n k).2/\(BZ m l n k).2<=k+m/\(BZ m l n k).2<=k+l.length
 | 0,_,n,k,h=>by simp only [BZ];exact ⟨h,by omega,by omega,by omega⟩
 | m+1,[],n,k,h=>by simp only [BZ];exact ⟨h,by omega,by omega,by simp⟩
 | m+1,b :: t,n,k,h=>by
  rw [Vo];cases hd:hexD b with
  | none=>simp only [];exact ⟨h,by omega,by omega,by omega⟩
  | some d =>
   simp only [];have h16:=(Vn hd).2.2;have:=OV m t (16 * n+d) (k+1) (by rw [Nat.pow_succ];omega);simp only [AW];exact ⟨this.1,by omega,by omega,by omega⟩
set_option maxHeartbeats 1000000 in
theorem A1w (n:Int) (w:World) (h0:0<=n) (h1:n<=4294967296) :
  Calls Tryz.prog 143 #[.int .i64 n] w λe w'=>e=.returned (.tuple #[.string (if Utf8.valid n then Utf8.encode n else ⟨#[]⟩),.int .i64 (if Utf8.valid n then 0 else 3)])/\w=w':=by
 obtain ⟨v,hv⟩:∃ v,Utf8.valid n=v:=⟨_,rfl⟩
 rw [hv]
 by_cases hbig:n<=1114111
 ·have hw:IntKind.i32.wrap n=n:=by unfold IntKind.wrap;simp [IntKind.bits,IntKind.signed];omega
  have hva:=Avr n
  rw [hv] at hva
  have HVA:=Lib.hid hva
  clear hva hv
  obtain ⟨E,hE⟩:∃ E,Utf8.encode n=E:=⟨_,rfl⟩
  rw [hE]
  have hconv:∀ w,(convert 21 9 (.int .i32 n)).run Tryz.prog w=.ok (.string E) w:=λw=>by
   rw [<- hE];exact run_convert_int_string w 21 9 .i32 n (by rw [Tryz.underlying21];rfl) Tryz.underlying9
  clear hE
  cases v
  ·go_enter Tryz.func143,Tryz.ntmps143
   go_wp2_with ((go_at_call 137;refine (HVA.out _).mono ?_;rintro e w' ⟨rfl,rfl⟩))
   go_ret2
   exact ⟨rfl,rfl⟩
  ·go_enter Tryz.func143,Tryz.ntmps143
   go_wp2_with ((go_at_call 137;refine (HVA.out _).mono ?_;rintro e w' ⟨rfl,rfl⟩))
   go_ret2
   exact ⟨rfl,rfl⟩
 ·have hvf:v=false:=by rw [<- hv];unfold Utf8.valid;simp;omega
  subst hvf
  clear hv
  go_enter Tryz.func143,Tryz.ntmps143
  go_wp2_with (fail)
  go_ret2
  exact ⟨rfl,rfl⟩
def Iz (r:Nat):Int:=match Jr r with | some d=>d | none=>-1
theorem A0s (r:Nat):Iz r=if 48<=r/\r<=57 then (r:Int) - 48 else if 97<=r/\r<=102 then (r:Int) - 87 else if 65<=r/\r<=70 then (r:Int) - 55 else -1:=by
 unfold Iz Jr
 (repeat' split) <;> simp_all <;> omega
set_option maxHeartbeats 1000000 in
theorem Ac0 (r:Nat) (w:World) (hr:r<=1114111):Calls Tryz.prog 159 #[.int .i32 r] w λe w'=>e=.returned (.int .i64 (Iz r))/\w=w':=by
 obtain ⟨x,hx⟩:∃ x,Iz r=x:=⟨_,rfl⟩
 rw [hx]
 rw [A0s] at hx
 have HX:=Lib.hid hx
 clear hx
 have hr':(r:Int)<=1114111:=by omega
 go_enter Tryz.func159,Tryz.ntmps159
 go_wp2
 all_goals go_ret
 all_goals refine ⟨Mq ?_,rfl⟩
 all_goals rw [<- HX.out];clear HX
 all_goals (repeat' split)
 all_goals (first | omega | (unfold wrap32 wrap64;omega) | (exfalso;omega) | (simp_all;omega))
theorem As7 (hex:Bool):∀ (f g n:Nat) (l:Bs),l.length<=f->l.length<=g->K_ hex f n l=K_ hex g n l
 | 0,0,_,_,_,_=>rfl
 | 0,g+1,n,l,h,_=>by
  have:l=[]:=List.eq_nil_of_length_eq_zero (by omega);subst this;rfl
 | f+1,0,n,l,_,h=>by
  have:l=[]:=List.eq_nil_of_length_eq_zero (by omega);subst this;rfl
 | f+1,g+1,n,[],_,_=>rfl
 | f+1,g+1,n,b :: t,h,h'=>by
  simp only [K_];have hw:=(Jq (b :: t)).1;split;rfl;split;rfl;exact As7 hex f g _ _ (by rw [BU];simp only [AW] at *;omega) (by rw [BU];simp only [AW] at *;omega)
theorem Abr (hex:Bool) (n:Nat) (l:Bs) (h:l≠[]):FK hex n l =
  match Jr (B1 l).1 with
  | none=>none
  | some d=>if d > 9 && !hex then none else
    FK hex (if hex then (n * 16+d) % 18446744073709551616 else min (10 * n+d) 18446744073709551615) (l.drop (B1 l).2):=by
 cases l with
 | nil=>exact absurd rfl h
 | cons b t =>
  have hw:=(Jq (b :: t)).1;unfold FK;simp only [AW,K_];cases hd:Jr (B1 (b :: t)).1 with
  | none=>rfl
  | some d =>
   simp only [];split;rfl;rw [As7 hex t.length ((b :: t).drop (B1 (b :: t)).2).length _ ((b :: t).drop (B1 (b :: t)).2) (by rw [BU];simp only [AW];omega) (Nat.le_refl _)]
theorem Abq (hex:Bool) (n:Nat):FK hex n []=some n:=rfl
theorem Aqj (Ag d:Nat) (hd:d < 16):bits .or .u64 (IntKind.u64.wrap ((Ag:Int) * 16)) (d:Int)=(((Ag * 16+d) % 18446744073709551616:Nat):Int):=by
 have hw:IntKind.u64.wrap ((Ag:Int) * 16)=((2 ^ 4 * (Ag % 1152921504606846976):Nat):Int):=by
  unfold IntKind.wrap;simp [IntKind.bits,IntKind.signed];omega
 rw [hw,bits_or_u64_nat _ _ (by omega) (by omega),<- Nat.two_pow_add_eq_or_of_lt (by omega:d < 2 ^ 4)];congr 1;omega
theorem Ayp (x y:Int) (w:World) (hx:0<=x) (hy:0<=y):(callFunc 161 #[.int .u64 x,.int .u64 y,.int .u64 0]).run Tryz.prog w =
  .ok (.value (.tuple #[.int .u64 ((x+y) % 18446744073709551616),.int .u64 ((x+y) / 18446744073709551616)])) w:=by
 rw [run_callFunc_extern Tryz.func161 (by kernel_rfl) (by kernel_rfl) (by kernel_rfl) (e:=add64Entry) (by kernel_rfl),run_add64 x y 0 hx hy (by omega) (by omega)];simp [Result.andThen]
theorem Bjd (Ag:Nat) (hN:Ag < 18446744073709551616) (w:World):Calls Tryz.prog 160 #[.int .u64 Ag,.int .u64 10] w λe w' =>
  e=.returned (.tuple #[.int .u64 ((Ag * 10 / 18446744073709551616:Nat)),.int .u64 ((Ag * 10 % 18446744073709551616:Nat))])/\w=w' :=
 (Tryz.bits_Mul64 Ag 10 hN (by omega) w).mono λ_ _ ⟨h1,h2⟩=>⟨h1,h2.symm⟩
theorem A0p (Ag d hi lo sm cy:Nat) (hN:Ag < 18446744073709551616) (hd:d < 16) (hhi:Ag * 10 / 18446744073709551616=hi) (hlo:Ag * 10 % 18446744073709551616=lo)
  (hsm:(lo+d) % 18446744073709551616=sm) (hcy:(lo+d) / 18446744073709551616=cy) :
  (hi+cy=0->sm=10 * Ag+d/\Ag<=sm/\sm < 18446744073709551616)/\(hi+cy≠0->18446744073709551616<=10 * Ag+d)/\hi<=9/\cy<=1:=by
 omega
abbrev Ay4 (c:Int):Ending:=.panicked [{ v:=.iface 195 (.agg #[.int .i64 c]),recovered:=false }]
def UI (r:Option Nat) (hex:Bool) (w:World) (e:Ending) (w':World):Prop :=
 (match r with | none=>e=Ay4 4 | some u=>e=.returned (.tuple #[.int .u64 u,.bool hex]))/\Below w.heap.size w w'
set_option maxHeartbeats 1000000 in
theorem Btp (s A1:Ah) (w:World) (hs:s.size<=1000000) (hsz:A1.size<=1000000) (hne:bs A1≠[])
  (hc:∀ w,Calls Tryz.prog 158 #[.string s,.string ⟨#[48,120]⟩] w λe w'=>e=.returned (.tuple #[.string A1,.bool true])/\w=w') :
  Calls Tryz.prog 150 #[.string s] w (UI (FK true 0 (bs A1)) true w):=by
 have HC:=Lib.hid hc
 clear hc
 have HNE:=Lib.hid hne
 have he:A1.toList.isEmpty=false:=by
  rw [Lib.toList_data];cases h:A1.data.toList with
  | nil=>exact absurd h hne
  | cons _ _=>rfl
 clear hne
 go_enter Tryz.func150,Tryz.ntmps150
 go_wp2_with ((go_at_call 158;refine (HC.out _).mono ?_;rintro e w' ⟨rfl,rfl⟩))
 have Hsz:=Lib.hid hsz
 generalize hM:A1.size=Ac at *
 have HM:=Lib.hid hM
 clear hM
 go_loopw [2] (λn wr=>∃ pos Ag:Nat,pos<=Ac/\Hid (Ag < 18446744073709551616)/\n=.int .u64 Ag/\Hid (FK true 0 (bs A1)=FK true Ag ((bs A1).drop pos))/\wr=w.iter A1 pos) (λ_ wr=>Ac - wr.iterPos w.heap.size)
 case atStart=>exact ⟨0,0,Nat.zero_le _,by unfold Hid;omega,rfl,by unfold Hid;simp,rfl⟩
 case round =>
  obtain ⟨pos,Ag,hpos,hN,rfl,hG,rfl⟩:=hrel
  by_cases hlt:pos < Ac
  ·have hnext:=run_next_any (P:=Tryz.prog) w A1 pos
   have hd:=S0 ((bs A1).drop pos)
   have hnx:∀ ty,(Instr.next (.pointer (some ⟨w.heap.size,0,none⟩)) true ty).run Tryz.prog (w.iter A1 pos)=.ok (.tuple #[.bool true,.int .i64 pos,.int .i32 (B1 ((bs A1).drop pos)).1]) (w.iter A1 (pos+(B1 ((bs A1).drop pos)).2)):=λty=>by
    have:=hnext ty (by rw [HM.out];exact hlt)
    rw [decode_eq A1 pos] at this
    exact this
   clear hnext
   have hne:(bs A1).drop pos≠[]:=λh=>by
    have:=congrArg List.length h
    rw [BU,BY,HM.out] at this
    simp at this;omega
   have HS:=Lib.hid (Abr true Ag ((bs A1).drop pos) hne)
   have HW:=Lib.hid (Jq ((bs A1).drop pos))
   have HLL:=Lib.hid (show ((bs A1).drop pos).length=Ac - pos by rw [BU,BY,HM.out])
   have Qt:=Lib.hid hne
   clear hne
   generalize hr:(B1 ((bs A1).drop pos)).1=r at *
   generalize hk:(B1 ((bs A1).drop pos)).2=k at *
   have HR:=Lib.hid hr
   have HK:=Lib.hid hk
   clear hr hk
   have HDG:=Lib.hid (λw=>Ac0 r w hd)
   go_wp2_with fail
   refine (HDG.out _).mono ?_
   rintro e w' ⟨rfl,rfl⟩
   cases hdg:Jr r with
   | none =>
    have hD:Iz r=-1:=by unfold Iz;rw [hdg]
    rw [hD]
    clear hD
    have HDN:=Lib.hid hdg
    clear hdg
    go_wp2_with fail
    refine ⟨rfl,?_⟩
    have hres:FK true 0 (bs A1)=none:=by rw [hG.out,HS.out,HDN.out]
    rw [hres]
    exact ⟨rfl,(Below.refl _ w).alloc (Nat.le_refl _) _⟩
   | some d =>
    have hD:Iz r=d:=by unfold Iz;rw [hdg]
    have QB:d < 16:=by unfold Jr at hdg;revert hdg;(repeat' split) <;> intro h <;> (try cases h) <;> omega
    rw [hD]
    clear hD
    have HDN:=Lib.hid hdg
    clear hdg
    have hdz:(d:Int) < 16:=by omega
    go_wp2_with fail
    all_goals
     go_roundw
     case rel =>
      have hN':=hN.out
      refine ⟨pos+k,(Ag * 16+d) % 18446744073709551616,?_,?_,?_,?_,rfl⟩
      ·have:=HW.out.2.2 Qt.out;rw [HLL.out] at this;omega
      ·unfold Hid;omega
      ·rw [Aqj Ag d QB]
      ·unfold Hid
       rw [hG.out,HS.out,HDN.out,List.drop_drop]
       simp
     case measure =>
      have hk1:=HW.out.1
      have e:∀ q,(w.iter A1 q).iterPos w.heap.size=q:=λq=>World.iterPos_iter w A1 q
      simp only [e]
      omega
  ·have hnx:=λty=>run_next_end (P:=Tryz.prog) w A1 pos ty (by rw [HM.out];exact hlt)
   have Yl:∀ ty,(Instr.next (.pointer (some ⟨w.heap.size,0,none⟩)) true ty).run Tryz.prog (w.iter A1 pos)=.ok (.tuple #[.bool false]) (w.iter A1 pos):=hnx
   clear hnx
   go_wp2_with fail
   go_ret2
   have hres:FK true 0 (bs A1)=some Ag:=by
    rw [hG.out,List.drop_of_length_le (by rw [BY,HM.out];omega),Abq]
   rw [hres]
   exact ⟨rfl,(Below.refl _ w).alloc (Nat.le_refl _) _⟩
set_option maxHeartbeats 1000000 in
theorem Btq (s A0 A1:Ah) (w:World) (hs:s.size<=1000000) (hsz:A1.size<=1000000) (hne:bs A1≠[])
  (hc0:∀ w,Calls Tryz.prog 158 #[.string s,.string ⟨#[48,120]⟩] w λe w'=>e=.returned (.tuple #[.string A0,.bool false])/\w=w')
  (hc:∀ w,Calls Tryz.prog 158 #[.string s,.string ⟨#[48,88]⟩] w λe w'=>e=.returned (.tuple #[.string A1,.bool true])/\w=w') :
  Calls Tryz.prog 150 #[.string s] w (UI (FK true 0 (bs A1)) true w):=by
 have HC:=Lib.hid hc
 have HC0:=Lib.hid hc0
 clear hc hc0
 have HNE:=Lib.hid hne
 have he:A1.toList.isEmpty=false:=by
  rw [Lib.toList_data];cases h:A1.data.toList with
  | nil=>exact absurd h hne
  | cons _ _=>rfl
 clear hne
 go_enter Tryz.func150,Tryz.ntmps150
 go_wp2_with fail
 refine (HC0.out _).mono ?_
 rintro e w' ⟨rfl,rfl⟩
 go_wp2_with fail
 refine (HC.out _).mono ?_
 rintro e w' ⟨rfl,rfl⟩
 go_wp2_with fail
 have Hsz:=Lib.hid hsz
 generalize hM:A1.size=Ac at *
 have HM:=Lib.hid hM
 clear hM
 go_loopw [2] (λn wr=>∃ pos Ag:Nat,pos<=Ac/\Hid (Ag < 18446744073709551616)/\n=.int .u64 Ag/\Hid (FK true 0 (bs A1)=FK true Ag ((bs A1).drop pos))/\wr=w.iter A1 pos) (λ_ wr=>Ac - wr.iterPos w.heap.size)
 case atStart=>exact ⟨0,0,Nat.zero_le _,by unfold Hid;omega,rfl,by unfold Hid;simp,rfl⟩
 case round =>
  obtain ⟨pos,Ag,hpos,hN,rfl,hG,rfl⟩:=hrel
  by_cases hlt:pos < Ac
  ·have hnext:=run_next_any (P:=Tryz.prog) w A1 pos
   have hd:=S0 ((bs A1).drop pos)
   have hnx:∀ ty,(Instr.next (.pointer (some ⟨w.heap.size,0,none⟩)) true ty).run Tryz.prog (w.iter A1 pos)=.ok (.tuple #[.bool true,.int .i64 pos,.int .i32 (B1 ((bs A1).drop pos)).1]) (w.iter A1 (pos+(B1 ((bs A1).drop pos)).2)):=λty=>by
    have:=hnext ty (by rw [HM.out];exact hlt)
    rw [decode_eq A1 pos] at this
    exact this
   clear hnext
   have hne:(bs A1).drop pos≠[]:=λh=>by
    have:=congrArg List.length h
    rw [BU,BY,HM.out] at this
    simp at this;omega
   have HS:=Lib.hid (Abr true Ag ((bs A1).drop pos) hne)
   have HW:=Lib.hid (Jq ((bs A1).drop pos))
   have HLL:=Lib.hid (show ((bs A1).drop pos).length=Ac - pos by rw [BU,BY,HM.out])
   have Qt:=Lib.hid hne
   clear hne
   generalize hr:(B1 ((bs A1).drop pos)).1=r at *
   generalize hk:(B1 ((bs A1).drop pos)).2=k at *
   have HR:=Lib.hid hr
   have HK:=Lib.hid hk
   clear hr hk
   have HDG:=Lib.hid (λw=>Ac0 r w hd)
   go_wp2_with fail
   refine (HDG.out _).mono ?_
   rintro e w' ⟨rfl,rfl⟩
   cases hdg:Jr r with
   | none =>
    have hD:Iz r=-1:=by unfold Iz;rw [hdg]
    rw [hD]
    clear hD
    have HDN:=Lib.hid hdg
    clear hdg
    go_wp2_with fail
    refine ⟨rfl,?_⟩
    have hres:FK true 0 (bs A1)=none:=by rw [hG.out,HS.out,HDN.out]
    rw [hres]
    exact ⟨rfl,(Below.refl _ w).alloc (Nat.le_refl _) _⟩
   | some d =>
    have hD:Iz r=d:=by unfold Iz;rw [hdg]
    have QB:d < 16:=by unfold Jr at hdg;revert hdg;(repeat' split) <;> intro h <;> (try cases h) <;> omega
    rw [hD]
    clear hD
    have HDN:=Lib.hid hdg
    clear hdg
    have hdz:(d:Int) < 16:=by omega
    go_wp2_with fail
    all_goals
     go_roundw
     case rel =>
      have hN':=hN.out
      refine ⟨pos+k,(Ag * 16+d) % 18446744073709551616,?_,?_,?_,?_,rfl⟩
      ·have:=HW.out.2.2 Qt.out;rw [HLL.out] at this;omega
      ·unfold Hid;omega
      ·rw [Aqj Ag d QB]
      ·unfold Hid
       rw [hG.out,HS.out,HDN.out,List.drop_drop]
       simp
     case measure =>
      have hk1:=HW.out.1
      have e:∀ q,(w.iter A1 q).iterPos w.heap.size=q:=λq=>World.iterPos_iter w A1 q
      simp only [e]
      omega
  ·have hnx:=λty=>run_next_end (P:=Tryz.prog) w A1 pos ty (by rw [HM.out];exact hlt)
   have Yl:∀ ty,(Instr.next (.pointer (some ⟨w.heap.size,0,none⟩)) true ty).run Tryz.prog (w.iter A1 pos)=.ok (.tuple #[.bool false]) (w.iter A1 pos):=hnx
   clear hnx
   go_wp2_with fail
   go_ret2
   have hres:FK true 0 (bs A1)=some Ag:=by
    rw [hG.out,List.drop_of_length_le (by rw [BY,HM.out];omega),Abq]
   rw [hres]
   exact ⟨rfl,(Below.refl _ w).alloc (Nat.le_refl _) _⟩
set_option maxHeartbeats 1000000 in
theorem Bto (s A0 A1:Ah) (w:World) (hs:s.size<=1000000) (hsz:A1.size<=1000000) (hne:bs A1≠[])
  (hc0:∀ w,Calls Tryz.prog 158 #[.string s,.string ⟨#[48,120]⟩] w λe w'=>e=.returned (.tuple #[.string A0,.bool false])/\w=w')
  (hc:∀ w,Calls Tryz.prog 158 #[.string s,.string ⟨#[48,88]⟩] w λe w'=>e=.returned (.tuple #[.string A1,.bool false])/\w=w') :
  Calls Tryz.prog 150 #[.string s] w (UI (FK false 0 (bs A1)) false w):=by
 have HC:=Lib.hid hc
 have HC0:=Lib.hid hc0
 clear hc hc0
 have HNE:=Lib.hid hne
 have he:A1.toList.isEmpty=false:=by
  rw [Lib.toList_data];cases h:A1.data.toList with
  | nil=>exact absurd h hne
  | cons _ _=>rfl
 clear hne
 go_enter Tryz.func150,Tryz.ntmps150
 go_wp2_with fail
 refine (HC0.out _).mono ?_
 rintro e w' ⟨rfl,rfl⟩
 go_wp2_with fail
 refine (HC.out _).mono ?_
 rintro e w' ⟨rfl,rfl⟩
 go_wp2_with fail
 have Hsz:=Lib.hid hsz
 generalize hM:A1.size=Ac at *
 have HM:=Lib.hid hM
 clear hM
 go_loopw [2] (λn wr=>∃ pos Ag:Nat,pos<=Ac/\Hid (Ag < 18446744073709551616)/\n=.int .u64 Ag/\Hid (FK false 0 (bs A1)=FK false Ag ((bs A1).drop pos))/\wr=w.iter A1 pos) (λ_ wr=>Ac - wr.iterPos w.heap.size)
 case atStart=>exact ⟨0,0,Nat.zero_le _,by unfold Hid;omega,rfl,by unfold Hid;simp,rfl⟩
 case round =>
  obtain ⟨pos,Ag,hpos,hN,rfl,hG,rfl⟩:=hrel
  by_cases hlt:pos < Ac
  ·have hnext:=run_next_any (P:=Tryz.prog) w A1 pos
   have hd:=S0 ((bs A1).drop pos)
   have hnx:∀ ty,(Instr.next (.pointer (some ⟨w.heap.size,0,none⟩)) true ty).run Tryz.prog (w.iter A1 pos)=.ok (.tuple #[.bool true,.int .i64 pos,.int .i32 (B1 ((bs A1).drop pos)).1]) (w.iter A1 (pos+(B1 ((bs A1).drop pos)).2)):=λty=>by
    have:=hnext ty (by rw [HM.out];exact hlt)
    rw [decode_eq A1 pos] at this
    exact this
   clear hnext
   have hne:(bs A1).drop pos≠[]:=λh=>by
    have:=congrArg List.length h
    rw [BU,BY,HM.out] at this
    simp at this;omega
   have HS:=Lib.hid (Abr false Ag ((bs A1).drop pos) hne)
   have HW:=Lib.hid (Jq ((bs A1).drop pos))
   have HLL:=Lib.hid (show ((bs A1).drop pos).length=Ac - pos by rw [BU,BY,HM.out])
   have Qt:=Lib.hid hne
   clear hne
   generalize hr:(B1 ((bs A1).drop pos)).1=r at *
   generalize hk:(B1 ((bs A1).drop pos)).2=k at *
   have HR:=Lib.hid hr
   have HK:=Lib.hid hk
   clear hr hk
   have HDG:=Lib.hid (λw=>Ac0 r w hd)
   go_wp2_with fail
   refine (HDG.out _).mono ?_
   rintro e w' ⟨rfl,rfl⟩
   cases hdg:Jr r with
   | none =>
    have hD:Iz r=-1:=by unfold Iz;rw [hdg]
    rw [hD]
    clear hD
    have HDN:=Lib.hid hdg
    clear hdg
    go_wp2_with fail
    refine ⟨rfl,?_⟩
    have hres:FK false 0 (bs A1)=none:=by rw [hG.out,HS.out,HDN.out]
    rw [hres]
    exact ⟨rfl,(Below.refl _ w).alloc (Nat.le_refl _) _⟩
   | some d =>
    have hD:Iz r=d:=by unfold Iz;rw [hdg]
    have QB:d < 16:=by unfold Jr at hdg;revert hdg;(repeat' split) <;> intro h <;> (try cases h) <;> omega
    rw [hD]
    clear hD
    have HDN:=Lib.hid hdg
    clear hdg
    have hdz:(d:Int) < 16:=by omega
    by_cases h9:d<=9
    ·have h9z:(d:Int)<=9:=by omega
     have H9:=Lib.hid h9
     clear h9
     have Aev:=Lib.hid (Bjd Ag hN.out)
     have hdw:IntKind.u64.wrap (d:Int)=d:=by unfold IntKind.wrap;simp [IntKind.bits,IntKind.signed];omega
     obtain ⟨hi,hhi⟩:∃ hi,Ag * 10 / 18446744073709551616=hi:=⟨_,rfl⟩
     obtain ⟨lo,hlo⟩:∃ lo,Ag * 10 % 18446744073709551616=lo:=⟨_,rfl⟩
     rw [hhi,hlo] at Aev
     obtain ⟨sm,hsm⟩:∃ sm,(lo+d) % 18446744073709551616=sm:=⟨_,rfl⟩
     obtain ⟨cy,hcy⟩:∃ cy,(lo+d) / 18446744073709551616=cy:=⟨_,rfl⟩
     have hadd:∀ w,(callFunc 161 #[.int .u64 lo,.int .u64 d,.int .u64 0]).run Tryz.prog w=.ok (.value (.tuple #[.int .u64 sm,.int .u64 cy])) w:=λw=>by
      rw [Ayp lo d w (by omega) (by omega),<- hsm,<- hcy]
      rfl
     have hNN:=hN.out
     have U6:=Lib.hid (A0p Ag d hi lo sm cy hNN QB hhi hlo hsm hcy)
     have hz1:(hi:Int)<=9:=by have:=U6.out.2.2.1;omega
     have hz2:(cy:Int)<=1:=by have:=U6.out.2.2.2;omega
     have hz0:(0:Int)<=hi:=by omega
     have hz3:(0:Int)<=cy:=by omega
     clear hhi hlo hsm hcy hNN
     go_wp2_with fail
     refine (Aev.out _).mono ?_
     rintro e w1 ⟨rfl,rfl⟩
     go_wp2_with fail
     ·go_roundw
      case rel =>
       have hc:hi+cy≠0:=by
        have h:((hi:Int)+cy != 0)=true:=by assumption
        rw [bne_iff_ne] at h;omega
       have ha:=U6.out.2.1 hc
       have hN':=hN.out
       refine ⟨pos+k,18446744073709551615,?_,?_,?_,?_,rfl⟩
       ·have:=HW.out.2.2 Qt.out;rw [HLL.out] at this;omega
       ·unfold Hid;omega
       ·congr 1;omega
       ·unfold Hid
        rw [hG.out,HS.out,HDN.out,List.drop_drop]
        have h9':(decide (d > 9) && !false)=false:=by simp;exact H9.out
        simp only [h9',Bool.false_eq_true,if_false]
        rw [Nat.min_eq_right (by omega)]
      case measure =>
       have hk1:=HW.out.1
       have e:∀ q,(w.iter A1 q).iterPos w.heap.size=q:=λq=>World.iterPos_iter w A1 q
       simp only [e]
       omega
     ·go_roundw
      case rel =>
       have hc:hi+cy=0:=by
        have h:((hi:Int)+cy != 0)=false:=by assumption
        simp at h;omega
       have ha:=U6.out.1 hc
       have hN':=hN.out
       refine ⟨pos+k,sm,?_,?_,?_,?_,rfl⟩
       ·have:=HW.out.2.2 Qt.out;rw [HLL.out] at this;omega
       ·unfold Hid;omega
       ·congr 1;omega
       ·unfold Hid
        rw [hG.out,HS.out,HDN.out,List.drop_drop]
        have h9':(decide (d > 9) && !false)=false:=by simp;exact H9.out
        simp only [h9',Bool.false_eq_true,if_false]
        rw [Nat.min_eq_left (by omega),<- ha.1]
      case measure =>
       have hk1:=HW.out.1
       have e:∀ q,(w.iter A1 q).iterPos w.heap.size=q:=λq=>World.iterPos_iter w A1 q
       simp only [e]
       omega
    ·have h9z:(9:Int) < d:=by omega
     have H9:=Lib.hid h9
     clear h9
     go_wp2_with fail
     refine ⟨rfl,?_⟩
     have hres:FK false 0 (bs A1)=none:=by
      rw [hG.out,HS.out,HDN.out]
      have h9':(decide (d > 9) && !false)=true:=by simp;have:=H9.out;omega
      simp only [h9',if_true]
     rw [hres]
     exact ⟨rfl,(Below.refl _ w).alloc (Nat.le_refl _) _⟩
  ·have hnx:=λty=>run_next_end (P:=Tryz.prog) w A1 pos ty (by rw [HM.out];exact hlt)
   have Yl:∀ ty,(Instr.next (.pointer (some ⟨w.heap.size,0,none⟩)) true ty).run Tryz.prog (w.iter A1 pos)=.ok (.tuple #[.bool false]) (w.iter A1 pos):=hnx
   clear hnx
   go_wp2_with fail
   go_ret2
   have hres:FK false 0 (bs A1)=some Ag:=by
    rw [hG.out,List.drop_of_length_le (by rw [BY,HM.out];omega),Abq]
   rw [hres]
   exact ⟨rfl,(Below.refl _ w).alloc (Nat.le_refl _) _⟩
theorem Agv (s:Ah) (p:Bs) (w:World):Calls Tryz.prog 158 #[.string s,.string (str p)] w λe w' =>
  e=.returned (.tuple #[.string (str (if p.isPrefixOf (bs s) then (bs s).drop p.length else bs s)),.bool (p.isPrefixOf (bs s))])/\w=w' :=
 (Tryz.strings_CutPrefix s (str p) w).mono λ_ _ ⟨h1,h2⟩=>⟨by rw [h1];simp [str,bs,Lib.trimPrefix,Lib.hasPrefix],h2.symm⟩
def La (l:Bs):Option Nat :=
 let rest:=if EW l then l.drop 2 else l
 if rest=[] then none else FK (EW l) 0 rest
theorem size_any (s:Ah) (w:World) (hs:s.size<=1000000):Calls Tryz.prog 150 #[.string s] w (UI (La (bs s)) (EW (bs s)) w):=by
 have h0:=λw=>Agv s [48,120] w
 have h1:=λw=>Agv s [48,88] w
 have hl:=BY s
 have hstr:∀ l:Bs,l.length<=1000000->(str l).size<=1000000:=λl h=>by rw [Nt];exact h
 by_cases p0:[48,120].isPrefixOf (bs s)=true
 ·have hh:EW (bs s)=true:=by simp [EW,p0]
  simp only [p0,if_true] at h0
  unfold La
  rw [hh]
  simp only [if_true]
  by_cases hn:(bs s).drop 2=[]
  ·rw [if_pos hn]
   have hn':(str ((bs s).drop [48,120].length)).toList.isEmpty=true:=by rw [Lib.toList_data];show ((str ((bs s).drop 2)).data.toList).isEmpty=true;rw [hn];rfl
   have H0:=Lib.hid h0
   generalize str ((bs s).drop [48,120].length)=A at *
   clear h0 h1 hh p0 hl hstr hn
   go_enter Tryz.func150,Tryz.ntmps150
   go_wp2_with fail
   refine (H0.out _).mono ?_
   rintro e w' ⟨rfl,rfl⟩
   go_wp2_with fail
   exact ⟨rfl,rfl,Below.refl _ _⟩
  ·rw [if_neg hn]
   have:=Btp s (str ((bs s).drop 2)) w hs (hstr _ (by rw [BU];omega)) (by rw [Hv];exact hn) h0
   rw [Hv] at this
   exact this
 ·have p0':[48,120].isPrefixOf (bs s)=false:=Bool.eq_false_iff.2 p0
  simp only [p0',Bool.false_eq_true,if_false] at h0
  by_cases p1:[48,88].isPrefixOf (bs s)=true
  ·have hh:EW (bs s)=true:=by simp [EW,p1]
   simp only [p1,if_true] at h1
   unfold La
   rw [hh]
   simp only [if_true]
   by_cases hn:(bs s).drop 2=[]
   ·rw [if_pos hn]
    have hn':(str ((bs s).drop [48,88].length)).toList.isEmpty=true:=by rw [Lib.toList_data];show ((str ((bs s).drop 2)).data.toList).isEmpty=true;rw [hn];rfl
    have H0:=Lib.hid h0
    have H1:=Lib.hid h1
    generalize str ((bs s).drop [48,88].length)=A at *
    generalize str (bs s)=A0 at *
    clear h0 h1 hh p0 p0' p1 hl hstr hn
    go_enter Tryz.func150,Tryz.ntmps150
    go_wp2_with fail
    refine (H0.out _).mono ?_
    rintro e w' ⟨rfl,rfl⟩
    go_wp2_with fail
    refine (H1.out _).mono ?_
    rintro e w' ⟨rfl,rfl⟩
    go_wp2_with fail
    exact ⟨rfl,rfl,Below.refl _ _⟩
   ·rw [if_neg hn]
    have:=Btq s (str (bs s)) (str ((bs s).drop 2)) w hs (hstr _ (by rw [BU];omega)) (by rw [Hv];exact hn) h0 h1
    rw [Hv] at this
    exact this
  ·have p1':[48,88].isPrefixOf (bs s)=false:=Bool.eq_false_iff.2 p1
   simp only [p1',Bool.false_eq_true,if_false] at h1
   have hh:EW (bs s)=false:=by simp [EW,p0',p1']
   unfold La
   rw [hh]
   simp only [Bool.false_eq_true,if_false]
   by_cases hn:bs s=[]
   ·rw [if_pos hn]
    have hn':(str (bs s)).toList.isEmpty=true:=by rw [Lib.toList_data];show ((str (bs s)).data.toList).isEmpty=true;rw [hn];rfl
    have H0:=Lib.hid h0
    have H1:=Lib.hid h1
    generalize str (bs s)=A0 at *
    clear h0 h1 hh p0 p0' p1 p1' hl hstr hn
    go_enter Tryz.func150,Tryz.ntmps150
    go_wp2_with fail
    refine (H0.out _).mono ?_
    rintro e w' ⟨rfl,rfl⟩
    go_wp2_with fail
    refine (H1.out _).mono ?_
    rintro e w' ⟨rfl,rfl⟩
    go_wp2_with fail
    exact ⟨rfl,rfl,Below.refl _ _⟩
   ·rw [if_neg hn]
    have:=Bto s (str (bs s)) (str (bs s)) w hs (hstr _ (by omega)) (by rw [Hv];exact hn) h0 h1
    rw [Hv] at this
    exact this
theorem catch_panicking (p q:Nat) (x y c:Int) (w:World) (hp:w.cell? ⟨p,0,none⟩=some (.int .i64 x)) (hq:w.cell? ⟨q,0,none⟩=some (.int .i64 y)) (fp:w.frozen? ⟨p,0,none⟩=false) (fq:w.frozen? ⟨q,0,none⟩=false) (hne:¬ p=q) :
  CallsD Tryz.prog 149 #[.pointer (some ⟨p,0,none⟩),.pointer (some ⟨q,0,none⟩)] (.panicking [{ v:=.iface 195 (.agg #[.int .i64 c]),recovered:=false }]) w λe u' w' =>
   e=.returned (.tuple #[])/\u'=.panicking [{ v:=.iface 195 (.agg #[.int .i64 c]),recovered:=true }]/\((w.setCell ⟨p,0,none⟩ (.int .i64 0)).setCell ⟨q,0,none⟩ (.int .i64 c)).drew=w':=by
 refine callsD_of_wpS Tryz.func149 rfl λc₀ cs hu=>?_
 have hta:∀ w,(Instr.typeAssert (.iface 195 (.agg #[.int .i64 c])) 20 195 false).run Tryz.prog w=.ok (.agg #[.int .i64 c]) w:=λw=>by kernel_rfl
 have hfa:∀ w,(Instr.field 195 (.agg #[.int .i64 c]) 0).run Tryz.prog w=.ok (.int .i64 c) w:=λw=>by kernel_rfl
 apply wpS_seq
 apply wpS_region
 simp [wpOpsS,go_sem,recoverD,hu,Tryz.ntmps149,Exit.thenS,Array.replicate_succ]
 refine wpS_of_wp ?_
 go_wp2
 refine K0 [(0,0),(1,0),(2,0)] (λ_=>True) (by kernel_rfl) (by kernel_rfl) (λ_ _ d _ _ h=>by cases d <;> exact h) (by trivial) ?_
 simp only [DJ,List.filterMap_cons,List.filterMap_nil,List.getElem?_toArray,List.getElem?_cons_zero,List.getElem?_cons_succ,Option.map_some,List.drop_succ_cons,List.drop_zero,AW,Bp]
 iterate 3 (refine DU (by rfl) (λwq=>by go_simp;with_reducible rfl) ?_;simp only [Act.put,List.setIfInBounds_toArray,List.set_cons_zero,List.set_cons_succ])
 refine KX ?_
 go_wp2
 simp [bodyPostS,results,Tryz.results149]
theorem catch_idle (p q:Value) (w:World) :
  CallsD Tryz.prog 149 #[p,q] .returning w λe u' w'=>e=.returned (.tuple #[])/\u'=.returning/\w=w':=by
 refine callsD_of_wpS Tryz.func149 rfl λc₀ cs hu=>?_
 apply wpS_seq
 apply wpS_region
 simp [wpOpsS,go_sem,recoverD,hu,Tryz.ntmps149,Exit.thenS,Array.replicate_succ]
 refine wpS_of_wp ?_
 go_wp2
 cases c₀
 simp_all [bodyPostS,results,Tryz.results149]
theorem Rn (w:World) (b:Nat) (v:Value) (e:TypeId) (h:w.heap[b]? = some (.cells #[v] e)):w.cell? ⟨b,0,none⟩=some v/\w.frozen? ⟨b,0,none⟩=false :=
 ⟨by rw [FO h];rfl,JP h 0⟩
set_option maxHeartbeats 1000000 in
theorem Br6 (s:Ah) (neg:Bool) (w:World) (hs:s.size<=1000000) (hn:La (bs s)=none) :
  Calls Tryz.prog 139 #[.string s,.bool neg] w λe w'=>e=.returned (.tuple #[.int .i64 0,.int .i64 4])/\Below w.heap.size w w':=by
 have hsz:=λw=>size_any s w hs
 rw [hn] at hsz
 have HS:=Lib.hid hsz
 clear hsz
 have hmf:∀ (fn:Fn) (first cap:Array Value) (w:World),(Instr.makeFunc fn first cap).run Tryz.prog w=.ok (.func fn first cap) w:=λ_ _ _ _=>rfl
 go_enter_defers Tryz.func139,Tryz.ntmps139
 go_wp2_with fail
 refine (HS.out _).mono ?_
 rintro e w1 ⟨he,hb1⟩
 simp only [] at he
 subst he
 have hbn:=Ln hb1 (by simp;omega) (M5 (Lo w (.cells #[.int .i64 0] 3)))
 have hbe:=Ln hb1 (by simp) (Lo (w.alloc (.cells #[.int .i64 0] 3)) (.cells #[.int .i64 0] 26))
 simp only [World.size_alloc] at hbe
 have hB:=hb1.mono (B':=w.heap.size) (by simp;omega)
 have HB:=Lib.hid ((((Below.refl w.heap.size w).alloc (Nat.le_refl _) _).alloc (by simp) _).trans hB)
 obtain ⟨cn,fn⟩:=Rn w1 _ _ _ hbn
 obtain ⟨ce,fe⟩:=Rn w1 _ _ _ hbe
 clear hb1 hB hbn hbe
 go_wp2_with fail
 refine leaves_cons (f:=149) (args:=#[.pointer (some ⟨w.heap.size,0,none⟩),.pointer (some ⟨w.heap.size+1,0,none⟩)]) (by simp) (by simp [go_sem]) ?_
 refine (catch_panicking w.heap.size (w.heap.size+1) 0 0 _ w1 cn ce fn fe (by omega)).mono ?_
 rintro e u' w'' ⟨rfl,rfl,rfl⟩
 have hne:¬ w.heap.size+1=w.heap.size:=by omega
 have hn0:((w1.setCell ⟨w.heap.size,0,none⟩ (.int .i64 0)).setCell ⟨w.heap.size+1,0,none⟩ (.int .i64 4)).drew.cell? ⟨w.heap.size,0,none⟩=some (.int .i64 0):=by
  rw [World.cell?_drew,World.cell?_setCell_other _ _ _ _ (by simp),World.cell?_setCell_same _ _ _ cn]
 have hn1:((w1.setCell ⟨w.heap.size,0,none⟩ (.int .i64 0)).setCell ⟨w.heap.size+1,0,none⟩ (.int .i64 4)).drew.cell? ⟨w.heap.size+1,0,none⟩=some (.int .i64 4):=by
  rw [World.cell?_drew]
  exact World.cell?_setCell_same _ _ _ ((World.cell?_setCell_other _ _ _ _ (by simp)).trans ce)
 have HBf:=((HB.out.setCell (p:=⟨w.heap.size,0,none⟩) (Nat.le_refl _) (.int .i64 0)).setCell (p:=⟨w.heap.size+1,0,none⟩) (by simp) (.int .i64 4)).drew
 generalize ((w1.setCell ⟨w.heap.size,0,none⟩ (.int .i64 0)).setCell ⟨w.heap.size+1,0,none⟩ (.int .i64 4)).drew=w9 at *
 simp [Leaves,settle,results,Tryz.results139,go_sem,hn0,hn1]
 exact HBf
theorem Atb (hex:Bool):∀ (f n:Nat) (l:Bs) (u:Nat),n < 18446744073709551616->K_ hex f n l=some u->u < 18446744073709551616
 | 0,n,l,u,hn,h=>by simp only [K_,Option.some.injEq] at h;omega
 | f+1,n,[],u,hn,h=>by simp only [K_,Option.some.injEq] at h;omega
 | f+1,n,b :: t,u,hn,h=>by
  simp only [K_] at h;split at h;cases h;split at h;cases h;refine Atb hex f _ _ u ?_ h;split <;> omega
theorem Btn {l:Bs} {u:Nat} (h:La l=some u):u < 18446744073709551616:=by
 unfold La at h;simp only [] at h;generalize (if EW l then l.drop 2 else l)=rest at h;by_cases hr:rest=[];rw [if_pos hr] at h;cases h;rw [if_neg hr] at h;exact Atb _ _ 0 _ _ (by omega) h
theorem Bp6 (l:Bs):F6 l=match La l with | none=>(0,4) | some u=>if !EW l && decide (u > 9223372036854775807) then (0,14) else (sint u,0):=by
 unfold F6 La;simp only [];generalize (if EW l then l.drop 2 else l)=rest;by_cases h:rest=[]
 ·simp [h]
 ·simp only [h,if_false]
  all_goals (cases FK (EW l) 0 rest <;> rfl)
theorem Btm (u:Nat) (h:u < 18446744073709551616):wrap64 (u:Int)=sint u:=by
 unfold wrap64 sint;split <;> omega
set_option maxHeartbeats 1000000 in
theorem Br5 (s:Ah) (w:World) (u:Nat) (hs:s.size<=1000000) (hn:La (bs s)=some u) (hx:EW (bs s)=false) (hu:9223372036854775807 < u) :
  Calls Tryz.prog 139 #[.string s,.bool false] w λe w'=>e=.returned (.tuple #[.int .i64 0,.int .i64 14])/\Below w.heap.size w w':=by
 have hsz:=λw=>size_any s w hs
 rw [hn,hx] at hsz
 have HS:=Lib.hid hsz
 have huz:(9223372036854775807:Int) < u:=by omega
 clear hsz hn hx hu
 have hmf:∀ (fn:Fn) (first cap:Array Value) (w:World),(Instr.makeFunc fn first cap).run Tryz.prog w=.ok (.func fn first cap) w:=λ_ _ _ _=>rfl
 go_enter_defers Tryz.func139,Tryz.ntmps139
 go_wp2_with fail
 refine (HS.out _).mono ?_
 rintro e w1 ⟨he,hb1⟩
 simp only [] at he
 subst he
 have hbn:=Ln hb1 (by simp;omega) (M5 (Lo w (.cells #[.int .i64 0] 3)))
 have hbe:=Ln hb1 (by simp) (Lo (w.alloc (.cells #[.int .i64 0] 3)) (.cells #[.int .i64 0] 26))
 simp only [World.size_alloc] at hbe
 have hB:=hb1.mono (B':=w.heap.size) (by simp;omega)
 have HB:=Lib.hid ((((Below.refl w.heap.size w).alloc (Nat.le_refl _) _).alloc (by simp) _).trans hB)
 obtain ⟨cn,fn⟩:=Rn w1 _ _ _ hbn
 obtain ⟨ce,fe⟩:=Rn w1 _ _ _ hbe
 clear hb1 hB hbn hbe
 go_wp2_with fail
 refine leaves_cons (f:=149) (args:=#[.pointer (some ⟨w.heap.size,0,none⟩),.pointer (some ⟨w.heap.size+1,0,none⟩)]) (by simp) (by simp [go_sem]) ?_
 refine (catch_panicking w.heap.size (w.heap.size+1) 0 0 _ w1 cn ce fn fe (by omega)).mono ?_
 rintro e u' w'' ⟨rfl,rfl,rfl⟩
 have hne:¬ w.heap.size+1=w.heap.size:=by omega
 have hn0:((w1.setCell ⟨w.heap.size,0,none⟩ (.int .i64 0)).setCell ⟨w.heap.size+1,0,none⟩ (.int .i64 14)).drew.cell? ⟨w.heap.size,0,none⟩=some (.int .i64 0):=by
  rw [World.cell?_drew,World.cell?_setCell_other _ _ _ _ (by simp),World.cell?_setCell_same _ _ _ cn]
 have hn1:((w1.setCell ⟨w.heap.size,0,none⟩ (.int .i64 0)).setCell ⟨w.heap.size+1,0,none⟩ (.int .i64 14)).drew.cell? ⟨w.heap.size+1,0,none⟩=some (.int .i64 14):=by
  rw [World.cell?_drew]
  exact World.cell?_setCell_same _ _ _ ((World.cell?_setCell_other _ _ _ _ (by simp)).trans ce)
 have HBf:=((HB.out.setCell (p:=⟨w.heap.size,0,none⟩) (Nat.le_refl _) (.int .i64 0)).setCell (p:=⟨w.heap.size+1,0,none⟩) (by simp) (.int .i64 14)).drew
 generalize ((w1.setCell ⟨w.heap.size,0,none⟩ (.int .i64 0)).setCell ⟨w.heap.size+1,0,none⟩ (.int .i64 14)).drew=w9 at *
 simp [Leaves,settle,results,Tryz.results139,go_sem,hn0,hn1]
 exact HBf
set_option maxHeartbeats 1000000 in
theorem Arp (s:Ah) (w:World) (u:Nat) (hs:s.size<=1000000) (hn:La (bs s)=some u) (hu:EW (bs s)=true\/u<=9223372036854775807) :
  Calls Tryz.prog 139 #[.string s,.bool false] w λe w'=>e=.returned (.tuple #[.int .i64 (sint u),.int .i64 0])/\Below w.heap.size w w':=by
 have hsz:=λw=>size_any s w hs
 have YW:=Btn hn
 rw [hn] at hsz
 obtain ⟨X,hX⟩:∃ X,sint u=X:=⟨_,rfl⟩
 rw [hX]
 have hcv:∀ w,(convert 196 3 (.int .u64 u)).run Tryz.prog w=.ok (.int .i64 X) w:=λw=>by
  rw [<- hX,<- Btm u YW];simp [go_sem,IntKind.wrap_i64,wrap64]
 have HH:Hid (EW (bs s)=true\/u<=9223372036854775807):=hu
 have HS:=Lib.hid hsz
 clear hsz hu hn
 generalize EW (bs s)=hx at *
 have By5:=Lib.hid YW
 clear YW hX
 have hmf:∀ (fn:Fn) (first cap:Array Value) (w:World),(Instr.makeFunc fn first cap).run Tryz.prog w=.ok (.func fn first cap) w:=λ_ _ _ _=>rfl
 go_enter_defers Tryz.func139,Tryz.ntmps139
 go_wp2_with fail
 refine (HS.out _).mono ?_
 rintro e w1 ⟨he,hb1⟩
 simp only [] at he
 subst he
 have hbn:=Ln hb1 (by simp;omega) (M5 (Lo w (.cells #[.int .i64 0] 3)))
 have hbe:=Ln hb1 (by simp) (Lo (w.alloc (.cells #[.int .i64 0] 3)) (.cells #[.int .i64 0] 26))
 simp only [World.size_alloc] at hbe
 have hB:=hb1.mono (B':=w.heap.size) (by simp;omega)
 have HB:=Lib.hid ((((Below.refl w.heap.size w).alloc (Nat.le_refl _) _).alloc (by simp) _).trans hB)
 obtain ⟨cn,fn⟩:=Rn w1 _ _ _ hbn
 obtain ⟨ce,fe⟩:=Rn w1 _ _ _ hbe
 clear hb1 hB hbn hbe
 have Aew:Hid (hx=true\/(hx=false/\¬ (9223372036854775807:Int) < u)):=by
  unfold Hid at *
  cases hx
  ·exact .inr ⟨rfl,by have:=HH;simp at this;omega⟩
  ·exact .inl rfl
 rcases Aew.out with rfl | ⟨rfl,huz⟩
 all_goals
  clear Aew HH HS
  go_wp2_with fail
  refine leaves_cons (f:=149) (args:=#[.pointer (some ⟨w.heap.size,0,none⟩),.pointer (some ⟨w.heap.size+1,0,none⟩)]) (by simp) (by simp [go_sem]) ?_
  refine (catch_idle _ _ _).mono ?_
  rintro e u' w'' ⟨rfl,rfl,rfl⟩
  have hn0:(((w1.setCell ⟨w.heap.size,0,none⟩ (.int .i64 X)).setCell ⟨w.heap.size,0,none⟩ (.int .i64 X)).setCell ⟨w.heap.size+1,0,none⟩ (.int .i64 0)).cell? ⟨w.heap.size,0,none⟩=some (.int .i64 X):=by
   rw [World.cell?_setCell_other _ _ _ _ (by simp)]
   exact World.cell?_setCell_same _ _ _ (World.cell?_setCell_same _ _ _ cn)
  have hn1:(((w1.setCell ⟨w.heap.size,0,none⟩ (.int .i64 X)).setCell ⟨w.heap.size,0,none⟩ (.int .i64 X)).setCell ⟨w.heap.size+1,0,none⟩ (.int .i64 0)).cell? ⟨w.heap.size+1,0,none⟩=some (.int .i64 0) :=
   World.cell?_setCell_same _ _ _ ((World.cell?_setCell_other _ _ _ _ (by simp)).trans ((World.cell?_setCell_other _ _ _ _ (by simp)).trans ce))
  have HBf:=((HB.out.setCell (p:=⟨w.heap.size,0,none⟩) (Nat.le_refl _) (.int .i64 X)).setCell (p:=⟨w.heap.size,0,none⟩) (Nat.le_refl _) (.int .i64 X)).setCell (p:=⟨w.heap.size+1,0,none⟩) (by simp) (.int .i64 0)
  generalize ((w1.setCell ⟨w.heap.size,0,none⟩ (.int .i64 X)).setCell ⟨w.heap.size,0,none⟩ (.int .i64 X)).setCell ⟨w.heap.size+1,0,none⟩ (.int .i64 0)=w9 at *
  simp [Leaves,settle,results,Tryz.results139,go_sem,hn0,hn1]
  exact HBf
theorem Br4 (s:Ah) (w:World) (hs:s.size<=1000000) :
  Calls Tryz.prog 139 #[.string s,.bool false] w λe w'=>e=.returned (.tuple #[.int .i64 (F6 (bs s)).1,.int .i64 (F6 (bs s)).2])/\Below w.heap.size w w':=by
 rw [Bp6];cases hn:La (bs s) with
 | none=>exact Br6 s false w hs hn
 | some u =>
  simp only [];by_cases hx:EW (bs s)=true;rw [hx];exact Arp s w u hs hn (.inl hx);have hx':EW (bs s)=false:=Bool.eq_false_iff.2 hx;rw [hx'];by_cases hu:9223372036854775807 < u;simp only [Bool.not_false,Bool.true_and,decide_eq_true (show u > 9223372036854775807 from hu),if_true];exact Br5 s w u hs hn hx' hu;simp only [Bool.not_false,Bool.true_and,decide_eq_false (show ¬ u > 9223372036854775807 from hu),Bool.false_eq_true,if_false];exact Arp s w u hs hn (.inr (by omega))
theorem parse_any (s:Ah) (w:World) (hs:s.size<=1000000) :
  Calls Tryz.prog 119 #[.string s] w λe w'=>e=.returned (.tuple #[.int .i64 (F6 (bs s)).1,.int .i64 (F6 (bs s)).2])/\Below w.heap.size w w':=by
 have hr:=λw=>Br4 s w hs
 generalize F6 (bs s)=R at *
 have HR:=Lib.hid hr
 clear hr
 go_enter Tryz.func119,Tryz.ntmps119
 go_wp2_with fail
 refine (HR.out _).mono ?_
 rintro e w' ⟨rfl,hb⟩
 go_wp2_with fail
 go_ret2
 exact ⟨rfl,hb⟩
theorem sizeBuilder:(Tryz.prog.info? 155).map (·.size)=some 2:=by kernel_rfl
theorem liesBuilder:liesAt Tryz.prog Tryz.prog.depth 155 (2 / Tryz.prog.cellsOf 155) 0 155 1=true:=by kernel_rfl
theorem infoByte:(Tryz.prog.info? 5).map (λi=>(i.zero,i.size,i.bytes))=some (some (.int .u8 0),1,1):=by kernel_rfl
set_option maxHeartbeats 1000000 in
theorem Az7 (b:Nat) (w:World) (h0:w.cell? ⟨b,0,none⟩=some (.pointer (some ⟨b,0,none⟩))) :
  Calls Tryz.prog 145 #[.pointer (some ⟨b,0,none⟩)] w λe w'=>e=.returned (.tuple #[])/\w=w':=by
 obtain ⟨j,hj,_⟩:=Option.map_eq_some_iff.1 sizeBuilder
 go_enter Tryz.func145,Tryz.ntmps145
 go_wp2
 rw [Lib.run_neq_ptr_same w _ Tryz.underlying153 hj]
 go_wp2
 go_end0
 exact ⟨rfl,rfl⟩
set_option maxHeartbeats 1000000 in
theorem Az6 (b:Nat) (w:World) (h0:w.cell? ⟨b,0,none⟩=some (.pointer none)) (hsh:w.shape? b=some (155,2)) (hfz:w.frozen? ⟨b,0,none⟩=false) :
  Calls Tryz.prog 145 #[.pointer (some ⟨b,0,none⟩)] w λe w'=>e=.returned (.tuple #[])/\w.setCell ⟨b,0,none⟩ (.pointer (some ⟨b,0,none⟩))=w':=by
 obtain ⟨j,hj,hjs⟩:=Option.map_eq_some_iff.1 sizeBuilder
 go_enter Tryz.func145,Tryz.ntmps145
 go_wp2
 rw [Lib.run_to_unsafe w ⟨b,0,none⟩ Tryz.underlying153 Tryz.underlying200 hj (by rw [hjs];decide) hsh (Nat.zero_lt_succ 1)]
 simp only [Result.andThen]
 rw [Oper.upon_value]
 go_wp2
 rw [run_callFunc_extern Tryz.func152 (by kernel_rfl) (by kernel_rfl) (by kernel_rfl) (e:=Extern.AbiNoEscape.same) (by kernel_rfl)]
 rw [Lib.run_noEscape]
 simp only [Result.andThen]
 rw [Oper.upon_value]
 go_wp2
 rw [Lib.run_from_unsafe w ⟨b,0,none⟩ Tryz.underlying200 Tryz.underlying153 hj hsh liesBuilder]
 simp only [Result.andThen]
 rw [Oper.upon_value]
 go_wp2
 go_end0
 exact ⟨rfl,rfl⟩
abbrev Bd (B b:Nat) (l:Bs) (w:World):Prop:=Lib.IsBuilder 155 5 B b (Lib.byteCells l) w
theorem Ma (l:Bs):(Lib.byteCells l).length=l.length:=by simp [Lib.byteCells]
def Used (B b:Nat) (l:Bs) (w:World):Prop:=Lib.BuilderAt 155 5 B b (.pointer (some ⟨b,0,none⟩)) (Lib.byteCells l) w
theorem check_any (B b:Nat) (l:Bs) (w:World) (h:Bd B b l w) :
  Calls Tryz.prog 145 #[.pointer (some ⟨b,0,none⟩)] w λe w'=>e=.returned (.tuple #[])/\Used B b l w'/\Below B w w'/\w'.heap.size=w.heap.size:=by
 rcases h with h | h;obtain ⟨hB,v,hb,ho,hne⟩:=h;refine (Az6 b w (by rw [FO hb];rfl) (by simp [World.shape?,hb]) (JP hb 0)).mono ?_;rintro e w' ⟨rfl,rfl⟩;refine ⟨rfl,⟨hB,v,by rw [Qy hb];rfl,⟨ho.1,?_⟩,hne⟩,(Below.refl B w).setCell hB _,by simp⟩;rcases ho.2 with h | ⟨g,cap,cur,hv,hg,hh,r⟩;exact .inl h;refine .inr ⟨g,cap,cur,hv,hg,M6 hh (λe=>?_) _,r⟩;subst hv;exact hne (congrArg some e.symm);have h':=h;obtain ⟨hB,v,hb,ho,hne⟩:=h;refine (Az7 b w (by rw [FO hb];rfl)).mono ?_;rintro e w' ⟨rfl,rfl⟩;exact ⟨rfl,h',Below.refl _ _,rfl⟩
set_option maxHeartbeats 1000000 in
theorem RO (B b:Nat) (l:Bs) (c:UInt8) (w:World) (h:Bd B b l w) (hlen:l.length<=1000000) (hBw:B<=w.heap.size) :
    Calls Tryz.prog 123 #[.pointer (some ⟨b,0,none⟩),.int .u8 c.toNat] w λe w'=>e=.returned .nilIface/\Bd B b (l++[c]) w'/\Below B w w':=by
  have HC:=Lib.hid (check_any B b l w h)
  clear h
  obtain ⟨i0,hi,hz0,hz1,hz2⟩:=info_parts infoByte
  go_enter Tryz.func123,Tryz.ntmps123
  go_wp2_with fail
  refine HC.out.mono ?_
  rintro e w1 ⟨rfl,hu,hb1,hsz⟩
  obtain ⟨hB,v,hblk,hown,hne⟩:=hu
  have hlt:=K9 hblk
  have c1:w1.cell? ⟨b,1,none⟩=some v:=by rw [FO hblk];rfl
  have HB:=Lib.hid hblk
  have HB1:=Lib.hid hb1
  have hB1:B<=w1.heap.size:=by have:=hb1.size;omega
  have HSZ:=Lib.hid hsz
  clear hblk hb1 hsz
  go_wp2_with (
    (at_builtin
     refine wpList_append_own _ rfl _ _ 140 rfl B 5 i0 _ 1 1 Tryz.underlying140 hi hz0 hz1 hz2 rfl (by decide) v _ _ rfl (hown.alloc _) ⟨w1.heap.size,0,none⟩ 1 1 [.int .u8 c.toNat] rfl rfl ?_ ?_ ?_ ?_ ?_ ?_
     · exact Bjn w1 _ _
     · simp [Value.oneCell']
     · rw [Ma];unfold maxLen;omega
     · rw [Ma];omega
     · simp;omega
     intro v2 w2 hown2 OW _
     have HB2:=Lib.hid (Xo OW hne (M5 HB.out))
     rw [Ma] at hown2
     obtain ⟨g2,cap2,hv2,hg2,hne2⟩:=Aae hown2 HB2.out (by decide)
     rw [hv2]
     have d1:w2.cell? ⟨b,1,none⟩=some v:=by rw [FO HB2.out];rfl
     have e1:=JP HB2.out 1
     have HO:=Lib.hid hown2
     have HG:=Lib.hid OW
     have HV:=Lib.hid hv2
     clear hown2 OW hv2 c1))
  go_ret
  have hb2:=((Below.refl B w1).alloc hB1 _).grown HG.out (by simp;omega) (λk hk=>(hown.lt k hk).1)
  refine ⟨rfl,.inr ⟨hB,.slice (some ⟨g2,0,none⟩) (l.length+1) cap2,?_,?_,λh=>hne2 (Ao h)⟩,HB1.out.trans (hb2.setCell hB _)⟩
  · rw [Qy HB2.out 1 _];simp
  · have ho:=HO.out
    rw [HV.out] at ho
    have e:Lib.byteCells (l++[c])=Lib.byteCells l++[.int .u8 c.toNat]:=by simp [Lib.byteCells]
    rw [Ma,BQ,List.length_singleton,e]
    refine ⟨ho.1,?_⟩
    rcases ho.2 with ⟨h,_⟩ | ⟨g,cap,cur,hv,hg,hh,r⟩
    · cases h
    · cases hv
      exact .inr ⟨g2,cap2,cur,rfl,hg,M6 hh (λh=>hne2 h.symm) _,r⟩
set_option maxHeartbeats 1000000 in
theorem Bvd (B b:Nat) (l:Bs) (s:Ah) (w:World) (h:Bd B b l w) (hlen:l.length<=1000000000) (hs:s.size<=1000000000) (hBw:B<=w.heap.size) :
    Calls Tryz.prog 144 #[.pointer (some ⟨b,0,none⟩),.string s] w λe w'=>e=.returned (.tuple #[.int .i64 s.size,.nilIface])/\Bd B b (l++bs s) w'/\Below B w w':=by
  have HC:=Lib.hid (check_any B b l w h)
  clear h
  obtain ⟨i0,hi,hz0,hz1,hz2⟩:=info_parts infoByte
  go_enter Tryz.func144,Tryz.ntmps144
  go_wp2_with fail
  refine HC.out.mono ?_
  rintro e w1 ⟨rfl,hu,hb1,hsz⟩
  obtain ⟨hB,v,hblk,hown,hne⟩:=hu
  have hlt:=K9 hblk
  have c1:w1.cell? ⟨b,1,none⟩=some v:=by rw [FO hblk];rfl
  have HB:=Lib.hid hblk
  have HB1:=Lib.hid hb1
  have hB1:B<=w1.heap.size:=by have:=hb1.size;omega
  have HSZ:=Lib.hid hsz
  clear hblk hb1 hsz
  go_wp2_with (
    (at_builtin
     refine Lib.wpList_append_own_string _ rfl _ _ 140 9 rfl B 5 i0 Tryz.underlying140 Tryz.underlying9 hi hz0 hz1 hz2 _ _ _ rfl hown s rfl ?_ ?_ ?_ ?_
     · rw [Ma];unfold maxLen;omega
     · rw [Ma];omega
     · exact hB1
     intro v2 w2 hown2 OW _
     have HB2:=Lib.hid (Xo OW hne HB.out)
     rw [Ma] at hown2
     obtain ⟨ao,n2,cap2,hv2,hne2⟩:∃ ao n' cap,v2=.slice ao n' cap/\v2.ownBlock≠some b:=by
       rcases hown2.2 with ⟨hv,_⟩ | ⟨g,cap,cur,hv,hg,hh,_⟩
       · exact ⟨_,_,_,hv,by rw [hv];simp [Value.ownBlock]⟩
       · refine ⟨_,_,_,hv,?_⟩
         rw [hv]
         intro h
         have hgb:g=b:=Ao h
         subst hgb
         have:=HB2.out
         rw [hh] at this
         cases this
     rw [hv2]
     have d1:w2.cell? ⟨b,1,none⟩=some v:=by rw [FO HB2.out];rfl
     have e1:=JP HB2.out 1
     have HO:=Lib.hid hown2
     have HG:=Lib.hid OW
     have HV:=Lib.hid hv2
     have HNE:=Lib.hid hne2
     clear hown2 OW hv2 c1 hne2))
  go_ret2
  have hb2:=(Below.refl B w1).grown HG.out hB1 (λk hk=>(hown.lt k hk).1)
  have hne2:=HNE.out
  rw [HV.out] at hne2
  refine ⟨rfl,.inr ⟨hB,.slice ao n2 cap2,?_,?_,hne2⟩,HB1.out.trans (hb2.setCell hB _)⟩
  · rw [Qy HB2.out 1 _];simp
  · have ho:=HO.out
    rw [HV.out] at ho
    have e:Lib.byteCells (l++bs s)=Lib.byteCells l++Lib.strCells s:=by simp [Lib.byteCells,Lib.strCells,bs]
    rw [Ma,BQ,BY,e]
    refine ⟨ho.1,?_⟩
    rcases ho.2 with h | ⟨g,cap,cur,hv,hg,hh,r⟩
    · exact .inl h
    · refine .inr ⟨g,cap,cur,hv,hg,M6 hh (λh=>?_) _,r⟩
      rw [hv] at hne2
      exact hne2 (congrArg some h.symm)
theorem Xn (B b:Nat) (l:Bs) (w:World) (h:Bd B b l w) :
  Calls Tryz.prog 120 #[.pointer (some ⟨b,0,none⟩)] w λe w'=>e=.returned (.int .i64 l.length)/\w=w':=by
 obtain ⟨p,hB,v,hblk,hown,hne⟩:∃ p,B<=b/\∃ v,w.heap[b]? = some (.cells #[p,v] 155)/\w.ownsRow B 5 1 v (Lib.byteCells l).length (Lib.byteCells l)/\v.ownBlock≠some b:=by
  rcases h with ⟨h1,v,h2⟩ | ⟨h1,v,h2⟩
  ·exact ⟨_,h1,v,h2⟩
  ·exact ⟨_,h1,v,h2⟩
 obtain ⟨ao,cap,hv⟩:∃ ao cap,v=.slice ao l.length cap:=by
  rcases hown.2 with ⟨hv,h0⟩ | ⟨g,cap,cur,hv,_⟩
  ·rw [Ma] at h0;rw [h0];exact ⟨_,_,hv⟩
  ·rw [Ma] at hv;exact ⟨_,_,hv⟩
 have c1:w.cell? ⟨b,1,none⟩=some (.slice ao l.length cap):=by rw [FO hblk,<- hv];rfl
 clear hblk hown hne hv h
 go_enter Tryz.func120,Tryz.ntmps120
 go_wp2
 go_ret
 exact ⟨rfl,rfl⟩
theorem TO (s:Ah) (p:Bs) (w:World):Calls Tryz.prog 78 #[.string s,.string (str p)] w λe w'=>e=.returned (.bool (p.isPrefixOf (bs s)))/\w=w' :=
 (Tryz.strings_HasPrefix s (str p) w).mono λ_ _ ⟨h1,h2⟩=>⟨by rw [h1];simp [str,bs,Lib.hasPrefix],h2.symm⟩
def Qq (r:Qp) (at_ i C bb:Nat) (acc:Bs) (w:World) (e:Ending) (w':World):Prop :=
 match r with
 | .ended=>e=JU 4 at_/\Below C w w'
 | .FL=>e=JU 4 i/\Below C w w'
 | .ok b n=>e=.returned (.int .i64 (i+n:Nat))/\Bd C bb (acc++b) w'/\Below C w w'
theorem UM (R:Ah) (c:UInt8) (t:Bs) (h:bs R=c :: t):∃ h0:0 < R.size,R[0]'h0=c:=by
 have h0:0 < R.size:=by rw [<- BY,h];simp
 refine ⟨h0,?_⟩;have:=drop_at R 0 h0;rw [List.drop_zero,h] at this;exact (List.cons.inj this).1.symm
theorem Tx (R:Ah) (c:UInt8) (t:Bs) (h:bs R=c :: t):R.toList.isEmpty=false:=by
 rw [Lib.toList_data];show (bs R).isEmpty=false;rw [h];rfl
section
variable (sb at_ i C bb:Nat) (src:Ah) (acc:Bs) (w:World)
set_option maxHeartbeats 1000000 in
theorem A2s (hb:sb < w.heap.size) (c0:w.cell? ⟨sb,0,none⟩=some (.string src)) (c1:w.cell? ⟨sb,1,none⟩=some (.int .i64 at_)) (hi:i+1=src.size) (hs:src.size<=1000000) :
  Calls Tryz.prog 122 #[.pointer (some ⟨sb,0,none⟩),.pointer (some ⟨bb,0,none⟩),.int .i64 i] w (Qq .ended at_ i C bb acc w):=by
 have h1:(i:Int)+1<=src.size:=by omega
 have h2:((i:Int)+1).toNat=i+1:=by omega
 have he:(src.extract (i+1) src.size).toList.isEmpty=true:=by
  rw [Lib.toList_data];show (bs _).isEmpty=true;rw [Hw,List.drop_of_length_le (by rw [BY];omega)];rfl
 clear hi
 go_enter Tryz.func122,Tryz.ntmps122
 go_wp2_with fail
 refine (NF _ _ _).mono ?_
 rintro e w' ⟨rfl,rfl⟩
 go_wp2_with fail
 exact ⟨rfl,rfl,by first | exact Below.refl _ _ | exact (Below.refl _ _).drew⟩
set_option maxHeartbeats 1000000 in
theorem A2t (c:UInt8) (t:Bs) (hb:sb < w.heap.size) (c0:w.cell? ⟨sb,0,none⟩=some (.string src)) (hi:i+1<=src.size) (hs:src.size<=1000000)
  (hl:(bs src).drop (i+1)=c :: t) (hp:FR c≠0) (hB:Bd C bb acc w) (hacc:acc.length<=1000000) (hC:C<=w.heap.size) :
  Calls Tryz.prog 122 #[.pointer (some ⟨sb,0,none⟩),.pointer (some ⟨bb,0,none⟩),.int .i64 i] w (Qq (.ok [FR c] 2) at_ i C bb acc w):=by
 have h1:(i:Int)+1<=src.size:=by omega
 have h2:((i:Int)+1).toNat=i+1:=by omega
 have h3:(i:Int)<=1000000:=by omega
 have hR:=Hw src (i+1)
 rw [hl] at hR
 have HR0:=Lib.hid (UM _ c t hR)
 have he:=Tx _ c t hR
 have h0:=HR0.out.1
 have hc0:=HR0.out.2
 have hpi:((FR c).toNat:Int)≠0:=λh=>hp (by apply UInt8.toNat_inj.1;rw [show (0:UInt8).toNat=0 from rfl];omega)
 have hpn:(((FR c).toNat:Int) != 0)=true:=by rw [bne_iff_ne];exact hpi
 have hq:0 < src.size - (i+1):=by have:=congrArg List.length hl;rw [BU,BY] at this;simp at this;omega
 have HP:=Lib.hid (Aar c)
 have HW:=Lib.hid (RO C bb acc (FR c) w hB hacc hC)
 clear hl hR hp hpi hB
 go_enter Tryz.func122,Tryz.ntmps122
 go_wp2_with fail
 refine (HP.out _).mono ?_
 rintro e w' ⟨rfl,rfl⟩
 go_wp2_with fail
 refine (HP.out _).mono ?_
 rintro e w' ⟨rfl,rfl⟩
 go_wp2_with fail
 refine HW.out.mono ?_
 rintro e w' ⟨rfl,hb',hbel⟩
 go_wp2_with fail
 go_ret
 exact ⟨Mq (by omega),hb',hbel⟩
theorem Buh (s:Ah) (c:UInt8) (t:Bs) (h:bs s=c :: t):bs (s.extract 1 s.size)=t:=by
 rw [Hw,h];rfl
theorem Aas (c:UInt8) (h:FR c=0) (w:World):Calls Tryz.prog 140 #[.int .u8 c.toNat] w λe w'=>e=.returned (.int .u8 0)/\w=w':=by
 have:=Aar c w;rw [h] at this;exact this
theorem UU (n:Nat) (h:n < 4294967296) (w:World):(convert 3 5 (.int .i64 n)).run Tryz.prog w=.ok (.int .u8 (UInt8.ofNat n).toNat) w:=by
 have e:IntKind.u8.wrap (n:Int)=((UInt8.ofNat n).toNat:Int):=by unfold IntKind.wrap;simp [IntKind.bits,IntKind.signed]
 rw [<- e]
 simp [go_sem]
set_option maxHeartbeats 1000000 in
theorem A2v (t:Bs) (hb:sb < w.heap.size) (c0:w.cell? ⟨sb,0,none⟩=some (.string src)) (hi:i+1<=src.size) (hs:src.size<=1000000)
  (hl:(bs src).drop (i+1)=120 :: t) (hB:Bd C bb acc w) (hacc:acc.length<=1000000) (hC:C<=w.heap.size) :
  Calls Tryz.prog 122 #[.pointer (some ⟨sb,0,none⟩),.pointer (some ⟨bb,0,none⟩),.int .i64 i] w
   (Qq (if (BZ 2 t 0 0).2 < 2 then .FL else .ok [UInt8.ofNat (BZ 2 t 0 0).1] 4) at_ i C bb acc w):=by
 obtain ⟨c,hcc⟩:∃ c:UInt8,c=120:=⟨_,rfl⟩
 rw [<- hcc] at hl
 have h1:(i:Int)+1<=src.size:=by omega
 have h2:((i:Int)+1).toNat=i+1:=by omega
 have h3:(i:Int)<=1000000:=by omega
 have hR:=Hw src (i+1)
 rw [hl] at hR
 have HR0:=Lib.hid (UM _ c t hR)
 have he:=Tx _ c t hR
 have h0:=HR0.out.1
 have hc0:=HR0.out.2
 have hq:0 < src.size - (i+1):=by have:=congrArg List.length hl;rw [BU,BY] at this;simp at this;omega
 have HP:=Lib.hid (λw=>Aar c w)
 clear HP
 have HP:=Lib.hid (λw=>Aas c (by rw [hcc];rfl) w)
 have hcz:c.toNat=120:=by rw [hcc];rfl
 rw [hcz] at HP
 have hc1:((src.extract (i+1) src.size)[0]'h0).toNat=120:=by rw [hc0,hcz]
 clear hc0
 have hts:(src.extract (i+1) src.size).size=src.size - (i+1):=by rw [<- BY,Hw,BU,BY]
 have HH:=Lib.hid (λw=>Aj4 ((src.extract (i+1) src.size).extract 1 (src.extract (i+1) src.size).size) 2 w (by omega) (by rw [<- BY,Hw,BU,BY,hts];omega))
 rw [Buh _ c t hR,hts] at HH
 have hle:=OV 2 t 0 0 (by omega)
 have hpw:=Aau (show (BZ 2 t 0 0).2<=8 by omega)
 have hn1:(BZ 2 t 0 0).1 < 4294967296:=by omega
 clear hle hpw
 generalize BZ 2 t 0 0=Af at *
 obtain ⟨Ag,K⟩:=Af
 clear hl hR hcc hts
 have hcv:=λw=>UU Ag hn1 w
 have HW:=Lib.hid (RO C bb acc (UInt8.ofNat Ag) w hB hacc hC)
 clear hB hn1
 generalize UInt8.ofNat Ag=U at *
 by_cases hK:K < 2
 ·have hkz:(K:Int) < 2:=by omega
  simp only [hK,if_true]
  clear hK
  go_enter Tryz.func122,Tryz.ntmps122
  go_wp2_with fail
  refine (HP.out _).mono ?_
  rintro e w' ⟨rfl,rfl⟩
  go_wp2_with fail
  refine (HH.out _).mono ?_
  rintro e w' ⟨rfl,rfl⟩
  go_wp2_with fail
  refine (Mw _ _ _).mono ?_
  rintro e w' ⟨rfl,rfl⟩
  go_wp2_with fail
  exact ⟨rfl,rfl,by first | exact Below.refl _ _ | exact (Below.refl _ _).drew⟩
 ·have hkz:¬ (K:Int) < 2:=by omega
  simp only [hK,if_false]
  clear hK
  go_enter Tryz.func122,Tryz.ntmps122
  go_wp2_with fail
  refine (HP.out _).mono ?_
  rintro e w' ⟨rfl,rfl⟩
  go_wp2_with fail
  refine (HH.out _).mono ?_
  rintro e w' ⟨rfl,rfl⟩
  go_wp2_with fail
  refine HW.out.mono ?_
  rintro e w' ⟨rfl,hb',hbel⟩
  go_wp2_with fail
  go_ret
  exact ⟨Mq (by omega),hb',hbel⟩
end
theorem A83 (l:Bs) (c:UInt8):[c].isPrefixOf l=decide (l.head? = some c):=by
 cases l with
 | nil=>simp
 | cons b t =>
  show (c == b && ([]:Bs).isPrefixOf t)=decide (some b=some c);have:([]:Bs).isPrefixOf t=true:=by cases t <;> rfl
  rw [this,Bool.and_true];by_cases h:b=c;subst h;simp;simp [h];exact λe=>h e.symm
theorem X0 (r:Int):(Utf8.encode r).size<=4:=by
 unfold Utf8.encode;simp only [];generalize (if Utf8.valid r then r.toNat else Utf8.runeError)=c;by_cases h1:c < 128;rw [if_pos h1];show 1<=4;omega;rw [if_neg h1];by_cases h2:c < 2048;rw [if_pos h2];show 2<=4;omega;rw [if_neg h2];by_cases h3:c < 65536;rw [if_pos h3];show 3<=4;omega;rw [if_neg h3];show 4<=4;omega
section
variable (sb at_ i C bb:Nat) (src:Ah) (acc:Bs) (w:World)
set_option maxHeartbeats 1000000 in
theorem A2u (t:Bs) (hb:sb < w.heap.size) (c0:w.cell? ⟨sb,0,none⟩=some (.string src)) (hi:i+1<=src.size) (hs:src.size<=1000000)
  (hl:(bs src).drop (i+1)=117 :: 123 :: t) (hB:Bd C bb acc w) (hacc:acc.length<=1000000) (hC:C<=w.heap.size) :
  Calls Tryz.prog 122 #[.pointer (some ⟨sb,0,none⟩),.pointer (some ⟨bb,0,none⟩),.int .i64 i] w
   (Qq (if (BZ 8 t 0 0).2=0\/Utf8.valid (BZ 8 t 0 0).1=false\/(t.drop (BZ 8 t 0 0).2).head?≠some 125 then .FL
    else .ok (bs (Utf8.encode (BZ 8 t 0 0).1)) (4+(BZ 8 t 0 0).2)) at_ i C bb acc w):=by
 have h1:(i:Int)+1<=src.size:=by omega
 have h2:((i:Int)+1).toNat=i+1:=by omega
 have h3:(i:Int)<=1000000:=by omega
 have hR:=Hw src (i+1)
 rw [hl] at hR
 have HR0:=Lib.hid (UM _ _ _ hR)
 have he:=Tx _ _ _ hR
 have h0:=HR0.out.1
 have hc0:=HR0.out.2
 have hlen:=congrArg List.length hl
 rw [BU,BY] at hlen
 simp only [AW] at hlen
 have hq:0 < src.size - (i+1):=by omega
 have hq2:2<=src.size - (i+1):=by omega
 have HP:=Lib.hid (λw=>Aas 117 (by rfl) w)
 have hc1:((src.extract (i+1) src.size)[0]'h0).toNat=117:=by rw [hc0];rfl
 clear hc0
 have hts:(src.extract (i+1) src.size).size=src.size - (i+1):=by rw [<- BY,Hw,BU,BY]
 have hb2:bs ((src.extract (i+1) src.size).extract 2 (src.size - (i+1)))=t:=by
  rw [<- hts,Hw,hR];rfl
 have HPU:=Lib.hid (λw=>TO (src.extract (i+1) src.size) [117,123] w)
 rw [hR,show ([117,123]:Bs).isPrefixOf (117 :: 123 :: t)=true by simp] at HPU
 have HH:=Lib.hid (λw=>Aj4 ((src.extract (i+1) src.size).extract 2 (src.size - (i+1))) 8 w (by omega) (by rw [<- BY,hb2];omega))
 rw [hb2] at HH
 have hle:=OV 8 t 0 0 (by omega)
 have hpw:=Aau (show (BZ 8 t 0 0).2<=8 by omega)
 have hn1:(BZ 8 t 0 0).1<=4294967296:=by omega
 have hk1:(BZ 8 t 0 0).2<=t.length:=by omega
 have hk8:(BZ 8 t 0 0).2<=8:=by omega
 have hb3:bs ((src.extract (i+1) src.size).extract (2+(BZ 8 t 0 0).2) (src.size - (i+1)))=t.drop (BZ 8 t 0 0).2:=by
  rw [<- hts,Hw,hR,Nat.add_comm 2];rfl
 have HPB:=Lib.hid (λw=>TO ((src.extract (i+1) src.size).extract (2+(BZ 8 t 0 0).2) (src.size - (i+1))) [125] w)
 rw [hb3,A83] at HPB
 clear hle hpw hb3 hb2
 generalize BZ 8 t 0 0=Af at *
 obtain ⟨Ag,K⟩:=Af
 simp only at hn1 hk1 hk8 HPB HH ⊢
 have HE:=Lib.hid (λw=>A1w Ag w (by omega) (by omega))
 have HW:=Lib.hid (λw hB' hC'=>Bvd C bb acc (Utf8.encode Ag) w hB' (by omega) (by have:=X0 Ag;omega) hC')
 have HBD:=Lib.hid hB
 have Akb:(K:Int)+2<=((src.size - (i+1):Nat):Int):=by omega
 have Byw:(K:Int)<=8:=by omega
 clear hl hR hlen hB hk1 hts
 by_cases hK:K=0
 ·have hK':((K:Int) == 0)=true:=by rw [beq_iff_eq];omega
  rw [if_pos (.inl hK)]
  clear hK
  obtain ⟨T,E,HE⟩:∃ T E,Hid (∀ w,Calls Tryz.prog 143 #[.int .i64 Ag] w λe w'=>e=.returned (.tuple #[.string T,.int .i64 E])/\w=w'):=⟨_,_,HE⟩
  go_enter Tryz.func122,Tryz.ntmps122
  go_wp2_with fail
  refine (HP.out _).mono ?_
  rintro e w' ⟨rfl,rfl⟩
  go_wp2_with fail
  refine (HPU.out _).mono ?_
  rintro e w' ⟨rfl,rfl⟩
  go_wp2_with fail
  refine (HH.out _).mono ?_
  rintro e w' ⟨rfl,rfl⟩
  go_wp2_with fail
  refine (HE.out _).mono ?_
  rintro e w' ⟨rfl,rfl⟩
  go_wp2_with fail
  refine (Mw _ _ _).mono ?_
  rintro e w' ⟨rfl,rfl⟩
  go_wp2_with fail
  exact ⟨rfl,rfl,by first | exact Below.refl _ _ | exact (Below.refl _ _).drew⟩
 ·have hK':((K:Int) == 0)=false:=by rw [beq_eq_false_iff_ne];omega
  cases hv:Utf8.valid (Ag:Int) with
  | false =>
   rw [if_pos (.inr (.inl rfl))]
   rw [hv] at HE
   simp only [Bool.false_eq_true,if_false] at HE
   clear hv
   go_enter Tryz.func122,Tryz.ntmps122
   go_wp2_with fail
   refine (HP.out _).mono ?_
   rintro e w' ⟨rfl,rfl⟩
   go_wp2_with fail
   refine (HPU.out _).mono ?_
   rintro e w' ⟨rfl,rfl⟩
   go_wp2_with fail
   refine (HH.out _).mono ?_
   rintro e w' ⟨rfl,rfl⟩
   go_wp2_with fail
   refine (HE.out _).mono ?_
   rintro e w' ⟨rfl,rfl⟩
   go_wp2_with fail
   refine (Mw _ _ _).mono ?_
   rintro e w' ⟨rfl,rfl⟩
   go_wp2_with fail
   exact ⟨rfl,rfl,by first | exact Below.refl _ _ | exact (Below.refl _ _).drew⟩
  | true =>
   rw [hv] at HE
   simp only [if_true] at HE
   clear hv
   by_cases hd:(t.drop K).head? = some 125
   ·rw [decide_eq_true hd] at HPB
    rw [if_neg (by rintro (h | h | h);exact hK h;cases h;exact h hd)]
    clear hd
    go_enter Tryz.func122,Tryz.ntmps122
    go_wp2_with fail
    refine (HP.out _).mono ?_
    rintro e w' ⟨rfl,rfl⟩
    go_wp2_with fail
    refine (HPU.out _).mono ?_
    rintro e w' ⟨rfl,rfl⟩
    go_wp2_with fail
    refine (HH.out _).mono ?_
    rintro e w' ⟨rfl,rfl⟩
    go_wp2_with fail
    refine (HE.out _).mono ?_
    rintro e w' ⟨rfl,rfl⟩
    go_wp2_with fail
    refine (HPB.out _).mono ?_
    rintro e w' ⟨rfl,rfl⟩
    go_wp2_with fail
    refine (HW.out _ HBD.out hC).mono ?_
    rintro e w' ⟨rfl,hb',hbel⟩
    go_wp2_with fail
    go_ret
    exact ⟨Mq (by omega),hb',hbel⟩
   ·rw [decide_eq_false hd] at HPB
    rw [if_pos (.inr (.inr hd))]
    clear hd
    go_enter Tryz.func122,Tryz.ntmps122
    go_wp2_with fail
    refine (HP.out _).mono ?_
    rintro e w' ⟨rfl,rfl⟩
    go_wp2_with fail
    refine (HPU.out _).mono ?_
    rintro e w' ⟨rfl,rfl⟩
    go_wp2_with fail
    refine (HH.out _).mono ?_
    rintro e w' ⟨rfl,rfl⟩
    go_wp2_with fail
    refine (HE.out _).mono ?_
    rintro e w' ⟨rfl,rfl⟩
    go_wp2_with fail
    refine (HPB.out _).mono ?_
    rintro e w' ⟨rfl,rfl⟩
    go_wp2_with fail
    refine (Mw _ _ _).mono ?_
    rintro e w' ⟨rfl,rfl⟩
    go_wp2_with fail
    exact ⟨rfl,rfl,by first | exact Below.refl _ _ | exact (Below.refl _ _).drew⟩
end
theorem UZ (m:Nat) (b:UInt8) (t:Bs) (n k:Nat):DI (m+1) (b :: t) n k=if 48<=b.toNat/\b.toNat<=57 then DI m t (10 * n+(b.toNat - 48)) (k+1) else (n,k):=rfl
def Mb (r:Nat×Nat):Qp:=if r.2=0\/r.1 > 255 then .FL else .ok [UInt8.ofNat r.1] (1+r.2)
section
variable (sb at_ i C bb:Nat) (src:Ah) (acc:Bs) (w:World)
set_option maxHeartbeats 4000000 in
theorem A2r (c:UInt8) (t:Bs) (hb:sb < w.heap.size) (c0:w.cell? ⟨sb,0,none⟩=some (.string src)) (hi:i+1<=src.size) (hs:src.size<=1000000)
  (hl:(bs src).drop (i+1)=c :: t) (hp0:FR c=0) (hx:c≠120) (hu:¬ (c=117/\t.head? = some 123)) (hB:Bd C bb acc w) (hacc:acc.length<=1000000) (hC:C<=w.heap.size) :
  Calls Tryz.prog 122 #[.pointer (some ⟨sb,0,none⟩),.pointer (some ⟨bb,0,none⟩),.int .i64 i] w
   (Qq (Mb (DI 3 (c :: t) 0 0)) at_ i C bb acc w):=by
 have h1:(i:Int)+1<=src.size:=by omega
 have h2:((i:Int)+1).toNat=i+1:=by omega
 have h3:(i:Int)<=1000000:=by omega
 have hR:=Hw src (i+1)
 rw [hl] at hR
 have HR0:=Lib.hid (UM _ _ _ hR)
 have he:=Tx _ _ _ hR
 have h0:=HR0.out.1
 have hc0:=HR0.out.2
 have hlen:=congrArg List.length hl
 rw [BU,BY] at hlen
 simp only [AW] at hlen
 have hq:0 < src.size - (i+1):=by omega
 have HP:=Lib.hid (λw=>Aas c hp0 w)
 have hx1:((c.toNat:Int) == 120)=false:=by
  rw [beq_eq_false_iff_ne];intro h;exact hx (by apply UInt8.toNat_inj.1;rw [show (120:UInt8).toNat=120 from rfl];omega)
 have HPU:=Lib.hid (λw=>TO (src.extract (i+1) src.size) [117,123] w)
 have hpf:([117,123]:Bs).isPrefixOf (c :: t)=false:=by
  rw [Bool.eq_false_iff]
  intro h
  rw [List.isPrefixOf_iff_prefix] at h
  obtain ⟨r,hr⟩:=h
  simp only [List.cons_append,List.nil_append,List.cons.injEq] at hr
  exact hu ⟨hr.1.symm,by rw [<- hr.2];rfl⟩
 rw [hR,hpf] at HPU
 have hts:(src.extract (i+1) src.size).size=src.size - (i+1):=by rw [<- BY,Hw,BU,BY]
 obtain ⟨R9,hR9⟩:∃ R9,DI 3 (c :: t) 0 0=R9:=⟨_,rfl⟩
 rw [hR9]
 have HR9:=Lib.hid hR9
 have HRR:=Lib.hid hR
 have HBD:=Lib.hid hB
 have HTS:=Lib.hid hts
 clear hl hR hlen hB hR9 hpf hp0 hx hts hu
 go_enter Tryz.func122,Tryz.ntmps122
 go_wp2_with fail
 refine (HP.out _).mono ?_
 rintro e w' ⟨rfl,rfl⟩
 go_wp2_with fail
 refine (HPU.out _).mono ?_
 rintro e w' ⟨rfl,rfl⟩
 go_wp2_with fail
 have HSB:=Lib.hid (show (src.extract (i+1) src.size).size<=1000000 by rw [HTS.out];omega)
 clear he h0 hc0 hq hx1 HR0 HP HPU HTS h1 h2 c0 hb
 generalize src.extract (i+1) src.size=R at *
 have hsb:=HSB.out
 go_loop [14,15] (λn k=>∃ Ag K:Nat,K<=3/\K<=R.size/\Ag < 10 ^ K/\n=.int .i64 Ag/\k=.int .i64 K/\Hid (DI (3 - K) ((bs R).drop K) Ag K=R9)) (λ_ k=>3 - (intOf k).toNat)
 case atStart=>exact ⟨0,0,by omega,by omega,by simp,rfl,rfl,by unfold Hid;rw [HRR.out];exact HR9.out⟩
 case round =>
  obtain ⟨Ag,K,hK,hKs,hN,rfl,rfl,hG⟩:=hrel
  have hN2:Ag < 1000:=by have:=Nat.pow_le_pow_right (n:=10) (by omega) hK;omega
  have HN:=Lib.hid hN
  clear hN
  by_cases hlt:K < 3
  ·by_cases hls:K < R.size
   ·have hdg:=λw=>W5.2 (R[K]).toNat w (by have:=(R[K]).toNat_lt;omega)
    obtain ⟨Ae,hD⟩:∃ Ae,GF (R[K]).toNat=Ae:=⟨_,rfl⟩
    rw [hD] at hdg
    have HDG:=Lib.hid hdg
    have HD:=Lib.hid hD
    clear hdg hD
    have hblt:=(R[K]).toNat_lt
    have hbw:wrap32 ((R[K]).toNat:Int)=(R[K]).toNat:=by unfold wrap32;omega
    have Akb:(K:Int) < 3:=by omega
    have A9l:(K:Int) < R.size:=by omega
    cases Ae with
    | true =>
     have hdig:48<=(R[K]).toNat/\(R[K]).toNat<=57:=by have:=HD.out;simpa [GF] using this
     have hd1:(48:Int)<=(R[K]).toNat:=by omega
     have hd2:((R[K]).toNat:Int)<=57:=by omega
     have hbw2:IntKind.u8.wrap (((R[K]).toNat:Int) - 48)=(R[K]).toNat - 48:=by unfold IntKind.wrap;simp [IntKind.bits,IntKind.signed];omega
     clear hdig
     go_wp2_with fail
     refine (HDG.out _).mono ?_
     rintro e w' ⟨rfl,rfl⟩
     go_wp2_with fail
     go_round
     case rel =>
      have hN':=HN.out
      refine ⟨10 * Ag+((R[K]).toNat - 48),K+1,by omega,by omega,by rw [Nat.pow_succ];omega,?_,by go_num,?_⟩
      ·congr 1;omega
      ·have h:=hG
       unfold Hid at h ⊢
       rw [show 3 - K=(3 - (K+1))+1 by omega,drop_at R K hls,UZ,if_pos ⟨by omega,by omega⟩] at h
       exact h
     case measure=>simp [intOf];omega
    | false =>
     have hdig:¬ (48<=(R[K]).toNat/\(R[K]).toNat<=57):=by have:=HD.out;simpa [GF] using this
     have hres:(Ag,K)=R9:=by
      have h:=hG
      unfold Hid at h
      rw [show 3 - K=(3 - K - 1)+1 by omega,drop_at R K hls,UZ,if_neg hdig] at h
      exact h
     clear hdig hblt
     have hcv:=λw=>UU Ag (by omega) w
     have HW:=Lib.hid (RO C bb acc (UInt8.ofNat Ag) w HBD.out hacc hC)
     by_cases hk0:K=0
     ·have hkz:((K:Int) == 0)=true:=by rw [beq_iff_eq];omega
      have hd:Mb R9=.FL:=by rw [<- hres];exact if_pos (.inl hk0)
      have HDD:=Lib.hid hd
      clear hd hk0 hres
      go_wp2_with fail
      refine (HDG.out _).mono ?_
      rintro e w' ⟨rfl,rfl⟩
      go_wp2_with fail
      skip
      refine (Mw _ _ _).mono ?_
      rintro e w' ⟨rfl,rfl⟩
      go_wp2_with fail
      refine ⟨rfl,?_⟩
      rw [HDD.out]
      exact ⟨rfl,by first | exact Below.refl _ _ | exact (Below.refl _ _).drew⟩
     ·have hkz:((K:Int) == 0)=false:=by rw [beq_eq_false_iff_ne];omega
      by_cases hn5:Ag > 255
      ·have hnz:(255:Int) < Ag:=by omega
       have hd:Mb R9=.FL:=by rw [<- hres];exact if_pos (.inr hn5)
       have HDD:=Lib.hid hd
       clear hd hk0 hres hn5
       go_wp2_with fail
       refine (HDG.out _).mono ?_
       rintro e w' ⟨rfl,rfl⟩
       go_wp2_with fail
       skip
       refine (Mw _ _ _).mono ?_
       rintro e w' ⟨rfl,rfl⟩
       go_wp2_with fail
       refine ⟨rfl,?_⟩
       rw [HDD.out]
       exact ⟨rfl,by first | exact Below.refl _ _ | exact (Below.refl _ _).drew⟩
      ·have hnz:¬ (255:Int) < Ag:=by omega
       have hd:Mb R9=.ok [UInt8.ofNat Ag] (1+K):=by rw [<- hres];exact if_neg (by simp only;omega)
       have HDD:=Lib.hid hd
       clear hd hk0 hres hn5
       generalize UInt8.ofNat Ag=U at *
       go_wp2_with fail
       refine (HDG.out _).mono ?_
       rintro e w' ⟨rfl,rfl⟩
       go_wp2_with fail
       skip
       refine HW.out.mono ?_
       rintro e w' ⟨rfl,hb',hbel⟩
       go_wp2_with fail
       go_ret
       rw [HDD.out]
       exact ⟨Mq (by omega),hb',hbel⟩
   ·have A9l:¬ (K:Int) < R.size:=by omega
    have hres:(Ag,K)=R9:=by
     have h:=hG
     unfold Hid at h
     rw [show 3 - K=(3 - K - 1)+1 by omega,List.drop_of_length_le (by rw [BY];omega)] at h
     exact h
    have hcv:=λw=>UU Ag (by omega) w
    have HW:=Lib.hid (RO C bb acc (UInt8.ofNat Ag) w HBD.out hacc hC)
    by_cases hk0:K=0
    ·have hkz:((K:Int) == 0)=true:=by rw [beq_iff_eq];omega
     have hd:Mb R9=.FL:=by rw [<- hres];exact if_pos (.inl hk0)
     have HDD:=Lib.hid hd
     clear hd hk0 hres
     skip
     go_wp2_with fail
     skip
     refine (Mw _ _ _).mono ?_
     rintro e w' ⟨rfl,rfl⟩
     go_wp2_with fail
     refine ⟨rfl,?_⟩
     rw [HDD.out]
     exact ⟨rfl,by first | exact Below.refl _ _ | exact (Below.refl _ _).drew⟩
    ·have hkz:((K:Int) == 0)=false:=by rw [beq_eq_false_iff_ne];omega
     by_cases hn5:Ag > 255
     ·have hnz:(255:Int) < Ag:=by omega
      have hd:Mb R9=.FL:=by rw [<- hres];exact if_pos (.inr hn5)
      have HDD:=Lib.hid hd
      clear hd hk0 hres hn5
      skip
      go_wp2_with fail
      skip
      refine (Mw _ _ _).mono ?_
      rintro e w' ⟨rfl,rfl⟩
      go_wp2_with fail
      refine ⟨rfl,?_⟩
      rw [HDD.out]
      exact ⟨rfl,by first | exact Below.refl _ _ | exact (Below.refl _ _).drew⟩
     ·have hnz:¬ (255:Int) < Ag:=by omega
      have hd:Mb R9=.ok [UInt8.ofNat Ag] (1+K):=by rw [<- hres];exact if_neg (by simp only;omega)
      have HDD:=Lib.hid hd
      clear hd hk0 hres hn5
      generalize UInt8.ofNat Ag=U at *
      skip
      go_wp2_with fail
      skip
      refine HW.out.mono ?_
      rintro e w' ⟨rfl,hb',hbel⟩
      go_wp2_with fail
      go_ret
      rw [HDD.out]
      exact ⟨Mq (by omega),hb',hbel⟩
  ·have Akb:¬ (K:Int) < 3:=by omega
   have hres:(Ag,K)=R9:=by
    have h:=hG
    unfold Hid at h
    rw [show 3 - K=0 by omega] at h
    exact h
   have hcv:=λw=>UU Ag (by omega) w
   have HW:=Lib.hid (RO C bb acc (UInt8.ofNat Ag) w HBD.out hacc hC)
   by_cases hk0:K=0
   ·have hkz:((K:Int) == 0)=true:=by rw [beq_iff_eq];omega
    have hd:Mb R9=.FL:=by rw [<- hres];exact if_pos (.inl hk0)
    have HDD:=Lib.hid hd
    clear hd hk0 hres
    skip
    go_wp2_with fail
    skip
    refine (Mw _ _ _).mono ?_
    rintro e w' ⟨rfl,rfl⟩
    go_wp2_with fail
    refine ⟨rfl,?_⟩
    rw [HDD.out]
    exact ⟨rfl,by first | exact Below.refl _ _ | exact (Below.refl _ _).drew⟩
   ·have hkz:((K:Int) == 0)=false:=by rw [beq_eq_false_iff_ne];omega
    by_cases hn5:Ag > 255
    ·have hnz:(255:Int) < Ag:=by omega
     have hd:Mb R9=.FL:=by rw [<- hres];exact if_pos (.inr hn5)
     have HDD:=Lib.hid hd
     clear hd hk0 hres hn5
     skip
     go_wp2_with fail
     skip
     refine (Mw _ _ _).mono ?_
     rintro e w' ⟨rfl,rfl⟩
     go_wp2_with fail
     refine ⟨rfl,?_⟩
     rw [HDD.out]
     exact ⟨rfl,by first | exact Below.refl _ _ | exact (Below.refl _ _).drew⟩
    ·have hnz:¬ (255:Int) < Ag:=by omega
     have hd:Mb R9=.ok [UInt8.ofNat Ag] (1+K):=by rw [<- hres];exact if_neg (by simp only;omega)
     have HDD:=Lib.hid hd
     clear hd hk0 hres hn5
     generalize UInt8.ofNat Ag=U at *
     skip
     go_wp2_with fail
     skip
     refine HW.out.mono ?_
     rintro e w' ⟨rfl,hb',hbel⟩
     go_wp2_with fail
     go_ret
     rw [HDD.out]
     exact ⟨Mq (by omega),hb',hbel⟩
theorem Q4 (c:UInt8) (t:Bs):IR (c :: t) =
  if FR c≠0 then .ok [FR c] 2
  else if c=120 then
   if (BZ 2 t 0 0).2 < 2 then .FL else .ok [UInt8.ofNat (BZ 2 t 0 0).1] 4
  else if c=117/\t.head? = some 123 then
   if (BZ 8 t.tail 0 0).2=0\/Utf8.valid (BZ 8 t.tail 0 0).1=false\/(t.tail.drop (BZ 8 t.tail 0 0).2).head?≠some 125 then .FL
   else .ok (bs (Utf8.encode (BZ 8 t.tail 0 0).1)) (4+(BZ 8 t.tail 0 0).2)
  else if (DI 3 (c :: t) 0 0).2=0\/(DI 3 (c :: t) 0 0).1 > 255 then .FL
  else .ok [UInt8.ofNat (DI 3 (c :: t) 0 0).1] (1+(DI 3 (c :: t) 0 0).2):=rfl
theorem A2o (hb:sb < w.heap.size) (c0:w.cell? ⟨sb,0,none⟩=some (.string src)) (c1:w.cell? ⟨sb,1,none⟩=some (.int .i64 at_)) (hi:i+1<=src.size) (hs:src.size<=1000000)
  (hB:Bd C bb acc w) (hacc:acc.length<=1000000) (hC:C<=w.heap.size) :
  Calls Tryz.prog 122 #[.pointer (some ⟨sb,0,none⟩),.pointer (some ⟨bb,0,none⟩),.int .i64 i] w
   (Qq (IR ((bs src).drop (i+1))) at_ i C bb acc w):=by
 cases hl:(bs src).drop (i+1) with
 | nil =>
  have:=congrArg List.length hl;rw [BU,BY] at this;simp at this;exact A2s sb at_ i C bb src acc w hb c0 c1 (by omega) hs
 | cons c t =>
  rw [Q4];by_cases hp:FR c≠0;rw [if_pos hp];exact A2t sb at_ i C bb src acc w c t hb c0 hi hs hl hp hB hacc hC;rw [if_neg hp];have hp0:FR c=0:=Classical.not_not.1 hp;by_cases hx:c=120;rw [if_pos hx];subst hx;exact A2v sb at_ i C bb src acc w t hb c0 hi hs hl hB hacc hC;rw [if_neg hx];by_cases hu:c=117/\t.head? = some 123;rw [if_pos hu];obtain ⟨rfl,ht⟩:=hu;cases t with
  | nil=>cases ht
  | cons d t =>
   simp only [List.head?_cons,Option.some.injEq] at ht;subst ht;exact A2u sb at_ i C bb src acc w t hb c0 hi hs hl hB hacc hC
  rw [if_neg hu];exact A2r sb at_ i C bb src acc w c t hb c0 hi hs hl hp0 hx hu hB hacc hC
end
theorem Xw:∀ (m:Nat) (l:Bs) (n k:Nat),k<=(DI m l n k).2/\(DI m l n k).2<=k+l.length
 | 0,_,_,_=>by simp [DI]
 | _+1,[],_,_=>by simp [DI]
 | m+1,b :: t,n,k=>by
  rw [UZ];split;have:=Xw m t (10 * n+(b.toNat - 48)) (k+1);simp only [AW];omega;simp
theorem X1 {l:Bs} {b:Bs} {n:Nat} (h:IR l=.ok b n):2<=n/\n<=l.length+1/\b.length<=n:=by
 cases l with
 | nil=>cases h
 | cons c t =>
  rw [Q4] at h;simp only [AW];by_cases hp:FR c≠0;rw [if_pos hp] at h;cases h;simp;rw [if_neg hp] at h;by_cases hx:c=120;rw [if_pos hx] at h;by_cases h2:(BZ 2 t 0 0).2 < 2;rw [if_pos h2] at h;cases h;rw [if_neg h2] at h;have:=OV 2 t 0 0 (by omega);cases h;simp;omega;rw [if_neg hx] at h;by_cases hu:c=117/\t.head? = some 123;rw [if_pos hu] at h;by_cases h3:(BZ 8 t.tail 0 0).2=0\/Utf8.valid (BZ 8 t.tail 0 0).1=false\/(t.tail.drop (BZ 8 t.tail 0 0).2).head?≠some 125;rw [if_pos h3] at h;cases h;rw [if_neg h3] at h;have:=OV 8 t.tail 0 0 (by omega);simp only [not_or] at h3;have hd:(t.tail.drop (BZ 8 t.tail 0 0).2).head? = some 125:=Classical.not_not.1 h3.2.2;have hlen:(BZ 8 t.tail 0 0).2 < t.tail.length:=by
   rcases Nat.lt_or_ge (BZ 8 t.tail 0 0).2 t.tail.length with h' | h';exact h';rw [List.drop_of_length_le h'] at hd;cases hd
  rw [List.length_tail] at hlen;have hes:=X0 (BZ 8 t.tail 0 0).1;rw [<- BY] at hes;injection h with h4 h5
  subst h4 h5;omega;rw [if_neg hu] at h;by_cases h3:(DI 3 (c :: t) 0 0).2=0\/(DI 3 (c :: t) 0 0).1 > 255;rw [if_pos h3] at h;cases h;rw [if_neg h3] at h;have:=Xw 3 (c :: t) 0 0;simp only [AW] at this;injection h with h4 h5
  subst h4 h5;simp;omega
theorem Auo (q:UInt8) (f:Nat) (acc:Bs) (i:Nat):Fs q f [] acc i=.bad 4 0:=by cases f <;> rfl
theorem W7 (q:UInt8) (f:Nat) (b:UInt8) (t:Bs) (acc:Bs) (i:Nat):Fs q (f+1) (b :: t) acc i =
  if b=10 then .bad 4 0
  else if b=q then (if acc.length > 10000 then .bad 14 0 else .ok acc (i+1))
  else if b=92 then
   match IR t with
   | .ended=>.bad 4 0
   | .FL=>.bad 4 i
   | .ok e n=>Fs q f ((b :: t).drop n) (acc++e) (i+n)
  else Fs q f t (acc++[b]) (i+1):=rfl
theorem Ay7 (w:World):Bd w.heap.size w.heap.size [] (w.alloc (.cells #[.pointer none,.slice none 0 0] 155)) :=
 .inl ⟨Nat.le_refl _,.slice none 0 0,Lo w _,World.ownsRow_nil _ _ _ _,by simp [Value.ownBlock]⟩
theorem Azv (B b:Nat) (l:Bs) (w:World) (h:Bd B b l w) (hB:B<=w.heap.size) :
  Calls Tryz.prog 121 #[.pointer (some ⟨b,0,none⟩)] w.drew λe w'=>e=.returned (.string (str l))/\Below B w w' :=
 (Tryz.Builder_String_any B b l w.drew h hB).mono λ_ _ ⟨h1,h2⟩=>⟨h1,(Below.refl B w).drew.trans h2⟩
def Afb (r:Xb) (B sb at_:Nat) (src:Ah) (l:List Tok) (w:World) (e:Ending) (w':World):Prop :=
 match r with
 | .bad c rel=>e=JU c (at_+rel:Nat)/\Below B w w'
 | .ok v n=>e=.returned (.tuple #[])/\Sc B sb src (at_+n) (l++[⟨4,v,0,at_⟩]) w'/\Below B w w'
set_option maxHeartbeats 4000000 in
theorem Buj (B sb at_:Nat) (src:Ah) (l:List Tok) (q:UInt8) (t:Bs) (w:World) (h:Sc B sb src at_ l w) (hl:(bs src).drop at_=q :: t) (hs:src.size<=100000) (hll:l.length<=100000) (hBw:B<=w.heap.size) :
  Calls Tryz.prog 84 #[.pointer (some ⟨sb,0,none⟩),.int .u8 q.toNat] w (Afb (Fs q (q :: t).length t [] 1) B sb at_ src l w):=by
 have hlen:=congrArg List.length hl
 rw [BU,BY] at hlen
 simp only [AW] at hlen
 obtain ⟨R9,hR9⟩:∃ R9,Fs q (q :: t).length t [] 1=R9:=⟨_,rfl⟩
 rw [hR9]
 have HR9:=Lib.hid hR9
 have HL:=Lib.hid hl
 obtain ⟨hb,c0,c1⟩:=h.reads
 have HSC:=Lib.hid h
 have hat:at_ < src.size:=by omega
 have HLEN:=Lib.hid hlen
 clear hR9 hl h hlen
 go_enter Tryz.func84,Tryz.ntmps84
 go_wp2_with fail
 have HB0:=Lib.hid ((Below.refl w.heap.size w).alloc (Nat.le_refl _) (.cells #[.pointer none,.slice none 0 0] 155))
 have Aer:=Lib.hid (Ay7 w)
 clear c0 c1 hb
 go_loopw [5] (λI wr=>∃ (i f:Nat) (acc:Bs),at_+1<=i/\i<=src.size/\src.size - i+1<=f/\acc.length<=i/\I=.int .i64 i/\Hid (Fs q f ((bs src).drop i) acc (i - at_)=R9)/\Hid (Bd w.heap.size w.heap.size acc wr)/\Hid (Below w.heap.size w wr)) (λI _=>src.size - (intOf I).toNat)
 case atStart =>
  refine ⟨at_+1,(q :: t).length,[],by omega,by omega,by have:=HLEN.out;simp only [AW];omega,by simp,by go_num,?_,Aer,HB0⟩
  have e:(bs src).drop (at_+1)=t:=by
   have:=congrArg List.tail HL.out
   rw [List.tail_drop] at this
   exact this
  unfold Hid
  rw [e,Nat.add_sub_cancel_left]
  exact HR9.out
 case round =>
  obtain ⟨i,f,acc,hi1,hi2,hf,hacc,rfl,HG,HBD,HBL⟩:=hrel
  have Lj:=Lib.hid (HSC.out.later HBL.out)
  obtain ⟨hb,c0,c1⟩:=Lj.out.reads
  have hB1:w.heap.size<=wr.heap.size:=HBL.out.size
  clear HB0 Aer
  by_cases hend:i < src.size
  ·have hz:(i:Int) < src.size:=by omega
   have hz0:¬ (src.size:Int)<=i:=by omega
   have hiz:(i:Int)<=100000:=by omega
   have hg:=HG.out
   obtain ⟨f,rfl⟩:∃ g,f=g+1:=⟨f - 1,by omega⟩
   rw [drop_at src i hend,W7] at hg
   have HGG:=Lib.hid hg
   clear hg
   by_cases h10:src[i]=10
   ·have hn:((src[i].toNat:Int) == 10)=true:=(OI _ 10).1 h10
    go_wp2_with fail
    refine (NF _ _ _).mono ?_
    rintro e w' ⟨rfl,rfl⟩
    go_wp2_with fail
    refine ⟨rfl,?_⟩
    have hg:=HGG.out
    rw [if_pos h10] at hg
    rw [<- hg]
    exact ⟨rfl,HBL.out.mono hBw⟩
   ·have hn:((src[i].toNat:Int) == 10)=false:=Bool.eq_false_iff.2 λh=>h10 ((OI _ 10).2 h)
    by_cases hq:src[i]=q
    ·have hqn:((src[i].toNat:Int) == (q.toNat:Int))=true:=(OI _ _).1 hq
     have Bbr:(src[i].toNat == q.toNat)=true:=by rw [hq];simp
     have HLN:=Lib.hid (λw h=>Xn w.heap.size w.heap.size acc w h)
     by_cases hbig:acc.length > 10000
     ·have hbz:(10000:Int) < acc.length:=by omega
      have WX:=Lib.hid (Xn w.heap.size w.heap.size acc wr HBD.out)
      go_wp2_with fail
      refine WX.out.mono ?_
      rintro e w' ⟨rfl,rfl⟩
      go_wp2_with fail
      refine (NF _ _ _).mono ?_
      rintro e w' ⟨rfl,rfl⟩
      go_wp2_with fail
      refine ⟨rfl,?_⟩
      have hg:=HGG.out
      rw [if_neg h10,if_pos hq,if_pos hbig] at hg
      rw [<- hg]
      exact ⟨rfl,HBL.out.mono hBw⟩
     ·have hbz:¬ (10000:Int) < acc.length:=by omega
      have WX:=Lib.hid (Xn w.heap.size w.heap.size acc wr HBD.out)
      go_wp2_with fail
      refine WX.out.mono ?_
      rintro e w' ⟨rfl,rfl⟩
      go_wp2_with fail
      have hsC:sb < w.heap.size:=HSC.out.lt
      have Ax9:=Lib.hid (Azv w.heap.size w.heap.size acc wr HBD.out hB1)
      refine K0 [(0,0),(3,0),(4,0),(5,0),(6,0),(7,0),(8,3),(9,0),(1,1),(2,0)] (λw'=>w'.cell? ⟨sb,1,none⟩=some (.int .i64 at_)) (by kernel_rfl) (by kernel_rfl) (λ_ _ d _ _ h=>by cases d <;> exact h) (by first | exact c1 | exact (hb2.cell (p:=⟨sb,1,none⟩) hsC).trans c1) ?_
      simp only [DJ,List.filterMap_cons,List.filterMap_nil,List.getElem?_toArray,List.getElem?_cons_zero,List.getElem?_cons_succ,Option.map_some,List.drop_succ_cons,List.drop_zero,AW,Bp]
      iterate 6 (refine DU (by rfl) (λwq=>by go_simp;with_reducible rfl) ?_;simp only [Act.put,List.setIfInBounds_toArray,List.set_cons_zero,List.set_cons_succ])
      iterate 1 (refine Gc (by rfl) (λwq hq1=>by go_simp;with_reducible rfl) ?_;simp only [Act.put,List.setIfInBounds_toArray,List.set_cons_zero,List.set_cons_succ])
      iterate 1 (refine DU (by rfl) (λwq=>by go_simp;with_reducible rfl) ?_;simp only [Act.put,List.setIfInBounds_toArray,List.set_cons_zero,List.set_cons_succ])
      refine PN ?_ ?_
      ·rfl
      intro K hK
      (go_wp2_with fail;refine Ax9.out.mono ?_;rintro e w2 ⟨rfl,hb2⟩;go_wp2_with fail)
      refine ⟨by first | exact c1 | exact (hb2.cell (p:=⟨sb,1,none⟩) hsC).trans c1,?_⟩
      iterate 1 (refine DU (by rfl) (λwq=>by go_simp;with_reducible rfl) ?_;simp only [Act.put,List.setIfInBounds_toArray,List.set_cons_zero,List.set_cons_succ])
      refine KX ?_
      go_wp2_with fail
      have HB2:=Lib.hid (HBL.out.trans hb2)
      have e2:(i:Int)+1 - at_=((i+1 - at_:Nat):Int):=by omega
      rw [e2]
      refine (add_any B sb at_ src l (i+1 - at_) 4 0 0 (str acc) w2 (HSC.out.later HB2.out) (by have:=HB2.out.size;omega) hll (by omega)).mono ?_
      rintro e w3 ⟨rfl,SS,hb3⟩
      go_wp2_with fail
      refine bodyPost_ret (results_none rfl _ _ _) rfl ?_
      have hg:=HGG.out
      rw [if_neg h10,if_pos hq,if_neg hbig] at hg
      rw [<- hg]
      refine ⟨rfl,?_,(HB2.out.mono hBw).trans hb3⟩
      rw [show i - at_+1=i+1 - at_ by omega]
      rw [Hv] at SS
      exact SS
    ·have hqn:((src[i].toNat:Int) == (q.toNat:Int))=false:=Bool.eq_false_iff.2 λh=>hq ((OI _ _).2 h)
     have Bbr:(src[i].toNat == q.toNat)=false:=by rw [Bool.eq_false_iff];intro h;exact hq (UInt8.toNat_inj.1 (by simpa using h))
     by_cases MD:src[i]=92
     ·have hbn:((src[i].toNat:Int) == 92)=true:=(OI _ 92).1 MD
      have Ax5:=Lib.hid (A2o sb at_ i w.heap.size w.heap.size src acc wr hb c0 c1 (by omega) (by omega) HBD.out (by omega) hB1)
      go_wp2_with fail
      refine Ax5.out.mono ?_
      intro e w2 KG
      have hg:=HGG.out
      rw [if_neg h10,if_neg hq,if_pos MD] at hg
      cases hE:IR ((bs src).drop (i+1)) with
      | ended =>
       rw [hE] at KG hg
       have he:e=JU 4 at_:=KG.1
       have HB7:=Lib.hid ((HBL.out.trans KG.2).mono hBw)
       clear KG
       subst he
       go_wp2_with fail
       refine ⟨rfl,?_⟩
       rw [<- hg]
       exact ⟨rfl,HB7.out⟩
      | FL =>
       rw [hE] at KG hg
       have he:e=JU 4 i:=KG.1
       have HB7:=Lib.hid ((HBL.out.trans KG.2).mono hBw)
       clear KG
       subst he
       go_wp2_with fail
       refine ⟨rfl,?_⟩
       rw [<- hg]
       refine ⟨?_,HB7.out⟩
       rw [show at_+(i - at_)=i by omega]
      | ok b n =>
       rw [hE] at KG hg
       obtain ⟨he,hbd2,hb2⟩:=KG
       have U7:=Lib.hid (X1 hE)
       have HG9:=Lib.hid hg
       subst he
       clear hE hg
       have hn1:=U7.out.2.1
       rw [BU,BY] at hn1
       have hnz:(i:Int)+n<=1000000:=by omega
       go_wp2_with fail
       go_roundw
       case rel =>
        refine ⟨i+n,f,acc++b,by omega,by omega,by have:=U7.out.1;omega,by have:=U7.out.2.2;rw [BQ];omega,by go_num,?_,hbd2,HBL.out.trans hb2⟩
        unfold Hid
        have hg:=HG9.out
        rw [show i+n - at_=i - at_+n by omega,<- List.drop_drop,drop_at src i hend]
        exact hg
       case measure=>have:=U7.out.1;simp [intOf];omega
     ·have hbn:((src[i].toNat:Int) == 92)=false:=Bool.eq_false_iff.2 λh=>MD ((OI _ 92).2 h)
      have HWB:=Lib.hid (RO w.heap.size w.heap.size acc src[i] wr HBD.out (by omega) hB1)
      go_wp2_with fail
      refine HWB.out.mono ?_
      rintro e w2 ⟨rfl,hbd2,hb2⟩
      go_wp2_with fail
      go_roundw
      case rel =>
       refine ⟨i+1,f,acc++[src[i]],by omega,by omega,by omega,by simp;omega,by go_num,?_,hbd2,HBL.out.trans hb2⟩
       have hg:=HGG.out
       rw [if_neg h10,if_neg hq,if_neg MD] at hg
       unfold Hid
       rw [show i+1 - at_=i - at_+1 by omega]
       exact hg
      case measure=>simp [intOf];omega
  ·have hz:(src.size:Int)<=i:=by omega
   go_wp2_with fail
   refine (NF _ _ _).mono ?_
   rintro e w' ⟨rfl,rfl⟩
   go_wp2_with fail
   refine ⟨rfl,?_⟩
   have hg:=HG.out
   rw [List.drop_of_length_le (by rw [BY];omega),Auo] at hg
   rw [<- hg]
   exact ⟨rfl,HBL.out.mono hBw⟩
structure Gl (w:World):Prop where
 utf:Lib.Utf8Tabs 2 3 w
 space:Lib.TabIs Tryz.prog w "strings.asciiSpace" .u8 Lib.asciiSpaceTab
 maxLen:∃ m,w.cell? ⟨4,0,none⟩=some (.int .i64 m)
 size:6<=w.heap.size
theorem Bty:Tryz.prog.globalNamed "strings.asciiSpace" =some 0:=by kernel_rfl
theorem Gl.below {B:Nat} {w w':World} (h:Gl w) (hb:Below B w w') (hB:6<=B):Gl w':=by
 obtain ⟨h1,h2,⟨m,h3⟩,h4⟩:=h;refine ⟨⟨λc hc=>?_,λi hi=>⟨?_,?_⟩⟩,?_,⟨m,?_⟩,by have:=hb.size;omega⟩;rw [hb.cell (p:=⟨2,c,none⟩) (show 2 < B by omega)];exact h1.1 c hc;rw [hb.cell (p:=⟨3,2 * i,none⟩) (show 3 < B by omega)];exact (h1.2 i hi).1;rw [hb.cell (p:=⟨3,2 * i+1,none⟩) (show 3 < B by omega)];exact (h1.2 i hi).2;unfold Lib.TabIs World.var? at h2 ⊢;rw [Bty] at h2 ⊢;simp only [Aq] at h2 ⊢;rw [hb.block 0 (by omega)];exact h2;rw [hb.cell (p:=⟨4,0,none⟩) (show 4 < B by omega)];exact h3
theorem Gl.drew {w:World} (h:Gl w):Gl w.drew:=⟨h.utf,h.space,h.maxLen,h.size⟩
def LL:Bs:=[61,61,32,126,61,32,60,61,32,62,61,32,47,47,32,46,46,32,43,32,45,32,42,32,37,32,60,32,62,32,61,32,35,32,40,32,41,32,123,32,125,32,91,32,93,32,59,32,44,32,46]
theorem A4c:Lib.fields LL=Ht:=by decide +kernel
theorem A3z (w:World) (h:Gl w):Calls Tryz.prog 37 #[.string (str LL)] w λe w' =>
  e=.returned (.slice (some ⟨w.heap.size,0,none⟩) 23 23)/\w.alloc (.cells (Ht.map λl=>Value.string (str l)).toArray 9)=w':=by
 have h1:=Tryz.strings_Fields (str LL) w (by rw [Nt];decide) (by
  intro j b hj;have hb:b ∈ LL:=by
   have:(str LL).data.toList=LL:=Hv LL;rw [this] at hj;exact List.mem_of_getElem? hj
  revert b;have:∀ b ∈ LL,b.toNat < 128:=by decide
  intro b _ hb;exact this b hb) h.space
 have e:(str LL).data.toList=LL:=Hv LL;rw [e,A4c] at h1;exact h1.mono λ_ _ ⟨a,b⟩=>⟨a,b.symm⟩
def Aye (r:Option Bs) (B sb at_:Nat) (src:Ah) (l:List Tok) (w:World) (e:Ending) (w':World):Prop :=
 match r with
 | none=>e=JU 4 at_/\Below B w w'
 | some s=>e=.returned (.tuple #[])/\Sc B sb src (at_+s.length) (l++[⟨5,s,0,at_⟩]) w'/\Below B w w'
set_option maxHeartbeats 4000000 in
theorem Btk (B sb at_:Nat) (src:Ah) (l:List Tok) (w:World) (h:Sc B sb src at_ l w) (hg:Gl w) (hat:at_<=src.size) (hs:src.size<=100000) (hll:l.length<=100000) (hBw:B<=w.heap.size) :
  Calls Tryz.prog 85 #[.pointer (some ⟨sb,0,none⟩)] w (Aye (Nq ((bs src).drop at_)) B sb at_ src l w):=by
 obtain ⟨R9,hR9⟩:∃ R9,Nq ((bs src).drop at_)=R9:=⟨_,rfl⟩
 rw [hR9]
 have HR9:=Lib.hid hR9
 have HF:=Lib.hid (A3z w hg)
 have HSC:=Lib.hid h
 have Byq:(at_:Int)<=src.size:=by omega
 have Byt:(at_:Int)<=100000:=by omega
 clear hR9 h hg
 go_enter Tryz.func85,Tryz.ntmps85
 go_wp2_with fail
 refine HF.out.mono ?_
 rintro e w' ⟨rfl,rfl⟩
 go_wp2_with fail
 have HB0:=Lib.hid ((Below.refl w.heap.size w).alloc (Nat.le_refl _) (.cells (Ht.map λl=>Value.string (str l)).toArray 9))
 have Ax4:=Lib.hid (Lo w (.cells (Ht.map λl=>Value.string (str l)).toArray 9))
 generalize w.alloc (.cells (Ht.map λl=>Value.string (str l)).toArray 9)=w1 at *
 go_loopw [6] (λI wr=>∃ k:Nat,k<=23/\I=.int .i64 k/\Hid ((Ht.drop k).find? (λs=>s.isPrefixOf ((bs src).drop at_))=R9)/\Hid (Below (w.heap.size+1) w1 wr)) (λI _=>23 - (intOf I).toNat)
 case atStart=>exact ⟨0,by omega,rfl,HR9.out,Below.refl _ _⟩
 case round =>
  obtain ⟨k,hk,rfl,HG,HBL⟩:=hrel
  have hw1:=HB0.out.size
  have HB9:=Lib.hid (HB0.out.trans (HBL.out.mono (Nat.le_succ _)))
  have Lj:=Lib.hid (HSC.out.later HB9.out)
  obtain ⟨hb,c0,c1⟩:=Lj.out.reads
  by_cases hlt:k < 23
  ·have hkz:(k:Int) < 23:=by omega
   obtain ⟨s,hsk⟩:∃ s,Ht[k]? = some s:=⟨_,List.getElem?_eq_getElem (show k < Ht.length from hlt)⟩
   have hcell:wr.cell? ⟨w.heap.size,k,none⟩=some (.string (str s)):=by
    rw [FO (Ln HBL.out (by omega) Ax4.out)]
    simp [hsk]
   have hdrop:Ht.drop k=s :: Ht.drop (k+1):=by
    rw [List.drop_eq_getElem_cons (show k < Ht.length from hlt)]
    congr 1
    rw [List.getElem?_eq_getElem (show k < Ht.length from hlt)] at hsk
    exact Ao hsk
   have HD:=Lib.hid hdrop
   have By3:s.length<=2:=by
    have:∀ x ∈ Ht,x.length<=2:=by decide
    exact this s (List.mem_of_getElem? hsk)
   have HSK:=Lib.hid hsk
   clear hdrop hsk
   go_wp2_with fail
   refine K0 [(0,0),(1,0),(2,0),(3,3),(4,0),(5,0),(6,0),(7,3),(8,0),(9,0)] (λw'=>w'.cell? ⟨sb,0,none⟩=some (.string src)/\w'.cell? ⟨sb,1,none⟩=some (.int .i64 at_)) (by kernel_rfl) (by kernel_rfl) (λ_ _ d _ _ h=>by cases d <;> exact h) (by refine ⟨?_,?_⟩ <;> go_simp) ?_
   simp only [DJ,List.filterMap_cons,List.filterMap_nil,List.getElem?_toArray,List.getElem?_cons_zero,List.getElem?_cons_succ,Option.map_some,List.drop_succ_cons,List.drop_zero,AW,Bp]
   iterate 3 (refine DU (by rfl) (λwq=>by go_simp;with_reducible rfl) ?_;simp only [Act.put,List.setIfInBounds_toArray,List.set_cons_zero,List.set_cons_succ])
   iterate 1 (refine Gc (by rfl) (λwq hq=>by obtain ⟨hq0,hq1⟩:=hq;go_simp;with_reducible rfl) ?_;simp only [Act.put,List.setIfInBounds_toArray,List.set_cons_zero,List.set_cons_succ])
   iterate 3 (refine DU (by rfl) (λwq=>by go_simp;with_reducible rfl) ?_;simp only [Act.put,List.setIfInBounds_toArray,List.set_cons_zero,List.set_cons_succ])
   iterate 1 (refine Gc (by rfl) (λwq hq=>by obtain ⟨hq0,hq1⟩:=hq;go_simp;with_reducible rfl) ?_;simp only [Act.put,List.setIfInBounds_toArray,List.set_cons_zero,List.set_cons_succ])
   iterate 2 (refine DU (by rfl) (λwq=>by go_simp;with_reducible rfl) ?_;simp only [Act.put,List.setIfInBounds_toArray,List.set_cons_zero,List.set_cons_succ])
   refine KX ?_
   go_wp2_with fail
   have hpf:=TO (src.extract at_ src.size) s wr.drew
   rw [Hw] at hpf
   refine hpf.mono ?_
   rintro e w' ⟨rfl,rfl⟩
   cases hp:s.isPrefixOf ((bs src).drop at_) with
   | true =>
    have HP:=Lib.hid hp
    clear hp hpf
    have LX:=Lib.hid (λhB'=>add_any B sb at_ src l s.length 5 0 0 (str s) wr.drew Lj.out.drew hB' hll (by omega))
    have hsz:((str s).size:Int)=s.length:=by rw [Nt]
    go_wp2_with fail
    refine (LX.out (by have:=HB9.out.size;simp;omega)).mono ?_
    rintro e w3 ⟨rfl,SS,hb3⟩
    go_wp2_with fail
    refine bodyPost_ret (results_none rfl _ _ _) rfl ?_
    have hg:=HG.out
    rw [HD.out,List.find?_cons,HP.out] at hg
    rw [<- hg]
    rw [Hv] at SS
    exact ⟨rfl,SS,(HB9.out.drew.mono hBw).trans hb3⟩
   | false =>
    have HP:=Lib.hid hp
    clear hp hpf
    go_wp2_with fail
    go_roundw
    case rel =>
     refine ⟨k+1,by omega,by go_num,?_,HBL.out.drew⟩
     have hg:=HG.out
     rw [HD.out,List.find?_cons,HP.out] at hg
     exact hg
    case measure=>simp [intOf];omega
  ·have hkz:¬ (k:Int) < 23:=by omega
   go_wp2_with fail
   refine (NF _ _ _).mono ?_
   rintro e w' ⟨rfl,rfl⟩
   go_wp2_with fail
   refine ⟨rfl,?_⟩
   have hg:=HG.out
   rw [List.drop_of_length_le (show Ht.length<=k by show 23<=k;omega)] at hg
   rw [<- hg]
   exact ⟨rfl,HB9.out.mono hBw⟩
end
section
namespace Lx
def Nr (ws:List Bs):Bs:=32 :: ws.flatMap (·++[32])
theorem Atl:∀ (t w x y:Bs),(∀ b ∈ t,b≠32)->(∀ b ∈ w,b≠32)->t++32 :: x=w++32 :: y->t=w
 | [],[],_,_,_,_,_=>rfl
 | [],c :: w,x,y,_,hw,h=>by
  simp only [List.nil_append,List.cons_append,List.cons.injEq] at h;exact absurd h.1.symm (hw c (by simp))
 | c :: t,[],x,y,ht,_,h=>by
  simp only [List.nil_append,List.cons_append,List.cons.injEq] at h;exact absurd h.1 (ht c (by simp))
 | c :: t,d :: w,x,y,ht,hw,h=>by
  simp only [List.cons_append,List.cons.injEq] at h;rw [h.1,Atl t w x y (λb hb=>ht b (by simp [hb])) (λb hb=>hw b (by simp [hb])) h.2]
theorem Akz (sub rest:Bs):∀ (w a b:Bs),(∀ c ∈ w,c≠32)->sub.head? = some 32->a++sub++b=w++rest->sub <:+: rest
 | [],a,b,_,_,h=>⟨a,b,h⟩
 | c :: w,[],b,hw,hs,h=>by
  cases sub with
  | nil=>simp at hs
  | cons d s =>
   simp only [List.head?_cons,Option.some.injEq] at hs;simp only [List.nil_append,List.cons_append,List.cons.injEq] at h;exact absurd (h.1.symm.trans hs) (hw c (by simp))
 | c :: w,d :: a,b,hw,hs,h=>by
  simp only [List.cons_append,List.cons.injEq] at h;exact Akz sub rest w a b (λx hx=>hw x (by simp [hx])) hs h.2
theorem Ati (w:Bs) (ws:List Bs):Nr (w :: ws)=32 :: (w++Nr ws):=by simp [Nr]
theorem Ak2 (t:Bs) (ht:∀ b ∈ t,b≠32):∀ ws:List Bs,(∀ w ∈ ws,∀ b ∈ w,b≠32)->((32 :: t++[32]) <:+: Nr ws)->t ∈ ws
 | [],_,h=>by
  have:=h.length_le;simp [Nr] at this
 | w :: ws,hws,h=>by
  obtain ⟨a,b,h⟩:=h;rw [Ati] at h;cases a with
  | nil =>
   simp only [List.nil_append,List.cons_append,C7,List.cons.injEq,true_and] at h;rw [Atl t w b (ws.flatMap (·++[32])) ht (hws w (by simp)) h];simp
  | cons c a =>
   simp only [List.cons_append,List.cons.injEq] at h;have:=Akz (32 :: t++[32]) (Nr ws) w a b (hws w (by simp)) rfl (by simpa using h.2);exact EI _ (Ak2 t ht ws (λx hx=>hws x (by simp [hx])) this)
theorem Awh (t:Bs):∀ ws:List Bs,t ∈ ws->((32 :: t++[32]) <:+: Nr ws)
 | w :: ws,h=>by
  rw [Ati];rcases List.mem_cons.1 h with h | h;subst h;exact ⟨[],ws.flatMap (·++[32]),by simp [Nr]⟩;obtain ⟨a,b,e⟩:=Awh t ws h;exact ⟨32 :: w++a,b,by simp only [C7,List.cons_append] at *;rw [e]⟩
theorem A0f (s sub:Bs):Lib.contains s sub=true ↔ sub <:+: s:=by
 unfold Lib.contains;rw [decide_eq_true_iff];rcases Lib.index_spec s sub with ⟨h1,h2⟩ | ⟨i,h1,h2,h3,_⟩;constructor;intro h;omega;rintro ⟨a,b,e⟩;have h3:=h2 a.length (by rw [<- e];simp);rw [<- e] at h3;simp only [Lib.occAt,C7,List.drop_left] at h3;rw [List.isPrefixOf_iff_prefix.2 ⟨b,rfl⟩] at h3;exact absurd h3 (by decide);constructor;intro _;have:=List.isPrefixOf_iff_prefix.1 h3;obtain ⟨b,hb⟩:=this;exact ⟨s.take i,b,by rw [C7,hb,List.take_append_drop]⟩;intro _;omega
def Ux:Bs:=Nr WG
theorem A0i (t:Bs) (ht:∀ b ∈ t,b≠32):Lib.contains Ux (32 :: t++[32])=L3 t:=by
 have hws:∀ w ∈ WG,∀ b ∈ w,b≠32:=by decide
 rw [Bool.eq_iff_iff,A0f];unfold L3;rw [List.contains_iff_mem];exact ⟨Ak2 t ht _ hws,Awh t _⟩
theorem A0l (p:Nat->Bool) (hp1:p 32=false) (hp2:p 65533=false) (l:Bs) (h:p (B1 l).1=true):∀ b ∈ l.take (B1 l).2,b≠32:=by
 intro b hb;obtain ⟨i,hi⟩:=List.mem_iff_getElem?.1 hb;rw [List.getElem?_take] at hi;split at hi
 case isFalse=>exact absurd hi (by simp)
 rename_i hlt;have hg:l.getD i 0=b:=by rw [List.getD_eq_getElem?_getD,hi];rfl
 rintro rfl;have hg2:(l.getD i 0).toNat=32:=by rw [hg];rfl
 clear hb hi hg;unfold B1 at h hlt;dsimp only at h hlt;have hi4:i=0\/i=1\/i=2\/3<=i:=by omega
 split at h
 ·rename_i h0
  rw [if_pos h0] at hlt;have:i=0:=by simpa using hlt
  subst this;rw [hg2] at h;exact absurd h (by simp [hp1])
 ·rename_i h0
  rw [if_neg h0] at hlt;have hne:i≠0:=by rintro rfl;omega
  split at h
  ·rename_i h1
   rw [if_pos h1] at hlt;simp only [Bool.and_eq_true,beq_iff_eq,decide_eq_true_eq] at h1;split at h
   ·rename_i h2;rw [if_pos h2] at hlt
    rcases hi4 with rfl | rfl | rfl | hi4 <;> dsimp only at hlt <;> omega
   ·exact absurd h (by simp [hp2])
  ·rename_i h1
   rw [if_neg h1] at hlt;split at h
   ·rename_i h1
    rw [if_pos h1] at hlt;simp only [Bool.and_eq_true,beq_iff_eq,decide_eq_true_eq] at h1;split at h
    ·rename_i h2;rw [if_pos h2] at hlt
     rcases hi4 with rfl | rfl | rfl | hi4 <;> dsimp only at hlt <;> omega
    ·exact absurd h (by simp [hp2])
   ·rename_i h1
    rw [if_neg h1] at hlt;split at h
    ·rename_i h1
     rw [if_pos h1] at hlt;simp only [Bool.and_eq_true,beq_iff_eq,decide_eq_true_eq] at h1;split at h
     ·rename_i h2;rw [if_pos h2] at hlt
      have:i=3\/4<=i\/i < 3:=by omega
      rcases hi4 with rfl | rfl | rfl | hi4 <;> dsimp only at hlt <;> try omega
      have:i=3:=by omega
      subst this;omega
     ·exact absurd h (by simp [hp2])
    ·exact absurd h (by simp [hp2])
theorem Ase (p:Nat->Bool) (hp1:p 32=false) (hp2:p 65533=false):∀ (n:Nat) (l:Bs),l.length<=n->∀ b ∈ l.take (B5 p l),b≠32
 | 0,l,h=>by
  have:l=[]:=List.eq_nil_of_length_eq_zero (by omega);subst this;simp
 | n+1,l,h=>by
  by_cases hl:l=[];subst hl;simp;rw [Np p l hl];have hw:=Jq l;split;rename_i hp;rw [List.take_add];intro b hb;rcases EH.1 hb with hb | hb;exact A0l p hp1 hp2 l hp b hb;exact Ase p hp1 hp2 n (l.drop (B1 l).2) (by rw [BU];have:=hw.2.2 hl;omega) b hb;simp
end Lx
end
section
open Go Go.RowKit Lx
theorem wrap_in (x:Int) (h0:0<=x) (h1:x<=1000000000):IntKind.i64.wrap x=x:=by unfold IntKind.wrap;simp [IntKind.bits,IntKind.signed];omega
def O6 (m:Nat) (t:Bs) (B sb at_:Nat) (src:Ah) (l:List Tok) (w:World) (e:Ending) (w':World):Prop :=
 if m > 40 then e=JU 14 at_/\Below B w w'
 else e=.returned (.tuple #[])/\Sc B sb src (at_+m) (l++[⟨if L3 t then 2 else 1,t,0,at_⟩]) w'/\Below B w w'
theorem Bu8 (src:Ah) (at_ m:Nat) (w:World) (hm:B5 Cl ((bs src).drop at_)=m) (hle:at_+m<=src.size) (hs:m<=40) (hg:Gl w) :
  Calls Tryz.prog 117 #[.string (str Ux),.string (⟨#[32]⟩++src.extract at_ (at_+m)++⟨#[32]⟩)] w λe w'=>e=.returned (.bool (L3 (((bs src).drop at_).take m)))/\w=w':=by
 obtain ⟨k,hk⟩:=hg.maxLen;refine (Tryz.strings_Contains (str Ux) _ k w (by rw [Nt];decide) hk).mono ?_;rintro e w' ⟨rfl,rfl⟩;have e1:(str Ux).data.toList=Ux:=Hv _;have e2:(⟨#[32]⟩++src.extract at_ (at_+m)++⟨#[32]⟩:Ah).data.toList=32 :: (((bs src).drop at_).take m)++[32]:=by
  have h:=Sw src at_ (at_+m);rw [Nat.add_sub_cancel_left] at h;rw [<- h];simp [bs]
 refine ⟨?_,rfl⟩;rw [e1,e2,A0i];rw [<- hm];exact Ase Cl (by decide) (by decide) _ _ (Nat.le_refl _)
set_option maxHeartbeats 4000000 in
theorem name_any (B sb at_:Nat) (src:Ah) (l:List Tok) (w:World) (h:Sc B sb src at_ l w) (hg:Gl w) (hat:at_<=src.size) (hs:src.size<=100000) (hll:l.length<=100000) (hBw:B<=w.heap.size) :
  Calls Tryz.prog 81 #[.pointer (some ⟨sb,0,none⟩)] w (O6 (B5 Cl ((bs src).drop at_)) (((bs src).drop at_).take (B5 Cl ((bs src).drop at_))) B sb at_ src l w):=by
 have HMM:=Lib.hid (rfl:B5 Cl ((bs src).drop at_)=B5 Cl ((bs src).drop at_))
 have HG:=Lib.hid hg
 clear hg
 have hm:=Kv Cl ((bs src).drop at_)
 rw [BU,BY] at hm
 obtain ⟨hb,c0,c1⟩:=h.reads
 have Sp:=Lib.hid (run_any 115 Cl sb at_ src w Ath hb c0 c1 hat (by omega))
 generalize hM:B5 Cl ((bs src).drop at_)=m at *
 have HM:=Lib.hid hM
 have HSC:=Lib.hid h
 clear hM h
 have hz1:(at_:Int)<=(at_:Int)+m:=by omega
 have hz2:(at_:Int)+m<=src.size:=by omega
 have hz3:((at_:Int)+m).toNat=at_+m:=by omega
 have hz4:(at_:Int)+m<=100000:=by omega
 have hz5:=wrap_in ((at_:Int)+m) (by omega) (by omega)
 go_enter Tryz.func81,Tryz.ntmps81
 go_wp2_with fail
 refine Sp.out.mono ?_
 rintro e w1 ⟨rfl,hb1⟩
 have Li:=Lib.hid (HSC.out.later hb1)
 have HB1:=Lib.hid hb1
 clear c0 c1 hb hb1
 obtain ⟨hb,c0,c1⟩:=Li.out.reads
 go_wp2_with fail
 refine K0 [(0,0),(1,0),(2,0),(3,3),(4,0),(5,0),(6,0),(7,3),(8,0),(9,0),(10,0),(11,3),(12,0),(13,0),(14,0),(15,0),(16,1)] (λw'=>w'.cell? ⟨sb,0,none⟩=some (.string src)/\w'.cell? ⟨sb,1,none⟩=some (.int .i64 at_)) (by kernel_rfl) (by kernel_rfl) (λ_ _ d _ _ h=>by cases d <;> exact h) (by refine ⟨?_,?_⟩ <;> go_simp) ?_
 simp only [DJ,List.filterMap_cons,List.filterMap_nil,List.getElem?_toArray,List.getElem?_cons_zero,List.getElem?_cons_succ,Option.map_some,List.drop_succ_cons,List.drop_zero,AW,Bp]
 iterate 3 (refine DU (by rfl) (λwq=>by go_simp;with_reducible rfl) ?_;simp only [Act.put,List.setIfInBounds_toArray,List.set_cons_zero,List.set_cons_succ])
 iterate 1 (refine Gc (by rfl) (λwq hq=>by obtain ⟨hq0,hq1⟩:=hq;go_simp;with_reducible rfl) ?_;simp only [Act.put,List.setIfInBounds_toArray,List.set_cons_zero,List.set_cons_succ])
 iterate 3 (refine DU (by rfl) (λwq=>by go_simp;with_reducible rfl) ?_;simp only [Act.put,List.setIfInBounds_toArray,List.set_cons_zero,List.set_cons_succ])
 iterate 1 (refine Gc (by rfl) (λwq hq=>by obtain ⟨hq0,hq1⟩:=hq;go_simp;with_reducible rfl) ?_;simp only [Act.put,List.setIfInBounds_toArray,List.set_cons_zero,List.set_cons_succ])
 iterate 3 (refine DU (by rfl) (λwq=>by go_simp;with_reducible rfl) ?_;simp only [Act.put,List.setIfInBounds_toArray,List.set_cons_zero,List.set_cons_succ])
 iterate 1 (refine Gc (by rfl) (λwq hq=>by obtain ⟨hq0,hq1⟩:=hq;go_simp;with_reducible rfl) ?_;simp only [Act.put,List.setIfInBounds_toArray,List.set_cons_zero,List.set_cons_succ])
 iterate 4 (refine DU (by rfl) (λwq=>by go_simp;with_reducible rfl) ?_;simp only [Act.put,List.setIfInBounds_toArray,List.set_cons_zero,List.set_cons_succ])
 refine PN ?_ ?_
 ·rfl
 intro K hK
 go_wp2
 refine ⟨by refine ⟨?_,?_⟩ <;> go_simp,?_⟩
 refine KX ?_
 by_cases h40:m > 40
 ·have h40z:(40:Int) < m:=by omega
  go_wp2_with fail
  refine (NF _ _ _).mono ?_
  rintro e w' ⟨rfl,rfl⟩
  go_wp2_with fail
  refine ⟨rfl,?_⟩
  show O6 m _ B sb at_ src l w _ _
  unfold O6
  rw [if_pos h40]
  exact ⟨rfl,((HB1.out.mono hBw).alloc (by have:=HB1.out.size;omega) _).drew⟩
 ·have h40z:¬ (40:Int) < m:=by omega
  go_wp2_with fail
  have HGW:=Lib.hid (HG.out.below HB1.out HG.out.size)
  have Ax6:=Lib.hid ((HGW.out.below ((Below.refl w1.heap.size w1).alloc (Nat.le_refl _) (.cells #[.int .i64 1,.string (src.extract at_ (at_+m)),.int .i64 0,.int .i64 0] 82)) HGW.out.size).drew)
  refine (Bu8 src at_ m _ HM.out (by omega) (by omega) Ax6.out).mono ?_
  rintro e w' ⟨rfl,rfl⟩
  generalize HT:L3 (((bs src).drop at_).take m)=bw
  have Aka:bs (src.extract at_ (at_+m))=((bs src).drop at_).take m:=by rw [Sw,Nat.add_sub_cancel_left]
  have Qs:=Lib.hid Aka
  have Ber:=HB1.out.size
  clear Aka
  cases bw
  ·have LX:=Lib.hid (add_any B sb at_ src l m 1 0 0 (src.extract at_ (at_+m)) _ ((Li.out.alloc (.cells #[.int .i64 1,.string (src.extract at_ (at_+m)),.int .i64 0,.int .i64 0] 82)).drew) (by simp;omega) hll (by omega))
   have HT2:=Lib.hid HT
   clear HT
   go_wp2_with fail
   refine LX.out.mono ?_
   rintro e w' ⟨rfl,hsc,hbb⟩
   go_wp2_with fail
   refine bodyPost_ret (results_none rfl _ _ _) rfl ?_
   unfold O6
   rw [if_neg h40]
   rw [Qs.out] at hsc
   rw [HT2.out]
   exact ⟨rfl,hsc,(((HB1.out.mono hBw).alloc (by omega) _).drew).trans hbb⟩
  ·have LX:=Lib.hid (add_any B sb at_ src l m 2 0 0 (src.extract at_ (at_+m)) _ ((Li.out.alloc (.cells #[.int .i64 2,.string (src.extract at_ (at_+m)),.int .i64 0,.int .i64 0] 82)).drew) (by simp;omega) hll (by omega))
   have HT2:=Lib.hid HT
   clear HT
   go_wp2_with fail
   refine LX.out.mono ?_
   rintro e w' ⟨rfl,hsc,hbb⟩
   go_wp2_with fail
   refine bodyPost_ret (results_none rfl _ _ _) rfl ?_
   unfold O6
   rw [if_neg h40]
   rw [Qs.out] at hsc
   rw [HT2.out]
   exact ⟨rfl,hsc,(((HB1.out.mono hBw).alloc (by omega) _).drew).trans hbb⟩
def NumEnd (m:Nat) (t:Bs) (B sb at_:Nat) (src:Ah) (l:List Tok) (w:World) (e:Ending) (w':World):Prop :=
 if (F6 t).2≠0 then e=JU (F6 t).2 at_/\Below B w w'
 else e=.returned (.tuple #[])/\Sc B sb src (at_+m) (l++[⟨3,t,(F6 t).1,at_⟩]) w'/\Below B w w'
set_option maxHeartbeats 4000000 in
theorem Bj5 (B sb at_:Nat) (src:Ah) (l:List Tok) (w:World) (h:Sc B sb src at_ l w) (hat:at_<=src.size) (hs:src.size<=100000) (hll:l.length<=100000) (hBw:B<=w.heap.size) :
  Calls Tryz.prog 83 #[.pointer (some ⟨sb,0,none⟩)] w (NumEnd (B5 Cl ((bs src).drop at_)) (((bs src).drop at_).take (B5 Cl ((bs src).drop at_))) B sb at_ src l w):=by
 have hm:=Kv Cl ((bs src).drop at_)
 rw [BU,BY] at hm
 obtain ⟨hb,c0,c1⟩:=h.reads
 have Sp:=Lib.hid (run_any 115 Cl sb at_ src w Ath hb c0 c1 hat (by omega))
 generalize hM:B5 Cl ((bs src).drop at_)=m at *
 have HM:=Lib.hid hM
 have HSC:=Lib.hid h
 clear hM h
 have hz1:(at_:Int)<=(at_:Int)+m:=by omega
 have hz2:(at_:Int)+m<=src.size:=by omega
 have hz3:((at_:Int)+m).toNat=at_+m:=by omega
 have hz4:(at_:Int)+m<=100000:=by omega
 have hz5:=wrap_in ((at_:Int)+m) (by omega) (by omega)
 go_enter Tryz.func83,Tryz.ntmps83
 go_wp2_with fail
 refine Sp.out.mono ?_
 rintro e w1 ⟨rfl,hb1⟩
 have Li:=Lib.hid (HSC.out.later hb1)
 have HB1:=Lib.hid hb1
 clear c0 c1 hb hb1
 obtain ⟨hb,c0,c1⟩:=Li.out.reads
 have Ber:=HB1.out.size
 have Qs:=Lib.hid (show bs (src.extract at_ (at_+m))=((bs src).drop at_).take m by rw [Sw,Nat.add_sub_cancel_left])
 have HPA:=Lib.hid (λw=>parse_any (src.extract at_ (at_+m)) w (by have:=congrArg List.length Qs.out;rw [BY,List.length_take,BU,BY] at this;omega))
 generalize hPF:F6 (((bs src).drop at_).take m)=PF at *
 have HPF:=Lib.hid hPF
 clear hPF
 go_wp2_with fail
 refine K0 [(0,0),(1,0),(2,0),(3,3),(4,0),(5,0),(6,0),(7,3),(8,0),(9,0),(10,0),(11,3),(12,0),(13,0)] (λw'=>w'.cell? ⟨sb,0,none⟩=some (.string src)/\w'.cell? ⟨sb,1,none⟩=some (.int .i64 at_)) (by kernel_rfl) (by kernel_rfl) (λ_ _ d _ _ h=>by cases d <;> exact h) (by refine ⟨?_,?_⟩ <;> go_simp) ?_
 simp only [DJ,List.filterMap_cons,List.filterMap_nil,List.getElem?_toArray,List.getElem?_cons_zero,List.getElem?_cons_succ,Option.map_some,List.drop_succ_cons,List.drop_zero,AW,Bp]
 iterate 3 (refine DU (by rfl) (λwq=>by go_simp;with_reducible rfl) ?_;simp only [Act.put,List.setIfInBounds_toArray,List.set_cons_zero,List.set_cons_succ])
 iterate 1 (refine Gc (by rfl) (λwq hq=>by obtain ⟨hq0,hq1⟩:=hq;go_simp;with_reducible rfl) ?_;simp only [Act.put,List.setIfInBounds_toArray,List.set_cons_zero,List.set_cons_succ])
 iterate 3 (refine DU (by rfl) (λwq=>by go_simp;with_reducible rfl) ?_;simp only [Act.put,List.setIfInBounds_toArray,List.set_cons_zero,List.set_cons_succ])
 iterate 1 (refine Gc (by rfl) (λwq hq=>by obtain ⟨hq0,hq1⟩:=hq;go_simp;with_reducible rfl) ?_;simp only [Act.put,List.setIfInBounds_toArray,List.set_cons_zero,List.set_cons_succ])
 iterate 3 (refine DU (by rfl) (λwq=>by go_simp;with_reducible rfl) ?_;simp only [Act.put,List.setIfInBounds_toArray,List.set_cons_zero,List.set_cons_succ])
 iterate 1 (refine Gc (by rfl) (λwq hq=>by obtain ⟨hq0,hq1⟩:=hq;go_simp;with_reducible rfl) ?_;simp only [Act.put,List.setIfInBounds_toArray,List.set_cons_zero,List.set_cons_succ])
 iterate 2 (refine DU (by rfl) (λwq=>by go_simp;with_reducible rfl) ?_;simp only [Act.put,List.setIfInBounds_toArray,List.set_cons_zero,List.set_cons_succ])
 refine KX ?_
 go_wp2_with fail
 refine (HPA.out _).mono ?_
 rintro e w2 ⟨rfl,hb2⟩
 rw [Qs.out,HPF.out]
 have HB2:=Lib.hid hb2
 have Lj:=Lib.hid (Li.out.drew.later hb2)
 clear hb2 hb c0 c1
 obtain ⟨hb,c0,c1⟩:=Lj.out.reads
 by_cases h0:PF.2=0
 ·rw [h0]
  have LX:=Lib.hid (add_any B sb at_ src l m 3 PF.1 0 (src.extract at_ (at_+m)) w2 Lj.out (by have:=HB2.out.size;simp at this;omega) hll (by omega))
  go_wp2_with fail
  refine LX.out.mono ?_
  rintro e w' ⟨rfl,hsc,hbb⟩
  go_wp2_with fail
  refine bodyPost_ret (results_none rfl _ _ _) rfl ?_
  unfold NumEnd
  rw [HPF.out,if_neg (by simp [h0])]
  rw [Qs.out] at hsc
  exact ⟨rfl,hsc,((HB1.out.drew.mono hBw).trans (HB2.out.mono (by simp;omega))).trans hbb⟩
 ·have h0':(PF.2 == 0)=false:=by simpa using h0
  go_wp2_with fail
  refine (NF _ _ _).mono ?_
  rintro e w' ⟨rfl,rfl⟩
  go_wp2_with fail
  refine ⟨rfl,?_⟩
  unfold NumEnd
  rw [HPF.out,if_pos h0]
  exact ⟨rfl,(HB1.out.drew.mono hBw).trans (HB2.out.mono (by simp;omega))⟩
def Ayb (r:Step) (B sb at_:Nat) (src:Ah) (l:List Tok) (w:World) (e:Ending) (w':World):Prop :=
 match r with
 | .done=>e=.returned (.bool false)/\Sc B sb src at_ l w'/\Below B w w'
 | .skip n=>e=.returned (.bool true)/\Sc B sb src (at_+n) l w'/\Below B w w'
 | .tok k t n len=>e=.returned (.bool true)/\Sc B sb src (at_+len) (l++[⟨k,t,n,at_⟩]) w'/\Below B w w'
 | .bad c rel=>e=JU c (at_+rel:Nat)/\Below B w w'
theorem A0j (l:Bs) (h:(B1 l).1 < 128):(l.getD 0 0).toNat=(B1 l).1:=by
 unfold B1 at h ⊢;dsimp only at h ⊢;by_cases h0:(l.getD 0 0).toNat < 128
 ·rw [if_pos h0]
 ·rw [if_neg h0] at h ⊢
  exfalso
  (repeat' split at h) <;> simp_all <;> omega
theorem A0q (s:Ah) (h:bs s≠[]):Lib.decodeGo s=B1 (bs s):=by
 unfold Lib.decodeGo;have:s.size≠0:=by
  intro h0;rw [<- BY] at h0;exact h (List.eq_nil_of_length_eq_zero h0)
 rw [if_neg this,decode_eq,List.drop_zero]
set_option maxHeartbeats 4000000 in
theorem next_any (B sb at_:Nat) (src:Ah) (l:List Tok) (w:World) (h:Sc B sb src at_ l w) (hg:Gl w) (hat:at_<=src.size) (hs:src.size<=100000) (hll:l.length<=100000) (hBw:B<=w.heap.size) (hNB:6<=B) :
  Calls Tryz.prog 39 #[.pointer (some ⟨sb,0,none⟩)] w (Ayb (D6 (((bs src).drop at_).drop (B5 CE ((bs src).drop at_)))) B sb (at_+B5 CE ((bs src).drop at_)) src l w):=by
 have hm:=Kv CE ((bs src).drop at_)
 rw [BU,BY] at hm
 obtain ⟨hb,c0,c1⟩:=h.reads
 have Sp:=Lib.hid (run_any 76 CE sb at_ src w.drew Btu hb c0 c1 hat (by omega))
 rw [List.drop_drop]
 generalize B5 CE ((bs src).drop at_)=m at *
 have hz5:=wrap_in ((at_:Int)+m) (by omega) (by omega)
 rw [show (at_:Int)+m=((at_+m:Nat):Int) by omega] at hz5
 obtain ⟨a,ha⟩:∃ a,at_+m=a:=⟨_,rfl⟩
 rw [ha] at hz5
 have hz6:(at_:Int)+m=a:=by omega
 rw [ha]
 have hza:a<=src.size:=by omega
 have By6:(a:Int)<=src.size:=by omega
 obtain ⟨R9,hR9⟩:∃ R9,D6 ((bs src).drop a)=R9:=⟨_,rfl⟩
 rw [hR9]
 have HR9:=Lib.hid hR9
 have HSC:=Lib.hid h
 have HG:=Lib.hid hg
 clear h hg hR9
 go_enter Tryz.func39,Tryz.ntmps39
 go_wp2_with fail
 refine K0 [(0,0),(1,0),(2,0),(3,3),(4,0),(5,1)] (λw'=>w'.cell? ⟨sb,1,none⟩=some (.int .i64 at_)) (by kernel_rfl) (by kernel_rfl) (λ_ _ d _ _ h=>by cases d <;> exact h) (by first | exact c1 | exact (hb2.cell (p:=⟨sb,1,none⟩) hb).trans c1) ?_
 simp only [DJ,List.filterMap_cons,List.filterMap_nil,List.getElem?_toArray,List.getElem?_cons_zero,List.getElem?_cons_succ,Option.map_some,List.drop_succ_cons,List.drop_zero,AW,Bp]
 iterate 3 (refine DU (by rfl) (λwq=>by go_simp;with_reducible rfl) ?_;simp only [Act.put,List.setIfInBounds_toArray,List.set_cons_zero,List.set_cons_succ])
 iterate 1 (refine Gc (by rfl) (λwq hq1=>by go_simp;with_reducible rfl) ?_;simp only [Act.put,List.setIfInBounds_toArray,List.set_cons_zero,List.set_cons_succ])
 iterate 1 (refine DU (by rfl) (λwq=>by go_simp;with_reducible rfl) ?_;simp only [Act.put,List.setIfInBounds_toArray,List.set_cons_zero,List.set_cons_succ])
 refine PN ?_ ?_
 ·rfl
 intro K hK
 (go_wp2_with fail;refine Sp.out.mono ?_;rintro e w1 ⟨rfl,hb2⟩;go_wp2_with fail)
 refine ⟨by first | exact c1 | exact (hb2.cell (p:=⟨sb,1,none⟩) hb).trans c1,?_⟩
 refine KX ?_
 have Li:=Lib.hid (HSC.out.drew.later hb2)
 have HB1:=Lib.hid (((Below.refl w.heap.size w).drew).trans hb2)
 clear hb c0 c1 hb2
 obtain ⟨hb,c0,c1⟩:=Li.out.reads
 have hfr:=Li.out.free 1
 go_wp2_with fail
 have Lj:=Lib.hid (Li.out.move a)
 have HB2:=Lib.hid ((HB1.out.mono hBw).setCell (p:=⟨sb,1,none⟩) Li.out.base (.int .i64 a))
 generalize w1.setCell ⟨sb,1,none⟩ (.int .i64 a)=w2 at *
 clear hb c0 c1 hfr
 obtain ⟨hb,c0,c1⟩:=Lj.out.reads
 refine K0 [(0,0),(1,0),(2,0),(3,3),(4,0),(5,0),(6,0),(7,3)] (λw'=>w'.cell? ⟨sb,0,none⟩=some (.string src)/\w'.cell? ⟨sb,1,none⟩=some (.int .i64 a)) (by kernel_rfl) (by kernel_rfl) (λ_ _ d _ _ h=>by cases d <;> exact h) (by refine ⟨?_,?_⟩ <;> go_simp) ?_
 simp only [DJ,List.filterMap_cons,List.filterMap_nil,List.getElem?_toArray,List.getElem?_cons_zero,List.getElem?_cons_succ,Option.map_some,List.drop_succ_cons,List.drop_zero,AW,Bp]
 iterate 3 (refine DU (by rfl) (λwq=>by go_simp;with_reducible rfl) ?_;simp only [Act.put,List.setIfInBounds_toArray,List.set_cons_zero,List.set_cons_succ])
 iterate 1 (refine Gc (by rfl) (λwq hq=>by obtain ⟨hq0,hq1⟩:=hq;go_simp;with_reducible rfl) ?_;simp only [Act.put,List.setIfInBounds_toArray,List.set_cons_zero,List.set_cons_succ])
 iterate 3 (refine DU (by rfl) (λwq=>by go_simp;with_reducible rfl) ?_;simp only [Act.put,List.setIfInBounds_toArray,List.set_cons_zero,List.set_cons_succ])
 iterate 1 (refine Gc (by rfl) (λwq hq=>by obtain ⟨hq0,hq1⟩:=hq;go_simp;with_reducible rfl) ?_;simp only [Act.put,List.setIfInBounds_toArray,List.set_cons_zero,List.set_cons_succ])
 refine KX ?_
 go_wp2_with fail
 have HDT:=Lib.hid (Tryz.utf8_DecodeRuneInString (src.extract a src.size) w2.drew ((HG.out.below HB2.out hNB).drew).utf)
 have HTL:=Lib.hid (Hw src a)
 generalize hL:(bs src).drop a=L at *
 generalize hsx:src.extract a src.size=sx at *
 have HL:=Lib.hid hL
 clear hL hsx
 cases hLc:L with
 | nil =>
  subst hLc
  have he:sx.toList.isEmpty=true:=by
   rw [Lib.toList_data]
   show (bs sx).isEmpty=true
   rw [HTL.out];rfl
  refine HDT.out.mono ?_
  rintro e w3 ⟨rfl,hb3⟩
  have HB3:=Lib.hid (HB2.out.drew.trans (hb3.mono (by have:=HB2.out.size;simp;omega)))
  have N5:=Lib.hid (Lj.out.drew.later hb3)
  clear hb3 hb c0 c1
  go_wp2_with fail
  go_ret
  rw [<- HR9.out]
  exact ⟨rfl,N5.out,HB3.out⟩
 | cons c t =>
  have hne:¬ (c :: t=([]:Bs)):=by simp
  rw [hLc] at HL HTL HR9
  have HDG:=Lib.hid (A0q sx (by rw [HTL.out];simp))
  rw [HTL.out] at HDG
  have Vu:=S0 (c :: t)
  generalize hr:(B1 (c :: t)).1=r at *
  have Lh:=Lib.hid hr
  clear hr hLc
  have he:=Tx sx c t HTL.out
  have WW:=HDT.out
  rw [show (Lib.decodeGo sx).1=r by rw [HDG.out];exact Lh.out] at WW
  refine WW.mono ?_
  rintro e w3 ⟨rfl,hb3⟩
  have HB3:=Lib.hid (HB2.out.drew.trans (hb3.mono (by have:=HB2.out.size;simp;omega)))
  have N5:=Lib.hid (Lj.out.drew.later hb3)
  have hw3:B<=w3.heap.size:=by have:=HB3.out.size;omega
  have HG3:=Lib.hid (HG.out.below HB3.out hNB)
  clear hb3 hb c0 c1 HDT WW HDG
  obtain ⟨hb,c0,c1⟩:=N5.out.reads
  have HPX:=Lib.hid (TO sx [45,45])
  rw [HTL.out] at HPX
  by_cases hpre:([45,45]:Bs).isPrefixOf (c :: t)=true
  ·rw [hpre] at HPX
   have Mz:=Lib.hid hpre
   clear hpre
   go_wp2_with fail
   refine (HPX.out w3).mono ?_
   rintro e w' ⟨rfl,rfl⟩
   have hn:=Kv KJ ((bs src).drop a)
   rw [BU,BY,HL.out] at hn
   have HRL:=Lib.hid (run_any 79 KJ sb a src w3.drew Btv hb c0 c1 hza (by omega))
   rw [HL.out] at HRL
   obtain ⟨n,hn2⟩:∃ n,B5 KJ (c :: t)=n:=⟨_,rfl⟩
   rw [hn2] at hn HRL
   have HRN:=Lib.hid hn2
   clear hn2
   have hzn:=wrap_in ((a:Int)+n) (by omega) (by omega)
   rw [show (a:Int)+n=((a+n:Nat):Int) by omega] at hzn
   obtain ⟨an,han⟩:∃ an,a+n=an:=⟨_,rfl⟩
   rw [han] at hzn
   have By9:(a:Int)+n=an:=by omega
   go_wp2_with fail
   refine K0 [(0,0),(1,0),(2,0),(3,3),(4,0),(5,1)] (λw'=>w'.cell? ⟨sb,1,none⟩=some (.int .i64 a)) (by kernel_rfl) (by kernel_rfl) (λ_ _ d _ _ h=>by cases d <;> exact h) (by first | exact c1 | exact (hb4.cell (p:=⟨sb,1,none⟩) hb).trans c1) ?_
   simp only [DJ,List.filterMap_cons,List.filterMap_nil,List.getElem?_toArray,List.getElem?_cons_zero,List.getElem?_cons_succ,Option.map_some,List.drop_succ_cons,List.drop_zero,AW,Bp]
   iterate 3 (refine DU (by rfl) (λwq=>by go_simp;with_reducible rfl) ?_;simp only [Act.put,List.setIfInBounds_toArray,List.set_cons_zero,List.set_cons_succ])
   iterate 1 (refine Gc (by rfl) (λwq hq1=>by go_simp;with_reducible rfl) ?_;simp only [Act.put,List.setIfInBounds_toArray,List.set_cons_zero,List.set_cons_succ])
   iterate 1 (refine DU (by rfl) (λwq=>by go_simp;with_reducible rfl) ?_;simp only [Act.put,List.setIfInBounds_toArray,List.set_cons_zero,List.set_cons_succ])
   refine PN ?_ ?_
   ·rfl
   intro K hK
   (go_wp2_with fail;refine HRL.out.mono ?_;rintro e w4 ⟨rfl,hb4⟩;go_wp2_with fail)
   refine ⟨by first | exact c1 | exact (hb4.cell (p:=⟨sb,1,none⟩) hb).trans c1,?_⟩
   refine KX ?_
   have U9:=Lib.hid (N5.out.drew.later hb4)
   have HB4:=Lib.hid (HB3.out.drew.trans (hb4.mono hw3))
   clear hb c0 c1 hb4
   obtain ⟨hb,c0,c1⟩:=U9.out.reads
   have hfr:=U9.out.free 1
   go_wp2_with fail
   go_ret
   have hgg:=HR9.out
   unfold D6 at hgg
   rw [Lh.out,if_neg hne,if_pos Mz.out,HRN.out] at hgg
   rw [<- hgg]
   refine ⟨rfl,?_,HB4.out.setCell (p:=⟨sb,1,none⟩) U9.out.base (.int .i64 an)⟩
   rw [han]
   exact U9.out.move an
  ·have hpre':([45,45]:Bs).isPrefixOf (c :: t)=false:=Bool.eq_false_iff.2 hpre
   rw [hpre'] at HPX
   have Mz:=Lib.hid hpre
   clear hpre hpre'
   go_wp2_with fail
   refine (HPX.out w3).mono ?_
   rintro e w' ⟨rfl,rfl⟩
   cases hlet:HY r with
   | true =>
    have N4:=Lib.hid hlet
    have HLC:=Lib.hid (Abt.2 r w3 Vu)
    rw [hlet] at HLC
    clear hlet
    go_wp2_with fail
    refine HLC.out.mono ?_
    rintro e w' ⟨rfl,rfl⟩
    have HNM:=Lib.hid (name_any B sb a src l w3 N5.out HG3.out hza hs hll hw3)
    rw [HL.out] at HNM
    by_cases h40:B5 Cl (c :: t) > 40
    ·have O3:=Lib.hid (HNM.out.mono λe w' h=>(by unfold O6 at h;rw [if_pos h40] at h;exact h:e=JU 14 a/\Below B w3 w'))
     go_wp2_with fail
     refine O3.out.mono ?_
     rintro e w4 ⟨rfl,hb4⟩
     go_wp2_with fail
     refine ⟨rfl,?_⟩
     have hgg:=HR9.out
     unfold D6 at hgg
     rw [Lh.out,if_neg hne,if_neg Mz.out,if_pos N4.out] at hgg
     dsimp only at hgg
     rw [if_pos h40] at hgg
     rw [<- hgg]
     exact ⟨rfl,HB3.out.trans hb4⟩
    ·have O3:=Lib.hid (HNM.out.mono λe w' h=>(by unfold O6 at h;rw [if_neg h40] at h;exact h:e=.returned (.tuple #[])/\Sc B sb src (a+B5 Cl (c :: t)) (l++[⟨if L3 ((c :: t).take (B5 Cl (c :: t))) then 2 else 1,(c :: t).take (B5 Cl (c :: t)),0,a⟩]) w'/\Below B w3 w'))
     go_wp2_with fail
     refine O3.out.mono ?_
     rintro e w4 ⟨rfl,Hf,hb4⟩
     go_wp2_with fail
     go_ret
     have hgg:=HR9.out
     unfold D6 at hgg
     rw [Lh.out,if_neg hne,if_neg Mz.out,if_pos N4.out] at hgg
     dsimp only at hgg
     rw [if_neg h40] at hgg
     rw [<- hgg]
     exact ⟨rfl,Hf,HB3.out.trans hb4⟩
   | false =>
    have N4:=Lib.hid (show ¬ HY r=true by rw [hlet];simp)
    have HLC:=Lib.hid (Abt.2 r w3 Vu)
    rw [hlet] at HLC
    clear hlet
    go_wp2_with fail
    refine HLC.out.mono ?_
    rintro e w' ⟨rfl,rfl⟩
    cases hdig:GF r with
    | true =>
     have Qr:=Lib.hid hdig
     have HDC:=Lib.hid (W5.2 r w3 Vu)
     rw [hdig] at HDC
     clear hdig
     go_wp2_with fail
     refine HDC.out.mono ?_
     rintro e w' ⟨rfl,rfl⟩
     have HNM:=Lib.hid (Bj5 B sb a src l w3 N5.out hza hs hll hw3)
     rw [HL.out] at HNM
     by_cases h40:(F6 ((c :: t).take (B5 Cl (c :: t)))).2≠0
     ·have O3:=Lib.hid (HNM.out.mono λe w' h=>(by unfold NumEnd at h;rw [if_pos h40] at h;exact h:e=JU (F6 ((c :: t).take (B5 Cl (c :: t)))).2 a/\Below B w3 w'))
      go_wp2_with fail
      refine O3.out.mono ?_
      rintro e w4 ⟨rfl,hb4⟩
      go_wp2_with fail
      refine ⟨rfl,?_⟩
      have hgg:=HR9.out
      unfold D6 at hgg
      rw [Lh.out,if_neg hne,if_neg Mz.out,if_neg N4.out,if_pos Qr.out] at hgg
      dsimp only at hgg
      rw [if_pos h40] at hgg
      rw [<- hgg]
      exact ⟨rfl,HB3.out.trans hb4⟩
     ·have O3:=Lib.hid (HNM.out.mono λe w' h=>(by unfold NumEnd at h;rw [if_neg h40] at h;exact h:e=.returned (.tuple #[])/\Sc B sb src (a+B5 Cl (c :: t)) (l++[⟨3,(c :: t).take (B5 Cl (c :: t)),(F6 ((c :: t).take (B5 Cl (c :: t)))).1,a⟩]) w'/\Below B w3 w'))
      go_wp2_with fail
      refine O3.out.mono ?_
      rintro e w4 ⟨rfl,Hf,hb4⟩
      go_wp2_with fail
      go_ret
      have hgg:=HR9.out
      unfold D6 at hgg
      rw [Lh.out,if_neg hne,if_neg Mz.out,if_neg N4.out,if_pos Qr.out] at hgg
      dsimp only at hgg
      rw [if_neg h40] at hgg
      rw [<- hgg]
      exact ⟨rfl,Hf,HB3.out.trans hb4⟩
    | false =>
     have Qr:=Lib.hid (show ¬ GF r=true by rw [hdig];simp)
     have HDC:=Lib.hid (W5.2 r w3 Vu)
     rw [hdig] at HDC
     clear hdig
     go_wp2_with fail
     refine HDC.out.mono ?_
     rintro e w' ⟨rfl,rfl⟩
     by_cases hq:r=34\/r=39
     ·have hc:(c :: t).getD 0 0=c:=rfl
      have hcr:c.toNat=r:=by
       have:=A0j (c :: t) (by rw [Lh.out];omega)
       rw [Lh.out] at this
       exact this
      have HQ:=Lib.hid hq
      have hwr:IntKind.u8.wrap (r:Int)=c.toNat:=by
       rw [hcr]
       rcases HQ.out with h | h <;> rw [h] <;> rfl
      have hcu:UInt8.ofNat r=c:=by rw [<- hcr];simp
      have hlen5:src.size<=100000:=hs
      have HTX:=Lib.hid (Buj B sb a src l c t w3 N5.out HL.out hs hll hw3)
      have HCU:=Lib.hid hcu
      clear hcu hcr hc
      generalize htx:Fs c (c :: t).length t [] 1=TX at *
      have HTE:=Lib.hid htx
      clear htx
      have key:∀ e w',Afb TX B sb a src l w3 e w'->True:=λ_ _ _=>trivial
      have hgg:=HR9.out
      unfold D6 at hgg
      rw [Lh.out,if_neg hne,if_neg Mz.out,if_neg N4.out,if_neg Qr.out,if_pos HQ.out,HCU.out] at hgg
      rw [List.tail_cons,HTE.out] at hgg
      have HGG:=Lib.hid hgg
      clear hgg key
      rcases hq with hq | hq
      ·have hq1:((r:Int) == 34)=true:=by rw [beq_iff_eq];omega
       clear hq
       go_wp2_with fail
       refine HTX.out.mono ?_
       cases TX with
       | bad ec er =>
        rintro e w4 ⟨rfl,hb4⟩
        go_wp2_with fail
        refine ⟨rfl,?_⟩
        rw [<- HGG.out]
        exact ⟨rfl,HB3.out.trans hb4⟩
       | ok ev en =>
        rintro e w4 ⟨rfl,Hf,hb4⟩
        go_wp2_with fail
        go_ret
        rw [<- HGG.out]
        exact ⟨rfl,Hf,HB3.out.trans hb4⟩
      ·have hq1:((r:Int) == 34)=false:=by rw [beq_eq_false_iff_ne];omega
       have hq2:((r:Int) == 39)=true:=by rw [beq_iff_eq];omega
       clear hq
       go_wp2_with fail
       refine HTX.out.mono ?_
       cases TX with
       | bad ec er =>
        rintro e w4 ⟨rfl,hb4⟩
        go_wp2_with fail
        refine ⟨rfl,?_⟩
        rw [<- HGG.out]
        exact ⟨rfl,HB3.out.trans hb4⟩
       | ok ev en =>
        rintro e w4 ⟨rfl,Hf,hb4⟩
        go_wp2_with fail
        go_ret
        rw [<- HGG.out]
        exact ⟨rfl,Hf,HB3.out.trans hb4⟩
     ·have hq1:((r:Int) == 34)=false:=by rw [beq_eq_false_iff_ne];omega
      have hq2:((r:Int) == 39)=false:=by rw [beq_eq_false_iff_ne];omega
      have HSG:=Lib.hid (Btk B sb a src l w3 N5.out HG3.out hza hs hll hw3)
      rw [HL.out] at HSG
      go_wp2_with fail
      refine HSG.out.mono ?_
      have HQ:=Lib.hid hq
      cases hsg:Nq (c :: t) with
      | none =>
       have WY:=Lib.hid hsg
       rintro e w4 ⟨rfl,hb4⟩
       clear hsg
       go_wp2_with fail
       refine ⟨rfl,?_⟩
       have hgg:=HR9.out
       unfold D6 at hgg
       rw [Lh.out,if_neg hne,if_neg Mz.out,if_neg N4.out,if_neg Qr.out,if_neg HQ.out,WY.out] at hgg
       rw [<- hgg]
       exact ⟨rfl,HB3.out.trans hb4⟩
      | some sg =>
       have WY:=Lib.hid hsg
       rintro e w4 ⟨rfl,Hf,hb4⟩
       clear hsg
       go_wp2_with fail
       go_ret
       have hgg:=HR9.out
       unfold D6 at hgg
       rw [Lh.out,if_neg hne,if_neg Mz.out,if_neg N4.out,if_neg Qr.out,if_neg HQ.out,WY.out] at hgg
       rw [<- hgg]
       exact ⟨rfl,Hf,HB3.out.trans hb4⟩
set_option maxHeartbeats 2000000 in
theorem Btd (p q:Nat) (x:Value) (y1 y2:Int) (c a:Int) (w:World) (hp:w.cell? ⟨p,0,none⟩=some x) (hq0:w.cell? ⟨q,0,none⟩=some (.int .i64 y1)) (hq1:w.cell? ⟨q,1,none⟩=some (.int .i64 y2))
  (fp:w.frozen? ⟨p,0,none⟩=false) (fq:w.frozen? ⟨q,0,none⟩=false) (fq1:w.frozen? ⟨q,1,none⟩=false) (hpl:p < w.heap.size) (hql:q < w.heap.size) (hne:p < q) :
  CallsD Tryz.prog 38 #[.pointer (some ⟨p,0,none⟩),.pointer (some ⟨q,0,none⟩)] (.panicking [{ v:=.iface 102 (.agg #[.int .i64 c,.int .i64 a]),recovered:=false }]) w λe u' w' =>
   e=.returned (.tuple #[])/\u'=.panicking [{ v:=.iface 102 (.agg #[.int .i64 c,.int .i64 a]),recovered:=true }] /\
   w'.cell? ⟨p,0,none⟩=some (.slice none 0 0)/\w'.cell? ⟨q,0,none⟩=some (.int .i64 c)/\w'.cell? ⟨q,1,none⟩=some (.int .i64 a)/\Below p w w':=by
 refine callsD_of_wpS Tryz.func38 rfl λc₀ cs hu=>?_
 have hta:∀ w,(Instr.typeAssert (.iface 102 (.agg #[.int .i64 c,.int .i64 a])) 20 102 true).run Tryz.prog w=.ok (.tuple #[.agg #[.int .i64 c,.int .i64 a],.bool true]) w:=λw=>by kernel_rfl
 apply wpS_seq
 apply wpS_region
 simp [wpOpsS,go_sem,recoverD,hu,Tryz.ntmps38,Exit.thenS,Array.replicate_succ]
 refine wpS_of_wp ?_
 go_wp2
 have hpn:¬ w.heap.size=p:=by omega
 have hqn:¬ w.heap.size=q:=by omega
 have hpq:¬ p=q:=by omega
 have hqp:¬ q=p:=by omega
 have Byz:¬ p=w.heap.size:=by omega
 have By2:¬ q=w.heap.size:=by omega
 refine K0 [(0,3),(1,1)] (λw'=>w'.cell? ⟨w.heap.size,0,none⟩=some (.int .i64 c)/\w'.cell? ⟨w.heap.size,1,none⟩=some (.int .i64 a)) (by kernel_rfl) (by kernel_rfl) (λ_ _ d _ _ h=>by cases d <;> exact h) (by refine ⟨?_,?_⟩ <;> go_simp) ?_
 simp only [DJ,List.filterMap_cons,List.filterMap_nil,List.getElem?_toArray,List.getElem?_cons_zero,List.getElem?_cons_succ,Option.map_some,List.drop_succ_cons,List.drop_zero,AW,Bp]
 iterate 1 (refine Gc (by rfl) (λwq hq=>by obtain ⟨hq0,hq1⟩:=hq;go_simp;with_reducible rfl) ?_;simp only [Act.put,List.setIfInBounds_toArray,List.set_cons_zero,List.set_cons_succ])
 refine PN ?_ ?_
 ·rfl
 intro K hK
 go_wp2
 refine ⟨by refine ⟨?_,?_⟩ <;> go_simp,?_⟩
 refine KX ?_
 go_wp2
 simp [bodyPostS,results,Tryz.results38]
 refine ⟨?_,?_,?_,?_⟩
 ·go_simp
 ·go_simp
 ·go_simp
 ·exact (((((Below.refl p w).setCell (p:=⟨p,0,none⟩) (Nat.le_refl _) _).setCell (p:=⟨q,0,none⟩) (Nat.le_of_lt hne) _).setCell (p:=⟨q,1,none⟩) (Nat.le_of_lt hne) _).alloc (by simp;omega) _).drew
theorem Bta (p q:Value) (w:World) :
  CallsD Tryz.prog 38 #[p,q] .returning w λe u' w'=>e=.returned (.tuple #[])/\u'=.returning/\w=w':=by
 refine callsD_of_wpS Tryz.func38 rfl λc₀ cs hu=>?_
 apply wpS_seq
 apply wpS_region
 simp [wpOpsS,go_sem,recoverD,hu,Tryz.ntmps38,Exit.thenS,Array.replicate_succ]
 refine wpS_of_wp ?_
 go_wp2
 cases c₀
 simp_all [bodyPostS,results,Tryz.results38]
end
section
namespace Lx
theorem Abe (p:Nat->Bool) (l:Bs) (hl:l≠[]) (h:p (B1 l).1=true):1<=B5 p l:=by
 rw [Np p l hl,if_pos h];have:=(Jq l).1;omega
theorem Ats (l:Bs) (n:Nat) (h:D6 l=.skip n):1<=n/\n<=l.length:=by
 unfold D6 at h;by_cases h0:l=[]
 ·rw [if_pos h0] at h;cases h
 rw [if_neg h0] at h;by_cases h1:[45,45].isPrefixOf l=true
 ·rw [if_pos h1] at h
  cases h;refine ⟨Abe _ _ h0 ?_,Kv _ _⟩;obtain ⟨t,rfl⟩:=List.isPrefixOf_iff_prefix.1 h1;rfl
 ·rw [if_neg h1] at h
  exfalso;dsimp only at h
  (repeat' split at h) <;> cases h
theorem Aj0:∀ (m:Nat) (t:Bs) (n k:Nat),(BZ m t n k).2<=k+t.length
 | 0,t,n,k=>by simp [BZ]
 | m+1,[],n,k=>by simp [BZ]
 | m+1,b :: t,n,k=>by
  simp only [BZ];split;simp;rename_i d _;have:=Aj0 m t (16 * n+d) (k+1);simp only [AW];omega
theorem Agw:∀ (m:Nat) (t:Bs) (n k:Nat),(DI m t n k).2<=k+t.length
 | 0,t,n,k=>by simp [DI]
 | m+1,[],n,k=>by simp [DI]
 | m+1,b :: t,n,k=>by
  simp only [DI];split;have:=Agw m t (10 * n+(b.toNat - 48)) (k+1);simp only [AW];omega;simp
theorem A2m (l e:Bs) (n:Nat) (h:IR l=.ok e n):2<=n/\n<=l.length+1:=by
 cases l with
 | nil=>cases h
 | cons c t =>
  simp only [IR] at h;split at h;cases h;simp;split at h;split at h;cases h;rename_i h2;cases h;have:=Aj0 2 t 0 0;have:(BZ 2 t 0 0).2<=2:=by
   have hb:∀ m (t:Bs) n k,(BZ m t n k).2<=k+m:=by
    intro m;induction m with
    | zero=>intros;simp [BZ]
    | succ m ih =>
     intro t n k;cases t with
     | nil=>simp [BZ]
     | cons b t =>
      simp only [BZ];split;simp;rename_i d _;have:=ih t (16 * n+d) (k+1);omega
   exact hb 2 t 0 0
  simp only [AW];omega;split at h;rename_i h3;split at h;cases h;rename_i h4;simp only [Qp.ok.injEq] at h;obtain ⟨-,rfl⟩:=h;cases t with
  | nil=>simp at h3
  | cons d t =>
   simp only [List.tail_cons,not_or,Decidable.not_not] at h4 ⊢;have h5:=h4.2.2;have:(BZ 8 t 0 0).2 < t.length:=by
    rcases Nat.lt_or_ge (BZ 8 t 0 0).2 t.length with h | h;exact h;rw [List.drop_of_length_le h] at h5;simp at h5
   simp only [AW];omega
  split at h;cases h;rename_i h4;simp only [Qp.ok.injEq] at h;obtain ⟨-,rfl⟩:=h;have:=Agw 3 (c :: t) 0 0;simp only [not_or] at h4;omega
theorem Acg (q:UInt8):∀ (f:Nat) (l acc:Bs) (i:Nat) (v:Bs) (k:Nat),Fs q f l acc i=.ok v k->i < k/\k<=i+l.length
 | 0,l,acc,i,v,k,h=>by cases h
 | f+1,[],acc,i,v,k,h=>by cases h
 | f+1,b :: t,acc,i,v,k,h=>by
  simp only [Fs] at h;split at h;cases h;split at h;split at h;cases h;cases h;simp;split at h;split at h;cases h;cases h;rename_i e n he;have h1:=A2m t e n he;have h2:=Acg q f _ _ _ v k h;rw [BU] at h2;simp only [AW] at h2 ⊢;omega;have h2:=Acg q f _ _ _ v k h;simp only [AW];omega
theorem Atu (l:Bs) (k:Int) (t:Bs) (n:Int) (len:Nat) (h:D6 l=.tok k t n len):1<=len/\len<=l.length:=by
 unfold D6 at h;by_cases h0:l=[];rw [if_pos h0] at h;cases h;rw [if_neg h0] at h;have hl:1<=l.length:=by cases l with | nil=>exact absurd rfl h0 | cons=>simp
 by_cases h1:[45,45].isPrefixOf l=true;rw [if_pos h1] at h;cases h;rw [if_neg h1] at h;by_cases h2:HY (B1 l).1=true;rw [if_pos h2] at h;dsimp only at h;split at h;cases h;cases h;exact ⟨Abe _ _ h0 (by unfold Cl;rw [h2];rfl),Kv _ _⟩;rw [if_neg h2] at h;by_cases h3:GF (B1 l).1=true;rw [if_pos h3] at h;dsimp only at h;split at h;cases h;cases h;exact ⟨Abe _ _ h0 (by unfold Cl;rw [h3];simp),Kv _ _⟩;rw [if_neg h3] at h;split at h;split at h;cases h;rename_i v k' ht;cases h;have:=Acg _ _ _ _ _ _ _ ht;rw [List.length_tail] at this;omega;split at h;cases h;rename_i s hs;cases h;have hm:=List.mem_of_find?_eq_some hs;have hp:=List.find?_some hs;have:∀ s ∈ Ht,1<=s.length:=by decide
 refine ⟨this _ hm,?_⟩;exact (List.isPrefixOf_iff_prefix.1 hp).length_le
end Lx
end
section
open Go Go.RowKit Lx
def Xa (R:(Int×Int) ⊕ List Tok) (w:World) (e:Ending) (w':World):Prop :=
 match R with
 | .inl (c,a)=>e=.returned (.tuple #[.slice none 0 0,.agg #[.int .i64 c,.int .i64 a]])/\Below w.heap.size w w'
 | .inr l=>∃ lv,e=.returned (.tuple #[lv,.agg #[.int .i64 0,.int .i64 0]])/\w'.ownsRow w.heap.size 82 4 lv l.length (LP l)/\Below w.heap.size w w'
def posOf (sb:Nat) (w:World):Nat:=match w.cell? ⟨sb,1,none⟩ with | some (.int _ k)=>k.toNat | _=>0
theorem Wm {B sb at_:Nat} {src:Ah} {l:List Tok} {w:World} (h:Sc B sb src at_ l w):posOf sb w=at_:=by
 unfold posOf;rw [h.reads.2.2];simp
theorem Bsv (src:Ah) (B:Nat) (w:World) (hB:B<=w.heap.size):Sc B w.heap.size src 0 [] (w.alloc (.cells #[.string src,.int .i64 0,.slice none 0 0] 105)) :=
 ⟨.slice none 0 0,Lo w _,⟨by simp [LP],.inl ⟨rfl,rfl⟩⟩,by simp [Value.ownBlock],hB⟩
theorem ownsRow_base {w:World} {B B':Nat} {e:TypeId} {size n:Nat} {v:Value} {xs:List Value} (h:w.ownsRow B e size v n xs) (hB:B'<=B):w.ownsRow B' e size v n xs:=by
 refine ⟨h.1,?_⟩;rcases h.2 with h | ⟨g,cap,cur,hv,hg,r⟩;exact .inl h;exact .inr ⟨g,cap,cur,hv,by omega,r⟩
set_option maxHeartbeats 4000000 in
theorem Bs6 (src:Ah) (w:World) (hs:src.size > 20000):Calls Tryz.prog 20 #[.string src] w (Xa (.inl (14,-1)) w):=by
 have hz:(20000:Int) < src.size:=by omega
 go_enter_defers Tryz.func20,Tryz.ntmps20
 go_wp2_with fail
 simp [bodyPostD,Leaves,settle,results,Tryz.results20,go_sem]
 exact ⟨rfl,(((Below.refl w.heap.size w).alloc (Nat.le_refl _) _).alloc (by simp) _)⟩
set_option maxHeartbeats 4000000 in
theorem Bte (src:Ah) (w:World) (hs:src.size<=20000) (hg:Gl w):Calls Tryz.prog 20 #[.string src] w (Xa (Hs (src.size+1) (bs src) 0 []) w):=by
 obtain ⟨R9,hR9⟩:∃ R9,Hs (src.size+1) (bs src) 0 []=R9:=⟨_,rfl⟩
 rw [hR9]
 have HR9:=Lib.hid hR9
 have HG:=Lib.hid hg
 have hz:¬ (20000:Int) < src.size:=by omega
 clear hR9 hg
 have hmf:∀ (fn:Fn) (first cap:Array Value) (w:World),(Instr.makeFunc fn first cap).run Tryz.prog w=.ok (.func fn first cap) w:=λ_ _ _ _=>rfl
 go_enter_defers Tryz.func20,Tryz.ntmps20
 go_wp2_with fail
 have U8:=Bsv src (w.heap.size+2) ((w.alloc (.cells #[.slice none 0 0] 73)).alloc (.cells #[.int .i64 0,.int .i64 0] 28)) (by simp)
 simp only [World.size_alloc] at U8
 have U8:=Lib.hid U8
 have HBP:=Lib.hid (M5 (o':=.cells #[.string src,.int .i64 0,.slice none 0 0] 105) (M5 (o':=.cells #[.int .i64 0,.int .i64 0] 28) (Lo w (.cells #[.slice none 0 0] 73))))
 have hbq:=M5 (o':=.cells #[.string src,.int .i64 0,.slice none 0 0] 105) (Lo (w.alloc (.cells #[.slice none 0 0] 73)) (.cells #[.int .i64 0,.int .i64 0] 28))
 simp only [World.size_alloc] at hbq
 have HBQ:=Lib.hid hbq
 have HB0:=Lib.hid ((((Below.refl w.heap.size w).alloc (Nat.le_refl _) (.cells #[.slice none 0 0] 73)).alloc (by simp) (.cells #[.int .i64 0,.int .i64 0] 28)).alloc (by simp;omega) (.cells #[.string src,.int .i64 0,.slice none 0 0] 105))
 clear hbq
 generalize hw3:((w.alloc (.cells #[.slice none 0 0] 73)).alloc (.cells #[.int .i64 0,.int .i64 0] 28)).alloc (.cells #[.string src,.int .i64 0,.slice none 0 0] 105)=w3 at *
 have hsz3:w3.heap.size=w.heap.size+3:=by rw [<- hw3];simp
 clear hw3
 go_loopw [] (λwr=>∃ (at_ f:Nat) (l:List Tok),at_<=src.size/\l.length<=at_/\src.size - at_+1<=f/\Hid (Sc (w.heap.size+2) (w.heap.size+1+1) src at_ l wr)/\Hid (Hs f ((bs src).drop at_) at_ l=R9)/\Hid (Below (w.heap.size+2) w3 wr)) (λwr=>src.size - posOf (w.heap.size+1+1) wr)
 case atStart=>exact ⟨0,src.size+1,[],by omega,by simp,by omega,U8,HR9,Below.refl _ _⟩
 case round =>
  obtain ⟨at_,f,l,h1,h2,h3,HSC,HGG,HBL⟩:=hrel
  have By4:=HBL.out.size
  have HNX:=next_any (w.heap.size+2) (w.heap.size+1+1) at_ src l wr HSC.out ((HG.out.below HB0.out HG.out.size).below HBL.out (by have:=HG.out.size;omega)) h1 (by omega) (by omega) (by omega) (by have:=HG.out.size;omega)
  obtain ⟨f,rfl⟩:∃ g,f=g+1:=⟨f - 1,by omega⟩
  have hg:=HGG.out
  simp only [Hs] at hg
  have hk:=Kv CE ((bs src).drop at_)
  generalize B5 CE ((bs src).drop at_)=k at *
  have hlen:(((bs src).drop at_).drop k).length=src.size - at_ - k:=by rw [BU,BU,BY]
  rw [BU,BY] at hk
  cases hst:D6 (((bs src).drop at_).drop k) with
  | done =>
   rw [hst] at hg HNX
   simp only at hg
   have HN:=Lib.hid HNX
   have HE:=Lib.hid hg
   clear hg HNX hst hlen HGG
   go_wp2_with fail
   refine HN.out.mono ?_
   rintro e w4 ⟨rfl,Hf,hb4⟩
   have LX:=Lib.hid (add_any (w.heap.size+2) (w.heap.size+1+1) (at_+k) src l 0 6 0 0 ByteArray.empty w4 Hf (by have:=hb4.size;omega) (by omega) (by omega))
   have HB4:=Lib.hid (HBL.out.trans hb4)
   clear Hf hb4
   go_wp2_with fail
   refine LX.out.mono ?_
   rintro e w5 ⟨rfl,Bep,hb5⟩
   have HB5:=Lib.hid (HB4.out.trans hb5)
   have hlen5:(l++[(⟨6,bs ByteArray.empty,0,at_+k⟩:Tok)]).length=l.length+1:=by simp
   obtain ⟨lv,hblk,hown,hne,hsb⟩:=Bep
   rw [hlen5] at hown
   obtain ⟨g,cap,hv,hg1,hg2⟩:=Aae hown hblk (by decide)
   subst hv
   have c2:w5.cell? ⟨w.heap.size+1+1,2,none⟩=some (.slice (some ⟨g,0,none⟩) (l.length+1) cap):=by rw [FO hblk];rfl
   have hb0:=K9 hblk
   have HOWN:=Lib.hid hown
   have hp:=Ln HB5.out (by omega) HBP.out
   have hq:=Ln HB5.out (by omega) HBQ.out
   have p0:w5.cell? ⟨w.heap.size,0,none⟩=some (.slice none 0 0):=by rw [FO hp];rfl
   have q0:w5.cell? ⟨w.heap.size+1,0,none⟩=some (.int .i64 0):=by rw [FO hq];rfl
   have q1:w5.cell? ⟨w.heap.size+1,1,none⟩=some (.int .i64 0):=by rw [FO hq];rfl
   have pf:=JP hp 0
   have qf0:=JP hq 0
   have qf1:=JP hq 1
   clear hsb hne hown hblk hp hq hb5 hlen5
   go_wp2_with fail
   have hgp:¬ w.heap.size=g:=by omega
   have hgq:¬ w.heap.size+1=g:=by omega
   have r0:(((w5.setCell ⟨w.heap.size,0,none⟩ (.slice (some ⟨g,0,none⟩) (l.length+1) cap)).setCell ⟨w.heap.size+1,0,none⟩ (.int .i64 0)).setCell ⟨w.heap.size+1,1,none⟩ (.int .i64 0)).cell? ⟨w.heap.size,0,none⟩=some (.slice (some ⟨g,0,none⟩) (l.length+1) cap):=by go_simp
   have r1:(((w5.setCell ⟨w.heap.size,0,none⟩ (.slice (some ⟨g,0,none⟩) (l.length+1) cap)).setCell ⟨w.heap.size+1,0,none⟩ (.int .i64 0)).setCell ⟨w.heap.size+1,1,none⟩ (.int .i64 0)).cell? ⟨w.heap.size+1,0,none⟩=some (.int .i64 0):=by go_simp
   have r2:(((w5.setCell ⟨w.heap.size,0,none⟩ (.slice (some ⟨g,0,none⟩) (l.length+1) cap)).setCell ⟨w.heap.size+1,0,none⟩ (.int .i64 0)).setCell ⟨w.heap.size+1,1,none⟩ (.int .i64 0)).cell? ⟨w.heap.size+1,1,none⟩=some (.int .i64 0):=by go_simp
   generalize hw9:((w5.setCell ⟨w.heap.size,0,none⟩ (.slice (some ⟨g,0,none⟩) (l.length+1) cap)).setCell ⟨w.heap.size+1,0,none⟩ (.int .i64 0)).setCell ⟨w.heap.size+1,1,none⟩ (.int .i64 0)=w9 at *
   have HR:Hid (w9.ownsRow (w.heap.size+2) 82 4 (.slice (some ⟨g,0,none⟩) (l.length+1) cap) (l.length+1) (LP (l++[⟨6,bs ByteArray.empty,0,at_+k⟩]))):=by
    refine ⟨HOWN.out.1,?_⟩
    rcases HOWN.out.2 with ⟨h,_⟩ | ⟨g',cap',cur,hv,hg,hh,r⟩
    ·cases h
    ·cases hv
     rw [<- hw9]
     exact .inr ⟨g,cap,cur,rfl,hg,M6 (M6 (M6 hh hgp _) hgq _) hgq _,r⟩
   have HB9:Hid (Below w.heap.size w w9):=by
    rw [<- hw9]
    exact (((HB0.out.trans (HB5.out.mono (by omega))).setCell (p:=⟨w.heap.size,0,none⟩) (Nat.le_refl _) _).setCell (p:=⟨w.heap.size+1,0,none⟩) (by simp) _).setCell (p:=⟨w.heap.size+1,1,none⟩) (by simp) _
   clear hw9 HBP HBQ HSC HB4 HBL HN LX p0 q0 q1 pf qf0 qf1 c2
   refine leaves_cons (f:=38) (args:=#[.pointer (some ⟨w.heap.size,0,none⟩),.pointer (some ⟨w.heap.size+1,0,none⟩)]) (by simp) (by simp [go_sem]) ?_
   refine (Bta _ _ _).mono ?_
   rintro e u' w'' ⟨rfl,rfl,rfl⟩
   rw [<- HE.out]
   simp [Leaves,settle,results,Tryz.results20,go_sem,r0,r1,r2]
   refine ⟨.slice (some ⟨g,0,none⟩) (l.length+1) cap,rfl,?_,HB9.out⟩
   have h9:=HR.out
   rw [show bs ByteArray.empty=[] from rfl] at h9
   exact ownsRow_base (B:=w.heap.size+2) (B':=w.heap.size) (by rw [BQ];exact h9) (Nat.le_add_right _ _)
  | skip n =>
   rw [hst] at hg HNX
   have hn:=Ats _ _ hst
   simp only at hg
   have HN:=Lib.hid HNX
   have HE:=Lib.hid hg
   clear hg HNX hst HGG
   go_wp2_with fail
   refine HN.out.mono ?_
   rintro e w4 ⟨rfl,Hf,hb4⟩
   have hpo:=Wm Hf
   have Ym:=Wm HSC.out
   go_wp2_with fail
   go_roundw
   case rel =>
    refine ⟨at_+k+n,f,l,by omega,by omega,by omega,Hf,?_,HBL.out.trans hb4⟩
    unfold Hid
    rw [<- HE.out,List.drop_drop,List.drop_drop,show at_+(k+n)=at_+k+n by omega]
   case measure=>rw [hpo,Ym];omega
  | tok kd tx n len =>
   rw [hst] at hg HNX
   have hn:=Atu _ _ _ _ _ hst
   simp only at hg
   have HN:=Lib.hid HNX
   have HE:=Lib.hid hg
   clear hg HNX hst HGG
   go_wp2_with fail
   refine HN.out.mono ?_
   rintro e w4 ⟨rfl,Hf,hb4⟩
   have hpo:=Wm Hf
   have Ym:=Wm HSC.out
   go_wp2_with fail
   go_roundw
   case rel =>
    refine ⟨at_+k+len,f,l++[(⟨kd,tx,n,at_+k⟩:Tok)],by omega,by rw [BQ,List.length_singleton];omega,by omega,Hf,?_,HBL.out.trans hb4⟩
    unfold Hid
    rw [<- HE.out,List.drop_drop,List.drop_drop,show at_+(k+len)=at_+k+len by omega]
   case measure=>rw [hpo,Ym];omega
  | bad c r =>
   rw [hst] at hg HNX
   simp only at hg
   have HN:=Lib.hid HNX
   have HE:=Lib.hid hg
   clear hg HNX hst HGG
   go_wp2_with fail
   refine HN.out.mono ?_
   rintro e w4 ⟨rfl,hb4⟩
   have HB4:=Lib.hid (HBL.out.trans hb4)
   go_wp2_with fail
   have hp:=Ln HB4.out (by omega) HBP.out
   have hq:=Ln HB4.out (by omega) HBQ.out
   refine leaves_cons (f:=38) (args:=#[.pointer (some ⟨w.heap.size,0,none⟩),.pointer (some ⟨w.heap.size+1,0,none⟩)]) (by simp) (by simp [go_sem]) ?_
   have hcz:(at_:Int)+k+r=((at_+k+r:Nat):Int):=by omega
   rw [hcz]
   refine (Btd w.heap.size (w.heap.size+1) (.slice none 0 0) 0 0 c ((at_+k+r:Nat):Int) w4 (by rw [FO hp];rfl) (by rw [FO hq];rfl) (by rw [FO hq];rfl) (JP hp 0) (JP hq 0) (JP hq 1) (K9 hp) (K9 hq) (by omega)).mono ?_
   rintro e u' w'' ⟨rfl,rfl,r0,r1,r2,hb9⟩
   rw [<- HE.out]
   have HB9:=Lib.hid ((HB0.out.trans (HB4.out.mono (by omega))).trans hb9)
   clear hp hq HN HBP HBQ HSC HB4 HBL hb4 hcz
   simp [Leaves,settle,results,Tryz.results20,go_sem,r0,r1,r2]
   exact ⟨rfl,HB9.out⟩
theorem Bs5 (src:Ah) (w:World) (hg:Gl w):Calls Tryz.prog 20 #[.string src] w (Xa (Gu (bs src)) w):=by
 unfold Gu;rw [BY];by_cases h:src.size > 20000;rw [if_pos h];exact Bs6 src w h;rw [if_neg h];exact Bte src w (by omega) hg
def JK (Af:N):Prop:=∀ w,Af.On w->Gl w
theorem Gl.piece {w:World} (h:Gl w):JK (Go.Proofs.YteccladehmaglaaGreatDoor.old w):=λw' hw=>by
 have hb:∀ k,k < w.heap.size->w'.heap[k]? = w.heap[k]?:=λk hk=>by
  have h1:w.heap[k]? = some w.heap[k]:=Array.getElem?_eq_getElem hk;rw [h1];exact hw k w.heap[k] h1
 have hs:w.heap.size<=w'.heap.size:=by
  rcases Nat.lt_or_ge 0 w.heap.size with h0 | h0;have:=hb (w.heap.size - 1) (by omega);have h1:w.heap[w.heap.size - 1]? = some w.heap[w.heap.size - 1]:=Array.getElem?_eq_getElem (by omega);rw [h1] at this;have:=(Array.getElem?_eq_some_iff.1 this).1;omega;omega
 have hl:Gl { w with heap:=w'.heap }:=h.below (B:=w.heap.size) ⟨rfl,rfl,rfl,hs,hb⟩ h.size;exact ⟨hl.utf,hl.space,hl.maxLen,hl.size⟩
def Gv (t:Tok):Int×Ah×Int×Int:=(t.kind,str t.text,t.n,t.at_)
theorem Aup (l:List Tok):(l.map Gv).flatMap E7=LP l:=by
 induction l with
 | nil=>rfl
 | cons t l ih=>simp only [List.map_cons,List.flatMap_cons,ih];rfl
def Ro (s:Ah):List (Int×Ah×Int×Int)×Int×Int :=
 match Gu (bs s) with
 | .inl (c,a)=>([],c,a)
 | .inr l=>(l.map Gv,0,0)
def To.f (_k:Nat) (s:Ah):Option (List (Int×Ah×Int×Int)×Int×Int):=some (Ro s)
theorem Bpv {w:World} {B:Nat} {v:Value} {l:List Tok} (h:w.ownsRow B 82 4 v l.length (LP l)):∃ A c,v=.slice A (l.map Gv).length c/\((v=.slice none 0 0/\l=[])\/∃ g cur,B<=g/\A=some ⟨g,0,none⟩/\w.heap[g]? = some (.cells cur 82 (0,0))/\AL E7 82 4 (blk g (.cells cur 82 (0,0))) v (l.map Gv)):=by
 rcases h.2 with ⟨rfl,h0⟩ | ⟨g,cap,cur,rfl,hb,hg,h1,h2,h3,h4⟩;have:l=[]:=List.eq_nil_of_length_eq_zero h0;subst this;exact ⟨none,0,rfl,.inl ⟨rfl,rfl⟩⟩;refine ⟨some ⟨g,0,none⟩,cap,by rw [List.length_map],.inr ⟨g,cur,hb,rfl,hg,?_⟩⟩;unfold AL;rw [Aup,List.length_map];refine ⟨h.1,λu hu=>?_,.inr ⟨g,cap,cur,rfl,rfl,h1,h2,h3,h4⟩⟩;rw [<- Aup] at hu;exact Va.ones _ u hu
theorem St.fresh {A w w':World} {X:List N} (hw:St A X w) (hb:Below w.heap.size w w') {g:Nat} {o:Obj} (hg:w.heap.size<=g) (ho:w'.heap[g]? = some o):St A (blk g o :: X) w':=by
 have h:=hw.below hb;refine ⟨⟨λk o' hk=>?_,λf hf k=>?_,h.sat⟩,h.os,h.tape,h.output,h.size⟩;unfold blk at hk;split at hk;rename_i e;subst e;cases hk;exact ho;cases hk;unfold blk;split;rename_i e;subst e;cases hk:f k with
 | none=>exact .inr rfl
 | some o'=>exact absurd (hw.sat.lt hf hk) (by omega)
 exact .inl rfl
theorem To.ok {k:Nat} {a0:Ah} {Af:N} {r:List (Int×Ah×Int×Int)×Int×Int} (h:To.f k a0=some r) (hG:JK Af):
  Ct Tryz.prog 20 #[.string a0] [] [Af] λe l1=>∃ (H0_:N) (A0_:AG) (c0_:Nat),AL E7 82 4 H0_ (.slice A0_ r.1.length c0_) r.1/\e=.returned (.tuple #[.slice A0_ r.1.length c0_,.agg #[.int .i64 r.2.1,.int .i64 r.2.2]])/\l1=[H0_]:=by
 obtain rfl:=Ao h;intro A w X hh hw;have hg:=hG w (hw.sat.on Af hh.1);refine (Bs5 a0 w hg).mono λe w' he=>?_;unfold Ro;cases hs:Gu (bs a0) with
 | inl ca =>
  obtain ⟨c,a⟩:=ca;rw [hs] at he;obtain ⟨rfl,hb⟩:=he;exact ⟨[none_],⟨none_,none,0,AL.nil E7 82 4 none_,V,V⟩,by
   have:=hw.below hb;exact ⟨⟨λ_ _ h=>(by cases h),λ_ _ _=>.inl V,this.sat⟩,this.os,this.tape,this.output,this.size⟩⟩
 | inr l =>
  rw [hs] at he;obtain ⟨lv,rfl,hrow,hb⟩:=he;obtain ⟨A0,c0,rfl,hc⟩:=Bpv hrow;rcases hc with ⟨he,rfl⟩ | ⟨g,cur,hg1,hA,hg2,hO⟩;cases he;exact ⟨[none_],⟨none_,none,0,AL.nil E7 82 4 none_,V,V⟩,by
   have:=hw.below hb;exact ⟨⟨λ_ _ h=>(by cases h),λ_ _ _=>.inl V,this.sat⟩,this.os,this.tape,this.output,this.size⟩⟩
  exact ⟨[blk g _],⟨_,A0,c0,hO,rfl,rfl⟩,hw.fresh hb hg1 hg2⟩
def strings_Fields.f (_k:Nat) (s:Ah):Option Av:=cond (decide (s.size < 4294967281/\(Lib.fields s.data.toList).length<=1000000) && s.data.toList.all λb=>decide (b.toNat < 128)) (some ((Lib.fields s.data.toList).map λl=>⟨l.toArray⟩)) none
theorem strings_Fields.ok {k:Nat} {a0:Ah} {Af:N} {r:List Ah} (h:strings_Fields.f k a0=some r) (hG:JK Af):
  Ct Tryz.prog 37 #[.string a0] [] [Af] λe l1=>∃ (H0_:N) (A0_:Option Addr) (c0_:Nat),AL encS 9 1 H0_ (.slice A0_ r.length c0_) r/\e=.returned (.slice A0_ r.length c0_)/\l1=[H0_]:=by
 unfold strings_Fields.f at h;obtain ⟨h1,h2⟩:=Jp h;obtain ⟨h3,h4⟩:=Bool.and_eq_true_iff.1 h1;obtain ⟨h3,h5⟩:=of_decide_eq_true h3;cases h2;intro A w X hh hw;have hg:=hG w (hw.sat.on Af hh.1);refine (Tryz.strings_Fields a0 w h3 (λj b hj=>of_decide_eq_true (List.all_eq_true.1 h4 b (List.mem_of_getElem? hj))) hg.space).mono ?_;rintro e w' ⟨rfl,rfl⟩;have hl:(Lib.fields a0.data.toList).length=((Lib.fields a0.data.toList).map λl=>(⟨l.toArray⟩:Ah)).length:=(List.length_map _).symm;refine ⟨[blk w.heap.size (.cells ((Lib.fields a0.data.toList).map λl=>Value.string ⟨l.toArray⟩).toArray 9)],⟨_,some ⟨w.heap.size,0,none⟩,(Lib.fields a0.data.toList).length,?_,by rw [<- hl],V⟩,?_⟩;unfold AL;have hc:((Lib.fields a0.data.toList).map λl=>(⟨l.toArray⟩:Ah)).flatMap encS=(Lib.fields a0.data.toList).map λl=>Value.string ⟨l.toArray⟩:=by
  rw [List.flatMap_map];generalize Lib.fields a0.data.toList=L;induction L with
  | nil=>rfl
  | cons x t ih=>rw [List.flatMap_cons,List.map_cons,ih];rfl
 rw [hc,<- hl];refine ⟨by simp,λu hu=>?_,.inr ⟨w.heap.size,_,_,V,V,Nat.le_refl _,Nat.le_trans h5 (by decide),?_,?_⟩⟩;obtain ⟨x,_,rfl⟩:=List.mem_map.1 hu;rfl;simp;rw [Nat.mul_one,List.take_of_length_le (by simp)];exact hw.fresh ((Below.refl _ w).alloc (Nat.le_refl _) _) (Nat.le_refl _) (by show (w.heap.push _)[w.heap.size]? = _;simp)
end
section
open Go Go.RowKit
section
variable {A:World} {ds:List Deferred} {n0:Nat} {env env':Env} {l l' X:List N} {q:Act->World->Prop} {P:Program} {Q:Exit->Act->World->Prop} {ops:Array Oper} {os rest:List Oper} {o:Oper} {α:Type} {R:Gf α}
variable {S:World->Prop} {tail:Act->World->Prop} {pl:List (Oper×Nat)}
theorem Bip {xs:List α} {a:α} {ix:Int} {kd:IntKind} {h:N} {A':AG} {c:Nat} {T TS:TypeId} {x y:Operand} (ho:o.op=.indexAddr TS x y) (hg:Ci ops env o=some true) (hd:inB n0 o.dst=true) (hx:BK env x=some (.slice A' xs.length c)) (hy:BK env y=some (.int kd ix))
  (h1:P.underlying TS=some (.slice T)) (h2:(P.info? T).map (·.size)=some R.sz) (hi:B7 xs ix=some a) (hR:RdR R h (.slice A' xs.length c) xs) (hk:∀ p us,R.rd a h us->Elem h p us->Place A' (ix.toNat * R.sz) p->K ds A n0 (Bn env o.dst p) l (BT P ops Q S tail pl)):K ds A n0 env l (BT P ops Q S tail ((o,0) :: pl)):=by
 intro a' w ha hw;obtain ⟨hi0,hi1,hi2⟩:=NU hi;obtain ⟨cs,⟨hl,_,hc⟩,hrow⟩:=hR;cases hif:P.info? T with
 | none=>rw [hif] at h2;cases h2
 | some i =>
  rw [hif] at h2;have hsz:i.size=R.sz:=Ao h2;rcases hc with ⟨_,h0⟩ | ⟨b,off,cap,cur,T',z,he,hb,_,_,hc⟩;omega;cases he;refine DU (v:=.pointer (some ⟨b,off+ix.toNat * R.sz,none⟩)) (Ha ha hg) (λw'=>?_) (hk _ _ (hrow.at_ ix.toNat a hi2) ⟨b,off+ix.toNat * R.sz,cur,T',z,rfl,hb,λj u hj=>?_⟩ ⟨b,off,rfl,rfl⟩ _ _ (ha.Bn _ hd) hw);have hr:(Instr.indexAt TS (.slice (some ⟨b,off,none⟩) xs.length c) (.int kd ix)).run P w'=.ok (.pointer (some ⟨b,off+ix.toNat * R.sz,none⟩)) w':=by
   simp [Instr.indexAt,run_underlying h1,asIntOf,hi0,hi1,sizeOf,typeInfo,hif,hsz,addr_add]
  unfold execOp;simp only [ho,ha.eval hx,ha.eval hy,Sem.run_bind,hr,Result.andThen_ok,Sem.run_pure];rw [List.getElem?_take] at hj;split at hj;rw [List.getElem?_drop] at hj;rw [Nat.add_assoc];exact hc _ u hj;cases hj
end
abbrev pt (b:Nat):Value:=.pointer (some ⟨b,0,none⟩)
abbrev W {α:Type} (A:Option Addr) (xs:List α) (c:Nat):Value:=.slice A xs.length c
abbrev I (x:Int):Value:=.int .i64 x
abbrev D (x:Ah):Value:=.string x
abbrev bv (x:Bool):Value:=.bool x
abbrev bk (b:Nat) (cs:Array Value) (T:TypeId):N:=blk b (.cells cs T (0,0))
abbrev nS:Value:=.slice none 0 0
abbrev noS:Ah:=⟨#[]⟩
universe u
abbrev c3 {α0 α1 α2:Type} {ρ:Sort u} (f:α0->α1->α2->ρ) (t:α0×α1×α2):ρ:=f t.1 t.2.1 t.2.2
abbrev c4 {α0 α1 α2 α3:Type} {ρ:Sort u} (f:α0->α1->α2->α3->ρ) (t:α0×α1×α2×α3):ρ:=f t.1 t.2.1 t.2.2.1 t.2.2.2
abbrev c5 {α0 α1 α2 α3 α4:Type} {ρ:Sort u} (f:α0->α1->α2->α3->α4->ρ) (t:α0×α1×α2×α3×α4):ρ:=f t.1 t.2.1 t.2.2.1 t.2.2.2.1 t.2.2.2.2
abbrev c6 {α0 α1 α2 α3 α4 α5:Type} {ρ:Sort u} (f:α0->α1->α2->α3->α4->α5->ρ) (t:α0×α1×α2×α3×α4×α5):ρ:=f t.1 t.2.1 t.2.2.1 t.2.2.2.1 t.2.2.2.2.1 t.2.2.2.2.2
abbrev c7 {α0 α1 α2 α3 α4 α5 α6:Type} {ρ:Sort u} (f:α0->α1->α2->α3->α4->α5->α6->ρ) (t:α0×α1×α2×α3×α4×α5×α6):ρ:=f t.1 t.2.1 t.2.2.1 t.2.2.2.1 t.2.2.2.2.1 t.2.2.2.2.2.1 t.2.2.2.2.2.2
abbrev c8 {α0 α1 α2 α3 α4 α5 α6 α7:Type} {ρ:Sort u} (f:α0->α1->α2->α3->α4->α5->α6->α7->ρ) (t:α0×α1×α2×α3×α4×α5×α6×α7):ρ:=f t.1 t.2.1 t.2.2.1 t.2.2.2.1 t.2.2.2.2.1 t.2.2.2.2.2.1 t.2.2.2.2.2.2.1 t.2.2.2.2.2.2.2
abbrev c9 {α0 α1 α2 α3 α4 α5 α6 α7 α8:Type} {ρ:Sort u} (f:α0->α1->α2->α3->α4->α5->α6->α7->α8->ρ) (t:α0×α1×α2×α3×α4×α5×α6×α7×α8):ρ:=f t.1 t.2.1 t.2.2.1 t.2.2.2.1 t.2.2.2.2.1 t.2.2.2.2.2.1 t.2.2.2.2.2.2.1 t.2.2.2.2.2.2.2.1 t.2.2.2.2.2.2.2.2
abbrev c10 {α0 α1 α2 α3 α4 α5 α6 α7 α8 α9:Type} {ρ:Sort u} (f:α0->α1->α2->α3->α4->α5->α6->α7->α8->α9->ρ) (t:α0×α1×α2×α3×α4×α5×α6×α7×α8×α9):ρ:=f t.1 t.2.1 t.2.2.1 t.2.2.2.1 t.2.2.2.2.1 t.2.2.2.2.2.1 t.2.2.2.2.2.2.1 t.2.2.2.2.2.2.2.1 t.2.2.2.2.2.2.2.2.1 t.2.2.2.2.2.2.2.2.2
abbrev c12 {α0 α1 α2 α3 α4 α5 α6 α7 α8 α9 ES ET:Type} {ρ:Sort u} (f:α0->α1->α2->α3->α4->α5->α6->α7->α8->α9->ES->ET->ρ) (t:α0×α1×α2×α3×α4×α5×α6×α7×α8×α9×ES×ET):ρ:=f t.1 t.2.1 t.2.2.1 t.2.2.2.1 t.2.2.2.2.1 t.2.2.2.2.2.1 t.2.2.2.2.2.2.1 t.2.2.2.2.2.2.2.1 t.2.2.2.2.2.2.2.2.1 t.2.2.2.2.2.2.2.2.2.1 t.2.2.2.2.2.2.2.2.2.2.1 t.2.2.2.2.2.2.2.2.2.2.2
abbrev c13 {α0 α1 α2 α3 α4 α5 α6 α7 α8 α9 ES ET Ft:Type} {ρ:Sort u} (f:α0->α1->α2->α3->α4->α5->α6->α7->α8->α9->ES->ET->Ft->ρ) (t:α0×α1×α2×α3×α4×α5×α6×α7×α8×α9×ES×ET×Ft):ρ:=f t.1 t.2.1 t.2.2.1 t.2.2.2.1 t.2.2.2.2.1 t.2.2.2.2.2.1 t.2.2.2.2.2.2.1 t.2.2.2.2.2.2.2.1 t.2.2.2.2.2.2.2.2.1 t.2.2.2.2.2.2.2.2.2.1 t.2.2.2.2.2.2.2.2.2.2.1 t.2.2.2.2.2.2.2.2.2.2.2.1 t.2.2.2.2.2.2.2.2.2.2.2.2
abbrev c14 {α0 α1 α2 α3 α4 α5 α6 α7 α8 α9 ES ET Ft FW:Type} {ρ:Sort u} (f:α0->α1->α2->α3->α4->α5->α6->α7->α8->α9->ES->ET->Ft->FW->ρ) (t:α0×α1×α2×α3×α4×α5×α6×α7×α8×α9×ES×ET×Ft×FW):ρ:=f t.1 t.2.1 t.2.2.1 t.2.2.2.1 t.2.2.2.2.1 t.2.2.2.2.2.1 t.2.2.2.2.2.2.1 t.2.2.2.2.2.2.2.1 t.2.2.2.2.2.2.2.2.1 t.2.2.2.2.2.2.2.2.2.1 t.2.2.2.2.2.2.2.2.2.2.1 t.2.2.2.2.2.2.2.2.2.2.2.1 t.2.2.2.2.2.2.2.2.2.2.2.2.1 t.2.2.2.2.2.2.2.2.2.2.2.2.2
abbrev c15 {α0 α1 α2 α3 α4 α5 α6 α7 α8 α9 ES ET Ft FW GC:Type} {ρ:Sort u} (f:α0->α1->α2->α3->α4->α5->α6->α7->α8->α9->ES->ET->Ft->FW->GC->ρ) (t:α0×α1×α2×α3×α4×α5×α6×α7×α8×α9×ES×ET×Ft×FW×GC):ρ:=f t.1 t.2.1 t.2.2.1 t.2.2.2.1 t.2.2.2.2.1 t.2.2.2.2.2.1 t.2.2.2.2.2.2.1 t.2.2.2.2.2.2.2.1 t.2.2.2.2.2.2.2.2.1 t.2.2.2.2.2.2.2.2.2.1 t.2.2.2.2.2.2.2.2.2.2.1 t.2.2.2.2.2.2.2.2.2.2.2.1 t.2.2.2.2.2.2.2.2.2.2.2.2.1 t.2.2.2.2.2.2.2.2.2.2.2.2.2.1 t.2.2.2.2.2.2.2.2.2.2.2.2.2.2
abbrev c16 {α0 α1 α2 α3 α4 α5 α6 α7 α8 α9 ES ET Ft FW GC Iw:Type} {ρ:Sort u} (f:α0->α1->α2->α3->α4->α5->α6->α7->α8->α9->ES->ET->Ft->FW->GC->Iw->ρ) (t:α0×α1×α2×α3×α4×α5×α6×α7×α8×α9×ES×ET×Ft×FW×GC×Iw):ρ:=f t.1 t.2.1 t.2.2.1 t.2.2.2.1 t.2.2.2.2.1 t.2.2.2.2.2.1 t.2.2.2.2.2.2.1 t.2.2.2.2.2.2.2.1 t.2.2.2.2.2.2.2.2.1 t.2.2.2.2.2.2.2.2.2.1 t.2.2.2.2.2.2.2.2.2.2.1 t.2.2.2.2.2.2.2.2.2.2.2.1 t.2.2.2.2.2.2.2.2.2.2.2.2.1 t.2.2.2.2.2.2.2.2.2.2.2.2.2.1 t.2.2.2.2.2.2.2.2.2.2.2.2.2.2.1 t.2.2.2.2.2.2.2.2.2.2.2.2.2.2.2
abbrev c19 {α0 α1 α2 α3 α4 α5 α6 α7 α8 α9 ES ET Ft FW GC Iw JE JF JG:Type} {ρ:Sort u} (f:α0->α1->α2->α3->α4->α5->α6->α7->α8->α9->ES->ET->Ft->FW->GC->Iw->JE->JF->JG->ρ) (t:α0×α1×α2×α3×α4×α5×α6×α7×α8×α9×ES×ET×Ft×FW×GC×Iw×JE×JF×JG):ρ:=f t.1 t.2.1 t.2.2.1 t.2.2.2.1 t.2.2.2.2.1 t.2.2.2.2.2.1 t.2.2.2.2.2.2.1 t.2.2.2.2.2.2.2.1 t.2.2.2.2.2.2.2.2.1 t.2.2.2.2.2.2.2.2.2.1 t.2.2.2.2.2.2.2.2.2.2.1 t.2.2.2.2.2.2.2.2.2.2.2.1 t.2.2.2.2.2.2.2.2.2.2.2.2.1 t.2.2.2.2.2.2.2.2.2.2.2.2.2.1 t.2.2.2.2.2.2.2.2.2.2.2.2.2.2.1 t.2.2.2.2.2.2.2.2.2.2.2.2.2.2.2.1 t.2.2.2.2.2.2.2.2.2.2.2.2.2.2.2.2.1 t.2.2.2.2.2.2.2.2.2.2.2.2.2.2.2.2.2.1 t.2.2.2.2.2.2.2.2.2.2.2.2.2.2.2.2.2.2
abbrev c21 {α0 α1 α2 α3 α4 α5 α6 α7 α8 α9 ES ET Ft FW GC Iw JE JF JG LR LS:Type} {ρ:Sort u} (f:α0->α1->α2->α3->α4->α5->α6->α7->α8->α9->ES->ET->Ft->FW->GC->Iw->JE->JF->JG->LR->LS->ρ) (t:α0×α1×α2×α3×α4×α5×α6×α7×α8×α9×ES×ET×Ft×FW×GC×Iw×JE×JF×JG×LR×LS):ρ:=f t.1 t.2.1 t.2.2.1 t.2.2.2.1 t.2.2.2.2.1 t.2.2.2.2.2.1 t.2.2.2.2.2.2.1 t.2.2.2.2.2.2.2.1 t.2.2.2.2.2.2.2.2.1 t.2.2.2.2.2.2.2.2.2.1 t.2.2.2.2.2.2.2.2.2.2.1 t.2.2.2.2.2.2.2.2.2.2.2.1 t.2.2.2.2.2.2.2.2.2.2.2.2.1 t.2.2.2.2.2.2.2.2.2.2.2.2.2.1 t.2.2.2.2.2.2.2.2.2.2.2.2.2.2.1 t.2.2.2.2.2.2.2.2.2.2.2.2.2.2.2.1 t.2.2.2.2.2.2.2.2.2.2.2.2.2.2.2.2.1 t.2.2.2.2.2.2.2.2.2.2.2.2.2.2.2.2.2.1 t.2.2.2.2.2.2.2.2.2.2.2.2.2.2.2.2.2.2.1 t.2.2.2.2.2.2.2.2.2.2.2.2.2.2.2.2.2.2.2.1 t.2.2.2.2.2.2.2.2.2.2.2.2.2.2.2.2.2.2.2.2
abbrev c23 {α0 α1 α2 α3 α4 α5 α6 α7 α8 α9 ES ET Ft FW GC Iw JE JF JG LR LS Oy Oz:Type} {ρ:Sort u} (f:α0->α1->α2->α3->α4->α5->α6->α7->α8->α9->ES->ET->Ft->FW->GC->Iw->JE->JF->JG->LR->LS->Oy->Oz->ρ) (t:α0×α1×α2×α3×α4×α5×α6×α7×α8×α9×ES×ET×Ft×FW×GC×Iw×JE×JF×JG×LR×LS×Oy×Oz):ρ:=f t.1 t.2.1 t.2.2.1 t.2.2.2.1 t.2.2.2.2.1 t.2.2.2.2.2.1 t.2.2.2.2.2.2.1 t.2.2.2.2.2.2.2.1 t.2.2.2.2.2.2.2.2.1 t.2.2.2.2.2.2.2.2.2.1 t.2.2.2.2.2.2.2.2.2.2.1 t.2.2.2.2.2.2.2.2.2.2.2.1 t.2.2.2.2.2.2.2.2.2.2.2.2.1 t.2.2.2.2.2.2.2.2.2.2.2.2.2.1 t.2.2.2.2.2.2.2.2.2.2.2.2.2.2.1 t.2.2.2.2.2.2.2.2.2.2.2.2.2.2.2.1 t.2.2.2.2.2.2.2.2.2.2.2.2.2.2.2.2.1 t.2.2.2.2.2.2.2.2.2.2.2.2.2.2.2.2.2.1 t.2.2.2.2.2.2.2.2.2.2.2.2.2.2.2.2.2.2.1 t.2.2.2.2.2.2.2.2.2.2.2.2.2.2.2.2.2.2.2.1 t.2.2.2.2.2.2.2.2.2.2.2.2.2.2.2.2.2.2.2.2.1 t.2.2.2.2.2.2.2.2.2.2.2.2.2.2.2.2.2.2.2.2.2.1 t.2.2.2.2.2.2.2.2.2.2.2.2.2.2.2.2.2.2.2.2.2.2
abbrev c25 {α0 α1 α2 α3 α4 α5 α6 α7 α8 α9 ES ET Ft FW GC Iw JE JF JG LR LS Oy Oz U0 U1:Type} {ρ:Sort u} (f:α0->α1->α2->α3->α4->α5->α6->α7->α8->α9->ES->ET->Ft->FW->GC->Iw->JE->JF->JG->LR->LS->Oy->Oz->U0->U1->ρ) (t:α0×α1×α2×α3×α4×α5×α6×α7×α8×α9×ES×ET×Ft×FW×GC×Iw×JE×JF×JG×LR×LS×Oy×Oz×U0×U1):ρ:=f t.1 t.2.1 t.2.2.1 t.2.2.2.1 t.2.2.2.2.1 t.2.2.2.2.2.1 t.2.2.2.2.2.2.1 t.2.2.2.2.2.2.2.1 t.2.2.2.2.2.2.2.2.1 t.2.2.2.2.2.2.2.2.2.1 t.2.2.2.2.2.2.2.2.2.2.1 t.2.2.2.2.2.2.2.2.2.2.2.1 t.2.2.2.2.2.2.2.2.2.2.2.2.1 t.2.2.2.2.2.2.2.2.2.2.2.2.2.1 t.2.2.2.2.2.2.2.2.2.2.2.2.2.2.1 t.2.2.2.2.2.2.2.2.2.2.2.2.2.2.2.1 t.2.2.2.2.2.2.2.2.2.2.2.2.2.2.2.2.1 t.2.2.2.2.2.2.2.2.2.2.2.2.2.2.2.2.2.1 t.2.2.2.2.2.2.2.2.2.2.2.2.2.2.2.2.2.2.1 t.2.2.2.2.2.2.2.2.2.2.2.2.2.2.2.2.2.2.2.1 t.2.2.2.2.2.2.2.2.2.2.2.2.2.2.2.2.2.2.2.2.1 t.2.2.2.2.2.2.2.2.2.2.2.2.2.2.2.2.2.2.2.2.2.1 t.2.2.2.2.2.2.2.2.2.2.2.2.2.2.2.2.2.2.2.2.2.2.1 t.2.2.2.2.2.2.2.2.2.2.2.2.2.2.2.2.2.2.2.2.2.2.2.1 t.2.2.2.2.2.2.2.2.2.2.2.2.2.2.2.2.2.2.2.2.2.2.2.2
abbrev c26 {α0 α1 α2 α3 α4 α5 α6 α7 α8 α9 ES ET Ft FW GC Iw JE JF JG LR LS Oy Oz U0 U1 α25:Type} {ρ:Sort u} (f:α0->α1->α2->α3->α4->α5->α6->α7->α8->α9->ES->ET->Ft->FW->GC->Iw->JE->JF->JG->LR->LS->Oy->Oz->U0->U1->α25->ρ) (t:α0×α1×α2×α3×α4×α5×α6×α7×α8×α9×ES×ET×Ft×FW×GC×Iw×JE×JF×JG×LR×LS×Oy×Oz×U0×U1×α25):ρ:=f t.1 t.2.1 t.2.2.1 t.2.2.2.1 t.2.2.2.2.1 t.2.2.2.2.2.1 t.2.2.2.2.2.2.1 t.2.2.2.2.2.2.2.1 t.2.2.2.2.2.2.2.2.1 t.2.2.2.2.2.2.2.2.2.1 t.2.2.2.2.2.2.2.2.2.2.1 t.2.2.2.2.2.2.2.2.2.2.2.1 t.2.2.2.2.2.2.2.2.2.2.2.2.1 t.2.2.2.2.2.2.2.2.2.2.2.2.2.1 t.2.2.2.2.2.2.2.2.2.2.2.2.2.2.1 t.2.2.2.2.2.2.2.2.2.2.2.2.2.2.2.1 t.2.2.2.2.2.2.2.2.2.2.2.2.2.2.2.2.1 t.2.2.2.2.2.2.2.2.2.2.2.2.2.2.2.2.2.1 t.2.2.2.2.2.2.2.2.2.2.2.2.2.2.2.2.2.2.1 t.2.2.2.2.2.2.2.2.2.2.2.2.2.2.2.2.2.2.2.1 t.2.2.2.2.2.2.2.2.2.2.2.2.2.2.2.2.2.2.2.2.1 t.2.2.2.2.2.2.2.2.2.2.2.2.2.2.2.2.2.2.2.2.2.1 t.2.2.2.2.2.2.2.2.2.2.2.2.2.2.2.2.2.2.2.2.2.2.1 t.2.2.2.2.2.2.2.2.2.2.2.2.2.2.2.2.2.2.2.2.2.2.2.1 t.2.2.2.2.2.2.2.2.2.2.2.2.2.2.2.2.2.2.2.2.2.2.2.2.1 t.2.2.2.2.2.2.2.2.2.2.2.2.2.2.2.2.2.2.2.2.2.2.2.2.2
theorem bnd {α β:Type} {x:Option α} {f:α->Option β} {r:β} {Af:Prop} (h:x.bind f=some r) (k:∀ a,x=some a->f a=some r->Af):Af:=by
 obtain ⟨a,h1,h2⟩:=Ay9 h;exact k a h1 h2
def RJ (P:Program) (ops:Array Oper) (n:Nat) (os:List Oper) (env:Env):Env:=(GX P ops n os env).getD []
section
variable {A:World} {ds:List Deferred} {n:Nat} {env env':Env} {l l' X:List N} {q next:Act->World->Prop} {P:Program} {Q:Exit->Act->World->Prop} {ops:Array Oper} {os rest:List Oper} {o:Oper} {S:World->Prop} {tail:Act->World->Prop} {pl:List (Oper×Nat)}
theorem M (m:Nat) (hk:K ds A n (RJ P ops n (os.take m) env) l (wpList P ops Q (os.drop m))) (h:(GX P ops n (os.take m) env).isSome=true:=by kernel_rfl):K ds A n env l (wpList P ops Q os):=by
 cases hs:GX P ops n (os.take m) env with
 | none=>rw [hs] at h;cases h
 | some Lq =>
  have e:RJ P ops n (os.take m) env=Lq:=by unfold RJ;rw [hs];rfl
  rw [e] at hk;have:=Td (rest:=os.drop m) (os.take m) env hs hk
  rwa [List.take_append_drop] at this
theorem AA (m:Nat) (hk:K ds A n (RJ P ops n ((pl.take m).map (·.1)) env) l (BT P ops Q S tail (pl.drop m))) (hz:((pl.take m).all λx=>Nat.beq x.2 0)=true:=by kernel_rfl) (h:(GX P ops n ((pl.take m).map (·.1)) env).isSome=true:=by kernel_rfl):K ds A n env l (BT P ops Q S tail pl):=by
 cases hs:GX P ops n ((pl.take m).map (·.1)) env with
 | none=>rw [hs] at h;cases h
 | some Lq =>
  have e:RJ P ops n ((pl.take m).map (·.1)) env=Lq:=by unfold RJ;rw [hs];rfl
  rw [e] at hk;have:=Tg ((pl.take m).map (·.1)) env hs hk
  rwa [<- Zx _ hz,List.take_append_drop] at this
theorem B3 (k:Nat) {α:Type} {t:Bool} {F Af:Option α} {r:α} (h:cond t F Af=some r) (hx:F=some r->K ds A n ((k,.bool true) :: env) l q) (hy:Af=some r->K ds A n ((k,.bool false) :: env) l q) (hk:env.get k=some (.bool t):=by kernel_rfl):K ds A n env l q:=by
 have put:∀ u,t=u->K ds A n ((k,.bool u) :: env) l q->K ds A n env l q:=λu hu hq a w ha hw=>hq a w ⟨ha.size,ha.defers,λi v hi=>by
  simp only [Env.get] at hi;cases hb:Nat.beq k i with
  | true =>
   rw [hb] at hi;cases hi;rw [<- Nat.eq_of_beq_eq_true hb,<- hu];exact ha.at_ _ _ hk
  | false=>rw [hb] at hi;exact ha.at_ i v hi⟩ hw
 cases t with
 | true=>exact put true rfl (hx h)
 | false=>exact put false rfl (hy h)
theorem Az {c:Operand} {x y:Code} {α:Type} {t:Bool} {F Af:Option α} {r:α} (h:cond t F Af=some r) (hx:F=some r->K ds A n env l (x.wp P Q)) (hy:Af=some r->K ds A n env l (y.wp P Q)) (hc:BK env c=some (.bool t):=by kernel_rfl):K ds A n env l ((Code.cond c x y).wp P Q):=by
 cases t with
 | true=>exact Zr hc (hx h)
 | false=>exact Zq hc (hy h)
def lds (b:Nat):Nat->List Value->List Ev
 | _,[]=>[]
 | off,v :: r=>.ld ⟨b,off,none⟩ v :: lds b (off+1) r
def sts (b:Nat):Nat->List Value->List Ev
 | _,[]=>[]
 | off,v :: r=>.st ⟨b,off,none⟩ v :: sts b (off+1) r
theorem Aby (b:Nat):∀ (off:Nat) (vs:List Value),Ui b (sts b off vs)
 | _,[]=>trivial
 | off,v :: r=>⟨rfl,Aby b (off+1) r⟩
theorem Rl {b:Nat} {cs:Array Value} {T:TypeId} {z:Nat×Nat} {i:Nat} (hi:l[i]? = some (blk b (.cells cs T z))):∀ (vs:List Value) (off:Nat),(∀ j v,vs[j]? = some v->cs[off+j]? = some v)->JM l (lds b off vs)
 | [],_,_=>trivial
 | v :: r,off,h=>⟨⟨i,cs,T,z,hi,rfl,by simpa using h 0 v rfl⟩,Rl hi r (off+1) λj u hj=>by
   have:=h (j+1) u hj
   rwa [show off+1+j=off+(j+1) by omega]⟩
def cut (cs:Array Value) (off m:Nat):List Value:=(cs.toList.drop off).take m
theorem Sz {cs:Array Value} {off m j:Nat} {v:Value} (h:(cut cs off m)[j]? = some v):cs[off+j]? = some v:=by
 unfold cut at h;rw [List.getElem?_take] at h;split at h;rw [List.getElem?_drop] at h;simpa using h;cases h
theorem kld (i off:Nat) {b:Nat} {cs:Array Value} {T:TypeId} {z:Nat×Nat} (hi:l[i]? = some (blk b (.cells cs T z))) (hk:K ds A n (Bn env o.dst (cs.getD off undef)) l (wpList P ops Q rest)) (hg:Ci ops env o=some true:=by kernel_rfl) (hs:(D8 o.op && allB o.op.operands.toList env && inB n o.dst)=true:=by kernel_rfl)
  (hf:follow P (execOp (rho env) o) ((cut cs off 1).map .val)=some (.value (cs.getD off undef),lds b off (cut cs off 1)):=by kernel_rfl):K ds A n env l (wpList P ops Q (o :: rest)):=Anb _ _ hg hs hf (Rl hi _ _ λ_ _ h=>Sz h) hk
theorem BW (i off m:Nat) {b:Nat} {cs:Array Value} {T:TypeId} {z:Nat×Nat} (hi:l[i]? = some (blk b (.cells cs T z))) (hk:K ds A n (Bn env o.dst (.agg (cut cs off m).toArray)) l (wpList P ops Q rest)) (hg:Ci ops env o=some true:=by kernel_rfl) (hs:(D8 o.op && allB o.op.operands.toList env && inB n o.dst)=true:=by kernel_rfl)
  (hf:follow P (execOp (rho env) o) ((cut cs off m).map .val)=some (.value (.agg (cut cs off m).toArray),lds b off (cut cs off m)):=by kernel_rfl):K ds A n env l (wpList P ops Q (o :: rest)):=Anb _ _ hg hs hf (Rl hi _ _ λ_ _ h=>Sz h) hk
theorem AC (off m:Nat) {b:Nat} {e:TypeId} {cs:Array Value} (cs':Array Value) (hk:K ds A n (Bn env o.dst undef) (blk b (.cells cs' e (0,0)) :: l) (wpList P ops Q rest)) (hg:Ci ops env o=some true:=by kernel_rfl) (hs:(D8 o.op && allB o.op.operands.toList env && inB n o.dst)=true:=by kernel_rfl)
  (hf:follow P (execOp (rho env) o) []=some (.skip,sts b off (cut cs' off m)):=by kernel_rfl) (hc:Ol b e (sts b off (cut cs' off m)) cs=some cs':=by kernel_rfl):K ds A n env (blk b (.cells cs e (0,0)) :: l) (wpList P ops Q (o :: rest)):=Tf _ hg hs hf (Aby ..) hc hk
theorem ost (off m:Nat) {b:Nat} {e:TypeId} {cs:Array Value} (cs':Array Value) (hk:K ds A n (Bn env o.dst undef) (blk b (.cells cs' e (0,0)) :: l) q) (hs:(D8 o.op && allB o.op.operands.toList env && inB n o.dst)=true:=by kernel_rfl)
  (hf:follow P (execOp (rho env) o) []=some (.skip,sts b off (cut cs' off m)):=by kernel_rfl) (hc:Ol b e (sts b off (cut cs' off m)) cs=some cs':=by kernel_rfl):K ds A n env (blk b (.cells cs e (0,0)) :: l) (λa w=>o.wp P a w q Q):=Wc _ hs hf (Aby ..) hc hk
theorem knp (cs:Array Value) (T:TypeId) (hk:∀ b,K ds A n (Bn env o.dst (pt b)) (bk b cs T :: l) (wpList P ops Q rest)) (hg:Ci ops env o=some true:=by kernel_rfl) (hs:(D8 o.op && allB o.op.operands.toList env && inB n o.dst)=true:=by kernel_rfl) (hf:∀ b,follow P (execOp (rho env) o) [.num b]=some (.value (pt b),[.nw (.cells cs T (0,0)) b]):=by (intro b;kernel_rfl)) :
  K ds A n env l (wpList P ops Q (o :: rest)):=VD _ _ hg hs hf hk
theorem Cy (cs:Array Value) (T m:Nat) (hk:∀ b,K ds A n (Bn env o.dst (.slice (some ⟨b,0,none⟩) m m)) (bk b cs T :: l) (wpList P ops Q rest)) (hg:Ci ops env o=some true:=by kernel_rfl) (hs:(D8 o.op && allB o.op.operands.toList env && inB n o.dst)=true:=by kernel_rfl) (hf:∀ b,follow P (execOp (rho env) o) [.num b]=some (.value (.slice (some ⟨b,0,none⟩) m m),[.nw (.cells cs T (0,0)) b]):=by (intro b;kernel_rfl)) :
  K ds A n env l (wpList P ops Q (o :: rest)):=VD _ _ hg hs hf hk
theorem onp (cs:Array Value) (T:TypeId) (hk:∀ b,K ds A n (Bn env o.dst (pt b)) (bk b cs T :: l) q) (hs:(D8 o.op && allB o.op.operands.toList env && inB n o.dst)=true:=by kernel_rfl) (hf:∀ b,follow P (execOp (rho env) o) [.num b]=some (.value (pt b),[.nw (.cells cs T (0,0)) b]):=by (intro b;kernel_rfl)) :
  K ds A n env l (λa w=>o.wp P a w q Q):=Aad _ _ hs hf hk
theorem Gb (cs:Array Value) (T m:Nat) (hk:∀ b,K ds A n (Bn env o.dst (.slice (some ⟨b,0,none⟩) m m)) (bk b cs T :: l) q) (hs:(D8 o.op && allB o.op.operands.toList env && inB n o.dst)=true:=by kernel_rfl) (hf:∀ b,follow P (execOp (rho env) o) [.num b]=some (.value (.slice (some ⟨b,0,none⟩) m m),[.nw (.cells cs T (0,0)) b]):=by (intro b;kernel_rfl)) :
  K ds A n env l (λa w=>o.wp P a w q Q):=Aad _ _ hs hf hk
theorem Ch {f:FuncId} {args:Array Value} {l0 hs:List N} {R:Ending->List N->Prop} (hc:Ct P f args l0 hs R) (hl:l=l0++X) (hh:IN hs X) (hk:∀ e l1,R e l1->Nx ds A n env o.dst X (wpList P ops Q rest) Q e l1) (hg:Ci ops env o=some true:=by kernel_rfl)
  (hg1:(D8 o.op && allB o.op.operands.toList env && inB n o.dst)=true:=by kernel_rfl) (hp:FS P (execOp (rho env) o)=some (.enter f args):=by kernel_rfl):K ds A n env l (wpList P ops Q (o :: rest)):=VC X hg hg1 hp hc hl hh hk
theorem Jy {f:FuncId} {args:Array Value} {l0 hs:List N} {R:Ending->List N->Prop} (hc:Ct P f args l0 hs R) (hl:l=l0++X) (hh:IN hs X) (hk:∀ e l1,R e l1->Nx ds A n env o.dst X q Q e l1)
  (hg1:(D8 o.op && allB o.op.operands.toList env && inB n o.dst)=true:=by kernel_rfl) (hp:FS P (execOp (rho env) o)=some (.enter f args):=by kernel_rfl):K ds A n env l (λa w=>o.wp P a w q Q):=TI hg1 hp hc hl hh hk
theorem CI {f:FuncId} {args:Array Value} {hs:List N} {v:Value} (hc:Ct P f args [] hs λe l1=>e=.returned v/\l1=[]) (hh:IN hs l) (hk:K ds A n (Bn env o.dst v) l (wpList P ops Q rest)) (hg:Ci ops env o=some true:=by kernel_rfl)
  (hg1:(D8 o.op && allB o.op.operands.toList env && inB n o.dst)=true:=by kernel_rfl) (hp:FS P (execOp (rho env) o)=some (.enter f args):=by kernel_rfl):K ds A n env l (wpList P ops Q (o :: rest)):=Bhz hg hg1 hp hc hh hk
theorem ocv {f:FuncId} {args:Array Value} {hs:List N} {v:Value} (hc:Ct P f args [] hs λe l1=>e=.returned v/\l1=[]) (hh:IN hs l) (hk:K ds A n (Bn env o.dst v) l q)
  (hg1:(D8 o.op && allB o.op.operands.toList env && inB n o.dst)=true:=by kernel_rfl) (hp:FS P (execOp (rho env) o)=some (.enter f args):=by kernel_rfl):K ds A n env l (λa w=>o.wp P a w q Q):=Aqb hg1 hp hc hh hk
theorem Bc {f:FuncId} {args:Array Value} {l0 hs:List N} {v:Value} {p1:N} (hc:Ct P f args l0 hs λe l1=>e=.returned v/\l1=[p1]) (hl:l=l0++X) (hh:IN hs X) (hk:K ds A n (Bn env o.dst v) (p1 :: X) (wpList P ops Q rest)) (hg:Ci ops env o=some true:=by kernel_rfl)
  (hg1:(D8 o.op && allB o.op.operands.toList env && inB n o.dst)=true:=by kernel_rfl) (hp:FS P (execOp (rho env) o)=some (.enter f args):=by kernel_rfl):K ds A n env l (wpList P ops Q (o :: rest)):=VC X hg hg1 hp hc hl hh (by rintro e l1 ⟨rfl,rfl⟩;exact hk)
theorem BP {α β ε:Type} {x:Option (PR α ε)} {F:α->Option (PR β ε)} {r:PR β ε} {f:FuncId} {args:Array Value} {l0 hs:List N} {fl:ε->Value} {Ae:α->Ending->List N->Prop} (h:PR.bind x F=some r) (hc:∀ v,x=some v->Ct P f args l0 hs (PR.Post fl Ae v)) (hl:l=l0++X) (hh:IN hs X)
  (hb:∀ i,r=.bad i->K ds A n env X (Q (.panic [{ v:=fl i,recovered:=false }]))) (hk:∀ a,F a=some r->∀ e l1,Ae a e l1->Nx ds A n env o.dst X (wpList P ops Q rest) Q e l1) (hg:Ci ops env o=some true:=by kernel_rfl)
  (hg1:(D8 o.op && allB o.op.operands.toList env && inB n o.dst)=true:=by kernel_rfl) (hp:FS P (execOp (rho env) o)=some (.enter f args):=by kernel_rfl):K ds A n env l (wpList P ops Q (o :: rest)):=by
 rcases Aqy h with ⟨i,hx,hr⟩ | ⟨a,hx,h⟩;exact VC X hg hg1 hp (hc _ hx) hl hh (by rintro e l1 ⟨rfl,rfl⟩;exact hb i hr);exact VC X hg hg1 hp (hc _ hx) hl hh (hk a h)
theorem ocp {α β ε:Type} {x:Option (PR α ε)} {F:α->Option (PR β ε)} {r:PR β ε} {f:FuncId} {args:Array Value} {l0 hs:List N} {fl:ε->Value} {Ae:α->Ending->List N->Prop} (h:PR.bind x F=some r) (hc:∀ v,x=some v->Ct P f args l0 hs (PR.Post fl Ae v)) (hl:l=l0++X) (hh:IN hs X)
  (hb:∀ i,r=.bad i->K ds A n env X (Q (.panic [{ v:=fl i,recovered:=false }]))) (hk:∀ a,F a=some r->∀ e l1,Ae a e l1->Nx ds A n env o.dst X q Q e l1)
  (hg1:(D8 o.op && allB o.op.operands.toList env && inB n o.dst)=true:=by kernel_rfl) (hp:FS P (execOp (rho env) o)=some (.enter f args):=by kernel_rfl):K ds A n env l (λa w=>o.wp P a w q Q):=by
 rcases Aqy h with ⟨i,hx,hr⟩ | ⟨a,hx,h⟩;exact TI hg1 hp (hc _ hx) hl hh (by rintro e l1 ⟨rfl,rfl⟩;exact hb i hr);exact TI hg1 hp (hc _ hx) hl hh (hk a h)
theorem St.Ag2:∀ (m:Nat) {l:List N} {w:World},St A l w->St A (l.drop m) w
 | 0,_,_,h=>h
 | _+1,[],_,h=>h
 | m+1,_ :: _,_,h=>St.Ag2 m h.tail
theorem kpn (m:Nat) {fn:Func} {β ε:Type} {r:PR β ε} {fl:ε->Value} {Ae:β->Ending->List N->Prop} {i:ε} (hr:r=.bad i) (hl:l.drop m=X):K [] A n env l (bodyPost P fn (λe w'=>∃ l1,PR.Post fl Ae r e l1/\St A (l1++X) w') (.panic [{ v:=fl i,recovered:=false }])):=by
 subst hr hl;exact λa w ha hw=>⟨ha.defers,[],⟨rfl,rfl⟩,hw.Ag2 m⟩
theorem kdn {fn:Func} {v:Value} {L:List N} (hl:l=L++X) (hr:hasAll fn.results.toList env=true:=by kernel_rfl) (hf:follow P (KY fn.results (KZ env)) []=some (v,[]):=by kernel_rfl) :
  K [] A n env l (bodyPost P fn (λe w'=>∃ l1,(e=.returned v/\l1=L)/\St A (l1++X) w') .ret):=by
 subst hl;exact FZ [] [] L hr hf trivial λa w ha hw=>⟨⟨rfl,rfl⟩,hw⟩
theorem kdv {fn:Func} {R:Ending->List N->Prop} (v:Value) (l1:List N) (hk:K [] A n env l λ_ w=>R (.returned v) l1/\St A (l1++X) w) (hr:hasAll fn.results.toList env=true:=by kernel_rfl) (hf:follow P (KY fn.results (KZ env)) []=some (v,[]):=by kernel_rfl) :
  K [] A n env l (bodyPost P fn (λe w'=>∃ l1,R e l1/\St A (l1++X) w') .ret):=FZ [] [] l1 hr hf trivial hk
theorem Dw {fn:Func} {R:Ending->List N->Prop} (i m:Nat) {b:Nat} {cs:Array Value} {T:TypeId} {z:Nat×Nat} (hi:l[i]? = some (blk b (.cells cs T z))) (l1:List N) (hk:K [] A n env l λ_ w=>R (.returned (.agg cs)) l1/\St A (l1++X) w) (hr:hasAll fn.results.toList env=true:=by kernel_rfl)
  (hf:follow P (KY fn.results (KZ env)) ((cut cs 0 m).map .val)=some (.agg cs,lds b 0 (cut cs 0 m)):=by kernel_rfl):K [] A n env l (bodyPost P fn (λe w'=>∃ l1,R e l1/\St A (l1++X) w') .ret):=FZ _ _ l1 hr hf (Rl hi _ _ λ_ _ h=>Sz h) hk
def Wk (is:List Nat) (l:List N):List N:=is.filterMap (l[·]?)
theorem Aaa {w:World} (hw:Sat l w):∀ (is:List Nat),E6 (Wk is l) w
 | []=>trivial
 | i :: is=>by
  unfold Wk;rw [List.filterMap_cons];have ih:=Aaa hw is;cases h:l[i]? with
  | none=>exact ih
  | some f=>exact ⟨hw.on f (List.mem_of_getElem? h),ih⟩
theorem kpr {id:Nat} (plan:List (Nat×Nat)) (is:List Nat) (h:K ds A n env l (BT P os.toArray Q (λw=>E6 (Wk is l) w) (wpList P os.toArray Q (os.drop plan.length)) (DJ os.toArray plan))) (hm:P.follows .mixedOrders=true:=by kernel_rfl)
  (hB:TN os plan=true:=by kernel_rfl)
  (hQ:∀ c a d v w,Q (.panic c) (Act.put a d v) w->Q (.panic c) a w:=by (intro _ _ d _ _ h;cases d <;> exact h)):K ds A n env l ((Code.region id os.toArray true).wp P Q) :=
 Px plan _ hm hB hQ (λ_ hw=>Aaa hw.sat is) h
theorem KO {id:Nat} (plan:List (Nat×Nat)) (s:List N) (hS:∀ w,St A l w->E6 s w) (h:K ds A n env l (BT P os.toArray Q (λw=>E6 s w) (wpList P os.toArray Q (os.drop plan.length)) (DJ os.toArray plan))) (hm:P.follows .mixedOrders=true:=by kernel_rfl)
  (hB:TN os plan=true:=by kernel_rfl)
  (hQ:∀ c a d v w,Q (.panic c) (Act.put a d v) w->Q (.panic c) a w:=by (intro _ _ d _ _ h;cases d <;> exact h)):K ds A n env l ((Code.region id os.toArray true).wp P Q) :=
 Px plan _ hm hB hQ hS h
theorem Cr (js:List Nat) {s:List N} (hs:Wk js l=s) (h:K ds A n env l q):K ds A n env l (λa w=>E6 s w/\q a w):=L4 (λ_ hw=>hs ▸ Aaa hw.sat js) h
theorem kpt (h:K ds A n env l (λa w=>o.wp P a w (λa w=>S w/\BT P ops Q S tail pl a w) Q)) (hg:Ci ops env o=some true:=by kernel_rfl):K ds A n env l (BT P ops Q S tail ((o,1) :: pl)):=Zz hg h
theorem Bl (i off:Nat) {s:List N} {b:Nat} {cs:Array Value} {T:TypeId} {z:Nat×Nat} (hi:s[i]? = some (blk b (.cells cs T z))) (hk:K ds A n (Bn env o.dst (cs.getD off undef)) l (BT P ops Q (λw=>E6 s w) tail pl)) (hg:Ci ops env o=some true:=by kernel_rfl) (hs:(D8 o.op && allB o.op.operands.toList env && inB n o.dst)=true:=by kernel_rfl)
  (hf:follow P (execOp (rho env) o) ((cut cs off 1).map .val)=some (.value (cs.getD off undef),lds b off (cut cs off 1)):=by kernel_rfl):K ds A n env l (BT P ops Q (λw=>E6 s w) tail ((o,3) :: pl)):=VF s _ _ hg hs hf (λ_ h=>h) (Rl hi _ _ λ_ _ h=>Sz h) hk
theorem Ew (i off m:Nat) {s:List N} {b:Nat} {cs:Array Value} {T:TypeId} {z:Nat×Nat} (hi:s[i]? = some (blk b (.cells cs T z))) (hk:K ds A n (Bn env o.dst (.agg (cut cs off m).toArray)) l (BT P ops Q (λw=>E6 s w) tail pl)) (hg:Ci ops env o=some true:=by kernel_rfl) (hs:(D8 o.op && allB o.op.operands.toList env && inB n o.dst)=true:=by kernel_rfl)
  (hf:follow P (execOp (rho env) o) ((cut cs off m).map .val)=some (.value (.agg (cut cs off m).toArray),lds b off (cut cs off m)):=by kernel_rfl):K ds A n env l (BT P ops Q (λw=>E6 s w) tail ((o,3) :: pl)):=VF s _ _ hg hs hf (λ_ h=>h) (Rl hi _ _ λ_ _ h=>Sz h) hk
theorem ksr {id:Nat} {y:Code} (h:K ds A n env l (wpList P os.toArray (Exit.then (y.wp P Q) Q) os)):K ds A n env l ((Code.seq (Code.region id os.toArray false) y).wp P Q):=AU (AO h)
theorem G (h:K ds A n env l next) (he:os=[]:=by rfl):K ds A n env l (wpList P ops (Exit.then next Q) os):=he ▸ KK (At h)
theorem AY {id:Nat} {y:Code} {os':List Oper} {Q':Exit->Act->World->Prop} (h:K ds A n env l (wpList P os.toArray (Exit.then (y.wp P Q) Q) os)) (he:os'=[]:=by rfl):K ds A n env l (wpList P ops (Exit.then ((Code.seq (Code.region id os.toArray false) y).wp P Q) Q') os'):=he ▸ KK (At (AU (AO h)))
theorem Eu {id:Nat} {os':List Oper} {Q':Exit->Act->World->Prop} (h:K ds A n env l (wpList P os.toArray Q os)) (he:os'=[]:=by rfl):K ds A n env l (wpList P ops (Exit.then ((Code.region id os.toArray false).wp P Q) Q') os'):=he ▸ KK (At (AO h))
theorem knl (h:K ds A n env l (Q .normal)) (he:os=[]:=by rfl):K ds A n env l (wpList P ops Q os):=he ▸ KK h
theorem BA (h:K ds A n env l tail) (he:pl=[]:=by rfl):K ds A n env l (BT P ops Q S tail pl):=he ▸ Zw h
theorem sb {sub:Env} (h:picks (sub.map (·.1)) env=some (sub.map (·.2)):=by kernel_rfl):Sub env sub:=Wl h
theorem gr {k:Nat} {v:Value} (h:env.get k=some v:=by kernel_rfl):env.get k=some v:=h
theorem gb {k:Nat} {t q:Bool} (h:t=q) (hk:env.get k=some (.bool t):=by kernel_rfl):env.get k=some (.bool q):=h ▸ hk
theorem V8 {fn:Func} {β ε:Type} {x:β} {fl:ε->Value} {Ae:β->Ending->List N->Prop} {v:Value} {L:List N} (hD:Ae x (.returned v) L) (hl:l=L++X) (hr:hasAll fn.results.toList env=true:=by kernel_rfl) (hf:follow P (KY fn.results (KZ env)) []=some (v,[]):=by kernel_rfl) :
  K [] A n env l (bodyPost P fn (λe w'=>∃ l1,PR.Post fl Ae (.ok x) e l1/\St A (l1++X) w') .ret):=by
 subst hl;exact FZ [] [] L hr hf trivial λa w ha hw=>⟨hD,hw⟩
theorem t2 {α:Type} {x a0 a1:α} {r:List α} (h:x ∈ r):x ∈ a0 :: a1 :: r:=.tail _ (.tail _ (h))
theorem t3 {α:Type} {x a0 a1 a2:α} {r:List α} (h:x ∈ r):x ∈ a0 :: a1 :: a2 :: r:=.tail _ (.tail _ (.tail _ (h)))
theorem t4 {α:Type} {x a0 a1 a2 a3:α} {r:List α} (h:x ∈ r):x ∈ a0 :: a1 :: a2 :: a3 :: r:=.tail _ (.tail _ (.tail _ (.tail _ (h))))
theorem t5 {α:Type} {x a0 a1 a2 a3 a4:α} {r:List α} (h:x ∈ r):x ∈ a0 :: a1 :: a2 :: a3 :: a4 :: r:=.tail _ (.tail _ (.tail _ (.tail _ (.tail _ (h)))))
theorem t6 {α:Type} {x a0 a1 a2 a3 a4 a5:α} {r:List α} (h:x ∈ r):x ∈ a0 :: a1 :: a2 :: a3 :: a4 :: a5 :: r:=.tail _ (.tail _ (.tail _ (.tail _ (.tail _ (.tail _ (h))))))
theorem t7 {α:Type} {x a0 a1 a2 a3 a4 a5 a6:α} {r:List α} (h:x ∈ r):x ∈ a0 :: a1 :: a2 :: a3 :: a4 :: a5 :: a6 :: r:=.tail _ (.tail _ (.tail _ (.tail _ (.tail _ (.tail _ (.tail _ (h)))))))
theorem t8 {α:Type} {x a0 a1 a2 a3 a4 a5 a6 a7:α} {r:List α} (h:x ∈ r):x ∈ a0 :: a1 :: a2 :: a3 :: a4 :: a5 :: a6 :: a7 :: r:=.tail _ (.tail _ (.tail _ (.tail _ (.tail _ (.tail _ (.tail _ (.tail _ (h))))))))
theorem t9 {α:Type} {x a0 a1 a2 a3 a4 a5 a6 a7 a8:α} {r:List α} (h:x ∈ r):x ∈ a0 :: a1 :: a2 :: a3 :: a4 :: a5 :: a6 :: a7 :: a8 :: r:=.tail _ (.tail _ (.tail _ (.tail _ (.tail _ (.tail _ (.tail _ (.tail _ (.tail _ (h)))))))))
end
section
variable {A:World} {ds:List Deferred} {n n0:Nat} {env env':Env} {l l' X:List N} {P:Program} {Q:Exit->Act->World->Prop} {ops:Array Oper} {os rest:List Oper} {o:Oper} {S:World->Prop} {tail:Act->World->Prop} {pl:List (Oper×Nat)} {α:Type} {R:Gf α}
theorem Fx {s:Ah} {kd:IntKind} {i:Int} {c:UInt8} {t:TypeId} {x ix:Operand} (ho:o.op=.index t x ix) (hc:Dm s i=some c) (h:K ds A n (Bn env o.dst (.int .u8 c.toNat)) l (wpList P ops Q rest)) (hg:Ci ops env o=some true:=by kernel_rfl) (hd:inB n o.dst=true:=by kernel_rfl) (hx:BK env x=some (.string s):=by kernel_rfl) (hi:BK env ix=some (.int kd i):=by kernel_rfl) (ht:P.underlying t=some .string:=by kernel_rfl):K ds A n env l (wpList P ops Q (o :: rest)):=Bid ho hg hd hx hi ht hc h
theorem Dr {T TS U:TypeId} {sz bytes:Nat} {i:TypeInfo} {z:Value} {h hy:N} {v y:Value} {xs ys xs':List α} {s x:Operand} (ho:o.op=.call { callee:=.builtin .append,args:=#[s,x],argTypes:=#[TS,U] }) (he:FC P TS T sz bytes i z) (hsz:sz=R.sz) (hap:apd bytes xs ys=some xs') (hO:AN R T h v xs) (hY:AN R T hy y ys) (hk:∀ h' a' c',AN R T h' (.slice a' xs'.length c') xs'->K ds A n0 (Bn env o.dst (.slice a' xs'.length c')) (h' :: l) (wpList P ops Q rest)) (hg:Ci ops env o=some true:=by kernel_rfl) (hd:inB n0 o.dst=true:=by kernel_rfl) (hs:BK env s=some v:=by kernel_rfl) (hx:BK env x=some y:=by kernel_rfl) (hu:KS P U=true:=by kernel_rfl):K ds A n0 env (h :: hy :: l) (wpList P ops Q (o :: rest)):=Bhv ho he hsz hg hd hs hx hu hap hO hY hk
theorem Jv {α:Type} {E:α->List Value} {xs:List α} {a:α} {ix:Int} {kd:IntKind} {h:N} {A':AG} {c:Nat} {T TS:TypeId} {sz:Nat} {x y:Operand} (hE:E4 E sz) (ho:o.op=.indexAddr TS x y) (hi:B7 xs ix=some a) (hR:AZ E sz h (.slice A' xs.length c) xs) (hk:∀ p,Elem h p (E a)->Place A' (ix.toNat * sz) p->K ds A n0 (Bn env o.dst p) l (wpList P ops Q rest)) (hg:Ci ops env o=some true:=by kernel_rfl) (hd:inB n0 o.dst=true:=by kernel_rfl) (hx:BK env x=some (.slice A' xs.length c):=by kernel_rfl) (hy:BK env y=some (.int kd ix):=by kernel_rfl) (h1:P.underlying TS=some (.slice T):=by kernel_rfl) (h2:(P.info? T).map (·.size)=some sz:=by kernel_rfl):K ds A n0 env l (wpList P ops Q (o :: rest)):=Bh1 hE ho hg hd hx hy h1 h2 hi hR hk
theorem EX {xs:List α} {a:α} {ix:Int} {kd:IntKind} {h:N} {A':AG} {c:Nat} {T TS:TypeId} {x y:Operand} (ho:o.op=.indexAddr TS x y) (hi:B7 xs ix=some a) (hR:RdR R h (.slice A' xs.length c) xs) (hk:∀ p us,R.rd a h us->Elem h p us->Place A' (ix.toNat * R.sz) p->K ds A n0 (Bn env o.dst p) l (wpList P ops Q rest)) (hg:Ci ops env o=some true:=by kernel_rfl) (hd:inB n0 o.dst=true:=by kernel_rfl) (hx:BK env x=some (.slice A' xs.length c):=by kernel_rfl) (hy:BK env y=some (.int kd ix):=by kernel_rfl) (h1:P.underlying TS=some (.slice T):=by kernel_rfl) (h2:(P.info? T).map (·.size)=some R.sz:=by kernel_rfl):K ds A n0 env l (wpList P ops Q (o :: rest)):=Bh4 ho hg hd hx hy h1 h2 hi hR hk
theorem HI {h:N} {p:Value} {us:List Value} {T:TypeId} {k off k0:Nat} {A':AG} {x:Operand} (ho:o.op=.fieldAddr T x k) (hE:Elem h p us) (hp:Place A' k0 p) (hk:∀ p',Elem h p' (us.drop off)->Place A' (k0+off) p'->K ds A n0 (Bn env o.dst p') l (wpList P ops Q rest)) (hg:Ci ops env o=some true:=by kernel_rfl) (hd:inB n0 o.dst=true:=by kernel_rfl) (hx:BK env x=some p:=by kernel_rfl) (hT:(match P.underlying T with | some (.struct fs)=>(match fs[k]? with | some f=>(match (P.info? f.type).map (·.size) with | some (s+1)=>some f.offset | _=>none) | none=>none) | _=>none)=some off:=by kernel_rfl):K ds A n0 env l (wpList P ops Q (o :: rest)):=Bh0 ho hg hd hx hT hE hp hk
theorem HA {h:N} {p:Value} {us:List Value} {T:TypeId} {x:Operand} (ho:o.op=.load T x) (hE:Elem h p us) (hm:h ∈ l) (hk:K ds A n0 (Bn env o.dst (.agg us.toArray)) l (wpList P ops Q rest)) (hg:Ci ops env o=some true:=by kernel_rfl) (hd:inB n0 o.dst=true:=by kernel_rfl) (hx:BK env x=some p:=by kernel_rfl) (hT:(match P.underlying T with | some (.struct _)=>true | some (.array _ _)=>true | _=>false)=true:=by kernel_rfl) (hs:(P.info? T).map (·.size)=some us.length:=by kernel_rfl):K ds A n0 env l (wpList P ops Q (o :: rest)):=Bh5 ho hg hd hx hT hs hE hm hk
theorem KM {α:Type} {E:α->List Value} {xs:List α} {a:α} {ix:Int} {kd:IntKind} {h:N} {A':AG} {c:Nat} {T TS:TypeId} {sz:Nat} {x y:Operand} (hE:E4 E sz) (ho:o.op=.indexAddr TS x y) (hi:B7 xs ix=some a) (hR:AZ E sz h (.slice A' xs.length c) xs) (hk:∀ p,Elem h p (E a)->Place A' (ix.toNat * sz) p->K ds A n0 (Bn env o.dst p) l (BT P ops Q S tail pl)) (hg:Ci ops env o=some true:=by kernel_rfl) (hd:inB n0 o.dst=true:=by kernel_rfl) (hx:BK env x=some (.slice A' xs.length c):=by kernel_rfl) (hy:BK env y=some (.int kd ix):=by kernel_rfl) (h1:P.underlying TS=some (.slice T):=by kernel_rfl) (h2:(P.info? T).map (·.size)=some sz:=by kernel_rfl):K ds A n0 env l (BT P ops Q S tail ((o,0) :: pl)):=Bim hE ho hg hd hx hy h1 h2 hi hR hk
theorem MS {h:N} {p:Value} {us:List Value} {T:TypeId} {k off k0:Nat} {A':AG} {x:Operand} (ho:o.op=.fieldAddr T x k) (hE:Elem h p us) (hp:Place A' k0 p) (hk:∀ p',Elem h p' (us.drop off)->Place A' (k0+off) p'->K ds A n0 (Bn env o.dst p') l (BT P ops Q S tail pl)) (hg:Ci ops env o=some true:=by kernel_rfl) (hd:inB n0 o.dst=true:=by kernel_rfl) (hx:BK env x=some p:=by kernel_rfl) (hT:(match P.underlying T with | some (.struct fs)=>(match fs[k]? with | some f=>(match (P.info? f.type).map (·.size) with | some (s+1)=>some f.offset | _=>none) | none=>none) | _=>none)=some off:=by kernel_rfl):K ds A n0 env l (BT P ops Q S tail ((o,0) :: pl)):=Bil ho hg hd hx hT hE hp hk
theorem I3 {h:N} {p:Value} {us:List Value} {T:TypeId} {x:Operand} (ho:o.op=.load T x) (hE:Elem h p us) (hm:∀ w,S w->h.On w) (hk:K ds A n0 (Bn env o.dst (.agg us.toArray)) l (BT P ops Q S tail pl)) (hg:Ci ops env o=some true:=by kernel_rfl) (hd:inB n0 o.dst=true:=by kernel_rfl) (hx:BK env x=some p:=by kernel_rfl) (hT:(match P.underlying T with | some (.struct _)=>true | some (.array _ _)=>true | _=>false)=true:=by kernel_rfl) (hs:(P.info? T).map (·.size)=some us.length:=by kernel_rfl):K ds A n0 env l (BT P ops Q S tail ((o,3) :: pl)):=Biq ho hg hd hx hT hs hE hm hk
theorem Mg {α:Type} {E:α->List Value} {xs ys xs':List α} {T TS U:TypeId} {sz bytes:Nat} {i:TypeInfo} {z:Value} {h:N} {v y:Value} {s x:Operand} (hE:E4 E sz) (ho:o.op=.call { callee:=.builtin .append,args:=#[s,x],argTypes:=#[TS,U] }) (he:FC P TS T sz bytes i z) (hap:apd bytes xs ys=some xs') (hO:AL E T sz h v xs) (hsrc:∀ w,Sat (h :: l) w->Src P sz w y ys.length (ys.flatMap E)) (hk:∀ h' a' c',AL E T sz h' (.slice a' xs'.length c') xs'->K ds A n0 (Bn env o.dst (.slice a' xs'.length c')) (h' :: l) (wpList P ops Q rest)) (hg:Ci ops env o=some true:=by kernel_rfl) (hd:inB n0 o.dst=true:=by kernel_rfl) (hs:BK env s=some v:=by kernel_rfl) (hx:BK env x=some y:=by kernel_rfl) (hu:KS P U=true:=by kernel_rfl):K ds A n0 env (h :: l) (wpList P ops Q (o :: rest)):=Bht hE ho he hg hd hs hx hu hap hO hsrc hk
theorem KN {xs:List α} {a:α} {ix:Int} {kd:IntKind} {h:N} {A':AG} {c:Nat} {T TS:TypeId} {x y:Operand} (ho:o.op=.indexAddr TS x y) (hi:B7 xs ix=some a) (hR:RdR R h (.slice A' xs.length c) xs) (hk:∀ p us,R.rd a h us->Elem h p us->Place A' (ix.toNat * R.sz) p->K ds A n0 (Bn env o.dst p) l (BT P ops Q S tail pl)) (hg:Ci ops env o=some true:=by kernel_rfl) (hd:inB n0 o.dst=true:=by kernel_rfl) (hx:BK env x=some (.slice A' xs.length c):=by kernel_rfl) (hy:BK env y=some (.int kd ix):=by kernel_rfl) (h1:P.underlying TS=some (.slice T):=by kernel_rfl) (h2:(P.info? T).map (·.size)=some R.sz:=by kernel_rfl):K ds A n0 env l (BT P ops Q S tail ((o,0) :: pl)):=Bip ho hg hd hx hy h1 h2 hi hR hk
end
end
end Go.Proofs.YteccladehmaglaaGreatDoor
