/- Texts of mine for checkMemory_card, part 3. -/
import Derived.Shelf.Strings.Builder1
import Derived.Shelf.Small.Utf8
import Derived.Shelf.Small.Strs
import Derived.Shelf.Small.Wraps
import Derived.Shelf.Strings.BuilderF
import Derived.Shelf.Strings.BuilderK
import Derived.Shelf.Strings.Search1
import Derived.Shelf.Strings.Search2
import Derived.Shelf.Strings.Search3
import Derived.Shelf.LaysM
import Derived.Shelf.Strings.Shaped
import Derived.Shelf.Strings.Prefix
import Derived.Shelf.Strings.Fields
import Derived.Shelf.Strings.SplitShaped
import Derived.Shelf.Unicode.Latin
import Derived.Shelf.Unicode.Decode
import Derived.Shelf.Bits.Mul64
import Derived.Shelf.Unicode.DecodeSlow
import Derived.Shelf.Unicode.DecodeAny
import Derived.Shelf.Unicode.Is16White
import Derived.Shelf.Unicode.IsSpaceAny
import Derived.Shelf.Unicode.Is16WhiteD
import Derived.Shelf.Unicode.IsSpaceAnyD
import Derived.Shelf.Strings.FieldsAny
import Derived.Shelf.Strings.FieldsFuncAny
import Derived.Shelf.Unicode.Is16Any
import Derived.Shelf.Unicode.Is32Any
import Derived.Shelf.Unicode.ExclAny
import Derived.Shelf.Strings.BuilderCap
import Derived.Shelf.Slices.Turned
import Derived.Test.YteccladehmaglaaGreatDoorProg
import Derived.Laws.MathBits
import Derived.Lib.IndexMore
import Derived.Test.YteccladehmaglaaGreatDoorCmB
set_option linter.unusedSimpArgs false
set_option linter.unusedVariables false
set_option linter.unusedSectionVars false
namespace Go.Proofs
open Go.Shelf
def Tryz.lays169_ren:Go.Shelf.Ren:=⟨λ| 169=>121 | n=>n,λ| 70=>153 | 9=>9 | 0=>0 | 72=>155 | 37=>140 | 127=>187 | 3=>3 | 5=>5 | n=>n,λ| n=>n⟩
theorem Tryz.lays169:Go.Proofs.Lays.n169 Tryz.prog Tryz.lays169_ren:={
 mixed:=by kernel_rfl
 f169:=Tryz.func121.trans (congrArg some (by kernel_rfl))
 t0:=Tryz.underlying0
 a0:=Tryz.isAgg0
 z0:=Tryz.sizeOf0
 v0:=Tryz.zeroValue0
 t3:=Tryz.underlying3
 a3:=Tryz.isAgg3
 z3:=Tryz.sizeOf3
 v3:=Tryz.zeroValue3
 t9:=Tryz.underlying9
 a9:=Tryz.isAgg9
 z9:=Tryz.sizeOf9
 v9:=Tryz.zeroValue9
 t37:=Tryz.underlying140
 a37:=Tryz.isAgg140
 z37:=Tryz.sizeOf140
 v37:=Tryz.zeroValue140
 t70:=Tryz.underlying153
 a70:=Tryz.isAgg153
 z70:=Tryz.sizeOf153
 v70:=Tryz.zeroValue153
 t72:=Tryz.underlying155
 a72:=Tryz.isAgg155
 z72:=Tryz.sizeOf155
 v72:=Tryz.zeroValue155
 t127:=Tryz.underlying187
 a127:=Tryz.isAgg187
 z127:=Tryz.sizeOf187
 v127:=Tryz.zeroValue187 }
theorem Tryz.Builder_Extra_169:Builder.Extra Tryz.prog Tryz.lays169_ren:={
 sizeBuilder:=by kernel_rfl
 liesBuilder:=by kernel_rfl
 t5:=Tryz.underlying5
 a5:=Tryz.isAgg5
 z5:=Tryz.sizeOf5
 v5:=Tryz.zeroValue5
 infoByte:=by kernel_rfl
 cellsByte:=by kernel_rfl
 sizeByte:=by kernel_rfl
 neB5:=by decide }
open Go.RowKit in
theorem Tryz.Builder_String_any (B b:Nat) (l:List UInt8) (w:World) (h:Lib.IsBuilder 155 5 B b (Lib.byteCells l) w) (hBw:B<=w.heap.size) :
  Calls Tryz.prog 121 #[.pointer (some ⟨b,0,none⟩)] w λe w'=>e=.returned (.string ⟨l.toArray⟩)/\Below B w w':=Any.Builder_String_any Tryz.lays169 Tryz.Builder_Extra_169 B b l w h hBw
def Tryz.lays119_ren:Go.Shelf.Ren:=⟨λ| 119=>137 | n=>n,λ| 21=>21 | 4=>4 | n=>n,λ| n=>n⟩
theorem Tryz.lays119:Go.Proofs.Lays.n119 Tryz.prog Tryz.lays119_ren:={
 mixed:=by kernel_rfl
 f119:=Tryz.func137.trans (congrArg some (by kernel_rfl))
 t4:=Tryz.underlying4
 a4:=Tryz.isAgg4
 z4:=Tryz.sizeOf4
 v4:=Tryz.zeroValue4
 t21:=Tryz.underlying21
 a21:=Tryz.isAgg21
 z21:=Tryz.sizeOf21
 v21:=Tryz.zeroValue21 }
theorem Tryz.utf8_ValidRune (r:Int) (w:World) :
  Calls Tryz.prog 137 #[.int .i32 r] w λe w'=>e=.returned (.bool (Lib.validRune r))/\w'=w:=Any.utf8_ValidRune Tryz.lays119 r w
def Tryz.lays137_ren:Go.Shelf.Ren:=⟨λ| 137=>151 | 217=>154 | 266=>162 | n=>n,λ| 9=>9 | 5=>5 | 3=>3 | n=>n,λ| n=>n⟩
theorem Tryz.lays137:Go.Proofs.Lays.n137 Tryz.prog Tryz.lays137_ren:={
 mixed:=by kernel_rfl
 f137:=Tryz.func151.trans (congrArg some (by kernel_rfl))
 f217:=Tryz.func154.trans (congrArg some (by kernel_rfl))
 f266:=Tryz.func162.trans (congrArg some (by kernel_rfl))
 t3:=Tryz.underlying3
 a3:=Tryz.isAgg3
 z3:=Tryz.sizeOf3
 v3:=Tryz.zeroValue3
 t5:=Tryz.underlying5
 a5:=Tryz.isAgg5
 z5:=Tryz.sizeOf5
 v5:=Tryz.zeroValue5
 t9:=Tryz.underlying9
 a9:=Tryz.isAgg9
 z9:=Tryz.sizeOf9
 v9:=Tryz.zeroValue9 }
open Go.RowKit in
theorem Tryz.strings_IndexByte (s:ByteArray) (c:Int) (w:World) :
  Calls Tryz.prog 151 #[.string s,.int .u8 c] w λe w'=>e=.returned (.int .i64 (Lib.indexByte s.data.toList c.toNat.toUInt8))/\w'=w:=Any.strings_IndexByte Tryz.lays137 s c w
def Tryz.lays103_ren:Go.Shelf.Ren:=⟨λ| 103=>158 | 210=>164 | 206=>113 | n=>n,λ| 9=>9 | 4=>4 | 24=>202 | 3=>3 | n=>n,λ| n=>n⟩
theorem Tryz.lays103:Go.Proofs.Lays.n103 Tryz.prog Tryz.lays103_ren:={
 mixed:=by kernel_rfl
 f103:=Tryz.func158.trans (congrArg some (by kernel_rfl))
 f206:=Tryz.func113.trans (congrArg some (by kernel_rfl))
 f210:=Tryz.func164.trans (congrArg some (by kernel_rfl))
 t3:=Tryz.underlying3
 a3:=Tryz.isAgg3
 z3:=Tryz.sizeOf3
 v3:=Tryz.zeroValue3
 t4:=Tryz.underlying4
 a4:=Tryz.isAgg4
 z4:=Tryz.sizeOf4
 v4:=Tryz.zeroValue4
 t9:=Tryz.underlying9
 a9:=Tryz.isAgg9
 z9:=Tryz.sizeOf9
 v9:=Tryz.zeroValue9
 t24:=Tryz.underlying202
 a24:=Tryz.isAgg202
 z24:=Tryz.sizeOf202
 v24:=Tryz.zeroValue202 }
open Go.RowKit in
theorem Tryz.strings_CutPrefix (s p:ByteArray) (w:World) :
  Calls Tryz.prog 158 #[.string s,.string p] w λe w'=>e=.returned (.tuple #[.string ⟨(Lib.trimPrefix s.data.toList p.data.toList).toArray⟩,.bool (Lib.hasPrefix s.data.toList p.data.toList)])/\w'=w:=Any.strings_CutPrefix Tryz.lays103 s p w
def Tryz.lays144_ren:Go.Shelf.Ren:=⟨λ| 144=>117 | 143=>138 | 219=>148 | 217=>154 | 225=>155 | 224=>156 | 267=>157 | 266=>162 | 314=>163 | n=>n,λ| 9=>9 | 4=>4 | 3=>3 | 5=>5 | 46=>182 | 146=>208 | 51=>150 | n=>n,λ| 1=>4 | n=>n⟩
theorem Tryz.lays144:Go.Proofs.Lays.n144 Tryz.prog Tryz.lays144_ren:={
 mixed:=by kernel_rfl
 f143:=Tryz.func138.trans (congrArg some (by kernel_rfl))
 f144:=Tryz.func117.trans (congrArg some (by kernel_rfl))
 f217:=Tryz.func154.trans (congrArg some (by kernel_rfl))
 f219:=Tryz.func148.trans (congrArg some (by kernel_rfl))
 f224:=Tryz.func156.trans (congrArg some (by kernel_rfl))
 f225:=Tryz.func155.trans (congrArg some (by kernel_rfl))
 f266:=Tryz.func162.trans (congrArg some (by kernel_rfl))
 f267:=Tryz.func157.trans (congrArg some (by kernel_rfl))
 f314:=Tryz.func163.trans (congrArg some (by kernel_rfl))
 t3:=Tryz.underlying3
 a3:=Tryz.isAgg3
 z3:=Tryz.sizeOf3
 v3:=Tryz.zeroValue3
 t4:=Tryz.underlying4
 a4:=Tryz.isAgg4
 z4:=Tryz.sizeOf4
 v4:=Tryz.zeroValue4
 t5:=Tryz.underlying5
 a5:=Tryz.isAgg5
 z5:=Tryz.sizeOf5
 v5:=Tryz.zeroValue5
 t9:=Tryz.underlying9
 a9:=Tryz.isAgg9
 z9:=Tryz.sizeOf9
 v9:=Tryz.zeroValue9
 t46:=Tryz.underlying182
 a46:=Tryz.isAgg182
 z46:=Tryz.sizeOf182
 v46:=Tryz.zeroValue182
 t51:=Tryz.underlying150
 a51:=Tryz.isAgg150
 z51:=Tryz.sizeOf150
 v51:=Tryz.zeroValue150
 t146:=Tryz.underlying208
 a146:=Tryz.isAgg208
 z146:=Tryz.sizeOf208
 v146:=Tryz.zeroValue208
 g1:=by kernel_rfl }
open Go.RowKit Go.Lib in
theorem Tryz.strings_Contains (s sub:ByteArray) (m:Int) (w:World) (hs:s.size < 4294967281) (hm:w.cell? ⟨4,0,none⟩=some (.int .i64 m)) :
  Calls Tryz.prog 117 #[.string s,.string sub] w λe w'=>e=.returned (.bool (Lib.contains s.data.toList sub.data.toList))/\w'=w:=Any.strings_Contains Tryz.lays144 s sub m w hs hm
def Tryz.laysM144_ren:Go.Shelf.Ren:=⟨λ| 144=>117 | 143=>138 | 219=>148 | 217=>154 | 225=>155 | 224=>156 | 267=>157 | 266=>162 | 314=>163 | n=>n,λ| 9=>9 | 4=>4 | 3=>3 | 5=>5 | 46=>182 | 146=>208 | 51=>150 | n=>n,λ| 1=>4 | n=>n⟩
theorem Tryz.laysM144:Go.Proofs.LaysM.n144 Tryz.prog Tryz.laysM144_ren:={
 mixed:=by kernel_rfl
 f143:=Tryz.func138.trans (congrArg some (by kernel_rfl))
 f144:=Tryz.func117.trans (congrArg some (by kernel_rfl))
 f217:=Tryz.func154.trans (congrArg some (by kernel_rfl))
 f219:=Tryz.func148.trans (congrArg some (by kernel_rfl))
 f224:=Tryz.func156.trans (congrArg some (by kernel_rfl))
 f225:=Tryz.func155.trans (congrArg some (by kernel_rfl))
 f266:=Tryz.func162.trans (congrArg some (by kernel_rfl))
 f267:=Tryz.func157.trans (congrArg some (by kernel_rfl))
 f314:=Tryz.func163.trans (congrArg some (by kernel_rfl))
 t3:=Tryz.underlying3
 a3:=Tryz.isAgg3
 z3:=Tryz.sizeOf3
 v3:=Tryz.zeroValue3
 t4:=Tryz.underlying4
 a4:=Tryz.isAgg4
 z4:=Tryz.sizeOf4
 v4:=Tryz.zeroValue4
 t5:=Tryz.underlying5
 a5:=Tryz.isAgg5
 z5:=Tryz.sizeOf5
 v5:=Tryz.zeroValue5
 t9:=Tryz.underlying9
 a9:=Tryz.isAgg9
 z9:=Tryz.sizeOf9
 v9:=Tryz.zeroValue9
 t46:=Tryz.underlying182
 a46:=Tryz.isAgg182
 z46:=Tryz.sizeOf182
 v46:=Tryz.zeroValue182
 t51:=Tryz.underlying150
 a51:=Tryz.isAgg150
 z51:=Tryz.sizeOf150
 v51:=Tryz.zeroValue150
 t146:=Tryz.underlying208
 a146:=Tryz.isAgg208
 z146:=Tryz.sizeOf208
 v146:=Tryz.zeroValue208
 g1:=by kernel_rfl
 i3:=by kernel_rfl
 i4:=by kernel_rfl
 i5:=by kernel_rfl
 i9:=by kernel_rfl
 i46:=by kernel_rfl
 i51:=by kernel_rfl
 i146:=by kernel_rfl
 m1:=by kernel_rfl
 s1_3:=λw h=>Go.Proofs.cell_of_shapedOpen_int (zero:=#[.int .i64 0]) (t:=3) h (of_decide_eq_true (by kernel_rfl)) (by kernel_rfl) rfl (by kernel_rfl) (by kernel_rfl) Tryz.underlying3 }
def Tryz.lays99_ren:Go.Shelf.Ren:=⟨λ| 99=>78 | 206=>113 | n=>n,λ| 9=>9 | 4=>4 | 3=>3 | n=>n,λ| n=>n⟩
theorem Tryz.lays99:Go.Proofs.Lays.n99 Tryz.prog Tryz.lays99_ren:={
 mixed:=by kernel_rfl
 f99:=Tryz.func78.trans (congrArg some (by kernel_rfl))
 f206:=Tryz.func113.trans (congrArg some (by kernel_rfl))
 t3:=Tryz.underlying3
 a3:=Tryz.isAgg3
 z3:=Tryz.sizeOf3
 v3:=Tryz.zeroValue3
 t4:=Tryz.underlying4
 a4:=Tryz.isAgg4
 z4:=Tryz.sizeOf4
 v4:=Tryz.zeroValue4
 t9:=Tryz.underlying9
 a9:=Tryz.isAgg9
 z9:=Tryz.sizeOf9
 v9:=Tryz.zeroValue9 }
open Go.RowKit Go.Lib in
theorem Tryz.strings_HasPrefix (s p:ByteArray) (w:World) :
  Calls Tryz.prog 78 #[.string s,.string p] w λe w'=>e=.returned (.bool (Lib.hasPrefix s.data.toList p.data.toList))/\w'=w:=Any.strings_HasPrefix Tryz.lays99 s p w
def Tryz.lays157_ren:Go.Shelf.Ren:=⟨λ| 157=>37 | 229=>73 | 199=>74 | 261=>111 | 311=>135 | 312=>136 | n=>n,λ| 9=>9 | 31=>23 | 3=>3 | 5=>5 | 4=>4 | 119=>127 | 0=>0 | 40=>129 | 152=>147 | 21=>21 | 154=>149 | 51=>150 | 141=>152 | 196=>174 | 193=>171 | 198=>177 | 49=>175 | 194=>172 | 201=>180 | 226=>192 | 46=>182 | 227=>193 | n=>n,λ| 0=>0 | 6=>1 | n=>n⟩
theorem Tryz.lays157:Go.Proofs.Lays.n157 Tryz.prog Tryz.lays157_ren:={
 mixed:=by kernel_rfl
 f157:=Tryz.func37.trans (congrArg some (by kernel_rfl))
 f199:=Tryz.func74.trans (congrArg some (by kernel_rfl))
 f229:=Tryz.func73.trans (congrArg some (by kernel_rfl))
 f261:=Tryz.func111.trans (congrArg some (by kernel_rfl))
 f311:=Tryz.func135.trans (congrArg some (by kernel_rfl))
 f312:=Tryz.func136.trans (congrArg some (by kernel_rfl))
 t0:=Tryz.underlying0
 a0:=Tryz.isAgg0
 z0:=Tryz.sizeOf0
 v0:=Tryz.zeroValue0
 t3:=Tryz.underlying3
 a3:=Tryz.isAgg3
 z3:=Tryz.sizeOf3
 v3:=Tryz.zeroValue3
 t4:=Tryz.underlying4
 a4:=Tryz.isAgg4
 z4:=Tryz.sizeOf4
 v4:=Tryz.zeroValue4
 t5:=Tryz.underlying5
 a5:=Tryz.isAgg5
 z5:=Tryz.sizeOf5
 v5:=Tryz.zeroValue5
 t9:=Tryz.underlying9
 a9:=Tryz.isAgg9
 z9:=Tryz.sizeOf9
 v9:=Tryz.zeroValue9
 t21:=Tryz.underlying21
 a21:=Tryz.isAgg21
 z21:=Tryz.sizeOf21
 v21:=Tryz.zeroValue21
 t31:=Tryz.underlying23
 a31:=Tryz.isAgg23
 z31:=Tryz.sizeOf23
 v31:=Tryz.zeroValue23
 t40:=Tryz.underlying129
 a40:=Tryz.isAgg129
 z40:=Tryz.sizeOf129
 v40:=Tryz.zeroValue129
 t46:=Tryz.underlying182
 a46:=Tryz.isAgg182
 z46:=Tryz.sizeOf182
 v46:=Tryz.zeroValue182
 t49:=Tryz.underlying175
 a49:=Tryz.isAgg175
 z49:=Tryz.sizeOf175
 v49:=Tryz.zeroValue175
 t51:=Tryz.underlying150
 a51:=Tryz.isAgg150
 z51:=Tryz.sizeOf150
 v51:=Tryz.zeroValue150
 t119:=Tryz.underlying127
 a119:=Tryz.isAgg127
 z119:=Tryz.sizeOf127
 t141:=Tryz.underlying152
 a141:=Tryz.isAgg152
 z141:=Tryz.sizeOf152
 v141:=Tryz.zeroValue152
 t152:=Tryz.underlying147
 a152:=Tryz.isAgg147
 z152:=Tryz.sizeOf147
 v152:=Tryz.zeroValue147
 t154:=Tryz.underlying149
 a154:=Tryz.isAgg149
 z154:=Tryz.sizeOf149
 v154:=Tryz.zeroValue149
 t193:=Tryz.underlying171
 a193:=Tryz.isAgg171
 z193:=Tryz.sizeOf171
 v193:=Tryz.zeroValue171
 t194:=Tryz.underlying172
 a194:=Tryz.isAgg172
 z194:=Tryz.sizeOf172
 v194:=Tryz.zeroValue172
 t196:=Tryz.underlying174
 a196:=Tryz.isAgg174
 z196:=Tryz.sizeOf174
 v196:=Tryz.zeroValue174
 t198:=Tryz.underlying177
 a198:=Tryz.isAgg177
 z198:=Tryz.sizeOf177
 v198:=Tryz.zeroValue177
 t201:=Tryz.underlying180
 a201:=Tryz.isAgg180
 z201:=Tryz.sizeOf180
 v201:=Tryz.zeroValue180
 t226:=Tryz.underlying192
 a226:=Tryz.isAgg192
 z226:=Tryz.sizeOf192
 v226:=Tryz.zeroValue192
 t227:=Tryz.underlying193
 a227:=Tryz.isAgg193
 z227:=Tryz.sizeOf193
 v227:=Tryz.zeroValue193
 g0:=by kernel_rfl
 g6:=by kernel_rfl }
open Go.RowKit Go.Lib in
theorem Tryz.strings_Fields (s:ByteArray) (w:World) (hs:s.size < 4294967281) (hascii:∀ (j:Nat) b,s.data.toList[j]? = some b->b.toNat < 128) (htab:Lib.TabIs Tryz.prog w "strings.asciiSpace" .u8 Lib.asciiSpaceTab) :
  Calls Tryz.prog 37 #[.string s] w λe w' =>
   e=.returned (.slice (some ⟨w.heap.size,0,none⟩) (Lib.fields s.data.toList).length (Lib.fields s.data.toList).length)/\w'=w.alloc (.cells ((Lib.fields s.data.toList).map λl=>Value.string ⟨l.toArray⟩).toArray 9):=Any.strings_Fields Tryz.lays157 (by kernel_rfl) (by kernel_rfl) s w hs hascii htab
def Tryz.lays197_ren:Go.Shelf.Ren:=⟨λ| 197=>77 | 260=>112 | n=>n,λ| 9=>9 | 21=>21 | 3=>3 | 4=>4 | 5=>5 | 105=>131 | 119=>127 | 0=>0 | 46=>182 | 139=>185 | 138=>184 | n=>n,λ| 3=>2 | 4=>3 | n=>n⟩
theorem Tryz.lays197:Go.Proofs.Lays.n197 Tryz.prog Tryz.lays197_ren:={
 mixed:=by kernel_rfl
 f197:=Tryz.func77.trans (congrArg some (by kernel_rfl))
 f260:=Tryz.func112.trans (congrArg some (by kernel_rfl))
 t0:=Tryz.underlying0
 a0:=Tryz.isAgg0
 z0:=Tryz.sizeOf0
 v0:=Tryz.zeroValue0
 t3:=Tryz.underlying3
 a3:=Tryz.isAgg3
 z3:=Tryz.sizeOf3
 v3:=Tryz.zeroValue3
 t4:=Tryz.underlying4
 a4:=Tryz.isAgg4
 z4:=Tryz.sizeOf4
 v4:=Tryz.zeroValue4
 t5:=Tryz.underlying5
 a5:=Tryz.isAgg5
 z5:=Tryz.sizeOf5
 v5:=Tryz.zeroValue5
 t9:=Tryz.underlying9
 a9:=Tryz.isAgg9
 z9:=Tryz.sizeOf9
 v9:=Tryz.zeroValue9
 t21:=Tryz.underlying21
 a21:=Tryz.isAgg21
 z21:=Tryz.sizeOf21
 v21:=Tryz.zeroValue21
 t46:=Tryz.underlying182
 a46:=Tryz.isAgg182
 z46:=Tryz.sizeOf182
 v46:=Tryz.zeroValue182
 t105:=Tryz.underlying131
 a105:=Tryz.isAgg131
 z105:=Tryz.sizeOf131
 v105:=Tryz.zeroValue131
 t119:=Tryz.underlying127
 a119:=Tryz.isAgg127
 z119:=Tryz.sizeOf127
 t138:=Tryz.underlying184
 a138:=Tryz.isAgg184
 z138:=Tryz.sizeOf184
 v138:=Tryz.zeroValue184
 t139:=Tryz.underlying185
 a139:=Tryz.isAgg185
 z139:=Tryz.sizeOf185
 v139:=Tryz.zeroValue185
 g3:=by kernel_rfl
 g4:=by kernel_rfl }
def Tryz.lays264_ren:Go.Shelf.Ren:=⟨λ| 264=>160 | n=>n,λ| 53=>196 | 46=>182 | n=>n,λ| n=>n⟩
theorem Tryz.lays264:Go.Proofs.Lays.n264 Tryz.prog Tryz.lays264_ren:={
 mixed:=by kernel_rfl
 f264:=Tryz.func160.trans (congrArg some (by kernel_rfl))
 t46:=Tryz.underlying182
 a46:=Tryz.isAgg182
 z46:=Tryz.sizeOf182
 v46:=Tryz.zeroValue182
 t53:=Tryz.underlying196
 a53:=Tryz.isAgg196
 z53:=Tryz.sizeOf196
 v53:=Tryz.zeroValue196 }
open Go.RowKit Go.Lib in
theorem Tryz.bits_Mul64 (x y:Nat) (hx:x < 18446744073709551616) (hy:y < 18446744073709551616) (w:World) :
  Calls Tryz.prog 160 #[.int .u64 x,.int .u64 y] w λe w'=>e=.returned (.tuple #[.int .u64 ((x * y / 18446744073709551616:Nat):Int),.int .u64 ((x * y % 18446744073709551616:Nat):Int)])/\w'=w:=Any.bits_Mul64 Tryz.lays264 x y hx hy w
def Tryz.lays260_ren:Go.Shelf.Ren:=⟨λ| 260=>112 | n=>n,λ| 9=>9 | 21=>21 | 3=>3 | 4=>4 | 5=>5 | 119=>127 | 0=>0 | 46=>182 | 139=>185 | 138=>184 | n=>n,λ| 3=>2 | 4=>3 | n=>n⟩
theorem Tryz.lays260:Go.Proofs.Lays.n260 Tryz.prog Tryz.lays260_ren:={
 mixed:=by kernel_rfl
 f260:=Tryz.func112.trans (congrArg some (by kernel_rfl))
 t0:=Tryz.underlying0
 a0:=Tryz.isAgg0
 z0:=Tryz.sizeOf0
 v0:=Tryz.zeroValue0
 t3:=Tryz.underlying3
 a3:=Tryz.isAgg3
 z3:=Tryz.sizeOf3
 v3:=Tryz.zeroValue3
 t4:=Tryz.underlying4
 a4:=Tryz.isAgg4
 z4:=Tryz.sizeOf4
 v4:=Tryz.zeroValue4
 t5:=Tryz.underlying5
 a5:=Tryz.isAgg5
 z5:=Tryz.sizeOf5
 v5:=Tryz.zeroValue5
 t9:=Tryz.underlying9
 a9:=Tryz.isAgg9
 z9:=Tryz.sizeOf9
 v9:=Tryz.zeroValue9
 t21:=Tryz.underlying21
 a21:=Tryz.isAgg21
 z21:=Tryz.sizeOf21
 v21:=Tryz.zeroValue21
 t46:=Tryz.underlying182
 a46:=Tryz.isAgg182
 z46:=Tryz.sizeOf182
 v46:=Tryz.zeroValue182
 t119:=Tryz.underlying127
 a119:=Tryz.isAgg127
 z119:=Tryz.sizeOf127
 t138:=Tryz.underlying184
 a138:=Tryz.isAgg184
 z138:=Tryz.sizeOf184
 v138:=Tryz.zeroValue184
 t139:=Tryz.underlying185
 a139:=Tryz.isAgg185
 z139:=Tryz.sizeOf185
 v139:=Tryz.zeroValue185
 g3:=by kernel_rfl
 g4:=by kernel_rfl }
open Go.RowKit Go.Lib in
theorem Tryz.utf8_DecodeRuneInString (s:ByteArray) (w:World) (hT:Lib.Utf8Tabs 2 3 w) :
  Calls Tryz.prog 77 #[.string s] w λe w'=>e=.returned (.tuple #[.int .i32 (Lib.decodeGo s).1,.int .i64 (Lib.decodeGo s).2])/\Below w.heap.size w w':=Any.utf8_DecodeRuneInString Tryz.lays197 s w hT
end Go.Proofs
namespace Go.Proofs.YteccladehmaglaaGreatDoor
set_option maxRecDepth 100000
section
open Go Go.RowKit Lx
theorem Bww (r:Int):Lib.validRune r=Utf8.valid r:=by
 simp only [Lib.validRune,Utf8.valid];by_cases h:(0<=r/\r < 55296)\/(57343 < r/\r<=1114111);rw [decide_eq_true h];rcases h with h | h <;> simp <;> omega
 rw [decide_eq_false h];simp;omega
theorem Aw2 (r:Int) (w:World):Calls Tryz.prog 137 #[.int .i32 r] w λe w'=>e=.returned (.bool (Utf8.valid r))/\w=w' :=
 (Tryz.utf8_ValidRune r w).mono λ_ _ ⟨h1,h2⟩=>⟨by rw [h1,Bww],h2.symm⟩
theorem A2x (r:Int) (w:World):Calls Tryz.prog 118 #[.int .i64 r] w λe w'=>e=.returned (.bool (decide (48<=r/\r<=57)))/\w=w':=by
 by_cases h1:48<=r
 ·go_enter Tryz.func118,Tryz.ntmps118
  go_wp2
  go_ret
  exact ⟨by simp [h1],rfl⟩
 ·go_enter Tryz.func118,Tryz.ntmps118
  go_wp2
  go_ret
  exact ⟨by simp;omega,rfl⟩
def T4 (r:Int):Bool:=decide (97<=r/\r<=122\/65<=r/\r<=90\/r=95\/(128<=r/\r<=1114111/\r≠65533/\Utf8.valid r=true))
theorem Ut {a b:Bool} (h:a=b):Ending.returned (.bool a)=.returned (.bool b):=by rw [h]
set_option maxHeartbeats 1000000 in
theorem Bkw (r:Int) (w:World) (h0:0<=r) (h1:r<=2147483647):Calls Tryz.prog 114 #[.int .i64 r] w λe w'=>e=.returned (.bool (T4 r))/\w=w':=by
  have hw:IntKind.i32.wrap r=r:=by unfold IntKind.wrap;simp [IntKind.bits,IntKind.signed];omega
  obtain ⟨lz,hlz⟩:∃ x,T4 r=x:=⟨_,rfl⟩
  rw [hlz]
  have HL:=Lib.hid hlz
  clear hlz
  obtain ⟨v,hv⟩:∃ v,Utf8.valid r=v:=⟨_,rfl⟩
  have hva:=Aw2 r
  rw [hv] at hva
  have HV:=Lib.hid hv
  have HVA:=Lib.hid hva
  clear hv hva
  have HW:=Lib.hid hw
  go_enter Tryz.func114,Tryz.ntmps114
  go_wp2_with ((go_at_call 137;refine (HVA.out _).mono ?_;rintro e w' ⟨rfl,rfl⟩))
  all_goals go_ret
  all_goals refine ⟨Ut ?_,rfl⟩
  all_goals have hl:=HL.out
  all_goals have hv:=HV.out
  all_goals clear HL HV HVA HW hw
  all_goals subst hl
  all_goals unfold T4
  all_goals simp only [hv]
  all_goals try simp only [beq_iff_eq,beq_eq_false_iff_ne,ne_eq] at *
  all_goals first
    | exact (decide_eq_true (by omega)).symm
    | exact (decide_eq_false (by omega)).symm
    | (cases v
       · rw [Bool.and_false];exact (decide_eq_false (by simp;omega)).symm
       · rw [Bool.and_true];by_cases h:r=65533
         · subst h;rfl
         · rw [show (r != 65533)=true from bne_iff_ne.2 h];exact (decide_eq_true (by simp;omega)).symm)
theorem Bku (r:Nat):T4 r=Ig r:=by
 unfold T4 Ig;generalize Utf8.valid (r:Int)=v;rw [Bool.eq_iff_iff];simp only [decide_eq_true_eq,Bool.or_eq_true,Bool.and_eq_true,beq_iff_eq,bne_iff_ne];constructor;rintro (h | h | h | ⟨h1,h2,h3,h4⟩);exact .inl (.inl (.inl ⟨by omega,by omega⟩));exact .inl (.inl (.inr ⟨by omega,by omega⟩));exact .inl (.inr (by omega));exact .inr ⟨⟨⟨by omega,by omega⟩,by omega⟩,h4⟩;rintro (((⟨h1,h2⟩ | ⟨h1,h2⟩) | h) | ⟨⟨⟨h1,h2⟩,h3⟩,h4⟩);exact .inl ⟨by omega,by omega⟩;exact .inr (.inl ⟨by omega,by omega⟩);exact .inr (.inr (.inl (by omega)));exact .inr (.inr (.inr ⟨by omega,by omega,by omega,h4⟩))
theorem A2v (r:Nat):decide (48<=(r:Int)/\(r:Int)<=57)=GN r:=by
 unfold GN;rw [Bool.eq_iff_iff];simp only [decide_eq_true_eq,Bool.and_eq_true];omega
theorem Ac3:QD 80 Ig:=by
 refine ⟨λargs w=>enters_of Tryz.func80 (by kernel_rfl) rfl args w,λr w hr=>?_⟩
 have hc:=Bkw r
 rw [Bku] at hc
 have HC:=Lib.hid hc
 clear hc
 have h1:(0:Int)<=r:=by omega
 have h2:(r:Int)<=2147483647:=by omega
 go_enter Tryz.func80,Tryz.ntmps80
 go_wp2_with ((go_at_call 114;refine (HC.out _ h1 h2).mono ?_;rintro e w' ⟨rfl,rfl⟩))
 go_ret
 exact ⟨rfl,rfl⟩
theorem WX:QD 82 GN:=by
 refine ⟨λargs w=>enters_of Tryz.func82 (by kernel_rfl) rfl args w,λr w hr=>?_⟩
 have hc:=A2x r
 rw [A2v] at hc
 have HC:=Lib.hid hc
 clear hc
 have h2:(r:Int)<=2147483647:=by omega
 go_enter Tryz.func82,Tryz.ntmps82
 go_wp2_with ((go_at_call 118;refine (HC.out _).mono ?_;rintro e w' ⟨rfl,rfl⟩))
 go_ret
 exact ⟨rfl,rfl⟩
theorem Auv:QD 115 Cm:=by
 refine ⟨λargs w=>enters_of Tryz.func115 (by kernel_rfl) rfl args w,λr w hr=>?_⟩
 have H1:=Lib.hid (λw=>Ac3.2 r w hr)
 have H2:=Lib.hid (λw=>WX.2 r w hr)
 obtain ⟨pr,hpr⟩:∃ x,Cm r=x:=⟨_,rfl⟩
 have HP:=Lib.hid hpr
 rw [hpr]
 clear hpr
 generalize hl:Ig r=lr at *
 generalize hd:GN r=dr at *
 have HL:=Lib.hid hl
 have HD:=Lib.hid hd
 clear hl hd
 cases lr
 ·go_enter Tryz.func115,Tryz.ntmps115
  go_wp2_with (first | ((go_at_call 80;refine (H1.out _).mono ?_;rintro e w' ⟨rfl,rfl⟩)) | ((go_at_call 82;refine (H2.out _).mono ?_;rintro e w' ⟨rfl,rfl⟩)))
  go_ret
  refine ⟨Ut ?_,rfl⟩
  rw [<- HP.out,Cm,HL.out,HD.out];rfl
 ·go_enter Tryz.func115,Tryz.ntmps115
  go_wp2_with (first | ((go_at_call 80;refine (H1.out _).mono ?_;rintro e w' ⟨rfl,rfl⟩)) | ((go_at_call 82;refine (H2.out _).mono ?_;rintro e w' ⟨rfl,rfl⟩)))
  go_ret
  refine ⟨Ut ?_,rfl⟩
  rw [<- HP.out,Cm,HL.out];rfl
theorem Bvj:QD 76 CE:=by
 refine ⟨λargs w=>enters_of Tryz.func76 (by kernel_rfl) rfl args w,λr w hr=>?_⟩
 obtain ⟨pr,hpr⟩:∃ x,CE r=x:=⟨_,rfl⟩
 have HP:=Lib.hid hpr
 rw [hpr]
 clear hpr
 go_enter Tryz.func76,Tryz.ntmps76
 go_wp2
 all_goals go_ret
 all_goals refine ⟨Ut ?_,rfl⟩
 all_goals rw [<- HP.out];clear HP
 all_goals unfold CE
 all_goals rw [Bool.eq_iff_iff]
 all_goals simp only [Bool.or_eq_true,beq_iff_eq,beq_eq_false_iff_ne,Bool.true_eq_false,Bool.false_eq_true,true_iff,false_iff,not_or] at *
 all_goals omega
theorem Bvk:QD 79 KQ:=by
 refine ⟨λargs w=>enters_of Tryz.func79 (by kernel_rfl) rfl args w,λr w hr=>?_⟩
 obtain ⟨pr,hpr⟩:∃ x,KQ r=x:=⟨_,rfl⟩
 have HP:=Lib.hid hpr
 rw [hpr]
 clear hpr
 go_enter Tryz.func79,Tryz.ntmps79
 go_wp2
 go_ret
 refine ⟨Ut ?_,rfl⟩
 rw [<- HP.out]
 unfold KQ
 rw [Bool.eq_iff_iff]
 simp only [bne_iff_ne]
 omega
theorem OX (c k:UInt8):(c=k) ↔ ((c.toNat:Int) == (k.toNat:Int))=true:=by
 rw [beq_iff_eq,Int.natCast_inj,UInt8.toNat_inj]
set_option maxHeartbeats 1000000 in
theorem Abu (c:UInt8) (w:World):Calls Tryz.prog 140 #[.int .u8 c.toNat] w λe w'=>e=.returned (.int .u8 (FY c).toNat)/\w=w':=by
 obtain ⟨x,hx⟩:∃ x,(FY c).toNat=x:=⟨_,rfl⟩
 have HX:=Lib.hid hx
 rw [hx]
 clear hx
 go_enter Tryz.func140,Tryz.ntmps140
 go_wp2
 all_goals go_ret
 all_goals refine ⟨M0 ?_,rfl⟩
 all_goals rw [<- HX.out];clear HX
 all_goals simp only [FY,OX]
 all_goals simp_all
theorem V9 (m:Nat) (b:UInt8) (t:Bs) (n k:Nat):B_ (m+1) (b :: t) n k=match hexD b with | none=>(n,k) | some d=>B_ m t (16 * n+d) (k+1):=rfl
def Ba6:Bs:=[48,49,50,51,52,53,54,55,56,57,97,98,99,100,101,102]
def QT (b:UInt8):Int:=Lib.indexByte Ba6 (Go.bits .or .u8 (b.toNat:Int) 32).toNat.toUInt8
def VA (b:UInt8):Bool :=
 match hexD b with
 | none=>decide (QT b < 0) || decide (b.toNat < 48)
 | some d=>decide (QT b=d) && decide (48<=b.toNat) && decide (d < 16)
theorem Ba5:∀ n,n < 256->VA (UInt8.ofNat n)=true:=by decide +kernel
theorem Ak8 (b:UInt8):VA b=true:=by
 have:=Ba5 b.toNat b.toNat_lt
 simpa using this
theorem Ba3 {b:UInt8} (h:hexD b=none):QT b < 0\/b.toNat < 48:=by
 have:=Ak8 b
 simpa [VA,h] using this
theorem V8 {b:UInt8} {d:Nat} (h:hexD b=some d):QT b=d/\48<=b.toNat/\d < 16:=by
 have:=Ak8 b
 simpa [VA,h,and_assoc] using this
theorem Aby {k:Nat} (h:k<=8):16 ^ k<=4294967296:=by
 have:=Nat.pow_le_pow_right (n:=16) (by omega) h;omega
theorem Bhn (b:UInt8) (w:World):Calls Tryz.prog 151 #[.string ⟨#[48,49,50,51,52,53,54,55,56,57,97,98,99,100,101,102]⟩,.int .u8 (Go.bits .or .u8 (b.toNat:Int) 32)] w λe w'=>e=.returned (.int .i64 (QT b))/\w=w' :=
 (Tryz.strings_IndexByte _ _ w).mono λ_ _ ⟨h1,h2⟩=>⟨h1,h2.symm⟩
theorem drop_at (s:Ah) (k:Nat) (h:k < s.size):(bs s).drop k=s[k] :: (bs s).drop (k+1):=by
 rw [List.drop_eq_getElem_cons (by rw [BZ];exact h)];rfl
set_option maxHeartbeats 1000000 in
theorem Alb (s:Ah) (most:Nat) (w:World) (hm:most<=8) (hs:s.size<=1000000) :
  Calls Tryz.prog 141 #[.string s,.int .i64 most] w λe w'=>e=.returned (.tuple #[.int .i64 (B_ most (bs s) 0 0).1,.int .i64 (B_ most (bs s) 0 0).2])/\w=w':=by
 obtain ⟨R,hR⟩:∃ R,B_ most (bs s) 0 0=R:=⟨_,rfl⟩
 rw [hR]
 have HR:=Lib.hid hR
 clear hR
 go_enter Tryz.func141,Tryz.ntmps141
 go_wp2
 go_loop [6,7,8] (λn k _=>∃ Ag K:Nat,K<=most/\K<=s.size/\Ag < 16 ^ K/\n=.int .i64 Ag/\k=.int .i64 K/\Hid (B_ (most - K) ((bs s).drop K) Ag K=R)) (λ_ k _=>most - (intOf k).toNat)
 case atStart=>exact ⟨0,0,by omega,by omega,by simp,rfl,rfl,HR.out⟩
 case round =>
  obtain ⟨Ag,K,hK,hKs,hN,rfl,rfl,hG⟩:=hrel
  have hp:=Aby (show K<=8 by omega)
  have hN2:Ag < 4294967296:=by omega
  have HN:=Lib.hid hN
  clear hN hp
  by_cases hlt:K < most
  ·by_cases hls:K < s.size
   ·have hix:=Bhn s[K]
    obtain ⟨Ae,hD⟩:∃ Ae,QT s[K]=Ae:=⟨_,rfl⟩
    rw [hD] at hix
    have HIX:=Lib.hid hix
    have HD:=Lib.hid hD
    clear hix hD
    go_wp2_with ((go_at_call 151;refine (HIX.out _).mono ?_;rintro e w' ⟨rfl,rfl⟩))
    ·go_ret2
     have hn:hexD s[K]=none:=by
      cases h:hexD s[K] with
      | none=>rfl
      | some d=>have:=V8 h;rw [HD.out] at this;omega
     have h:=hG
     unfold Hid at h
     rw [show most - K=(most - K - 1)+1 by omega,drop_at s K hls,V9,hn] at h
     rw [<- h]
     exact ⟨rfl,rfl⟩
    ·go_round
     case rel =>
      obtain ⟨d,hd⟩:∃ d,hexD s[K]=some d:=by
       cases h:hexD s[K] with
       | none=>have:=Ba3 h;rw [HD.out] at this;omega
       | some d=>exact ⟨d,rfl⟩
      have hs:=V8 hd
      rw [HD.out] at hs
      obtain ⟨hDd,_,QS⟩:=hs
      have hN16:=HN.out
      refine ⟨16 * Ag+d,K+1,by omega,by omega,by rw [Nat.pow_succ];omega,?_,by go_num,?_⟩
      ·rw [hDd];congr 1;unfold wrap64;omega
      ·have h:=hG
       unfold Hid at h ⊢
       rw [show most - K=(most - (K+1))+1 by omega,drop_at s K hls,V9,hd] at h
       exact h
     case measure=>simp [intOf];omega
    ·go_ret2
     have hn:hexD s[K]=none:=by
      cases h:hexD s[K] with
      | none=>rfl
      | some d=>have:=V8 h;rw [HD.out] at this;omega
     have h:=hG
     unfold Hid at h
     rw [show most - K=(most - K - 1)+1 by omega,drop_at s K hls,V9,hn] at h
     rw [<- h]
     exact ⟨rfl,rfl⟩
   ·go_wp2
    go_ret2
    have h:=hG
    unfold Hid at h
    rw [show most - K=(most - K - 1)+1 by omega,List.drop_of_length_le (by rw [BZ];omega)] at h
    rw [<- h]
    exact ⟨rfl,rfl⟩
  ·go_wp2
   go_ret2
   have h:=hG
   unfold Hid at h
   rw [show most - K=0 by omega] at h
   rw [<- h]
   exact ⟨rfl,rfl⟩
theorem Pi:∀ (m:Nat) (l:Bs) (n k:Nat),n < 16 ^ k->(B_ m l n k).1 < 16 ^ (B_ m l n k).2/\k<=(B_ m l n k).2/\(B_ m l n k).2<=k+m/\(B_ m l n k).2<=k+l.length
 | 0,_,n,k,h=>by simp only [B_];exact ⟨h,by omega,by omega,by omega⟩
 | m+1,[],n,k,h=>by simp only [B_];exact ⟨h,by omega,by omega,by simp⟩
 | m+1,b :: t,n,k,h=>by
  rw [V9];cases hd:hexD b with
  | none=>simp only [];exact ⟨h,by omega,by omega,by omega⟩
  | some d =>
   simp only [];have h16:=(V8 hd).2.2;have:=Pi m t (16 * n+d) (k+1) (by rw [Nat.pow_succ];omega);simp only [AX];exact ⟨this.1,by omega,by omega,by omega⟩
set_option maxHeartbeats 1000000 in
theorem A3x (n:Int) (w:World) (h0:0<=n) (h1:n<=4294967296) :
  Calls Tryz.prog 143 #[.int .i64 n] w λe w'=>e=.returned (.tuple #[.string (if Utf8.valid n then Utf8.encode n else ⟨#[]⟩),.int .i64 (if Utf8.valid n then 0 else 3)])/\w=w':=by
 obtain ⟨v,hv⟩:∃ v,Utf8.valid n=v:=⟨_,rfl⟩
 rw [hv]
 by_cases hbig:n<=1114111
 ·have hw:IntKind.i32.wrap n=n:=by unfold IntKind.wrap;simp [IntKind.bits,IntKind.signed];omega
  have hva:=Aw2 n
  rw [hv] at hva
  have HVA:=Lib.hid hva
  clear hva hv
  obtain ⟨E,hE⟩:∃ E,Utf8.encode n=E:=⟨_,rfl⟩
  rw [hE]
  have hconv:∀ w,(convert 21 9 (.int .i32 n)).run Tryz.prog w=.ok (.string E) w:=λw=>by
   rw [<- hE];exact run_convert_int_string w 21 9 .i32 n (by rw [Tryz.underlying21];rfl) Tryz.underlying9
  clear hE
  cases v
  ·go_enter Tryz.func143,Tryz.ntmps143
   go_wp2_with ((go_at_call 137;refine (HVA.out _).mono ?_;rintro e w' ⟨rfl,rfl⟩))
   go_ret2
   exact ⟨rfl,rfl⟩
  ·go_enter Tryz.func143,Tryz.ntmps143
   go_wp2_with ((go_at_call 137;refine (HVA.out _).mono ?_;rintro e w' ⟨rfl,rfl⟩))
   go_ret2
   exact ⟨rfl,rfl⟩
 ·have hvf:v=false:=by rw [<- hv];unfold Utf8.valid;simp;omega
  subst hvf
  clear hv
  go_enter Tryz.func143,Tryz.ntmps143
  go_wp2_with (fail)
  go_ret2
  exact ⟨rfl,rfl⟩
def I7 (r:Nat):Int:=match Jx r with | some d=>d | none=>-1
theorem A2u (r:Nat):I7 r=if 48<=r/\r<=57 then (r:Int) - 48 else if 97<=r/\r<=102 then (r:Int) - 87 else if 65<=r/\r<=70 then (r:Int) - 55 else -1:=by
 unfold I7 Jx
 (repeat' split) <;> simp_all <;> omega
set_option maxHeartbeats 1000000 in
theorem Ad1 (r:Nat) (w:World) (hr:r<=1114111):Calls Tryz.prog 159 #[.int .i32 r] w λe w'=>e=.returned (.int .i64 (I7 r))/\w=w':=by
 obtain ⟨x,hx⟩:∃ x,I7 r=x:=⟨_,rfl⟩
 rw [hx]
 rw [A2u] at hx
 have HX:=Lib.hid hx
 clear hx
 have hr':(r:Int)<=1114111:=by omega
 go_enter Tryz.func159,Tryz.ntmps159
 go_wp2
 all_goals go_ret
 all_goals refine ⟨M0 ?_,rfl⟩
 all_goals rw [<- HX.out];clear HX
 all_goals (repeat' split)
 all_goals (first | omega | (unfold wrap32 wrap64;omega) | (exfalso;omega) | (simp_all;omega))
theorem Aus (hex:Bool):∀ (f g n:Nat) (l:Bs),l.length<=f->l.length<=g->Li hex f n l=Li hex g n l
 | 0,0,_,_,_,_=>rfl
 | 0,g+1,n,l,h,_=>by
  have:l=[]:=List.eq_nil_of_length_eq_zero (by omega);subst this;rfl
 | f+1,0,n,l,_,h=>by
  have:l=[]:=List.eq_nil_of_length_eq_zero (by omega);subst this;rfl
 | f+1,g+1,n,[],_,_=>rfl
 | f+1,g+1,n,b :: t,h,h'=>by
  simp only [Li];have hw:=(Jw (b :: t)).1;split;rfl;split;rfl;exact Aus hex f g _ _ (by rw [BV];simp only [AX] at *;omega) (by rw [BV];simp only [AX] at *;omega)
theorem Ac2 (hex:Bool) (n:Nat) (l:Bs) (h:l≠[]):FP hex n l =
  match Jx (B2 l).1 with
  | none=>none
  | some d=>if d > 9 && !hex then none else
    FP hex (if hex then (n * 16+d) % 18446744073709551616 else min (10 * n+d) 18446744073709551615) (l.drop (B2 l).2):=by
 cases l with
 | nil=>exact absurd rfl h
 | cons b t =>
  have hw:=(Jw (b :: t)).1;unfold FP;simp only [AX,Li];cases hd:Jx (B2 (b :: t)).1 with
  | none=>rfl
  | some d =>
   simp only [];split;rfl;rw [Aus hex t.length ((b :: t).drop (B2 (b :: t)).2).length _ ((b :: t).drop (B2 (b :: t)).2) (by rw [BV];simp only [AX];omega) (Nat.le_refl _)]
theorem Ac1 (hex:Bool) (n:Nat):FP hex n []=some n:=rfl
theorem Ar2 (Ag d:Nat) (hd:d < 16):bits .or .u64 (IntKind.u64.wrap ((Ag:Int) * 16)) (d:Int)=(((Ag * 16+d) % 18446744073709551616:Nat):Int):=by
 have hw:IntKind.u64.wrap ((Ag:Int) * 16)=((2 ^ 4 * (Ag % 1152921504606846976):Nat):Int):=by
  unfold IntKind.wrap;simp [IntKind.bits,IntKind.signed];omega
 rw [hw,bits_or_u64_nat _ _ (by omega) (by omega),<- Nat.two_pow_add_eq_or_of_lt (by omega:d < 2 ^ 4)];congr 1;omega
theorem Az7 (x y:Int) (w:World) (hx:0<=x) (hy:0<=y):(callFunc 161 #[.int .u64 x,.int .u64 y,.int .u64 0]).run Tryz.prog w =
  .ok (.value (.tuple #[.int .u64 ((x+y) % 18446744073709551616),.int .u64 ((x+y) / 18446744073709551616)])) w:=by
 rw [run_callFunc_extern Tryz.func161 (by kernel_rfl) (by kernel_rfl) (by kernel_rfl) (e:=add64Entry) (by kernel_rfl),run_add64 x y 0 hx hy (by omega) (by omega)];simp [Result.andThen]
theorem Bk6 (Ag:Nat) (hN:Ag < 18446744073709551616) (w:World):Calls Tryz.prog 160 #[.int .u64 Ag,.int .u64 10] w λe w' =>
  e=.returned (.tuple #[.int .u64 ((Ag * 10 / 18446744073709551616:Nat)),.int .u64 ((Ag * 10 % 18446744073709551616:Nat))])/\w=w' :=
 (Tryz.bits_Mul64 Ag 10 hN (by omega) w).mono λ_ _ ⟨h1,h2⟩=>⟨h1,h2.symm⟩
theorem A2s (Ag d hi lo sm cy:Nat) (hN:Ag < 18446744073709551616) (hd:d < 16) (hhi:Ag * 10 / 18446744073709551616=hi) (hlo:Ag * 10 % 18446744073709551616=lo)
  (hsm:(lo+d) % 18446744073709551616=sm) (hcy:(lo+d) / 18446744073709551616=cy) :
  (hi+cy=0->sm=10 * Ag+d/\Ag<=sm/\sm < 18446744073709551616)/\(hi+cy≠0->18446744073709551616<=10 * Ag+d)/\hi<=9/\cy<=1:=by
 omega
abbrev A0j (c:Int):Ending:=.panicked [{ v:=.iface 195 (.agg #[.int .i64 c]),recovered:=false }]
def Va (r:Option Nat) (hex:Bool) (w:World) (e:Ending) (w':World):Prop :=
 (match r with | none=>e=A0j 4 | some u=>e=.returned (.tuple #[.int .u64 u,.bool hex]))/\Below w.heap.size w w'
set_option maxHeartbeats 1000000 in
theorem Bve (s A1:Ah) (w:World) (hs:s.size<=1000000) (hsz:A1.size<=1000000) (hne:bs A1≠[])
  (hc:∀ w,Calls Tryz.prog 158 #[.string s,.string ⟨#[48,120]⟩] w λe w'=>e=.returned (.tuple #[.string A1,.bool true])/\w=w') :
  Calls Tryz.prog 150 #[.string s] w (Va (FP true 0 (bs A1)) true w):=by
 have HC:=Lib.hid hc
 clear hc
 have HNE:=Lib.hid hne
 have he:A1.toList.isEmpty=false:=by
  rw [Lib.toList_data];cases h:A1.data.toList with
  | nil=>exact absurd h hne
  | cons _ _=>rfl
 clear hne
 go_enter Tryz.func150,Tryz.ntmps150
 go_wp2_with ((go_at_call 158;refine (HC.out _).mono ?_;rintro e w' ⟨rfl,rfl⟩))
 have Hsz:=Lib.hid hsz
 generalize hM:A1.size=Ac at *
 have HM:=Lib.hid hM
 clear hM
 go_loopw [2] (λn wr=>∃ pos Ag:Nat,pos<=Ac/\Hid (Ag < 18446744073709551616)/\n=.int .u64 Ag/\Hid (FP true 0 (bs A1)=FP true Ag ((bs A1).drop pos))/\wr=w.iter A1 pos) (λ_ wr=>Ac - wr.iterPos w.heap.size)
 case atStart=>exact ⟨0,0,Nat.zero_le _,by unfold Hid;omega,rfl,by unfold Hid;simp,rfl⟩
 case round =>
  obtain ⟨pos,Ag,hpos,hN,rfl,hG,rfl⟩:=hrel
  by_cases hlt:pos < Ac
  ·have hnext:=run_next_any (P:=Tryz.prog) w A1 pos
   have hd:=SG ((bs A1).drop pos)
   have hnx:∀ ty,(Instr.next (.pointer (some ⟨w.heap.size,0,none⟩)) true ty).run Tryz.prog (w.iter A1 pos)=.ok (.tuple #[.bool true,.int .i64 pos,.int .i32 (B2 ((bs A1).drop pos)).1]) (w.iter A1 (pos+(B2 ((bs A1).drop pos)).2)):=λty=>by
    have:=hnext ty (by rw [HM.out];exact hlt)
    rw [decode_eq A1 pos] at this
    exact this
   clear hnext
   have hne:(bs A1).drop pos≠[]:=λh=>by
    have:=congrArg List.length h
    rw [BV,BZ,HM.out] at this
    simp at this;omega
   have HS:=Lib.hid (Ac2 true Ag ((bs A1).drop pos) hne)
   have HW:=Lib.hid (Jw ((bs A1).drop pos))
   have HLL:=Lib.hid (show ((bs A1).drop pos).length=Ac - pos by rw [BV,BZ,HM.out])
   have QC:=Lib.hid hne
   clear hne
   generalize hr:(B2 ((bs A1).drop pos)).1=r at *
   generalize hk:(B2 ((bs A1).drop pos)).2=k at *
   have HR:=Lib.hid hr
   have HK:=Lib.hid hk
   clear hr hk
   have HDG:=Lib.hid (λw=>Ad1 r w hd)
   go_wp2_with fail
   refine (HDG.out _).mono ?_
   rintro e w' ⟨rfl,rfl⟩
   cases hdg:Jx r with
   | none =>
    have hD:I7 r=-1:=by unfold I7;rw [hdg]
    rw [hD]
    clear hD
    have HDN:=Lib.hid hdg
    clear hdg
    go_wp2_with fail
    refine ⟨rfl,?_⟩
    have hres:FP true 0 (bs A1)=none:=by rw [hG.out,HS.out,HDN.out]
    rw [hres]
    exact ⟨rfl,(Below.refl _ w).alloc (Nat.le_refl _) _⟩
   | some d =>
    have hD:I7 r=d:=by unfold I7;rw [hdg]
    have QS:d < 16:=by unfold Jx at hdg;revert hdg;(repeat' split) <;> intro h <;> (try cases h) <;> omega
    rw [hD]
    clear hD
    have HDN:=Lib.hid hdg
    clear hdg
    have hdz:(d:Int) < 16:=by omega
    go_wp2_with fail
    all_goals
     go_roundw
     case rel =>
      have hN':=hN.out
      refine ⟨pos+k,(Ag * 16+d) % 18446744073709551616,?_,?_,?_,?_,rfl⟩
      ·have:=HW.out.2.2 QC.out;rw [HLL.out] at this;omega
      ·unfold Hid;omega
      ·rw [Ar2 Ag d QS]
      ·unfold Hid
       rw [hG.out,HS.out,HDN.out,List.drop_drop]
       simp
     case measure =>
      have hk1:=HW.out.1
      have e:∀ q,(w.iter A1 q).iterPos w.heap.size=q:=λq=>World.iterPos_iter w A1 q
      simp only [e]
      omega
  ·have hnx:=λty=>run_next_end (P:=Tryz.prog) w A1 pos ty (by rw [HM.out];exact hlt)
   have YB:∀ ty,(Instr.next (.pointer (some ⟨w.heap.size,0,none⟩)) true ty).run Tryz.prog (w.iter A1 pos)=.ok (.tuple #[.bool false]) (w.iter A1 pos):=hnx
   clear hnx
   go_wp2_with fail
   go_ret2
   have hres:FP true 0 (bs A1)=some Ag:=by
    rw [hG.out,List.drop_of_length_le (by rw [BZ,HM.out];omega),Ac1]
   rw [hres]
   exact ⟨rfl,(Below.refl _ w).alloc (Nat.le_refl _) _⟩
set_option maxHeartbeats 1000000 in
theorem Bvg (s A0 A1:Ah) (w:World) (hs:s.size<=1000000) (hsz:A1.size<=1000000) (hne:bs A1≠[])
  (hc0:∀ w,Calls Tryz.prog 158 #[.string s,.string ⟨#[48,120]⟩] w λe w'=>e=.returned (.tuple #[.string A0,.bool false])/\w=w')
  (hc:∀ w,Calls Tryz.prog 158 #[.string s,.string ⟨#[48,88]⟩] w λe w'=>e=.returned (.tuple #[.string A1,.bool true])/\w=w') :
  Calls Tryz.prog 150 #[.string s] w (Va (FP true 0 (bs A1)) true w):=by
 have HC:=Lib.hid hc
 have HC0:=Lib.hid hc0
 clear hc hc0
 have HNE:=Lib.hid hne
 have he:A1.toList.isEmpty=false:=by
  rw [Lib.toList_data];cases h:A1.data.toList with
  | nil=>exact absurd h hne
  | cons _ _=>rfl
 clear hne
 go_enter Tryz.func150,Tryz.ntmps150
 go_wp2_with fail
 refine (HC0.out _).mono ?_
 rintro e w' ⟨rfl,rfl⟩
 go_wp2_with fail
 refine (HC.out _).mono ?_
 rintro e w' ⟨rfl,rfl⟩
 go_wp2_with fail
 have Hsz:=Lib.hid hsz
 generalize hM:A1.size=Ac at *
 have HM:=Lib.hid hM
 clear hM
 go_loopw [2] (λn wr=>∃ pos Ag:Nat,pos<=Ac/\Hid (Ag < 18446744073709551616)/\n=.int .u64 Ag/\Hid (FP true 0 (bs A1)=FP true Ag ((bs A1).drop pos))/\wr=w.iter A1 pos) (λ_ wr=>Ac - wr.iterPos w.heap.size)
 case atStart=>exact ⟨0,0,Nat.zero_le _,by unfold Hid;omega,rfl,by unfold Hid;simp,rfl⟩
 case round =>
  obtain ⟨pos,Ag,hpos,hN,rfl,hG,rfl⟩:=hrel
  by_cases hlt:pos < Ac
  ·have hnext:=run_next_any (P:=Tryz.prog) w A1 pos
   have hd:=SG ((bs A1).drop pos)
   have hnx:∀ ty,(Instr.next (.pointer (some ⟨w.heap.size,0,none⟩)) true ty).run Tryz.prog (w.iter A1 pos)=.ok (.tuple #[.bool true,.int .i64 pos,.int .i32 (B2 ((bs A1).drop pos)).1]) (w.iter A1 (pos+(B2 ((bs A1).drop pos)).2)):=λty=>by
    have:=hnext ty (by rw [HM.out];exact hlt)
    rw [decode_eq A1 pos] at this
    exact this
   clear hnext
   have hne:(bs A1).drop pos≠[]:=λh=>by
    have:=congrArg List.length h
    rw [BV,BZ,HM.out] at this
    simp at this;omega
   have HS:=Lib.hid (Ac2 true Ag ((bs A1).drop pos) hne)
   have HW:=Lib.hid (Jw ((bs A1).drop pos))
   have HLL:=Lib.hid (show ((bs A1).drop pos).length=Ac - pos by rw [BV,BZ,HM.out])
   have QC:=Lib.hid hne
   clear hne
   generalize hr:(B2 ((bs A1).drop pos)).1=r at *
   generalize hk:(B2 ((bs A1).drop pos)).2=k at *
   have HR:=Lib.hid hr
   have HK:=Lib.hid hk
   clear hr hk
   have HDG:=Lib.hid (λw=>Ad1 r w hd)
   go_wp2_with fail
   refine (HDG.out _).mono ?_
   rintro e w' ⟨rfl,rfl⟩
   cases hdg:Jx r with
   | none =>
    have hD:I7 r=-1:=by unfold I7;rw [hdg]
    rw [hD]
    clear hD
    have HDN:=Lib.hid hdg
    clear hdg
    go_wp2_with fail
    refine ⟨rfl,?_⟩
    have hres:FP true 0 (bs A1)=none:=by rw [hG.out,HS.out,HDN.out]
    rw [hres]
    exact ⟨rfl,(Below.refl _ w).alloc (Nat.le_refl _) _⟩
   | some d =>
    have hD:I7 r=d:=by unfold I7;rw [hdg]
    have QS:d < 16:=by unfold Jx at hdg;revert hdg;(repeat' split) <;> intro h <;> (try cases h) <;> omega
    rw [hD]
    clear hD
    have HDN:=Lib.hid hdg
    clear hdg
    have hdz:(d:Int) < 16:=by omega
    go_wp2_with fail
    all_goals
     go_roundw
     case rel =>
      have hN':=hN.out
      refine ⟨pos+k,(Ag * 16+d) % 18446744073709551616,?_,?_,?_,?_,rfl⟩
      ·have:=HW.out.2.2 QC.out;rw [HLL.out] at this;omega
      ·unfold Hid;omega
      ·rw [Ar2 Ag d QS]
      ·unfold Hid
       rw [hG.out,HS.out,HDN.out,List.drop_drop]
       simp
     case measure =>
      have hk1:=HW.out.1
      have e:∀ q,(w.iter A1 q).iterPos w.heap.size=q:=λq=>World.iterPos_iter w A1 q
      simp only [e]
      omega
  ·have hnx:=λty=>run_next_end (P:=Tryz.prog) w A1 pos ty (by rw [HM.out];exact hlt)
   have YB:∀ ty,(Instr.next (.pointer (some ⟨w.heap.size,0,none⟩)) true ty).run Tryz.prog (w.iter A1 pos)=.ok (.tuple #[.bool false]) (w.iter A1 pos):=hnx
   clear hnx
   go_wp2_with fail
   go_ret2
   have hres:FP true 0 (bs A1)=some Ag:=by
    rw [hG.out,List.drop_of_length_le (by rw [BZ,HM.out];omega),Ac1]
   rw [hres]
   exact ⟨rfl,(Below.refl _ w).alloc (Nat.le_refl _) _⟩
set_option maxHeartbeats 1000000 in
theorem Bvd (s A0 A1:Ah) (w:World) (hs:s.size<=1000000) (hsz:A1.size<=1000000) (hne:bs A1≠[])
  (hc0:∀ w,Calls Tryz.prog 158 #[.string s,.string ⟨#[48,120]⟩] w λe w'=>e=.returned (.tuple #[.string A0,.bool false])/\w=w')
  (hc:∀ w,Calls Tryz.prog 158 #[.string s,.string ⟨#[48,88]⟩] w λe w'=>e=.returned (.tuple #[.string A1,.bool false])/\w=w') :
  Calls Tryz.prog 150 #[.string s] w (Va (FP false 0 (bs A1)) false w):=by
 have HC:=Lib.hid hc
 have HC0:=Lib.hid hc0
 clear hc hc0
 have HNE:=Lib.hid hne
 have he:A1.toList.isEmpty=false:=by
  rw [Lib.toList_data];cases h:A1.data.toList with
  | nil=>exact absurd h hne
  | cons _ _=>rfl
 clear hne
 go_enter Tryz.func150,Tryz.ntmps150
 go_wp2_with fail
 refine (HC0.out _).mono ?_
 rintro e w' ⟨rfl,rfl⟩
 go_wp2_with fail
 refine (HC.out _).mono ?_
 rintro e w' ⟨rfl,rfl⟩
 go_wp2_with fail
 have Hsz:=Lib.hid hsz
 generalize hM:A1.size=Ac at *
 have HM:=Lib.hid hM
 clear hM
 go_loopw [2] (λn wr=>∃ pos Ag:Nat,pos<=Ac/\Hid (Ag < 18446744073709551616)/\n=.int .u64 Ag/\Hid (FP false 0 (bs A1)=FP false Ag ((bs A1).drop pos))/\wr=w.iter A1 pos) (λ_ wr=>Ac - wr.iterPos w.heap.size)
 case atStart=>exact ⟨0,0,Nat.zero_le _,by unfold Hid;omega,rfl,by unfold Hid;simp,rfl⟩
 case round =>
  obtain ⟨pos,Ag,hpos,hN,rfl,hG,rfl⟩:=hrel
  by_cases hlt:pos < Ac
  ·have hnext:=run_next_any (P:=Tryz.prog) w A1 pos
   have hd:=SG ((bs A1).drop pos)
   have hnx:∀ ty,(Instr.next (.pointer (some ⟨w.heap.size,0,none⟩)) true ty).run Tryz.prog (w.iter A1 pos)=.ok (.tuple #[.bool true,.int .i64 pos,.int .i32 (B2 ((bs A1).drop pos)).1]) (w.iter A1 (pos+(B2 ((bs A1).drop pos)).2)):=λty=>by
    have:=hnext ty (by rw [HM.out];exact hlt)
    rw [decode_eq A1 pos] at this
    exact this
   clear hnext
   have hne:(bs A1).drop pos≠[]:=λh=>by
    have:=congrArg List.length h
    rw [BV,BZ,HM.out] at this
    simp at this;omega
   have HS:=Lib.hid (Ac2 false Ag ((bs A1).drop pos) hne)
   have HW:=Lib.hid (Jw ((bs A1).drop pos))
   have HLL:=Lib.hid (show ((bs A1).drop pos).length=Ac - pos by rw [BV,BZ,HM.out])
   have QC:=Lib.hid hne
   clear hne
   generalize hr:(B2 ((bs A1).drop pos)).1=r at *
   generalize hk:(B2 ((bs A1).drop pos)).2=k at *
   have HR:=Lib.hid hr
   have HK:=Lib.hid hk
   clear hr hk
   have HDG:=Lib.hid (λw=>Ad1 r w hd)
   go_wp2_with fail
   refine (HDG.out _).mono ?_
   rintro e w' ⟨rfl,rfl⟩
   cases hdg:Jx r with
   | none =>
    have hD:I7 r=-1:=by unfold I7;rw [hdg]
    rw [hD]
    clear hD
    have HDN:=Lib.hid hdg
    clear hdg
    go_wp2_with fail
    refine ⟨rfl,?_⟩
    have hres:FP false 0 (bs A1)=none:=by rw [hG.out,HS.out,HDN.out]
    rw [hres]
    exact ⟨rfl,(Below.refl _ w).alloc (Nat.le_refl _) _⟩
   | some d =>
    have hD:I7 r=d:=by unfold I7;rw [hdg]
    have QS:d < 16:=by unfold Jx at hdg;revert hdg;(repeat' split) <;> intro h <;> (try cases h) <;> omega
    rw [hD]
    clear hD
    have HDN:=Lib.hid hdg
    clear hdg
    have hdz:(d:Int) < 16:=by omega
    by_cases h9:d<=9
    ·have h9z:(d:Int)<=9:=by omega
     have H9:=Lib.hid h9
     clear h9
     have Afx:=Lib.hid (Bk6 Ag hN.out)
     have hdw:IntKind.u64.wrap (d:Int)=d:=by unfold IntKind.wrap;simp [IntKind.bits,IntKind.signed];omega
     obtain ⟨hi,hhi⟩:∃ hi,Ag * 10 / 18446744073709551616=hi:=⟨_,rfl⟩
     obtain ⟨lo,hlo⟩:∃ lo,Ag * 10 % 18446744073709551616=lo:=⟨_,rfl⟩
     rw [hhi,hlo] at Afx
     obtain ⟨sm,hsm⟩:∃ sm,(lo+d) % 18446744073709551616=sm:=⟨_,rfl⟩
     obtain ⟨cy,hcy⟩:∃ cy,(lo+d) / 18446744073709551616=cy:=⟨_,rfl⟩
     have hadd:∀ w,(callFunc 161 #[.int .u64 lo,.int .u64 d,.int .u64 0]).run Tryz.prog w=.ok (.value (.tuple #[.int .u64 sm,.int .u64 cy])) w:=λw=>by
      rw [Az7 lo d w (by omega) (by omega),<- hsm,<- hcy]
      rfl
     have hNN:=hN.out
     have UQ:=Lib.hid (A2s Ag d hi lo sm cy hNN QS hhi hlo hsm hcy)
     have hz1:(hi:Int)<=9:=by have:=UQ.out.2.2.1;omega
     have hz2:(cy:Int)<=1:=by have:=UQ.out.2.2.2;omega
     have hz0:(0:Int)<=hi:=by omega
     have hz3:(0:Int)<=cy:=by omega
     clear hhi hlo hsm hcy hNN
     go_wp2_with fail
     refine (Afx.out _).mono ?_
     rintro e w1 ⟨rfl,rfl⟩
     go_wp2_with fail
     ·go_roundw
      case rel =>
       have hc:hi+cy≠0:=by
        have h:((hi:Int)+cy != 0)=true:=by assumption
        rw [bne_iff_ne] at h;omega
       have ha:=UQ.out.2.1 hc
       have hN':=hN.out
       refine ⟨pos+k,18446744073709551615,?_,?_,?_,?_,rfl⟩
       ·have:=HW.out.2.2 QC.out;rw [HLL.out] at this;omega
       ·unfold Hid;omega
       ·congr 1;omega
       ·unfold Hid
        rw [hG.out,HS.out,HDN.out,List.drop_drop]
        have h9':(decide (d > 9) && !false)=false:=by simp;exact H9.out
        simp only [h9',Bool.false_eq_true,if_false]
        rw [Nat.min_eq_right (by omega)]
      case measure =>
       have hk1:=HW.out.1
       have e:∀ q,(w.iter A1 q).iterPos w.heap.size=q:=λq=>World.iterPos_iter w A1 q
       simp only [e]
       omega
     ·go_roundw
      case rel =>
       have hc:hi+cy=0:=by
        have h:((hi:Int)+cy != 0)=false:=by assumption
        simp at h;omega
       have ha:=UQ.out.1 hc
       have hN':=hN.out
       refine ⟨pos+k,sm,?_,?_,?_,?_,rfl⟩
       ·have:=HW.out.2.2 QC.out;rw [HLL.out] at this;omega
       ·unfold Hid;omega
       ·congr 1;omega
       ·unfold Hid
        rw [hG.out,HS.out,HDN.out,List.drop_drop]
        have h9':(decide (d > 9) && !false)=false:=by simp;exact H9.out
        simp only [h9',Bool.false_eq_true,if_false]
        rw [Nat.min_eq_left (by omega),<- ha.1]
      case measure =>
       have hk1:=HW.out.1
       have e:∀ q,(w.iter A1 q).iterPos w.heap.size=q:=λq=>World.iterPos_iter w A1 q
       simp only [e]
       omega
    ·have h9z:(9:Int) < d:=by omega
     have H9:=Lib.hid h9
     clear h9
     go_wp2_with fail
     refine ⟨rfl,?_⟩
     have hres:FP false 0 (bs A1)=none:=by
      rw [hG.out,HS.out,HDN.out]
      have h9':(decide (d > 9) && !false)=true:=by simp;have:=H9.out;omega
      simp only [h9',if_true]
     rw [hres]
     exact ⟨rfl,(Below.refl _ w).alloc (Nat.le_refl _) _⟩
  ·have hnx:=λty=>run_next_end (P:=Tryz.prog) w A1 pos ty (by rw [HM.out];exact hlt)
   have YB:∀ ty,(Instr.next (.pointer (some ⟨w.heap.size,0,none⟩)) true ty).run Tryz.prog (w.iter A1 pos)=.ok (.tuple #[.bool false]) (w.iter A1 pos):=hnx
   clear hnx
   go_wp2_with fail
   go_ret2
   have hres:FP false 0 (bs A1)=some Ag:=by
    rw [hG.out,List.drop_of_length_le (by rw [BZ,HM.out];omega),Ac1]
   rw [hres]
   exact ⟨rfl,(Below.refl _ w).alloc (Nat.le_refl _) _⟩
theorem Ahy (s:Ah) (p:Bs) (w:World):Calls Tryz.prog 158 #[.string s,.string (str p)] w λe w' =>
  e=.returned (.tuple #[.string (str (if p.isPrefixOf (bs s) then (bs s).drop p.length else bs s)),.bool (p.isPrefixOf (bs s))])/\w=w' :=
 (Tryz.strings_CutPrefix s (str p) w).mono λ_ _ ⟨h1,h2⟩=>⟨by rw [h1];simp [str,bs,Lib.trimPrefix,Lib.hasPrefix],h2.symm⟩
def Lj (l:Bs):Option Nat :=
 let rest:=if E_ l then l.drop 2 else l
 if rest=[] then none else FP (E_ l) 0 rest
theorem size_any (s:Ah) (w:World) (hs:s.size<=1000000):Calls Tryz.prog 150 #[.string s] w (Va (Lj (bs s)) (E_ (bs s)) w):=by
 have h0:=λw=>Ahy s [48,120] w
 have h1:=λw=>Ahy s [48,88] w
 have hl:=BZ s
 have hstr:∀ l:Bs,l.length<=1000000->(str l).size<=1000000:=λl h=>by rw [N5];exact h
 by_cases p0:[48,120].isPrefixOf (bs s)=true
 ·have hh:E_ (bs s)=true:=by simp [E_,p0]
  simp only [p0,if_true] at h0
  unfold Lj
  rw [hh]
  simp only [if_true]
  by_cases hn:(bs s).drop 2=[]
  ·rw [if_pos hn]
   have hn':(str ((bs s).drop [48,120].length)).toList.isEmpty=true:=by rw [Lib.toList_data];show ((str ((bs s).drop 2)).data.toList).isEmpty=true;rw [hn];rfl
   have H0:=Lib.hid h0
   generalize str ((bs s).drop [48,120].length)=A at *
   clear h0 h1 hh p0 hl hstr hn
   go_enter Tryz.func150,Tryz.ntmps150
   go_wp2_with fail
   refine (H0.out _).mono ?_
   rintro e w' ⟨rfl,rfl⟩
   go_wp2_with fail
   exact ⟨rfl,rfl,Below.refl _ _⟩
  ·rw [if_neg hn]
   have:=Bve s (str ((bs s).drop 2)) w hs (hstr _ (by rw [BV];omega)) (by rw [H8];exact hn) h0
   rw [H8] at this
   exact this
 ·have p0':[48,120].isPrefixOf (bs s)=false:=Bool.eq_false_iff.2 p0
  simp only [p0',Bool.false_eq_true,if_false] at h0
  by_cases p1:[48,88].isPrefixOf (bs s)=true
  ·have hh:E_ (bs s)=true:=by simp [E_,p1]
   simp only [p1,if_true] at h1
   unfold Lj
   rw [hh]
   simp only [if_true]
   by_cases hn:(bs s).drop 2=[]
   ·rw [if_pos hn]
    have hn':(str ((bs s).drop [48,88].length)).toList.isEmpty=true:=by rw [Lib.toList_data];show ((str ((bs s).drop 2)).data.toList).isEmpty=true;rw [hn];rfl
    have H0:=Lib.hid h0
    have H1:=Lib.hid h1
    generalize str ((bs s).drop [48,88].length)=A at *
    generalize str (bs s)=A0 at *
    clear h0 h1 hh p0 p0' p1 hl hstr hn
    go_enter Tryz.func150,Tryz.ntmps150
    go_wp2_with fail
    refine (H0.out _).mono ?_
    rintro e w' ⟨rfl,rfl⟩
    go_wp2_with fail
    refine (H1.out _).mono ?_
    rintro e w' ⟨rfl,rfl⟩
    go_wp2_with fail
    exact ⟨rfl,rfl,Below.refl _ _⟩
   ·rw [if_neg hn]
    have:=Bvg s (str (bs s)) (str ((bs s).drop 2)) w hs (hstr _ (by rw [BV];omega)) (by rw [H8];exact hn) h0 h1
    rw [H8] at this
    exact this
  ·have p1':[48,88].isPrefixOf (bs s)=false:=Bool.eq_false_iff.2 p1
   simp only [p1',Bool.false_eq_true,if_false] at h1
   have hh:E_ (bs s)=false:=by simp [E_,p0',p1']
   unfold Lj
   rw [hh]
   simp only [Bool.false_eq_true,if_false]
   by_cases hn:bs s=[]
   ·rw [if_pos hn]
    have hn':(str (bs s)).toList.isEmpty=true:=by rw [Lib.toList_data];show ((str (bs s)).data.toList).isEmpty=true;rw [hn];rfl
    have H0:=Lib.hid h0
    have H1:=Lib.hid h1
    generalize str (bs s)=A0 at *
    clear h0 h1 hh p0 p0' p1 p1' hl hstr hn
    go_enter Tryz.func150,Tryz.ntmps150
    go_wp2_with fail
    refine (H0.out _).mono ?_
    rintro e w' ⟨rfl,rfl⟩
    go_wp2_with fail
    refine (H1.out _).mono ?_
    rintro e w' ⟨rfl,rfl⟩
    go_wp2_with fail
    exact ⟨rfl,rfl,Below.refl _ _⟩
   ·rw [if_neg hn]
    have:=Bvd s (str (bs s)) (str (bs s)) w hs (hstr _ (by omega)) (by rw [H8];exact hn) h0 h1
    rw [H8] at this
    exact this
theorem catch_panicking (p q:Nat) (x y c:Int) (w:World) (hp:w.cell? ⟨p,0,none⟩=some (.int .i64 x)) (hq:w.cell? ⟨q,0,none⟩=some (.int .i64 y)) (fp:w.frozen? ⟨p,0,none⟩=false) (fq:w.frozen? ⟨q,0,none⟩=false) (hne:¬ p=q) :
  CallsD Tryz.prog 149 #[.pointer (some ⟨p,0,none⟩),.pointer (some ⟨q,0,none⟩)] (.panicking [{ v:=.iface 195 (.agg #[.int .i64 c]),recovered:=false }]) w λe u' w' =>
   e=.returned (.tuple #[])/\u'=.panicking [{ v:=.iface 195 (.agg #[.int .i64 c]),recovered:=true }]/\((w.setCell ⟨p,0,none⟩ (.int .i64 0)).setCell ⟨q,0,none⟩ (.int .i64 c)).drew=w':=by
 refine callsD_of_wpS Tryz.func149 rfl λc₀ cs hu=>?_
 have hta:∀ w,(Instr.typeAssert (.iface 195 (.agg #[.int .i64 c])) 20 195 false).run Tryz.prog w=.ok (.agg #[.int .i64 c]) w:=λw=>by kernel_rfl
 have hfa:∀ w,(Instr.field 195 (.agg #[.int .i64 c]) 0).run Tryz.prog w=.ok (.int .i64 c) w:=λw=>by kernel_rfl
 apply wpS_seq
 apply wpS_region
 simp [wpOpsS,go_sem,recoverD,hu,Tryz.ntmps149,Exit.thenS,Array.replicate_succ]
 refine wpS_of_wp ?_
 go_wp2
 refine K9 [(0,0),(1,0),(2,0)] (λ_=>True) (by kernel_rfl) (by kernel_rfl) (λ_ _ d _ _ h=>by cases d <;> exact h) (by trivial) ?_
 simp only [DP,List.filterMap_cons,List.filterMap_nil,List.getElem?_toArray,List.getElem?_cons_zero,List.getElem?_cons_succ,Option.map_some,List.drop_succ_cons,List.drop_zero,AX,Bp]
 iterate 3 (refine DY (by rfl) (λwq=>by go_simp;with_reducible rfl) ?_;simp only [Act.put,List.setIfInBounds_toArray,List.set_cons_zero,List.set_cons_succ])
 refine Lf ?_
 go_wp2
 simp [bodyPostS,results,Tryz.results149]
theorem catch_idle (p q:Value) (w:World) :
  CallsD Tryz.prog 149 #[p,q] .returning w λe u' w'=>e=.returned (.tuple #[])/\u'=.returning/\w=w':=by
 refine callsD_of_wpS Tryz.func149 rfl λc₀ cs hu=>?_
 apply wpS_seq
 apply wpS_region
 simp [wpOpsS,go_sem,recoverD,hu,Tryz.ntmps149,Exit.thenS,Array.replicate_succ]
 refine wpS_of_wp ?_
 go_wp2
 cases c₀
 simp_all [bodyPostS,results,Tryz.results149]
theorem R5 (w:World) (b:Nat) (v:Value) (e:TypeId) (h:w.heap[b]? = some (.cells #[v] e)):w.cell? ⟨b,0,none⟩=some v/\w.frozen? ⟨b,0,none⟩=false :=
 ⟨by rw [FU h];rfl,JV h 0⟩
set_option maxHeartbeats 1000000 in
theorem Bt8 (s:Ah) (neg:Bool) (w:World) (hs:s.size<=1000000) (hn:Lj (bs s)=none) :
  Calls Tryz.prog 139 #[.string s,.bool neg] w λe w'=>e=.returned (.tuple #[.int .i64 0,.int .i64 4])/\Below w.heap.size w w':=by
 have hsz:=λw=>size_any s w hs
 rw [hn] at hsz
 have HS:=Lib.hid hsz
 clear hsz
 have hmf:∀ (fn:Fn) (first cap:Array Value) (w:World),(Instr.makeFunc fn first cap).run Tryz.prog w=.ok (.func fn first cap) w:=λ_ _ _ _=>rfl
 go_enter_defers Tryz.func139,Tryz.ntmps139
 go_wp2_with fail
 refine (HS.out _).mono ?_
 rintro e w1 ⟨he,hb1⟩
 simp only [] at he
 subst he
 have hbn:=Lv hb1 (by simp;omega) (MG (Lw w (.cells #[.int .i64 0] 3)))
 have hbe:=Lv hb1 (by simp) (Lw (w.alloc (.cells #[.int .i64 0] 3)) (.cells #[.int .i64 0] 26))
 simp only [World.size_alloc] at hbe
 have hB:=hb1.mono (B':=w.heap.size) (by simp;omega)
 have HB:=Lib.hid ((((Below.refl w.heap.size w).alloc (Nat.le_refl _) _).alloc (by simp) _).trans hB)
 obtain ⟨cn,fn⟩:=R5 w1 _ _ _ hbn
 obtain ⟨ce,fe⟩:=R5 w1 _ _ _ hbe
 clear hb1 hB hbn hbe
 go_wp2_with fail
 refine leaves_cons (f:=149) (args:=#[.pointer (some ⟨w.heap.size,0,none⟩),.pointer (some ⟨w.heap.size+1,0,none⟩)]) (by simp) (by simp [go_sem]) ?_
 refine (catch_panicking w.heap.size (w.heap.size+1) 0 0 _ w1 cn ce fn fe (by omega)).mono ?_
 rintro e u' w'' ⟨rfl,rfl,rfl⟩
 have hne:¬ w.heap.size+1=w.heap.size:=by omega
 have hn0:((w1.setCell ⟨w.heap.size,0,none⟩ (.int .i64 0)).setCell ⟨w.heap.size+1,0,none⟩ (.int .i64 4)).drew.cell? ⟨w.heap.size,0,none⟩=some (.int .i64 0):=by
  rw [World.cell?_drew,World.cell?_setCell_other _ _ _ _ (by simp),World.cell?_setCell_same _ _ _ cn]
 have hn1:((w1.setCell ⟨w.heap.size,0,none⟩ (.int .i64 0)).setCell ⟨w.heap.size+1,0,none⟩ (.int .i64 4)).drew.cell? ⟨w.heap.size+1,0,none⟩=some (.int .i64 4):=by
  rw [World.cell?_drew]
  exact World.cell?_setCell_same _ _ _ ((World.cell?_setCell_other _ _ _ _ (by simp)).trans ce)
 have HBf:=((HB.out.setCell (p:=⟨w.heap.size,0,none⟩) (Nat.le_refl _) (.int .i64 0)).setCell (p:=⟨w.heap.size+1,0,none⟩) (by simp) (.int .i64 4)).drew
 generalize ((w1.setCell ⟨w.heap.size,0,none⟩ (.int .i64 0)).setCell ⟨w.heap.size+1,0,none⟩ (.int .i64 4)).drew=w9 at *
 simp [Leaves,settle,results,Tryz.results139,go_sem,hn0,hn1]
 exact HBf
theorem Aut (hex:Bool):∀ (f n:Nat) (l:Bs) (u:Nat),n < 18446744073709551616->Li hex f n l=some u->u < 18446744073709551616
 | 0,n,l,u,hn,h=>by simp only [Li,Option.some.injEq] at h;omega
 | f+1,n,[],u,hn,h=>by simp only [Li,Option.some.injEq] at h;omega
 | f+1,n,b :: t,u,hn,h=>by
  simp only [Li] at h;split at h;cases h;split at h;cases h;refine Aut hex f _ _ u ?_ h;split <;> omega
theorem Bvc {l:Bs} {u:Nat} (h:Lj l=some u):u < 18446744073709551616:=by
 unfold Lj at h;simp only [] at h;generalize (if E_ l then l.drop 2 else l)=rest at h;by_cases hr:rest=[];rw [if_pos hr] at h;cases h;rw [if_neg hr] at h;exact Aut _ _ 0 _ _ (by omega) h
theorem Bsb (l:Bs):F9 l=match Lj l with | none=>(0,4) | some u=>if !E_ l && decide (u > 9223372036854775807) then (0,14) else (sint u,0):=by
 unfold F9 Lj;simp only [];generalize (if E_ l then l.drop 2 else l)=rest;by_cases h:rest=[]
 ·simp [h]
 ·simp only [h,if_false]
  all_goals (cases FP (E_ l) 0 rest <;> rfl)
theorem Bvb (u:Nat) (h:u < 18446744073709551616):wrap64 (u:Int)=sint u:=by
 unfold wrap64 sint;split <;> omega
set_option maxHeartbeats 1000000 in
theorem Bt6 (s:Ah) (w:World) (u:Nat) (hs:s.size<=1000000) (hn:Lj (bs s)=some u) (hx:E_ (bs s)=false) (hu:9223372036854775807 < u) :
  Calls Tryz.prog 139 #[.string s,.bool false] w λe w'=>e=.returned (.tuple #[.int .i64 0,.int .i64 14])/\Below w.heap.size w w':=by
 have hsz:=λw=>size_any s w hs
 rw [hn,hx] at hsz
 have HS:=Lib.hid hsz
 have huz:(9223372036854775807:Int) < u:=by omega
 clear hsz hn hx hu
 have hmf:∀ (fn:Fn) (first cap:Array Value) (w:World),(Instr.makeFunc fn first cap).run Tryz.prog w=.ok (.func fn first cap) w:=λ_ _ _ _=>rfl
 go_enter_defers Tryz.func139,Tryz.ntmps139
 go_wp2_with fail
 refine (HS.out _).mono ?_
 rintro e w1 ⟨he,hb1⟩
 simp only [] at he
 subst he
 have hbn:=Lv hb1 (by simp;omega) (MG (Lw w (.cells #[.int .i64 0] 3)))
 have hbe:=Lv hb1 (by simp) (Lw (w.alloc (.cells #[.int .i64 0] 3)) (.cells #[.int .i64 0] 26))
 simp only [World.size_alloc] at hbe
 have hB:=hb1.mono (B':=w.heap.size) (by simp;omega)
 have HB:=Lib.hid ((((Below.refl w.heap.size w).alloc (Nat.le_refl _) _).alloc (by simp) _).trans hB)
 obtain ⟨cn,fn⟩:=R5 w1 _ _ _ hbn
 obtain ⟨ce,fe⟩:=R5 w1 _ _ _ hbe
 clear hb1 hB hbn hbe
 go_wp2_with fail
 refine leaves_cons (f:=149) (args:=#[.pointer (some ⟨w.heap.size,0,none⟩),.pointer (some ⟨w.heap.size+1,0,none⟩)]) (by simp) (by simp [go_sem]) ?_
 refine (catch_panicking w.heap.size (w.heap.size+1) 0 0 _ w1 cn ce fn fe (by omega)).mono ?_
 rintro e u' w'' ⟨rfl,rfl,rfl⟩
 have hne:¬ w.heap.size+1=w.heap.size:=by omega
 have hn0:((w1.setCell ⟨w.heap.size,0,none⟩ (.int .i64 0)).setCell ⟨w.heap.size+1,0,none⟩ (.int .i64 14)).drew.cell? ⟨w.heap.size,0,none⟩=some (.int .i64 0):=by
  rw [World.cell?_drew,World.cell?_setCell_other _ _ _ _ (by simp),World.cell?_setCell_same _ _ _ cn]
 have hn1:((w1.setCell ⟨w.heap.size,0,none⟩ (.int .i64 0)).setCell ⟨w.heap.size+1,0,none⟩ (.int .i64 14)).drew.cell? ⟨w.heap.size+1,0,none⟩=some (.int .i64 14):=by
  rw [World.cell?_drew]
  exact World.cell?_setCell_same _ _ _ ((World.cell?_setCell_other _ _ _ _ (by simp)).trans ce)
 have HBf:=((HB.out.setCell (p:=⟨w.heap.size,0,none⟩) (Nat.le_refl _) (.int .i64 0)).setCell (p:=⟨w.heap.size+1,0,none⟩) (by simp) (.int .i64 14)).drew
 generalize ((w1.setCell ⟨w.heap.size,0,none⟩ (.int .i64 0)).setCell ⟨w.heap.size+1,0,none⟩ (.int .i64 14)).drew=w9 at *
 simp [Leaves,settle,results,Tryz.results139,go_sem,hn0,hn1]
 exact HBf
set_option maxHeartbeats 1000000 in
theorem As6 (s:Ah) (w:World) (u:Nat) (hs:s.size<=1000000) (hn:Lj (bs s)=some u) (hu:E_ (bs s)=true\/u<=9223372036854775807) :
  Calls Tryz.prog 139 #[.string s,.bool false] w λe w'=>e=.returned (.tuple #[.int .i64 (sint u),.int .i64 0])/\Below w.heap.size w w':=by
 have hsz:=λw=>size_any s w hs
 have Zt:=Bvc hn
 rw [hn] at hsz
 obtain ⟨X,hX⟩:∃ X,sint u=X:=⟨_,rfl⟩
 rw [hX]
 have hcv:∀ w,(convert 196 3 (.int .u64 u)).run Tryz.prog w=.ok (.int .i64 X) w:=λw=>by
  rw [<- hX,<- Bvb u Zt];simp [go_sem,IntKind.wrap_i64,wrap64]
 have HH:Hid (E_ (bs s)=true\/u<=9223372036854775807):=hu
 have HS:=Lib.hid hsz
 clear hsz hu hn
 generalize E_ (bs s)=hx at *
 have B1b:=Lib.hid Zt
 clear Zt hX
 have hmf:∀ (fn:Fn) (first cap:Array Value) (w:World),(Instr.makeFunc fn first cap).run Tryz.prog w=.ok (.func fn first cap) w:=λ_ _ _ _=>rfl
 go_enter_defers Tryz.func139,Tryz.ntmps139
 go_wp2_with fail
 refine (HS.out _).mono ?_
 rintro e w1 ⟨he,hb1⟩
 simp only [] at he
 subst he
 have hbn:=Lv hb1 (by simp;omega) (MG (Lw w (.cells #[.int .i64 0] 3)))
 have hbe:=Lv hb1 (by simp) (Lw (w.alloc (.cells #[.int .i64 0] 3)) (.cells #[.int .i64 0] 26))
 simp only [World.size_alloc] at hbe
 have hB:=hb1.mono (B':=w.heap.size) (by simp;omega)
 have HB:=Lib.hid ((((Below.refl w.heap.size w).alloc (Nat.le_refl _) _).alloc (by simp) _).trans hB)
 obtain ⟨cn,fn⟩:=R5 w1 _ _ _ hbn
 obtain ⟨ce,fe⟩:=R5 w1 _ _ _ hbe
 clear hb1 hB hbn hbe
 have Afz:Hid (hx=true\/(hx=false/\¬ (9223372036854775807:Int) < u)):=by
  unfold Hid at *
  cases hx
  ·exact .inr ⟨rfl,by have:=HH;simp at this;omega⟩
  ·exact .inl rfl
 rcases Afz.out with rfl | ⟨rfl,huz⟩
 all_goals
  clear Afz HH HS
  go_wp2_with fail
  refine leaves_cons (f:=149) (args:=#[.pointer (some ⟨w.heap.size,0,none⟩),.pointer (some ⟨w.heap.size+1,0,none⟩)]) (by simp) (by simp [go_sem]) ?_
  refine (catch_idle _ _ _).mono ?_
  rintro e u' w'' ⟨rfl,rfl,rfl⟩
  have hn0:(((w1.setCell ⟨w.heap.size,0,none⟩ (.int .i64 X)).setCell ⟨w.heap.size,0,none⟩ (.int .i64 X)).setCell ⟨w.heap.size+1,0,none⟩ (.int .i64 0)).cell? ⟨w.heap.size,0,none⟩=some (.int .i64 X):=by
   rw [World.cell?_setCell_other _ _ _ _ (by simp)]
   exact World.cell?_setCell_same _ _ _ (World.cell?_setCell_same _ _ _ cn)
  have hn1:(((w1.setCell ⟨w.heap.size,0,none⟩ (.int .i64 X)).setCell ⟨w.heap.size,0,none⟩ (.int .i64 X)).setCell ⟨w.heap.size+1,0,none⟩ (.int .i64 0)).cell? ⟨w.heap.size+1,0,none⟩=some (.int .i64 0) :=
   World.cell?_setCell_same _ _ _ ((World.cell?_setCell_other _ _ _ _ (by simp)).trans ((World.cell?_setCell_other _ _ _ _ (by simp)).trans ce))
  have HBf:=((HB.out.setCell (p:=⟨w.heap.size,0,none⟩) (Nat.le_refl _) (.int .i64 X)).setCell (p:=⟨w.heap.size,0,none⟩) (Nat.le_refl _) (.int .i64 X)).setCell (p:=⟨w.heap.size+1,0,none⟩) (by simp) (.int .i64 0)
  generalize ((w1.setCell ⟨w.heap.size,0,none⟩ (.int .i64 X)).setCell ⟨w.heap.size,0,none⟩ (.int .i64 X)).setCell ⟨w.heap.size+1,0,none⟩ (.int .i64 0)=w9 at *
  simp [Leaves,settle,results,Tryz.results139,go_sem,hn0,hn1]
  exact HBf
theorem Bt5 (s:Ah) (w:World) (hs:s.size<=1000000) :
  Calls Tryz.prog 139 #[.string s,.bool false] w λe w'=>e=.returned (.tuple #[.int .i64 (F9 (bs s)).1,.int .i64 (F9 (bs s)).2])/\Below w.heap.size w w':=by
 rw [Bsb];cases hn:Lj (bs s) with
 | none=>exact Bt8 s false w hs hn
 | some u =>
  simp only [];by_cases hx:E_ (bs s)=true;rw [hx];exact As6 s w u hs hn (.inl hx);have hx':E_ (bs s)=false:=Bool.eq_false_iff.2 hx;rw [hx'];by_cases hu:9223372036854775807 < u;simp only [Bool.not_false,Bool.true_and,decide_eq_true (show u > 9223372036854775807 from hu),if_true];exact Bt6 s w u hs hn hx' hu;simp only [Bool.not_false,Bool.true_and,decide_eq_false (show ¬ u > 9223372036854775807 from hu),Bool.false_eq_true,if_false];exact As6 s w u hs hn (.inr (by omega))
theorem parse_any (s:Ah) (w:World) (hs:s.size<=1000000) :
  Calls Tryz.prog 119 #[.string s] w λe w'=>e=.returned (.tuple #[.int .i64 (F9 (bs s)).1,.int .i64 (F9 (bs s)).2])/\Below w.heap.size w w':=by
 have hr:=λw=>Bt5 s w hs
 generalize F9 (bs s)=R at *
 have HR:=Lib.hid hr
 clear hr
 go_enter Tryz.func119,Tryz.ntmps119
 go_wp2_with fail
 refine (HR.out _).mono ?_
 rintro e w' ⟨rfl,hb⟩
 go_wp2_with fail
 go_ret2
 exact ⟨rfl,hb⟩
theorem sizeBuilder:(Tryz.prog.info? 155).map (·.size)=some 2:=by kernel_rfl
theorem liesBuilder:liesAt Tryz.prog Tryz.prog.depth 155 (2 / Tryz.prog.cellsOf 155) 0 155 1=true:=by kernel_rfl
theorem infoByte:(Tryz.prog.info? 5).map (λi=>(i.zero,i.size,i.bytes))=some (some (.int .u8 0),1,1):=by kernel_rfl
set_option maxHeartbeats 1000000 in
theorem A1y (b:Nat) (w:World) (h0:w.cell? ⟨b,0,none⟩=some (.pointer (some ⟨b,0,none⟩))) :
  Calls Tryz.prog 145 #[.pointer (some ⟨b,0,none⟩)] w λe w'=>e=.returned (.tuple #[])/\w=w':=by
 obtain ⟨j,hj,_⟩:=Option.map_eq_some_iff.1 sizeBuilder
 go_enter Tryz.func145,Tryz.ntmps145
 go_wp2
 rw [Lib.run_neq_ptr_same w _ Tryz.underlying153 hj]
 go_wp2
 go_end0
 exact ⟨rfl,rfl⟩
set_option maxHeartbeats 1000000 in
theorem A1x (b:Nat) (w:World) (h0:w.cell? ⟨b,0,none⟩=some (.pointer none)) (hsh:w.shape? b=some (155,2)) (hfz:w.frozen? ⟨b,0,none⟩=false) :
  Calls Tryz.prog 145 #[.pointer (some ⟨b,0,none⟩)] w λe w'=>e=.returned (.tuple #[])/\w.setCell ⟨b,0,none⟩ (.pointer (some ⟨b,0,none⟩))=w':=by
 obtain ⟨j,hj,hjs⟩:=Option.map_eq_some_iff.1 sizeBuilder
 go_enter Tryz.func145,Tryz.ntmps145
 go_wp2
 rw [Lib.run_to_unsafe w ⟨b,0,none⟩ Tryz.underlying153 Tryz.underlying200 hj (by rw [hjs];decide) hsh (Nat.zero_lt_succ 1)]
 simp only [Result.andThen]
 rw [Oper.upon_value]
 go_wp2
 rw [run_callFunc_extern Tryz.func152 (by kernel_rfl) (by kernel_rfl) (by kernel_rfl) (e:=Extern.AbiNoEscape.same) (by kernel_rfl)]
 rw [Lib.run_noEscape]
 simp only [Result.andThen]
 rw [Oper.upon_value]
 go_wp2
 rw [Lib.run_from_unsafe w ⟨b,0,none⟩ Tryz.underlying200 Tryz.underlying153 hj hsh liesBuilder]
 simp only [Result.andThen]
 rw [Oper.upon_value]
 go_wp2
 go_end0
 exact ⟨rfl,rfl⟩
abbrev Bd (B b:Nat) (l:Bs) (w:World):Prop:=Lib.IsBuilder 155 5 B b (Lib.byteCells l) w
theorem Mk (l:Bs):(Lib.byteCells l).length=l.length:=by simp [Lib.byteCells]
def Used (B b:Nat) (l:Bs) (w:World):Prop:=Lib.BuilderAt 155 5 B b (.pointer (some ⟨b,0,none⟩)) (Lib.byteCells l) w
theorem check_any (B b:Nat) (l:Bs) (w:World) (h:Bd B b l w) :
  Calls Tryz.prog 145 #[.pointer (some ⟨b,0,none⟩)] w λe w'=>e=.returned (.tuple #[])/\Used B b l w'/\Below B w w'/\w'.heap.size=w.heap.size:=by
 rcases h with h | h;obtain ⟨hB,v,hb,ho,hne⟩:=h;refine (A1x b w (by rw [FU hb];rfl) (by simp [World.shape?,hb]) (JV hb 0)).mono ?_;rintro e w' ⟨rfl,rfl⟩;refine ⟨rfl,⟨hB,v,by rw [QH hb];rfl,⟨ho.1,?_⟩,hne⟩,(Below.refl B w).setCell hB _,by simp⟩;rcases ho.2 with h | ⟨g,cap,cur,hv,hg,hh,r⟩;exact .inl h;refine .inr ⟨g,cap,cur,hv,hg,MH hh (λe=>?_) _,r⟩;subst hv;exact hne (congrArg some e.symm);have h':=h;obtain ⟨hB,v,hb,ho,hne⟩:=h;refine (A1y b w (by rw [FU hb];rfl)).mono ?_;rintro e w' ⟨rfl,rfl⟩;exact ⟨rfl,h',Below.refl _ _,rfl⟩
set_option maxHeartbeats 1000000 in
theorem Sf (B b:Nat) (l:Bs) (c:UInt8) (w:World) (h:Bd B b l w) (hlen:l.length<=1000000) (hBw:B<=w.heap.size) :
    Calls Tryz.prog 123 #[.pointer (some ⟨b,0,none⟩),.int .u8 c.toNat] w λe w'=>e=.returned .nilIface/\Bd B b (l++[c]) w'/\Below B w w':=by
  have HC:=Lib.hid (check_any B b l w h)
  clear h
  obtain ⟨i0,hi,hz0,hz1,hz2⟩:=info_parts infoByte
  go_enter Tryz.func123,Tryz.ntmps123
  go_wp2_with fail
  refine HC.out.mono ?_
  rintro e w1 ⟨rfl,hu,hb1,hsz⟩
  obtain ⟨hB,v,hblk,hown,hne⟩:=hu
  have hlt:=KG hblk
  have c1:w1.cell? ⟨b,1,none⟩=some v:=by rw [FU hblk];rfl
  have HB:=Lib.hid hblk
  have HB1:=Lib.hid hb1
  have hB1:B<=w1.heap.size:=by have:=hb1.size;omega
  have HSZ:=Lib.hid hsz
  clear hblk hb1 hsz
  go_wp2_with (
    (at_builtin
     refine wpList_append_own _ rfl _ _ 140 rfl B 5 i0 _ 1 1 Tryz.underlying140 hi hz0 hz1 hz2 rfl (by decide) v _ _ rfl (hown.alloc _) ⟨w1.heap.size,0,none⟩ 1 1 [.int .u8 c.toNat] rfl rfl ?_ ?_ ?_ ?_ ?_ ?_
     · exact Blk w1 _ _
     · simp [Value.oneCell']
     · rw [Mk];unfold maxLen;omega
     · rw [Mk];omega
     · simp;omega
     intro v2 w2 hown2 Pj _
     have HB2:=Lib.hid (XC Pj hne (MG HB.out))
     rw [Mk] at hown2
     obtain ⟨g2,cap2,hv2,hg2,hne2⟩:=Abf hown2 HB2.out (by decide)
     rw [hv2]
     have d1:w2.cell? ⟨b,1,none⟩=some v:=by rw [FU HB2.out];rfl
     have e1:=JV HB2.out 1
     have HO:=Lib.hid hown2
     have HG:=Lib.hid Pj
     have HV:=Lib.hid hv2
     clear hown2 Pj hv2 c1))
  go_ret
  have hb2:=((Below.refl B w1).alloc hB1 _).grown HG.out (by simp;omega) (λk hk=>(hown.lt k hk).1)
  refine ⟨rfl,.inr ⟨hB,.slice (some ⟨g2,0,none⟩) (l.length+1) cap2,?_,?_,λh=>hne2 (Ao h)⟩,HB1.out.trans (hb2.setCell hB _)⟩
  · rw [QH HB2.out 1 _];simp
  · have ho:=HO.out
    rw [HV.out] at ho
    have e:Lib.byteCells (l++[c])=Lib.byteCells l++[.int .u8 c.toNat]:=by simp [Lib.byteCells]
    rw [Mk,BT,List.length_singleton,e]
    refine ⟨ho.1,?_⟩
    rcases ho.2 with ⟨h,_⟩ | ⟨g,cap,cur,hv,hg,hh,r⟩
    · cases h
    · cases hv
      exact .inr ⟨g2,cap2,cur,rfl,hg,MH hh (λh=>hne2 h.symm) _,r⟩
set_option maxHeartbeats 1000000 in
theorem Bw4 (B b:Nat) (l:Bs) (s:Ah) (w:World) (h:Bd B b l w) (hlen:l.length<=1000000000) (hs:s.size<=1000000000) (hBw:B<=w.heap.size) :
    Calls Tryz.prog 144 #[.pointer (some ⟨b,0,none⟩),.string s] w λe w'=>e=.returned (.tuple #[.int .i64 s.size,.nilIface])/\Bd B b (l++bs s) w'/\Below B w w':=by
  have HC:=Lib.hid (check_any B b l w h)
  clear h
  obtain ⟨i0,hi,hz0,hz1,hz2⟩:=info_parts infoByte
  go_enter Tryz.func144,Tryz.ntmps144
  go_wp2_with fail
  refine HC.out.mono ?_
  rintro e w1 ⟨rfl,hu,hb1,hsz⟩
  obtain ⟨hB,v,hblk,hown,hne⟩:=hu
  have hlt:=KG hblk
  have c1:w1.cell? ⟨b,1,none⟩=some v:=by rw [FU hblk];rfl
  have HB:=Lib.hid hblk
  have HB1:=Lib.hid hb1
  have hB1:B<=w1.heap.size:=by have:=hb1.size;omega
  have HSZ:=Lib.hid hsz
  clear hblk hb1 hsz
  go_wp2_with (
    (at_builtin
     refine Lib.wpList_append_own_string _ rfl _ _ 140 9 rfl B 5 i0 Tryz.underlying140 Tryz.underlying9 hi hz0 hz1 hz2 _ _ _ rfl hown s rfl ?_ ?_ ?_ ?_
     · rw [Mk];unfold maxLen;omega
     · rw [Mk];omega
     · exact hB1
     intro v2 w2 hown2 Pj _
     have HB2:=Lib.hid (XC Pj hne HB.out)
     rw [Mk] at hown2
     obtain ⟨ao,n2,cap2,hv2,hne2⟩:∃ ao n' cap,v2=.slice ao n' cap/\v2.ownBlock≠some b:=by
       rcases hown2.2 with ⟨hv,_⟩ | ⟨g,cap,cur,hv,hg,hh,_⟩
       · exact ⟨_,_,_,hv,by rw [hv];simp [Value.ownBlock]⟩
       · refine ⟨_,_,_,hv,?_⟩
         rw [hv]
         intro h
         have hgb:g=b:=Ao h
         subst hgb
         have:=HB2.out
         rw [hh] at this
         cases this
     rw [hv2]
     have d1:w2.cell? ⟨b,1,none⟩=some v:=by rw [FU HB2.out];rfl
     have e1:=JV HB2.out 1
     have HO:=Lib.hid hown2
     have HG:=Lib.hid Pj
     have HV:=Lib.hid hv2
     have HNE:=Lib.hid hne2
     clear hown2 Pj hv2 c1 hne2))
  go_ret2
  have hb2:=(Below.refl B w1).grown HG.out hB1 (λk hk=>(hown.lt k hk).1)
  have hne2:=HNE.out
  rw [HV.out] at hne2
  refine ⟨rfl,.inr ⟨hB,.slice ao n2 cap2,?_,?_,hne2⟩,HB1.out.trans (hb2.setCell hB _)⟩
  · rw [QH HB2.out 1 _];simp
  · have ho:=HO.out
    rw [HV.out] at ho
    have e:Lib.byteCells (l++bs s)=Lib.byteCells l++Lib.strCells s:=by simp [Lib.byteCells,Lib.strCells,bs]
    rw [Mk,BT,BZ,e]
    refine ⟨ho.1,?_⟩
    rcases ho.2 with h | ⟨g,cap,cur,hv,hg,hh,r⟩
    · exact .inl h
    · refine .inr ⟨g,cap,cur,hv,hg,MH hh (λh=>?_) _,r⟩
      rw [hv] at hne2
      exact hne2 (congrArg some h.symm)
theorem XB (B b:Nat) (l:Bs) (w:World) (h:Bd B b l w) :
  Calls Tryz.prog 120 #[.pointer (some ⟨b,0,none⟩)] w λe w'=>e=.returned (.int .i64 l.length)/\w=w':=by
 obtain ⟨p,hB,v,hblk,hown,hne⟩:∃ p,B<=b/\∃ v,w.heap[b]? = some (.cells #[p,v] 155)/\w.ownsRow B 5 1 v (Lib.byteCells l).length (Lib.byteCells l)/\v.ownBlock≠some b:=by
  rcases h with ⟨h1,v,h2⟩ | ⟨h1,v,h2⟩
  ·exact ⟨_,h1,v,h2⟩
  ·exact ⟨_,h1,v,h2⟩
 obtain ⟨ao,cap,hv⟩:∃ ao cap,v=.slice ao l.length cap:=by
  rcases hown.2 with ⟨hv,h0⟩ | ⟨g,cap,cur,hv,_⟩
  ·rw [Mk] at h0;rw [h0];exact ⟨_,_,hv⟩
  ·rw [Mk] at hv;exact ⟨_,_,hv⟩
 have c1:w.cell? ⟨b,1,none⟩=some (.slice ao l.length cap):=by rw [FU hblk,<- hv];rfl
 clear hblk hown hne hv h
 go_enter Tryz.func120,Tryz.ntmps120
 go_wp2
 go_ret
 exact ⟨rfl,rfl⟩
theorem Uh (s:Ah) (p:Bs) (w:World):Calls Tryz.prog 78 #[.string s,.string (str p)] w λe w'=>e=.returned (.bool (p.isPrefixOf (bs s)))/\w=w' :=
 (Tryz.strings_HasPrefix s (str p) w).mono λ_ _ ⟨h1,h2⟩=>⟨by rw [h1];simp [str,bs,Lib.hasPrefix],h2.symm⟩
def Q9 (r:Q8) (at_ i C bb:Nat) (acc:Bs) (w:World) (e:Ending) (w':World):Prop :=
 match r with
 | .ended=>e=J_ 4 at_/\Below C w w'
 | .FQ=>e=J_ 4 i/\Below C w w'
 | .ok b n=>e=.returned (.int .i64 (i+n:Nat))/\Bd C bb (acc++b) w'/\Below C w w'
theorem Ve (R:Ah) (c:UInt8) (t:Bs) (h:bs R=c :: t):∃ h0:0 < R.size,R[0]'h0=c:=by
 have h0:0 < R.size:=by rw [<- BZ,h];simp
 refine ⟨h0,?_⟩;have:=drop_at R 0 h0;rw [List.drop_zero,h] at this;exact (List.cons.inj this).1.symm
theorem TH (R:Ah) (c:UInt8) (t:Bs) (h:bs R=c :: t):R.toList.isEmpty=false:=by
 rw [Lib.toList_data];show (bs R).isEmpty=false;rw [h];rfl
section
variable (sb at_ i C bb:Nat) (src:Ah) (acc:Bs) (w:World)
set_option maxHeartbeats 1000000 in
theorem A4p (hb:sb < w.heap.size) (c0:w.cell? ⟨sb,0,none⟩=some (.string src)) (c1:w.cell? ⟨sb,1,none⟩=some (.int .i64 at_)) (hi:i+1=src.size) (hs:src.size<=1000000) :
  Calls Tryz.prog 122 #[.pointer (some ⟨sb,0,none⟩),.pointer (some ⟨bb,0,none⟩),.int .i64 i] w (Q9 .ended at_ i C bb acc w):=by
 have h1:(i:Int)+1<=src.size:=by omega
 have h2:((i:Int)+1).toNat=i+1:=by omega
 have he:(src.extract (i+1) src.size).toList.isEmpty=true:=by
  rw [Lib.toList_data];show (bs _).isEmpty=true;rw [HA,List.drop_of_length_le (by rw [BZ];omega)];rfl
 clear hi
 go_enter Tryz.func122,Tryz.ntmps122
 go_wp2_with fail
 refine (NS _ _ _).mono ?_
 rintro e w' ⟨rfl,rfl⟩
 go_wp2_with fail
 exact ⟨rfl,rfl,by first | exact Below.refl _ _ | exact (Below.refl _ _).drew⟩
set_option maxHeartbeats 1000000 in
theorem A4s (c:UInt8) (t:Bs) (hb:sb < w.heap.size) (c0:w.cell? ⟨sb,0,none⟩=some (.string src)) (hi:i+1<=src.size) (hs:src.size<=1000000)
  (hl:(bs src).drop (i+1)=c :: t) (hp:FY c≠0) (hB:Bd C bb acc w) (hacc:acc.length<=1000000) (hC:C<=w.heap.size) :
  Calls Tryz.prog 122 #[.pointer (some ⟨sb,0,none⟩),.pointer (some ⟨bb,0,none⟩),.int .i64 i] w (Q9 (.ok [FY c] 2) at_ i C bb acc w):=by
 have h1:(i:Int)+1<=src.size:=by omega
 have h2:((i:Int)+1).toNat=i+1:=by omega
 have h3:(i:Int)<=1000000:=by omega
 have hR:=HA src (i+1)
 rw [hl] at hR
 have HR0:=Lib.hid (Ve _ c t hR)
 have he:=TH _ c t hR
 have h0:=HR0.out.1
 have hc0:=HR0.out.2
 have hpi:((FY c).toNat:Int)≠0:=λh=>hp (by apply UInt8.toNat_inj.1;rw [show (0:UInt8).toNat=0 from rfl];omega)
 have hpn:(((FY c).toNat:Int) != 0)=true:=by rw [bne_iff_ne];exact hpi
 have hq:0 < src.size - (i+1):=by have:=congrArg List.length hl;rw [BV,BZ] at this;simp at this;omega
 have HP:=Lib.hid (Abu c)
 have HW:=Lib.hid (Sf C bb acc (FY c) w hB hacc hC)
 clear hl hR hp hpi hB
 go_enter Tryz.func122,Tryz.ntmps122
 go_wp2_with fail
 refine (HP.out _).mono ?_
 rintro e w' ⟨rfl,rfl⟩
 go_wp2_with fail
 refine (HP.out _).mono ?_
 rintro e w' ⟨rfl,rfl⟩
 go_wp2_with fail
 refine HW.out.mono ?_
 rintro e w' ⟨rfl,hb',hbel⟩
 go_wp2_with fail
 go_ret
 exact ⟨M0 (by omega),hb',hbel⟩
theorem Bv6 (s:Ah) (c:UInt8) (t:Bs) (h:bs s=c :: t):bs (s.extract 1 s.size)=t:=by
 rw [HA,h];rfl
theorem Abx (c:UInt8) (h:FY c=0) (w:World):Calls Tryz.prog 140 #[.int .u8 c.toNat] w λe w'=>e=.returned (.int .u8 0)/\w=w':=by
 have:=Abu c w;rw [h] at this;exact this
theorem Vn (n:Nat) (h:n < 4294967296) (w:World):(convert 3 5 (.int .i64 n)).run Tryz.prog w=.ok (.int .u8 (UInt8.ofNat n).toNat) w:=by
 have e:IntKind.u8.wrap (n:Int)=((UInt8.ofNat n).toNat:Int):=by unfold IntKind.wrap;simp [IntKind.bits,IntKind.signed]
 rw [<- e]
 simp [go_sem]
set_option maxHeartbeats 1000000 in
theorem A4u (t:Bs) (hb:sb < w.heap.size) (c0:w.cell? ⟨sb,0,none⟩=some (.string src)) (hi:i+1<=src.size) (hs:src.size<=1000000)
  (hl:(bs src).drop (i+1)=120 :: t) (hB:Bd C bb acc w) (hacc:acc.length<=1000000) (hC:C<=w.heap.size) :
  Calls Tryz.prog 122 #[.pointer (some ⟨sb,0,none⟩),.pointer (some ⟨bb,0,none⟩),.int .i64 i] w
   (Q9 (if (B_ 2 t 0 0).2 < 2 then .FQ else .ok [UInt8.ofNat (B_ 2 t 0 0).1] 4) at_ i C bb acc w):=by
 obtain ⟨c,hcc⟩:∃ c:UInt8,c=120:=⟨_,rfl⟩
 rw [<- hcc] at hl
 have h1:(i:Int)+1<=src.size:=by omega
 have h2:((i:Int)+1).toNat=i+1:=by omega
 have h3:(i:Int)<=1000000:=by omega
 have hR:=HA src (i+1)
 rw [hl] at hR
 have HR0:=Lib.hid (Ve _ c t hR)
 have he:=TH _ c t hR
 have h0:=HR0.out.1
 have hc0:=HR0.out.2
 have hq:0 < src.size - (i+1):=by have:=congrArg List.length hl;rw [BV,BZ] at this;simp at this;omega
 have HP:=Lib.hid (λw=>Abu c w)
 clear HP
 have HP:=Lib.hid (λw=>Abx c (by rw [hcc];rfl) w)
 have hcz:c.toNat=120:=by rw [hcc];rfl
 rw [hcz] at HP
 have hc1:((src.extract (i+1) src.size)[0]'h0).toNat=120:=by rw [hc0,hcz]
 clear hc0
 have hts:(src.extract (i+1) src.size).size=src.size - (i+1):=by rw [<- BZ,HA,BV,BZ]
 have HH:=Lib.hid (λw=>Alb ((src.extract (i+1) src.size).extract 1 (src.extract (i+1) src.size).size) 2 w (by omega) (by rw [<- BZ,HA,BV,BZ,hts];omega))
 rw [Bv6 _ c t hR,hts] at HH
 have hle:=Pi 2 t 0 0 (by omega)
 have hpw:=Aby (show (B_ 2 t 0 0).2<=8 by omega)
 have hn1:(B_ 2 t 0 0).1 < 4294967296:=by omega
 clear hle hpw
 generalize B_ 2 t 0 0=Af at *
 obtain ⟨Ag,K⟩:=Af
 clear hl hR hcc hts
 have hcv:=λw=>Vn Ag hn1 w
 have HW:=Lib.hid (Sf C bb acc (UInt8.ofNat Ag) w hB hacc hC)
 clear hB hn1
 generalize UInt8.ofNat Ag=U at *
 by_cases hK:K < 2
 ·have hkz:(K:Int) < 2:=by omega
  simp only [hK,if_true]
  clear hK
  go_enter Tryz.func122,Tryz.ntmps122
  go_wp2_with fail
  refine (HP.out _).mono ?_
  rintro e w' ⟨rfl,rfl⟩
  go_wp2_with fail
  refine (HH.out _).mono ?_
  rintro e w' ⟨rfl,rfl⟩
  go_wp2_with fail
  refine (M6 _ _ _).mono ?_
  rintro e w' ⟨rfl,rfl⟩
  go_wp2_with fail
  exact ⟨rfl,rfl,by first | exact Below.refl _ _ | exact (Below.refl _ _).drew⟩
 ·have hkz:¬ (K:Int) < 2:=by omega
  simp only [hK,if_false]
  clear hK
  go_enter Tryz.func122,Tryz.ntmps122
  go_wp2_with fail
  refine (HP.out _).mono ?_
  rintro e w' ⟨rfl,rfl⟩
  go_wp2_with fail
  refine (HH.out _).mono ?_
  rintro e w' ⟨rfl,rfl⟩
  go_wp2_with fail
  refine HW.out.mono ?_
  rintro e w' ⟨rfl,hb',hbel⟩
  go_wp2_with fail
  go_ret
  exact ⟨M0 (by omega),hb',hbel⟩
end
theorem Ba2 (l:Bs) (c:UInt8):[c].isPrefixOf l=decide (l.head? = some c):=by
 cases l with
 | nil=>simp
 | cons b t =>
  show (c == b && ([]:Bs).isPrefixOf t)=decide (some b=some c);have:([]:Bs).isPrefixOf t=true:=by cases t <;> rfl
  rw [this,Bool.and_true];by_cases h:b=c;subst h;simp;simp [h];exact λe=>h e.symm
theorem XP (r:Int):(Utf8.encode r).size<=4:=by
 unfold Utf8.encode;simp only [];generalize (if Utf8.valid r then r.toNat else Utf8.runeError)=c;by_cases h1:c < 128;rw [if_pos h1];show 1<=4;omega;rw [if_neg h1];by_cases h2:c < 2048;rw [if_pos h2];show 2<=4;omega;rw [if_neg h2];by_cases h3:c < 65536;rw [if_pos h3];show 3<=4;omega;rw [if_neg h3];show 4<=4;omega
section
variable (sb at_ i C bb:Nat) (src:Ah) (acc:Bs) (w:World)
set_option maxHeartbeats 1000000 in
theorem A4t (t:Bs) (hb:sb < w.heap.size) (c0:w.cell? ⟨sb,0,none⟩=some (.string src)) (hi:i+1<=src.size) (hs:src.size<=1000000)
  (hl:(bs src).drop (i+1)=117 :: 123 :: t) (hB:Bd C bb acc w) (hacc:acc.length<=1000000) (hC:C<=w.heap.size) :
  Calls Tryz.prog 122 #[.pointer (some ⟨sb,0,none⟩),.pointer (some ⟨bb,0,none⟩),.int .i64 i] w
   (Q9 (if (B_ 8 t 0 0).2=0\/Utf8.valid (B_ 8 t 0 0).1=false\/(t.drop (B_ 8 t 0 0).2).head?≠some 125 then .FQ
    else .ok (bs (Utf8.encode (B_ 8 t 0 0).1)) (4+(B_ 8 t 0 0).2)) at_ i C bb acc w):=by
 have h1:(i:Int)+1<=src.size:=by omega
 have h2:((i:Int)+1).toNat=i+1:=by omega
 have h3:(i:Int)<=1000000:=by omega
 have hR:=HA src (i+1)
 rw [hl] at hR
 have HR0:=Lib.hid (Ve _ _ _ hR)
 have he:=TH _ _ _ hR
 have h0:=HR0.out.1
 have hc0:=HR0.out.2
 have hlen:=congrArg List.length hl
 rw [BV,BZ] at hlen
 simp only [AX] at hlen
 have hq:0 < src.size - (i+1):=by omega
 have hq2:2<=src.size - (i+1):=by omega
 have HP:=Lib.hid (λw=>Abx 117 (by rfl) w)
 have hc1:((src.extract (i+1) src.size)[0]'h0).toNat=117:=by rw [hc0];rfl
 clear hc0
 have hts:(src.extract (i+1) src.size).size=src.size - (i+1):=by rw [<- BZ,HA,BV,BZ]
 have hb2:bs ((src.extract (i+1) src.size).extract 2 (src.size - (i+1)))=t:=by
  rw [<- hts,HA,hR];rfl
 have HPU:=Lib.hid (λw=>Uh (src.extract (i+1) src.size) [117,123] w)
 rw [hR,show ([117,123]:Bs).isPrefixOf (117 :: 123 :: t)=true by simp] at HPU
 have HH:=Lib.hid (λw=>Alb ((src.extract (i+1) src.size).extract 2 (src.size - (i+1))) 8 w (by omega) (by rw [<- BZ,hb2];omega))
 rw [hb2] at HH
 have hle:=Pi 8 t 0 0 (by omega)
 have hpw:=Aby (show (B_ 8 t 0 0).2<=8 by omega)
 have hn1:(B_ 8 t 0 0).1<=4294967296:=by omega
 have hk1:(B_ 8 t 0 0).2<=t.length:=by omega
 have hk8:(B_ 8 t 0 0).2<=8:=by omega
 have hb3:bs ((src.extract (i+1) src.size).extract (2+(B_ 8 t 0 0).2) (src.size - (i+1)))=t.drop (B_ 8 t 0 0).2:=by
  rw [<- hts,HA,hR,Nat.add_comm 2];rfl
 have HPB:=Lib.hid (λw=>Uh ((src.extract (i+1) src.size).extract (2+(B_ 8 t 0 0).2) (src.size - (i+1))) [125] w)
 rw [hb3,Ba2] at HPB
 clear hle hpw hb3 hb2
 generalize B_ 8 t 0 0=Af at *
 obtain ⟨Ag,K⟩:=Af
 simp only at hn1 hk1 hk8 HPB HH ⊢
 have HE:=Lib.hid (λw=>A3x Ag w (by omega) (by omega))
 have HW:=Lib.hid (λw hB' hC'=>Bw4 C bb acc (Utf8.encode Ag) w hB' (by omega) (by have:=XP Ag;omega) hC')
 have HBD:=Lib.hid hB
 have Ali:(K:Int)+2<=((src.size - (i+1):Nat):Int):=by omega
 have B0s:(K:Int)<=8:=by omega
 clear hl hR hlen hB hk1 hts
 by_cases hK:K=0
 ·have hK':((K:Int) == 0)=true:=by rw [beq_iff_eq];omega
  rw [if_pos (.inl hK)]
  clear hK
  obtain ⟨T,E,HE⟩:∃ T E,Hid (∀ w,Calls Tryz.prog 143 #[.int .i64 Ag] w λe w'=>e=.returned (.tuple #[.string T,.int .i64 E])/\w=w'):=⟨_,_,HE⟩
  go_enter Tryz.func122,Tryz.ntmps122
  go_wp2_with fail
  refine (HP.out _).mono ?_
  rintro e w' ⟨rfl,rfl⟩
  go_wp2_with fail
  refine (HPU.out _).mono ?_
  rintro e w' ⟨rfl,rfl⟩
  go_wp2_with fail
  refine (HH.out _).mono ?_
  rintro e w' ⟨rfl,rfl⟩
  go_wp2_with fail
  refine (HE.out _).mono ?_
  rintro e w' ⟨rfl,rfl⟩
  go_wp2_with fail
  refine (M6 _ _ _).mono ?_
  rintro e w' ⟨rfl,rfl⟩
  go_wp2_with fail
  exact ⟨rfl,rfl,by first | exact Below.refl _ _ | exact (Below.refl _ _).drew⟩
 ·have hK':((K:Int) == 0)=false:=by rw [beq_eq_false_iff_ne];omega
  cases hv:Utf8.valid (Ag:Int) with
  | false =>
   rw [if_pos (.inr (.inl rfl))]
   rw [hv] at HE
   simp only [Bool.false_eq_true,if_false] at HE
   clear hv
   go_enter Tryz.func122,Tryz.ntmps122
   go_wp2_with fail
   refine (HP.out _).mono ?_
   rintro e w' ⟨rfl,rfl⟩
   go_wp2_with fail
   refine (HPU.out _).mono ?_
   rintro e w' ⟨rfl,rfl⟩
   go_wp2_with fail
   refine (HH.out _).mono ?_
   rintro e w' ⟨rfl,rfl⟩
   go_wp2_with fail
   refine (HE.out _).mono ?_
   rintro e w' ⟨rfl,rfl⟩
   go_wp2_with fail
   refine (M6 _ _ _).mono ?_
   rintro e w' ⟨rfl,rfl⟩
   go_wp2_with fail
   exact ⟨rfl,rfl,by first | exact Below.refl _ _ | exact (Below.refl _ _).drew⟩
  | true =>
   rw [hv] at HE
   simp only [if_true] at HE
   clear hv
   by_cases hd:(t.drop K).head? = some 125
   ·rw [decide_eq_true hd] at HPB
    rw [if_neg (by rintro (h | h | h);exact hK h;cases h;exact h hd)]
    clear hd
    go_enter Tryz.func122,Tryz.ntmps122
    go_wp2_with fail
    refine (HP.out _).mono ?_
    rintro e w' ⟨rfl,rfl⟩
    go_wp2_with fail
    refine (HPU.out _).mono ?_
    rintro e w' ⟨rfl,rfl⟩
    go_wp2_with fail
    refine (HH.out _).mono ?_
    rintro e w' ⟨rfl,rfl⟩
    go_wp2_with fail
    refine (HE.out _).mono ?_
    rintro e w' ⟨rfl,rfl⟩
    go_wp2_with fail
    refine (HPB.out _).mono ?_
    rintro e w' ⟨rfl,rfl⟩
    go_wp2_with fail
    refine (HW.out _ HBD.out hC).mono ?_
    rintro e w' ⟨rfl,hb',hbel⟩
    go_wp2_with fail
    go_ret
    exact ⟨M0 (by omega),hb',hbel⟩
   ·rw [decide_eq_false hd] at HPB
    rw [if_pos (.inr (.inr hd))]
    clear hd
    go_enter Tryz.func122,Tryz.ntmps122
    go_wp2_with fail
    refine (HP.out _).mono ?_
    rintro e w' ⟨rfl,rfl⟩
    go_wp2_with fail
    refine (HPU.out _).mono ?_
    rintro e w' ⟨rfl,rfl⟩
    go_wp2_with fail
    refine (HH.out _).mono ?_
    rintro e w' ⟨rfl,rfl⟩
    go_wp2_with fail
    refine (HE.out _).mono ?_
    rintro e w' ⟨rfl,rfl⟩
    go_wp2_with fail
    refine (HPB.out _).mono ?_
    rintro e w' ⟨rfl,rfl⟩
    go_wp2_with fail
    refine (M6 _ _ _).mono ?_
    rintro e w' ⟨rfl,rfl⟩
    go_wp2_with fail
    exact ⟨rfl,rfl,by first | exact Below.refl _ _ | exact (Below.refl _ _).drew⟩
end
theorem Vs (m:Nat) (b:UInt8) (t:Bs) (n k:Nat):DN (m+1) (b :: t) n k=if 48<=b.toNat/\b.toNat<=57 then DN m t (10 * n+(b.toNat - 48)) (k+1) else (n,k):=rfl
def Ml (r:Nat×Nat):Q8:=if r.2=0\/r.1 > 255 then .FQ else .ok [UInt8.ofNat r.1] (1+r.2)
section
variable (sb at_ i C bb:Nat) (src:Ah) (acc:Bs) (w:World)
set_option maxHeartbeats 4000000 in
theorem A4o (c:UInt8) (t:Bs) (hb:sb < w.heap.size) (c0:w.cell? ⟨sb,0,none⟩=some (.string src)) (hi:i+1<=src.size) (hs:src.size<=1000000)
  (hl:(bs src).drop (i+1)=c :: t) (hp0:FY c=0) (hx:c≠120) (hu:¬ (c=117/\t.head? = some 123)) (hB:Bd C bb acc w) (hacc:acc.length<=1000000) (hC:C<=w.heap.size) :
  Calls Tryz.prog 122 #[.pointer (some ⟨sb,0,none⟩),.pointer (some ⟨bb,0,none⟩),.int .i64 i] w
   (Q9 (Ml (DN 3 (c :: t) 0 0)) at_ i C bb acc w):=by
 have h1:(i:Int)+1<=src.size:=by omega
 have h2:((i:Int)+1).toNat=i+1:=by omega
 have h3:(i:Int)<=1000000:=by omega
 have hR:=HA src (i+1)
 rw [hl] at hR
 have HR0:=Lib.hid (Ve _ _ _ hR)
 have he:=TH _ _ _ hR
 have h0:=HR0.out.1
 have hc0:=HR0.out.2
 have hlen:=congrArg List.length hl
 rw [BV,BZ] at hlen
 simp only [AX] at hlen
 have hq:0 < src.size - (i+1):=by omega
 have HP:=Lib.hid (λw=>Abx c hp0 w)
 have hx1:((c.toNat:Int) == 120)=false:=by
  rw [beq_eq_false_iff_ne];intro h;exact hx (by apply UInt8.toNat_inj.1;rw [show (120:UInt8).toNat=120 from rfl];omega)
 have HPU:=Lib.hid (λw=>Uh (src.extract (i+1) src.size) [117,123] w)
 have hpf:([117,123]:Bs).isPrefixOf (c :: t)=false:=by
  rw [Bool.eq_false_iff]
  intro h
  rw [List.isPrefixOf_iff_prefix] at h
  obtain ⟨r,hr⟩:=h
  simp only [List.cons_append,List.nil_append,List.cons.injEq] at hr
  exact hu ⟨hr.1.symm,by rw [<- hr.2];rfl⟩
 rw [hR,hpf] at HPU
 have hts:(src.extract (i+1) src.size).size=src.size - (i+1):=by rw [<- BZ,HA,BV,BZ]
 obtain ⟨R9,hR9⟩:∃ R9,DN 3 (c :: t) 0 0=R9:=⟨_,rfl⟩
 rw [hR9]
 have HR9:=Lib.hid hR9
 have HRR:=Lib.hid hR
 have HBD:=Lib.hid hB
 have HTS:=Lib.hid hts
 clear hl hR hlen hB hR9 hpf hp0 hx hts hu
 go_enter Tryz.func122,Tryz.ntmps122
 go_wp2_with fail
 refine (HP.out _).mono ?_
 rintro e w' ⟨rfl,rfl⟩
 go_wp2_with fail
 refine (HPU.out _).mono ?_
 rintro e w' ⟨rfl,rfl⟩
 go_wp2_with fail
 have HSB:=Lib.hid (show (src.extract (i+1) src.size).size<=1000000 by rw [HTS.out];omega)
 clear he h0 hc0 hq hx1 HR0 HP HPU HTS h1 h2 c0 hb
 generalize src.extract (i+1) src.size=R at *
 have hsb:=HSB.out
 go_loop [14,15] (λn k=>∃ Ag K:Nat,K<=3/\K<=R.size/\Ag < 10 ^ K/\n=.int .i64 Ag/\k=.int .i64 K/\Hid (DN (3 - K) ((bs R).drop K) Ag K=R9)) (λ_ k=>3 - (intOf k).toNat)
 case atStart=>exact ⟨0,0,by omega,by omega,by simp,rfl,rfl,by unfold Hid;rw [HRR.out];exact HR9.out⟩
 case round =>
  obtain ⟨Ag,K,hK,hKs,hN,rfl,rfl,hG⟩:=hrel
  have hN2:Ag < 1000:=by have:=Nat.pow_le_pow_right (n:=10) (by omega) hK;omega
  have HN:=Lib.hid hN
  clear hN
  by_cases hlt:K < 3
  ·by_cases hls:K < R.size
   ·have hdg:=λw=>WX.2 (R[K]).toNat w (by have:=(R[K]).toNat_lt;omega)
    obtain ⟨Ae,hD⟩:∃ Ae,GN (R[K]).toNat=Ae:=⟨_,rfl⟩
    rw [hD] at hdg
    have HDG:=Lib.hid hdg
    have HD:=Lib.hid hD
    clear hdg hD
    have hblt:=(R[K]).toNat_lt
    have hbw:wrap32 ((R[K]).toNat:Int)=(R[K]).toNat:=by unfold wrap32;omega
    have Ali:(K:Int) < 3:=by omega
    have Ba8:(K:Int) < R.size:=by omega
    cases Ae with
    | true =>
     have hdig:48<=(R[K]).toNat/\(R[K]).toNat<=57:=by have:=HD.out;simpa [GN] using this
     have hd1:(48:Int)<=(R[K]).toNat:=by omega
     have hd2:((R[K]).toNat:Int)<=57:=by omega
     have hbw2:IntKind.u8.wrap (((R[K]).toNat:Int) - 48)=(R[K]).toNat - 48:=by unfold IntKind.wrap;simp [IntKind.bits,IntKind.signed];omega
     clear hdig
     go_wp2_with fail
     refine (HDG.out _).mono ?_
     rintro e w' ⟨rfl,rfl⟩
     go_wp2_with fail
     go_round
     case rel =>
      have hN':=HN.out
      refine ⟨10 * Ag+((R[K]).toNat - 48),K+1,by omega,by omega,by rw [Nat.pow_succ];omega,?_,by go_num,?_⟩
      ·congr 1;omega
      ·have h:=hG
       unfold Hid at h ⊢
       rw [show 3 - K=(3 - (K+1))+1 by omega,drop_at R K hls,Vs,if_pos ⟨by omega,by omega⟩] at h
       exact h
     case measure=>simp [intOf];omega
    | false =>
     have hdig:¬ (48<=(R[K]).toNat/\(R[K]).toNat<=57):=by have:=HD.out;simpa [GN] using this
     have hres:(Ag,K)=R9:=by
      have h:=hG
      unfold Hid at h
      rw [show 3 - K=(3 - K - 1)+1 by omega,drop_at R K hls,Vs,if_neg hdig] at h
      exact h
     clear hdig hblt
     have hcv:=λw=>Vn Ag (by omega) w
     have HW:=Lib.hid (Sf C bb acc (UInt8.ofNat Ag) w HBD.out hacc hC)
     by_cases hk0:K=0
     ·have hkz:((K:Int) == 0)=true:=by rw [beq_iff_eq];omega
      have hd:Ml R9=.FQ:=by rw [<- hres];exact if_pos (.inl hk0)
      have HDD:=Lib.hid hd
      clear hd hk0 hres
      go_wp2_with fail
      refine (HDG.out _).mono ?_
      rintro e w' ⟨rfl,rfl⟩
      go_wp2_with fail
      skip
      refine (M6 _ _ _).mono ?_
      rintro e w' ⟨rfl,rfl⟩
      go_wp2_with fail
      refine ⟨rfl,?_⟩
      rw [HDD.out]
      exact ⟨rfl,by first | exact Below.refl _ _ | exact (Below.refl _ _).drew⟩
     ·have hkz:((K:Int) == 0)=false:=by rw [beq_eq_false_iff_ne];omega
      by_cases hn5:Ag > 255
      ·have hnz:(255:Int) < Ag:=by omega
       have hd:Ml R9=.FQ:=by rw [<- hres];exact if_pos (.inr hn5)
       have HDD:=Lib.hid hd
       clear hd hk0 hres hn5
       go_wp2_with fail
       refine (HDG.out _).mono ?_
       rintro e w' ⟨rfl,rfl⟩
       go_wp2_with fail
       skip
       refine (M6 _ _ _).mono ?_
       rintro e w' ⟨rfl,rfl⟩
       go_wp2_with fail
       refine ⟨rfl,?_⟩
       rw [HDD.out]
       exact ⟨rfl,by first | exact Below.refl _ _ | exact (Below.refl _ _).drew⟩
      ·have hnz:¬ (255:Int) < Ag:=by omega
       have hd:Ml R9=.ok [UInt8.ofNat Ag] (1+K):=by rw [<- hres];exact if_neg (by simp only;omega)
       have HDD:=Lib.hid hd
       clear hd hk0 hres hn5
       generalize UInt8.ofNat Ag=U at *
       go_wp2_with fail
       refine (HDG.out _).mono ?_
       rintro e w' ⟨rfl,rfl⟩
       go_wp2_with fail
       skip
       refine HW.out.mono ?_
       rintro e w' ⟨rfl,hb',hbel⟩
       go_wp2_with fail
       go_ret
       rw [HDD.out]
       exact ⟨M0 (by omega),hb',hbel⟩
   ·have Ba8:¬ (K:Int) < R.size:=by omega
    have hres:(Ag,K)=R9:=by
     have h:=hG
     unfold Hid at h
     rw [show 3 - K=(3 - K - 1)+1 by omega,List.drop_of_length_le (by rw [BZ];omega)] at h
     exact h
    have hcv:=λw=>Vn Ag (by omega) w
    have HW:=Lib.hid (Sf C bb acc (UInt8.ofNat Ag) w HBD.out hacc hC)
    by_cases hk0:K=0
    ·have hkz:((K:Int) == 0)=true:=by rw [beq_iff_eq];omega
     have hd:Ml R9=.FQ:=by rw [<- hres];exact if_pos (.inl hk0)
     have HDD:=Lib.hid hd
     clear hd hk0 hres
     skip
     go_wp2_with fail
     skip
     refine (M6 _ _ _).mono ?_
     rintro e w' ⟨rfl,rfl⟩
     go_wp2_with fail
     refine ⟨rfl,?_⟩
     rw [HDD.out]
     exact ⟨rfl,by first | exact Below.refl _ _ | exact (Below.refl _ _).drew⟩
    ·have hkz:((K:Int) == 0)=false:=by rw [beq_eq_false_iff_ne];omega
     by_cases hn5:Ag > 255
     ·have hnz:(255:Int) < Ag:=by omega
      have hd:Ml R9=.FQ:=by rw [<- hres];exact if_pos (.inr hn5)
      have HDD:=Lib.hid hd
      clear hd hk0 hres hn5
      skip
      go_wp2_with fail
      skip
      refine (M6 _ _ _).mono ?_
      rintro e w' ⟨rfl,rfl⟩
      go_wp2_with fail
      refine ⟨rfl,?_⟩
      rw [HDD.out]
      exact ⟨rfl,by first | exact Below.refl _ _ | exact (Below.refl _ _).drew⟩
     ·have hnz:¬ (255:Int) < Ag:=by omega
      have hd:Ml R9=.ok [UInt8.ofNat Ag] (1+K):=by rw [<- hres];exact if_neg (by simp only;omega)
      have HDD:=Lib.hid hd
      clear hd hk0 hres hn5
      generalize UInt8.ofNat Ag=U at *
      skip
      go_wp2_with fail
      skip
      refine HW.out.mono ?_
      rintro e w' ⟨rfl,hb',hbel⟩
      go_wp2_with fail
      go_ret
      rw [HDD.out]
      exact ⟨M0 (by omega),hb',hbel⟩
  ·have Ali:¬ (K:Int) < 3:=by omega
   have hres:(Ag,K)=R9:=by
    have h:=hG
    unfold Hid at h
    rw [show 3 - K=0 by omega] at h
    exact h
   have hcv:=λw=>Vn Ag (by omega) w
   have HW:=Lib.hid (Sf C bb acc (UInt8.ofNat Ag) w HBD.out hacc hC)
   by_cases hk0:K=0
   ·have hkz:((K:Int) == 0)=true:=by rw [beq_iff_eq];omega
    have hd:Ml R9=.FQ:=by rw [<- hres];exact if_pos (.inl hk0)
    have HDD:=Lib.hid hd
    clear hd hk0 hres
    skip
    go_wp2_with fail
    skip
    refine (M6 _ _ _).mono ?_
    rintro e w' ⟨rfl,rfl⟩
    go_wp2_with fail
    refine ⟨rfl,?_⟩
    rw [HDD.out]
    exact ⟨rfl,by first | exact Below.refl _ _ | exact (Below.refl _ _).drew⟩
   ·have hkz:((K:Int) == 0)=false:=by rw [beq_eq_false_iff_ne];omega
    by_cases hn5:Ag > 255
    ·have hnz:(255:Int) < Ag:=by omega
     have hd:Ml R9=.FQ:=by rw [<- hres];exact if_pos (.inr hn5)
     have HDD:=Lib.hid hd
     clear hd hk0 hres hn5
     skip
     go_wp2_with fail
     skip
     refine (M6 _ _ _).mono ?_
     rintro e w' ⟨rfl,rfl⟩
     go_wp2_with fail
     refine ⟨rfl,?_⟩
     rw [HDD.out]
     exact ⟨rfl,by first | exact Below.refl _ _ | exact (Below.refl _ _).drew⟩
    ·have hnz:¬ (255:Int) < Ag:=by omega
     have hd:Ml R9=.ok [UInt8.ofNat Ag] (1+K):=by rw [<- hres];exact if_neg (by simp only;omega)
     have HDD:=Lib.hid hd
     clear hd hk0 hres hn5
     generalize UInt8.ofNat Ag=U at *
     skip
     go_wp2_with fail
     skip
     refine HW.out.mono ?_
     rintro e w' ⟨rfl,hb',hbel⟩
     go_wp2_with fail
     go_ret
     rw [HDD.out]
     exact ⟨M0 (by omega),hb',hbel⟩
theorem QL (c:UInt8) (t:Bs):IZ (c :: t) =
  if FY c≠0 then .ok [FY c] 2
  else if c=120 then
   if (B_ 2 t 0 0).2 < 2 then .FQ else .ok [UInt8.ofNat (B_ 2 t 0 0).1] 4
  else if c=117/\t.head? = some 123 then
   if (B_ 8 t.tail 0 0).2=0\/Utf8.valid (B_ 8 t.tail 0 0).1=false\/(t.tail.drop (B_ 8 t.tail 0 0).2).head?≠some 125 then .FQ
   else .ok (bs (Utf8.encode (B_ 8 t.tail 0 0).1)) (4+(B_ 8 t.tail 0 0).2)
  else if (DN 3 (c :: t) 0 0).2=0\/(DN 3 (c :: t) 0 0).1 > 255 then .FQ
  else .ok [UInt8.ofNat (DN 3 (c :: t) 0 0).1] (1+(DN 3 (c :: t) 0 0).2):=rfl
theorem A4l (hb:sb < w.heap.size) (c0:w.cell? ⟨sb,0,none⟩=some (.string src)) (c1:w.cell? ⟨sb,1,none⟩=some (.int .i64 at_)) (hi:i+1<=src.size) (hs:src.size<=1000000)
  (hB:Bd C bb acc w) (hacc:acc.length<=1000000) (hC:C<=w.heap.size) :
  Calls Tryz.prog 122 #[.pointer (some ⟨sb,0,none⟩),.pointer (some ⟨bb,0,none⟩),.int .i64 i] w
   (Q9 (IZ ((bs src).drop (i+1))) at_ i C bb acc w):=by
 cases hl:(bs src).drop (i+1) with
 | nil =>
  have:=congrArg List.length hl;rw [BV,BZ] at this;simp at this;exact A4p sb at_ i C bb src acc w hb c0 c1 (by omega) hs
 | cons c t =>
  rw [QL];by_cases hp:FY c≠0;rw [if_pos hp];exact A4s sb at_ i C bb src acc w c t hb c0 hi hs hl hp hB hacc hC;rw [if_neg hp];have hp0:FY c=0:=Classical.not_not.1 hp;by_cases hx:c=120;rw [if_pos hx];subst hx;exact A4u sb at_ i C bb src acc w t hb c0 hi hs hl hB hacc hC;rw [if_neg hx];by_cases hu:c=117/\t.head? = some 123;rw [if_pos hu];obtain ⟨rfl,ht⟩:=hu;cases t with
  | nil=>cases ht
  | cons d t =>
   simp only [List.head?_cons,Option.some.injEq] at ht;subst ht;exact A4t sb at_ i C bb src acc w t hb c0 hi hs hl hB hacc hC
  rw [if_neg hu];exact A4o sb at_ i C bb src acc w c t hb c0 hi hs hl hp0 hx hu hB hacc hC
end
theorem XL:∀ (m:Nat) (l:Bs) (n k:Nat),k<=(DN m l n k).2/\(DN m l n k).2<=k+l.length
 | 0,_,_,_=>by simp [DN]
 | _+1,[],_,_=>by simp [DN]
 | m+1,b :: t,n,k=>by
  rw [Vs];split;have:=XL m t (10 * n+(b.toNat - 48)) (k+1);simp only [AX];omega;simp
theorem XQ {l:Bs} {b:Bs} {n:Nat} (h:IZ l=.ok b n):2<=n/\n<=l.length+1/\b.length<=n:=by
 cases l with
 | nil=>cases h
 | cons c t =>
  rw [QL] at h;simp only [AX];by_cases hp:FY c≠0;rw [if_pos hp] at h;cases h;simp;rw [if_neg hp] at h;by_cases hx:c=120;rw [if_pos hx] at h;by_cases h2:(B_ 2 t 0 0).2 < 2;rw [if_pos h2] at h;cases h;rw [if_neg h2] at h;have:=Pi 2 t 0 0 (by omega);cases h;simp;omega;rw [if_neg hx] at h;by_cases hu:c=117/\t.head? = some 123;rw [if_pos hu] at h;by_cases h3:(B_ 8 t.tail 0 0).2=0\/Utf8.valid (B_ 8 t.tail 0 0).1=false\/(t.tail.drop (B_ 8 t.tail 0 0).2).head?≠some 125;rw [if_pos h3] at h;cases h;rw [if_neg h3] at h;have:=Pi 8 t.tail 0 0 (by omega);simp only [not_or] at h3;have hd:(t.tail.drop (B_ 8 t.tail 0 0).2).head? = some 125:=Classical.not_not.1 h3.2.2;have hlen:(B_ 8 t.tail 0 0).2 < t.tail.length:=by
   rcases Nat.lt_or_ge (B_ 8 t.tail 0 0).2 t.tail.length with h' | h';exact h';rw [List.drop_of_length_le h'] at hd;cases hd
  rw [List.length_tail] at hlen;have hes:=XP (B_ 8 t.tail 0 0).1;rw [<- BZ] at hes;injection h with h4 h5
  subst h4 h5;omega;rw [if_neg hu] at h;by_cases h3:(DN 3 (c :: t) 0 0).2=0\/(DN 3 (c :: t) 0 0).1 > 255;rw [if_pos h3] at h;cases h;rw [if_neg h3] at h;have:=XL 3 (c :: t) 0 0;simp only [AX] at this;injection h with h4 h5
  subst h4 h5;simp;omega
theorem Av4 (q:UInt8) (f:Nat) (acc:Bs) (i:Nat):Fv q f [] acc i=.bad 4 0:=by cases f <;> rfl
theorem WZ (q:UInt8) (f:Nat) (b:UInt8) (t:Bs) (acc:Bs) (i:Nat):Fv q (f+1) (b :: t) acc i =
  if b=10 then .bad 4 0
  else if b=q then (if acc.length > 10000 then .bad 14 0 else .ok acc (i+1))
  else if b=92 then
   match IZ t with
   | .ended=>.bad 4 0
   | .FQ=>.bad 4 i
   | .ok e n=>Fv q f ((b :: t).drop n) (acc++e) (i+n)
  else Fv q f t (acc++[b]) (i+1):=rfl
theorem A0l (w:World):Bd w.heap.size w.heap.size [] (w.alloc (.cells #[.pointer none,.slice none 0 0] 155)) :=
 .inl ⟨Nat.le_refl _,.slice none 0 0,Lw w _,World.ownsRow_nil _ _ _ _,by simp [Value.ownBlock]⟩
theorem A1h (B b:Nat) (l:Bs) (w:World) (h:Bd B b l w) (hB:B<=w.heap.size) :
  Calls Tryz.prog 121 #[.pointer (some ⟨b,0,none⟩)] w.drew λe w'=>e=.returned (.string (str l))/\Below B w w' :=
 (Tryz.Builder_String_any B b l w.drew h hB).mono λ_ _ ⟨h1,h2⟩=>⟨h1,(Below.refl B w).drew.trans h2⟩
def Af6 (r:X0) (B sb at_:Nat) (src:Ah) (l:List Tok) (w:World) (e:Ending) (w':World):Prop :=
 match r with
 | .bad c rel=>e=J_ c (at_+rel:Nat)/\Below B w w'
 | .ok v n=>e=.returned (.tuple #[])/\Sc B sb src (at_+n) (l++[⟨4,v,0,at_⟩]) w'/\Below B w w'
set_option maxHeartbeats 4000000 in
theorem Bv9 (B sb at_:Nat) (src:Ah) (l:List Tok) (q:UInt8) (t:Bs) (w:World) (h:Sc B sb src at_ l w) (hl:(bs src).drop at_=q :: t) (hs:src.size<=100000) (hll:l.length<=100000) (hBw:B<=w.heap.size) :
  Calls Tryz.prog 84 #[.pointer (some ⟨sb,0,none⟩),.int .u8 q.toNat] w (Af6 (Fv q (q :: t).length t [] 1) B sb at_ src l w):=by
 have hlen:=congrArg List.length hl
 rw [BV,BZ] at hlen
 simp only [AX] at hlen
 obtain ⟨R9,hR9⟩:∃ R9,Fv q (q :: t).length t [] 1=R9:=⟨_,rfl⟩
 rw [hR9]
 have HR9:=Lib.hid hR9
 have HL:=Lib.hid hl
 obtain ⟨hb,c0,c1⟩:=h.reads
 have HSC:=Lib.hid h
 have hat:at_ < src.size:=by omega
 have HLEN:=Lib.hid hlen
 clear hR9 hl h hlen
 go_enter Tryz.func84,Tryz.ntmps84
 go_wp2_with fail
 have HB0:=Lib.hid ((Below.refl w.heap.size w).alloc (Nat.le_refl _) (.cells #[.pointer none,.slice none 0 0] 155))
 have Afw:=Lib.hid (A0l w)
 clear c0 c1 hb
 go_loopw [5] (λI wr=>∃ (i f:Nat) (acc:Bs),at_+1<=i/\i<=src.size/\src.size - i+1<=f/\acc.length<=i/\I=.int .i64 i/\Hid (Fv q f ((bs src).drop i) acc (i - at_)=R9)/\Hid (Bd w.heap.size w.heap.size acc wr)/\Hid (Below w.heap.size w wr)) (λI _=>src.size - (intOf I).toNat)
 case atStart =>
  refine ⟨at_+1,(q :: t).length,[],by omega,by omega,by have:=HLEN.out;simp only [AX];omega,by simp,by go_num,?_,Afw,HB0⟩
  have e:(bs src).drop (at_+1)=t:=by
   have:=congrArg List.tail HL.out
   rw [List.tail_drop] at this
   exact this
  unfold Hid
  rw [e,Nat.add_sub_cancel_left]
  exact HR9.out
 case round =>
  obtain ⟨i,f,acc,hi1,hi2,hf,hacc,rfl,HG,HBD,HBL⟩:=hrel
  have Lr:=Lib.hid (HSC.out.later HBL.out)
  obtain ⟨hb,c0,c1⟩:=Lr.out.reads
  have hB1:w.heap.size<=wr.heap.size:=HBL.out.size
  clear HB0 Afw
  by_cases hend:i < src.size
  ·have hz:(i:Int) < src.size:=by omega
   have hz0:¬ (src.size:Int)<=i:=by omega
   have hiz:(i:Int)<=100000:=by omega
   have hg:=HG.out
   obtain ⟨f,rfl⟩:∃ g,f=g+1:=⟨f - 1,by omega⟩
   rw [drop_at src i hend,WZ] at hg
   have HGG:=Lib.hid hg
   clear hg
   by_cases h10:src[i]=10
   ·have hn:((src[i].toNat:Int) == 10)=true:=(OX _ 10).1 h10
    go_wp2_with fail
    refine (NS _ _ _).mono ?_
    rintro e w' ⟨rfl,rfl⟩
    go_wp2_with fail
    refine ⟨rfl,?_⟩
    have hg:=HGG.out
    rw [if_pos h10] at hg
    rw [<- hg]
    exact ⟨rfl,HBL.out.mono hBw⟩
   ·have hn:((src[i].toNat:Int) == 10)=false:=Bool.eq_false_iff.2 λh=>h10 ((OX _ 10).2 h)
    by_cases hq:src[i]=q
    ·have hqn:((src[i].toNat:Int) == (q.toNat:Int))=true:=(OX _ _).1 hq
     have Bc0:(src[i].toNat == q.toNat)=true:=by rw [hq];simp
     have HLN:=Lib.hid (λw h=>XB w.heap.size w.heap.size acc w h)
     by_cases hbig:acc.length > 10000
     ·have hbz:(10000:Int) < acc.length:=by omega
      have Xv:=Lib.hid (XB w.heap.size w.heap.size acc wr HBD.out)
      go_wp2_with fail
      refine Xv.out.mono ?_
      rintro e w' ⟨rfl,rfl⟩
      go_wp2_with fail
      refine (NS _ _ _).mono ?_
      rintro e w' ⟨rfl,rfl⟩
      go_wp2_with fail
      refine ⟨rfl,?_⟩
      have hg:=HGG.out
      rw [if_neg h10,if_pos hq,if_pos hbig] at hg
      rw [<- hg]
      exact ⟨rfl,HBL.out.mono hBw⟩
     ·have hbz:¬ (10000:Int) < acc.length:=by omega
      have Xv:=Lib.hid (XB w.heap.size w.heap.size acc wr HBD.out)
      go_wp2_with fail
      refine Xv.out.mono ?_
      rintro e w' ⟨rfl,rfl⟩
      go_wp2_with fail
      have hsC:sb < w.heap.size:=HSC.out.lt
      have Azr:=Lib.hid (A1h w.heap.size w.heap.size acc wr HBD.out hB1)
      refine K9 [(0,0),(3,0),(4,0),(5,0),(6,0),(7,0),(8,3),(9,0),(1,1),(2,0)] (λw'=>w'.cell? ⟨sb,1,none⟩=some (.int .i64 at_)) (by kernel_rfl) (by kernel_rfl) (λ_ _ d _ _ h=>by cases d <;> exact h) (by first | exact c1 | exact (hb2.cell (p:=⟨sb,1,none⟩) hsC).trans c1) ?_
      simp only [DP,List.filterMap_cons,List.filterMap_nil,List.getElem?_toArray,List.getElem?_cons_zero,List.getElem?_cons_succ,Option.map_some,List.drop_succ_cons,List.drop_zero,AX,Bp]
      iterate 6 (refine DY (by rfl) (λwq=>by go_simp;with_reducible rfl) ?_;simp only [Act.put,List.setIfInBounds_toArray,List.set_cons_zero,List.set_cons_succ])
      iterate 1 (refine Gj (by rfl) (λwq hq1=>by go_simp;with_reducible rfl) ?_;simp only [Act.put,List.setIfInBounds_toArray,List.set_cons_zero,List.set_cons_succ])
      iterate 1 (refine DY (by rfl) (λwq=>by go_simp;with_reducible rfl) ?_;simp only [Act.put,List.setIfInBounds_toArray,List.set_cons_zero,List.set_cons_succ])
      refine Qg ?_ ?_
      ·rfl
      intro K hK
      (go_wp2_with fail;refine Azr.out.mono ?_;rintro e w2 ⟨rfl,hb2⟩;go_wp2_with fail)
      refine ⟨by first | exact c1 | exact (hb2.cell (p:=⟨sb,1,none⟩) hsC).trans c1,?_⟩
      iterate 1 (refine DY (by rfl) (λwq=>by go_simp;with_reducible rfl) ?_;simp only [Act.put,List.setIfInBounds_toArray,List.set_cons_zero,List.set_cons_succ])
      refine Lf ?_
      go_wp2_with fail
      have HB2:=Lib.hid (HBL.out.trans hb2)
      have e2:(i:Int)+1 - at_=((i+1 - at_:Nat):Int):=by omega
      rw [e2]
      refine (add_any B sb at_ src l (i+1 - at_) 4 0 0 (str acc) w2 (HSC.out.later HB2.out) (by have:=HB2.out.size;omega) hll (by omega)).mono ?_
      rintro e w3 ⟨rfl,Th,hb3⟩
      go_wp2_with fail
      refine bodyPost_ret (results_none rfl _ _ _) rfl ?_
      have hg:=HGG.out
      rw [if_neg h10,if_pos hq,if_neg hbig] at hg
      rw [<- hg]
      refine ⟨rfl,?_,(HB2.out.mono hBw).trans hb3⟩
      rw [show i - at_+1=i+1 - at_ by omega]
      rw [H8] at Th
      exact Th
    ·have hqn:((src[i].toNat:Int) == (q.toNat:Int))=false:=Bool.eq_false_iff.2 λh=>hq ((OX _ _).2 h)
     have Bc0:(src[i].toNat == q.toNat)=false:=by rw [Bool.eq_false_iff];intro h;exact hq (UInt8.toNat_inj.1 (by simpa using h))
     by_cases MO:src[i]=92
     ·have hbn:((src[i].toNat:Int) == 92)=true:=(OX _ 92).1 MO
      have Azo:=Lib.hid (A4l sb at_ i w.heap.size w.heap.size src acc wr hb c0 c1 (by omega) (by omega) HBD.out (by omega) hB1)
      go_wp2_with fail
      refine Azo.out.mono ?_
      intro e w2 KN
      have hg:=HGG.out
      rw [if_neg h10,if_neg hq,if_pos MO] at hg
      cases hE:IZ ((bs src).drop (i+1)) with
      | ended =>
       rw [hE] at KN hg
       have he:e=J_ 4 at_:=KN.1
       have HB7:=Lib.hid ((HBL.out.trans KN.2).mono hBw)
       clear KN
       subst he
       go_wp2_with fail
       refine ⟨rfl,?_⟩
       rw [<- hg]
       exact ⟨rfl,HB7.out⟩
      | FQ =>
       rw [hE] at KN hg
       have he:e=J_ 4 i:=KN.1
       have HB7:=Lib.hid ((HBL.out.trans KN.2).mono hBw)
       clear KN
       subst he
       go_wp2_with fail
       refine ⟨rfl,?_⟩
       rw [<- hg]
       refine ⟨?_,HB7.out⟩
       rw [show at_+(i - at_)=i by omega]
      | ok b n =>
       rw [hE] at KN hg
       obtain ⟨he,hbd2,hb2⟩:=KN
       have UR:=Lib.hid (XQ hE)
       have HG9:=Lib.hid hg
       subst he
       clear hE hg
       have hn1:=UR.out.2.1
       rw [BV,BZ] at hn1
       have hnz:(i:Int)+n<=1000000:=by omega
       go_wp2_with fail
       go_roundw
       case rel =>
        refine ⟨i+n,f,acc++b,by omega,by omega,by have:=UR.out.1;omega,by have:=UR.out.2.2;rw [BT];omega,by go_num,?_,hbd2,HBL.out.trans hb2⟩
        unfold Hid
        have hg:=HG9.out
        rw [show i+n - at_=i - at_+n by omega,<- List.drop_drop,drop_at src i hend]
        exact hg
       case measure=>have:=UR.out.1;simp [intOf];omega
     ·have hbn:((src[i].toNat:Int) == 92)=false:=Bool.eq_false_iff.2 λh=>MO ((OX _ 92).2 h)
      have HWB:=Lib.hid (Sf w.heap.size w.heap.size acc src[i] wr HBD.out (by omega) hB1)
      go_wp2_with fail
      refine HWB.out.mono ?_
      rintro e w2 ⟨rfl,hbd2,hb2⟩
      go_wp2_with fail
      go_roundw
      case rel =>
       refine ⟨i+1,f,acc++[src[i]],by omega,by omega,by omega,by simp;omega,by go_num,?_,hbd2,HBL.out.trans hb2⟩
       have hg:=HGG.out
       rw [if_neg h10,if_neg hq,if_neg MO] at hg
       unfold Hid
       rw [show i+1 - at_=i - at_+1 by omega]
       exact hg
      case measure=>simp [intOf];omega
  ·have hz:(src.size:Int)<=i:=by omega
   go_wp2_with fail
   refine (NS _ _ _).mono ?_
   rintro e w' ⟨rfl,rfl⟩
   go_wp2_with fail
   refine ⟨rfl,?_⟩
   have hg:=HG.out
   rw [List.drop_of_length_le (by rw [BZ];omega),Av4] at hg
   rw [<- hg]
   exact ⟨rfl,HBL.out.mono hBw⟩
structure Gl (w:World):Prop where
 utf:Lib.Utf8Tabs 2 3 w
 space:Lib.TabIs Tryz.prog w "strings.asciiSpace" .u8 Lib.asciiSpaceTab
 maxLen:∃ m,w.cell? ⟨4,0,none⟩=some (.int .i64 m)
 size:6<=w.heap.size
theorem Bvl:Tryz.prog.globalNamed "strings.asciiSpace" =some 0:=by kernel_rfl
theorem Gl.below {B:Nat} {w w':World} (h:Gl w) (hb:Below B w w') (hB:6<=B):Gl w':=by
 obtain ⟨h1,h2,⟨m,h3⟩,h4⟩:=h;refine ⟨⟨λc hc=>?_,λi hi=>⟨?_,?_⟩⟩,?_,⟨m,?_⟩,by have:=hb.size;omega⟩;rw [hb.cell (p:=⟨2,c,none⟩) (show 2 < B by omega)];exact h1.1 c hc;rw [hb.cell (p:=⟨3,2 * i,none⟩) (show 3 < B by omega)];exact (h1.2 i hi).1;rw [hb.cell (p:=⟨3,2 * i+1,none⟩) (show 3 < B by omega)];exact (h1.2 i hi).2;unfold Lib.TabIs World.var? at h2 ⊢;rw [Bvl] at h2 ⊢;simp only [Aq] at h2 ⊢;rw [hb.block 0 (by omega)];exact h2;rw [hb.cell (p:=⟨4,0,none⟩) (show 4 < B by omega)];exact h3
theorem Gl.drew {w:World} (h:Gl w):Gl w.drew:=⟨h.utf,h.space,h.maxLen,h.size⟩
def LX:Bs:=[61,61,32,126,61,32,60,61,32,62,61,32,47,47,32,46,46,32,43,32,45,32,42,32,37,32,60,32,62,32,61,32,35,32,40,32,41,32,123,32,125,32,91,32,93,32,59,32,44,32,46]
theorem A6a:Lib.fields LX=H6:=by decide +kernel
theorem A5y (w:World) (h:Gl w):Calls Tryz.prog 37 #[.string (str LX)] w λe w' =>
  e=.returned (.slice (some ⟨w.heap.size,0,none⟩) 23 23)/\w.alloc (.cells (H6.map λl=>Value.string (str l)).toArray 9)=w':=by
 have h1:=Tryz.strings_Fields (str LX) w (by rw [N5];decide) (by
  intro j b hj;have hb:b ∈ LX:=by
   have:(str LX).data.toList=LX:=H8 LX;rw [this] at hj;exact List.mem_of_getElem? hj
  revert b;have:∀ b ∈ LX,b.toNat < 128:=by decide
  intro b _ hb;exact this b hb) h.space
 have e:(str LX).data.toList=LX:=H8 LX;rw [e,A6a] at h1;exact h1.mono λ_ _ ⟨a,b⟩=>⟨a,b.symm⟩
def Azy (r:Option Bs) (B sb at_:Nat) (src:Ah) (l:List Tok) (w:World) (e:Ending) (w':World):Prop :=
 match r with
 | none=>e=J_ 4 at_/\Below B w w'
 | some s=>e=.returned (.tuple #[])/\Sc B sb src (at_+s.length) (l++[⟨5,s,0,at_⟩]) w'/\Below B w w'
set_option maxHeartbeats 4000000 in
theorem Bu8 (B sb at_:Nat) (src:Ah) (l:List Tok) (w:World) (h:Sc B sb src at_ l w) (hg:Gl w) (hat:at_<=src.size) (hs:src.size<=100000) (hll:l.length<=100000) (hBw:B<=w.heap.size) :
  Calls Tryz.prog 85 #[.pointer (some ⟨sb,0,none⟩)] w (Azy (N2 ((bs src).drop at_)) B sb at_ src l w):=by
 obtain ⟨R9,hR9⟩:∃ R9,N2 ((bs src).drop at_)=R9:=⟨_,rfl⟩
 rw [hR9]
 have HR9:=Lib.hid hR9
 have HF:=Lib.hid (A5y w hg)
 have HSC:=Lib.hid h
 have B0n:(at_:Int)<=src.size:=by omega
 have B0o:(at_:Int)<=100000:=by omega
 clear hR9 h hg
 go_enter Tryz.func85,Tryz.ntmps85
 go_wp2_with fail
 refine HF.out.mono ?_
 rintro e w' ⟨rfl,rfl⟩
 go_wp2_with fail
 have HB0:=Lib.hid ((Below.refl w.heap.size w).alloc (Nat.le_refl _) (.cells (H6.map λl=>Value.string (str l)).toArray 9))
 have Azm:=Lib.hid (Lw w (.cells (H6.map λl=>Value.string (str l)).toArray 9))
 generalize w.alloc (.cells (H6.map λl=>Value.string (str l)).toArray 9)=w1 at *
 go_loopw [6] (λI wr=>∃ k:Nat,k<=23/\I=.int .i64 k/\Hid ((H6.drop k).find? (λs=>s.isPrefixOf ((bs src).drop at_))=R9)/\Hid (Below (w.heap.size+1) w1 wr)) (λI _=>23 - (intOf I).toNat)
 case atStart=>exact ⟨0,by omega,rfl,HR9.out,Below.refl _ _⟩
 case round =>
  obtain ⟨k,hk,rfl,HG,HBL⟩:=hrel
  have hw1:=HB0.out.size
  have HB9:=Lib.hid (HB0.out.trans (HBL.out.mono (Nat.le_succ _)))
  have Lr:=Lib.hid (HSC.out.later HB9.out)
  obtain ⟨hb,c0,c1⟩:=Lr.out.reads
  by_cases hlt:k < 23
  ·have hkz:(k:Int) < 23:=by omega
   obtain ⟨s,hsk⟩:∃ s,H6[k]? = some s:=⟨_,List.getElem?_eq_getElem (show k < H6.length from hlt)⟩
   have hcell:wr.cell? ⟨w.heap.size,k,none⟩=some (.string (str s)):=by
    rw [FU (Lv HBL.out (by omega) Azm.out)]
    simp [hsk]
   have hdrop:H6.drop k=s :: H6.drop (k+1):=by
    rw [List.drop_eq_getElem_cons (show k < H6.length from hlt)]
    congr 1
    rw [List.getElem?_eq_getElem (show k < H6.length from hlt)] at hsk
    exact Ao hsk
   have HD:=Lib.hid hdrop
   have B04:s.length<=2:=by
    have:∀ x ∈ H6,x.length<=2:=by decide
    exact this s (List.mem_of_getElem? hsk)
   have HSK:=Lib.hid hsk
   clear hdrop hsk
   go_wp2_with fail
   refine K9 [(0,0),(1,0),(2,0),(3,3),(4,0),(5,0),(6,0),(7,3),(8,0),(9,0)] (λw'=>w'.cell? ⟨sb,0,none⟩=some (.string src)/\w'.cell? ⟨sb,1,none⟩=some (.int .i64 at_)) (by kernel_rfl) (by kernel_rfl) (λ_ _ d _ _ h=>by cases d <;> exact h) (by refine ⟨?_,?_⟩ <;> go_simp) ?_
   simp only [DP,List.filterMap_cons,List.filterMap_nil,List.getElem?_toArray,List.getElem?_cons_zero,List.getElem?_cons_succ,Option.map_some,List.drop_succ_cons,List.drop_zero,AX,Bp]
   iterate 3 (refine DY (by rfl) (λwq=>by go_simp;with_reducible rfl) ?_;simp only [Act.put,List.setIfInBounds_toArray,List.set_cons_zero,List.set_cons_succ])
   iterate 1 (refine Gj (by rfl) (λwq hq=>by obtain ⟨hq0,hq1⟩:=hq;go_simp;with_reducible rfl) ?_;simp only [Act.put,List.setIfInBounds_toArray,List.set_cons_zero,List.set_cons_succ])
   iterate 3 (refine DY (by rfl) (λwq=>by go_simp;with_reducible rfl) ?_;simp only [Act.put,List.setIfInBounds_toArray,List.set_cons_zero,List.set_cons_succ])
   iterate 1 (refine Gj (by rfl) (λwq hq=>by obtain ⟨hq0,hq1⟩:=hq;go_simp;with_reducible rfl) ?_;simp only [Act.put,List.setIfInBounds_toArray,List.set_cons_zero,List.set_cons_succ])
   iterate 2 (refine DY (by rfl) (λwq=>by go_simp;with_reducible rfl) ?_;simp only [Act.put,List.setIfInBounds_toArray,List.set_cons_zero,List.set_cons_succ])
   refine Lf ?_
   go_wp2_with fail
   have hpf:=Uh (src.extract at_ src.size) s wr.drew
   rw [HA] at hpf
   refine hpf.mono ?_
   rintro e w' ⟨rfl,rfl⟩
   cases hp:s.isPrefixOf ((bs src).drop at_) with
   | true =>
    have HP:=Lib.hid hp
    clear hp hpf
    have Mh:=Lib.hid (λhB'=>add_any B sb at_ src l s.length 5 0 0 (str s) wr.drew Lr.out.drew hB' hll (by omega))
    have hsz:((str s).size:Int)=s.length:=by rw [N5]
    go_wp2_with fail
    refine (Mh.out (by have:=HB9.out.size;simp;omega)).mono ?_
    rintro e w3 ⟨rfl,Th,hb3⟩
    go_wp2_with fail
    refine bodyPost_ret (results_none rfl _ _ _) rfl ?_
    have hg:=HG.out
    rw [HD.out,List.find?_cons,HP.out] at hg
    rw [<- hg]
    rw [H8] at Th
    exact ⟨rfl,Th,(HB9.out.drew.mono hBw).trans hb3⟩
   | false =>
    have HP:=Lib.hid hp
    clear hp hpf
    go_wp2_with fail
    go_roundw
    case rel =>
     refine ⟨k+1,by omega,by go_num,?_,HBL.out.drew⟩
     have hg:=HG.out
     rw [HD.out,List.find?_cons,HP.out] at hg
     exact hg
    case measure=>simp [intOf];omega
  ·have hkz:¬ (k:Int) < 23:=by omega
   go_wp2_with fail
   refine (NS _ _ _).mono ?_
   rintro e w' ⟨rfl,rfl⟩
   go_wp2_with fail
   refine ⟨rfl,?_⟩
   have hg:=HG.out
   rw [List.drop_of_length_le (show H6.length<=k by show 23<=k;omega)] at hg
   rw [<- hg]
   exact ⟨rfl,HB9.out.mono hBw⟩
end
section
namespace Lx
def N3 (ws:List Bs):Bs:=32 :: ws.flatMap (·++[32])
theorem Au0:∀ (t w x y:Bs),(∀ b ∈ t,b≠32)->(∀ b ∈ w,b≠32)->t++32 :: x=w++32 :: y->t=w
 | [],[],_,_,_,_,_=>rfl
 | [],c :: w,x,y,_,hw,h=>by
  simp only [List.nil_append,List.cons_append,List.cons.injEq] at h;exact absurd h.1.symm (hw c (by simp))
 | c :: t,[],x,y,ht,_,h=>by
  simp only [List.nil_append,List.cons_append,List.cons.injEq] at h;exact absurd h.1 (ht c (by simp))
 | c :: t,d :: w,x,y,ht,hw,h=>by
  simp only [List.cons_append,List.cons.injEq] at h;rw [h.1,Au0 t w x y (λb hb=>ht b (by simp [hb])) (λb hb=>hw b (by simp [hb])) h.2]
theorem Amo (sub rest:Bs):∀ (w a b:Bs),(∀ c ∈ w,c≠32)->sub.head? = some 32->a++sub++b=w++rest->sub <:+: rest
 | [],a,b,_,_,h=>⟨a,b,h⟩
 | c :: w,[],b,hw,hs,h=>by
  cases sub with
  | nil=>simp at hs
  | cons d s =>
   simp only [List.head?_cons,Option.some.injEq] at hs;simp only [List.nil_append,List.cons_append,List.cons.injEq] at h;exact absurd (h.1.symm.trans hs) (hw c (by simp))
 | c :: w,d :: a,b,hw,hs,h=>by
  simp only [List.cons_append,List.cons.injEq] at h;exact Amo sub rest w a b (λx hx=>hw x (by simp [hx])) hs h.2
theorem Auw (w:Bs) (ws:List Bs):N3 (w :: ws)=32 :: (w++N3 ws):=by simp [N3]
theorem Amq (t:Bs) (ht:∀ b ∈ t,b≠32):∀ ws:List Bs,(∀ w ∈ ws,∀ b ∈ w,b≠32)->((32 :: t++[32]) <:+: N3 ws)->t ∈ ws
 | [],_,h=>by
  have:=h.length_le;simp [N3] at this
 | w :: ws,hws,h=>by
  obtain ⟨a,b,h⟩:=h;rw [Auw] at h;cases a with
  | nil =>
   simp only [List.nil_append,List.cons_append,C8,List.cons.injEq,true_and] at h;rw [Au0 t w b (ws.flatMap (·++[32])) ht (hws w (by simp)) h];simp
  | cons c a =>
   simp only [List.cons_append,List.cons.injEq] at h;have:=Amo (32 :: t++[32]) (N3 ws) w a b (hws w (by simp)) rfl (by simpa using h.2);exact EM _ (Amq t ht ws (λx hx=>hws x (by simp [hx])) this)
theorem Axr (t:Bs):∀ ws:List Bs,t ∈ ws->((32 :: t++[32]) <:+: N3 ws)
 | w :: ws,h=>by
  rw [Auw];rcases List.mem_cons.1 h with h | h;subst h;exact ⟨[],ws.flatMap (·++[32]),by simp [N3]⟩;obtain ⟨a,b,e⟩:=Axr t ws h;exact ⟨32 :: w++a,b,by simp only [C8,List.cons_append] at *;rw [e]⟩
theorem A2k (s sub:Bs):Lib.contains s sub=true ↔ sub <:+: s:=by
 unfold Lib.contains;rw [decide_eq_true_iff];rcases Lib.index_spec s sub with ⟨h1,h2⟩ | ⟨i,h1,h2,h3,_⟩;constructor;intro h;omega;rintro ⟨a,b,e⟩;have h3:=h2 a.length (by rw [<- e];simp);rw [<- e] at h3;simp only [Lib.occAt,C8,List.drop_left] at h3;rw [List.isPrefixOf_iff_prefix.2 ⟨b,rfl⟩] at h3;exact absurd h3 (by decide);constructor;intro _;have:=List.isPrefixOf_iff_prefix.1 h3;obtain ⟨b,hb⟩:=this;exact ⟨s.take i,b,by rw [C8,hb,List.take_append_drop]⟩;intro _;omega
def UG:Bs:=N3 Xg
theorem A2l (t:Bs) (ht:∀ b ∈ t,b≠32):Lib.contains UG (32 :: t++[32])=LD t:=by
 have hws:∀ w ∈ Xg,∀ b ∈ w,b≠32:=by decide
 rw [Bool.eq_iff_iff,A2k];unfold LD;rw [List.contains_iff_mem];exact ⟨Amq t ht _ hws,Axr t _⟩
theorem A2o (p:Nat->Bool) (hp1:p 32=false) (hp2:p 65533=false) (l:Bs) (h:p (B2 l).1=true):∀ b ∈ l.take (B2 l).2,b≠32:=by
 intro b hb;obtain ⟨i,hi⟩:=List.mem_iff_getElem?.1 hb;rw [List.getElem?_take] at hi;split at hi
 case isFalse=>exact absurd hi (by simp)
 rename_i hlt;have hg:l.getD i 0=b:=by rw [List.getD_eq_getElem?_getD,hi];rfl
 rintro rfl;have hg2:(l.getD i 0).toNat=32:=by rw [hg];rfl
 clear hb hi hg;unfold B2 at h hlt;dsimp only at h hlt;have hi4:i=0\/i=1\/i=2\/3<=i:=by omega
 split at h
 ·rename_i h0
  rw [if_pos h0] at hlt;have:i=0:=by simpa using hlt
  subst this;rw [hg2] at h;exact absurd h (by simp [hp1])
 ·rename_i h0
  rw [if_neg h0] at hlt;have hne:i≠0:=by rintro rfl;omega
  split at h
  ·rename_i h1
   rw [if_pos h1] at hlt;simp only [Bool.and_eq_true,beq_iff_eq,decide_eq_true_eq] at h1;split at h
   ·rename_i h2;rw [if_pos h2] at hlt
    rcases hi4 with rfl | rfl | rfl | hi4 <;> dsimp only at hlt <;> omega
   ·exact absurd h (by simp [hp2])
  ·rename_i h1
   rw [if_neg h1] at hlt;split at h
   ·rename_i h1
    rw [if_pos h1] at hlt;simp only [Bool.and_eq_true,beq_iff_eq,decide_eq_true_eq] at h1;split at h
    ·rename_i h2;rw [if_pos h2] at hlt
     rcases hi4 with rfl | rfl | rfl | hi4 <;> dsimp only at hlt <;> omega
    ·exact absurd h (by simp [hp2])
   ·rename_i h1
    rw [if_neg h1] at hlt;split at h
    ·rename_i h1
     rw [if_pos h1] at hlt;simp only [Bool.and_eq_true,beq_iff_eq,decide_eq_true_eq] at h1;split at h
     ·rename_i h2;rw [if_pos h2] at hlt
      have:i=3\/4<=i\/i < 3:=by omega
      rcases hi4 with rfl | rfl | rfl | hi4 <;> dsimp only at hlt <;> try omega
      have:i=3:=by omega
      subst this;omega
     ·exact absurd h (by simp [hp2])
    ·exact absurd h (by simp [hp2])
theorem At1 (p:Nat->Bool) (hp1:p 32=false) (hp2:p 65533=false):∀ (n:Nat) (l:Bs),l.length<=n->∀ b ∈ l.take (B6 p l),b≠32
 | 0,l,h=>by
  have:l=[]:=List.eq_nil_of_length_eq_zero (by omega);subst this;simp
 | n+1,l,h=>by
  by_cases hl:l=[];subst hl;simp;rw [N1 p l hl];have hw:=Jw l;split;rename_i hp;rw [List.take_add];intro b hb;rcases EL.1 hb with hb | hb;exact A2o p hp1 hp2 l hp b hb;exact At1 p hp1 hp2 n (l.drop (B2 l).2) (by rw [BV];have:=hw.2.2 hl;omega) b hb;simp
end Lx
end
section
open Go Go.RowKit Lx
theorem wrap_in (x:Int) (h0:0<=x) (h1:x<=1000000000):IntKind.i64.wrap x=x:=by unfold IntKind.wrap;simp [IntKind.bits,IntKind.signed];omega
def OL (m:Nat) (t:Bs) (B sb at_:Nat) (src:Ah) (l:List Tok) (w:World) (e:Ending) (w':World):Prop :=
 if m > 40 then e=J_ 14 at_/\Below B w w'
 else e=.returned (.tuple #[])/\Sc B sb src (at_+m) (l++[⟨if LD t then 2 else 1,t,0,at_⟩]) w'/\Below B w w'
theorem Bwy (src:Ah) (at_ m:Nat) (w:World) (hm:B6 Cm ((bs src).drop at_)=m) (hle:at_+m<=src.size) (hs:m<=40) (hg:Gl w) :
  Calls Tryz.prog 117 #[.string (str UG),.string (⟨#[32]⟩++src.extract at_ (at_+m)++⟨#[32]⟩)] w λe w'=>e=.returned (.bool (LD (((bs src).drop at_).take m)))/\w=w':=by
 obtain ⟨k,hk⟩:=hg.maxLen;refine (Tryz.strings_Contains (str UG) _ k w (by rw [N5];decide) hk).mono ?_;rintro e w' ⟨rfl,rfl⟩;have e1:(str UG).data.toList=UG:=H8 _;have e2:(⟨#[32]⟩++src.extract at_ (at_+m)++⟨#[32]⟩:Ah).data.toList=32 :: (((bs src).drop at_).take m)++[32]:=by
  have h:=SC src at_ (at_+m);rw [Nat.add_sub_cancel_left] at h;rw [<- h];simp [bs]
 refine ⟨?_,rfl⟩;rw [e1,e2,A2l];rw [<- hm];exact At1 Cm (by decide) (by decide) _ _ (Nat.le_refl _)
set_option maxHeartbeats 4000000 in
theorem name_any (B sb at_:Nat) (src:Ah) (l:List Tok) (w:World) (h:Sc B sb src at_ l w) (hg:Gl w) (hat:at_<=src.size) (hs:src.size<=100000) (hll:l.length<=100000) (hBw:B<=w.heap.size) :
  Calls Tryz.prog 81 #[.pointer (some ⟨sb,0,none⟩)] w (OL (B6 Cm ((bs src).drop at_)) (((bs src).drop at_).take (B6 Cm ((bs src).drop at_))) B sb at_ src l w):=by
 have HMM:=Lib.hid (rfl:B6 Cm ((bs src).drop at_)=B6 Cm ((bs src).drop at_))
 have HG:=Lib.hid hg
 clear hg
 have hm:=K4 Cm ((bs src).drop at_)
 rw [BV,BZ] at hm
 obtain ⟨hb,c0,c1⟩:=h.reads
 have S5:=Lib.hid (run_any 115 Cm sb at_ src w Auv hb c0 c1 hat (by omega))
 generalize hM:B6 Cm ((bs src).drop at_)=m at *
 have HM:=Lib.hid hM
 have HSC:=Lib.hid h
 clear hM h
 have hz1:(at_:Int)<=(at_:Int)+m:=by omega
 have hz2:(at_:Int)+m<=src.size:=by omega
 have hz3:((at_:Int)+m).toNat=at_+m:=by omega
 have hz4:(at_:Int)+m<=100000:=by omega
 have hz5:=wrap_in ((at_:Int)+m) (by omega) (by omega)
 go_enter Tryz.func81,Tryz.ntmps81
 go_wp2_with fail
 refine S5.out.mono ?_
 rintro e w1 ⟨rfl,hb1⟩
 have Lq:=Lib.hid (HSC.out.later hb1)
 have HB1:=Lib.hid hb1
 clear c0 c1 hb hb1
 obtain ⟨hb,c0,c1⟩:=Lq.out.reads
 go_wp2_with fail
 refine K9 [(0,0),(1,0),(2,0),(3,3),(4,0),(5,0),(6,0),(7,3),(8,0),(9,0),(10,0),(11,3),(12,0),(13,0),(14,0),(15,0),(16,1)] (λw'=>w'.cell? ⟨sb,0,none⟩=some (.string src)/\w'.cell? ⟨sb,1,none⟩=some (.int .i64 at_)) (by kernel_rfl) (by kernel_rfl) (λ_ _ d _ _ h=>by cases d <;> exact h) (by refine ⟨?_,?_⟩ <;> go_simp) ?_
 simp only [DP,List.filterMap_cons,List.filterMap_nil,List.getElem?_toArray,List.getElem?_cons_zero,List.getElem?_cons_succ,Option.map_some,List.drop_succ_cons,List.drop_zero,AX,Bp]
 iterate 3 (refine DY (by rfl) (λwq=>by go_simp;with_reducible rfl) ?_;simp only [Act.put,List.setIfInBounds_toArray,List.set_cons_zero,List.set_cons_succ])
 iterate 1 (refine Gj (by rfl) (λwq hq=>by obtain ⟨hq0,hq1⟩:=hq;go_simp;with_reducible rfl) ?_;simp only [Act.put,List.setIfInBounds_toArray,List.set_cons_zero,List.set_cons_succ])
 iterate 3 (refine DY (by rfl) (λwq=>by go_simp;with_reducible rfl) ?_;simp only [Act.put,List.setIfInBounds_toArray,List.set_cons_zero,List.set_cons_succ])
 iterate 1 (refine Gj (by rfl) (λwq hq=>by obtain ⟨hq0,hq1⟩:=hq;go_simp;with_reducible rfl) ?_;simp only [Act.put,List.setIfInBounds_toArray,List.set_cons_zero,List.set_cons_succ])
 iterate 3 (refine DY (by rfl) (λwq=>by go_simp;with_reducible rfl) ?_;simp only [Act.put,List.setIfInBounds_toArray,List.set_cons_zero,List.set_cons_succ])
 iterate 1 (refine Gj (by rfl) (λwq hq=>by obtain ⟨hq0,hq1⟩:=hq;go_simp;with_reducible rfl) ?_;simp only [Act.put,List.setIfInBounds_toArray,List.set_cons_zero,List.set_cons_succ])
 iterate 4 (refine DY (by rfl) (λwq=>by go_simp;with_reducible rfl) ?_;simp only [Act.put,List.setIfInBounds_toArray,List.set_cons_zero,List.set_cons_succ])
 refine Qg ?_ ?_
 ·rfl
 intro K hK
 go_wp2
 refine ⟨by refine ⟨?_,?_⟩ <;> go_simp,?_⟩
 refine Lf ?_
 by_cases h40:m > 40
 ·have h40z:(40:Int) < m:=by omega
  go_wp2_with fail
  refine (NS _ _ _).mono ?_
  rintro e w' ⟨rfl,rfl⟩
  go_wp2_with fail
  refine ⟨rfl,?_⟩
  show OL m _ B sb at_ src l w _ _
  unfold OL
  rw [if_pos h40]
  exact ⟨rfl,((HB1.out.mono hBw).alloc (by have:=HB1.out.size;omega) _).drew⟩
 ·have h40z:¬ (40:Int) < m:=by omega
  go_wp2_with fail
  have HGW:=Lib.hid (HG.out.below HB1.out HG.out.size)
  have Azq:=Lib.hid ((HGW.out.below ((Below.refl w1.heap.size w1).alloc (Nat.le_refl _) (.cells #[.int .i64 1,.string (src.extract at_ (at_+m)),.int .i64 0,.int .i64 0] 82)) HGW.out.size).drew)
  refine (Bwy src at_ m _ HM.out (by omega) (by omega) Azq.out).mono ?_
  rintro e w' ⟨rfl,rfl⟩
  generalize HT:LD (((bs src).drop at_).take m)=bw
  have Alh:bs (src.extract at_ (at_+m))=((bs src).drop at_).take m:=by rw [SC,Nat.add_sub_cancel_left]
  have QB:=Lib.hid Alh
  have Bf5:=HB1.out.size
  clear Alh
  cases bw
  ·have Mh:=Lib.hid (add_any B sb at_ src l m 1 0 0 (src.extract at_ (at_+m)) _ ((Lq.out.alloc (.cells #[.int .i64 1,.string (src.extract at_ (at_+m)),.int .i64 0,.int .i64 0] 82)).drew) (by simp;omega) hll (by omega))
   have HT2:=Lib.hid HT
   clear HT
   go_wp2_with fail
   refine Mh.out.mono ?_
   rintro e w' ⟨rfl,hsc,hbb⟩
   go_wp2_with fail
   refine bodyPost_ret (results_none rfl _ _ _) rfl ?_
   unfold OL
   rw [if_neg h40]
   rw [QB.out] at hsc
   rw [HT2.out]
   exact ⟨rfl,hsc,(((HB1.out.mono hBw).alloc (by omega) _).drew).trans hbb⟩
  ·have Mh:=Lib.hid (add_any B sb at_ src l m 2 0 0 (src.extract at_ (at_+m)) _ ((Lq.out.alloc (.cells #[.int .i64 2,.string (src.extract at_ (at_+m)),.int .i64 0,.int .i64 0] 82)).drew) (by simp;omega) hll (by omega))
   have HT2:=Lib.hid HT
   clear HT
   go_wp2_with fail
   refine Mh.out.mono ?_
   rintro e w' ⟨rfl,hsc,hbb⟩
   go_wp2_with fail
   refine bodyPost_ret (results_none rfl _ _ _) rfl ?_
   unfold OL
   rw [if_neg h40]
   rw [QB.out] at hsc
   rw [HT2.out]
   exact ⟨rfl,hsc,(((HB1.out.mono hBw).alloc (by omega) _).drew).trans hbb⟩
def NumEnd (m:Nat) (t:Bs) (B sb at_:Nat) (src:Ah) (l:List Tok) (w:World) (e:Ending) (w':World):Prop :=
 if (F9 t).2≠0 then e=J_ (F9 t).2 at_/\Below B w w'
 else e=.returned (.tuple #[])/\Sc B sb src (at_+m) (l++[⟨3,t,(F9 t).1,at_⟩]) w'/\Below B w w'
set_option maxHeartbeats 4000000 in
theorem Bl6 (B sb at_:Nat) (src:Ah) (l:List Tok) (w:World) (h:Sc B sb src at_ l w) (hat:at_<=src.size) (hs:src.size<=100000) (hll:l.length<=100000) (hBw:B<=w.heap.size) :
  Calls Tryz.prog 83 #[.pointer (some ⟨sb,0,none⟩)] w (NumEnd (B6 Cm ((bs src).drop at_)) (((bs src).drop at_).take (B6 Cm ((bs src).drop at_))) B sb at_ src l w):=by
 have hm:=K4 Cm ((bs src).drop at_)
 rw [BV,BZ] at hm
 obtain ⟨hb,c0,c1⟩:=h.reads
 have S5:=Lib.hid (run_any 115 Cm sb at_ src w Auv hb c0 c1 hat (by omega))
 generalize hM:B6 Cm ((bs src).drop at_)=m at *
 have HM:=Lib.hid hM
 have HSC:=Lib.hid h
 clear hM h
 have hz1:(at_:Int)<=(at_:Int)+m:=by omega
 have hz2:(at_:Int)+m<=src.size:=by omega
 have hz3:((at_:Int)+m).toNat=at_+m:=by omega
 have hz4:(at_:Int)+m<=100000:=by omega
 have hz5:=wrap_in ((at_:Int)+m) (by omega) (by omega)
 go_enter Tryz.func83,Tryz.ntmps83
 go_wp2_with fail
 refine S5.out.mono ?_
 rintro e w1 ⟨rfl,hb1⟩
 have Lq:=Lib.hid (HSC.out.later hb1)
 have HB1:=Lib.hid hb1
 clear c0 c1 hb hb1
 obtain ⟨hb,c0,c1⟩:=Lq.out.reads
 have Bf5:=HB1.out.size
 have QB:=Lib.hid (show bs (src.extract at_ (at_+m))=((bs src).drop at_).take m by rw [SC,Nat.add_sub_cancel_left])
 have HPA:=Lib.hid (λw=>parse_any (src.extract at_ (at_+m)) w (by have:=congrArg List.length QB.out;rw [BZ,List.length_take,BV,BZ] at this;omega))
 generalize hPF:F9 (((bs src).drop at_).take m)=PF at *
 have HPF:=Lib.hid hPF
 clear hPF
 go_wp2_with fail
 refine K9 [(0,0),(1,0),(2,0),(3,3),(4,0),(5,0),(6,0),(7,3),(8,0),(9,0),(10,0),(11,3),(12,0),(13,0)] (λw'=>w'.cell? ⟨sb,0,none⟩=some (.string src)/\w'.cell? ⟨sb,1,none⟩=some (.int .i64 at_)) (by kernel_rfl) (by kernel_rfl) (λ_ _ d _ _ h=>by cases d <;> exact h) (by refine ⟨?_,?_⟩ <;> go_simp) ?_
 simp only [DP,List.filterMap_cons,List.filterMap_nil,List.getElem?_toArray,List.getElem?_cons_zero,List.getElem?_cons_succ,Option.map_some,List.drop_succ_cons,List.drop_zero,AX,Bp]
 iterate 3 (refine DY (by rfl) (λwq=>by go_simp;with_reducible rfl) ?_;simp only [Act.put,List.setIfInBounds_toArray,List.set_cons_zero,List.set_cons_succ])
 iterate 1 (refine Gj (by rfl) (λwq hq=>by obtain ⟨hq0,hq1⟩:=hq;go_simp;with_reducible rfl) ?_;simp only [Act.put,List.setIfInBounds_toArray,List.set_cons_zero,List.set_cons_succ])
 iterate 3 (refine DY (by rfl) (λwq=>by go_simp;with_reducible rfl) ?_;simp only [Act.put,List.setIfInBounds_toArray,List.set_cons_zero,List.set_cons_succ])
 iterate 1 (refine Gj (by rfl) (λwq hq=>by obtain ⟨hq0,hq1⟩:=hq;go_simp;with_reducible rfl) ?_;simp only [Act.put,List.setIfInBounds_toArray,List.set_cons_zero,List.set_cons_succ])
 iterate 3 (refine DY (by rfl) (λwq=>by go_simp;with_reducible rfl) ?_;simp only [Act.put,List.setIfInBounds_toArray,List.set_cons_zero,List.set_cons_succ])
 iterate 1 (refine Gj (by rfl) (λwq hq=>by obtain ⟨hq0,hq1⟩:=hq;go_simp;with_reducible rfl) ?_;simp only [Act.put,List.setIfInBounds_toArray,List.set_cons_zero,List.set_cons_succ])
 iterate 2 (refine DY (by rfl) (λwq=>by go_simp;with_reducible rfl) ?_;simp only [Act.put,List.setIfInBounds_toArray,List.set_cons_zero,List.set_cons_succ])
 refine Lf ?_
 go_wp2_with fail
 refine (HPA.out _).mono ?_
 rintro e w2 ⟨rfl,hb2⟩
 rw [QB.out,HPF.out]
 have HB2:=Lib.hid hb2
 have Lr:=Lib.hid (Lq.out.drew.later hb2)
 clear hb2 hb c0 c1
 obtain ⟨hb,c0,c1⟩:=Lr.out.reads
 by_cases h0:PF.2=0
 ·rw [h0]
  have Mh:=Lib.hid (add_any B sb at_ src l m 3 PF.1 0 (src.extract at_ (at_+m)) w2 Lr.out (by have:=HB2.out.size;simp at this;omega) hll (by omega))
  go_wp2_with fail
  refine Mh.out.mono ?_
  rintro e w' ⟨rfl,hsc,hbb⟩
  go_wp2_with fail
  refine bodyPost_ret (results_none rfl _ _ _) rfl ?_
  unfold NumEnd
  rw [HPF.out,if_neg (by simp [h0])]
  rw [QB.out] at hsc
  exact ⟨rfl,hsc,((HB1.out.drew.mono hBw).trans (HB2.out.mono (by simp;omega))).trans hbb⟩
 ·have h0':(PF.2 == 0)=false:=by simpa using h0
  go_wp2_with fail
  refine (NS _ _ _).mono ?_
  rintro e w' ⟨rfl,rfl⟩
  go_wp2_with fail
  refine ⟨rfl,?_⟩
  unfold NumEnd
  rw [HPF.out,if_pos h0]
  exact ⟨rfl,(HB1.out.drew.mono hBw).trans (HB2.out.mono (by simp;omega))⟩
def Azu (r:Step) (B sb at_:Nat) (src:Ah) (l:List Tok) (w:World) (e:Ending) (w':World):Prop :=
 match r with
 | .done=>e=.returned (.bool false)/\Sc B sb src at_ l w'/\Below B w w'
 | .skip n=>e=.returned (.bool true)/\Sc B sb src (at_+n) l w'/\Below B w w'
 | .tok k t n len=>e=.returned (.bool true)/\Sc B sb src (at_+len) (l++[⟨k,t,n,at_⟩]) w'/\Below B w w'
 | .bad c rel=>e=J_ c (at_+rel:Nat)/\Below B w w'
theorem A2m (l:Bs) (h:(B2 l).1 < 128):(l.getD 0 0).toNat=(B2 l).1:=by
 unfold B2 at h ⊢;dsimp only at h ⊢;by_cases h0:(l.getD 0 0).toNat < 128
 ·rw [if_pos h0]
 ·rw [if_neg h0] at h ⊢
  exfalso
  (repeat' split at h) <;> simp_all <;> omega
theorem A2t (s:Ah) (h:bs s≠[]):Lib.decodeGo s=B2 (bs s):=by
 unfold Lib.decodeGo;have:s.size≠0:=by
  intro h0;rw [<- BZ] at h0;exact h (List.eq_nil_of_length_eq_zero h0)
 rw [if_neg this,decode_eq,List.drop_zero]
set_option maxHeartbeats 4000000 in
theorem next_any (B sb at_:Nat) (src:Ah) (l:List Tok) (w:World) (h:Sc B sb src at_ l w) (hg:Gl w) (hat:at_<=src.size) (hs:src.size<=100000) (hll:l.length<=100000) (hBw:B<=w.heap.size) (hNB:6<=B) :
  Calls Tryz.prog 39 #[.pointer (some ⟨sb,0,none⟩)] w (Azu (D9 (((bs src).drop at_).drop (B6 CE ((bs src).drop at_)))) B sb (at_+B6 CE ((bs src).drop at_)) src l w):=by
 have hm:=K4 CE ((bs src).drop at_)
 rw [BV,BZ] at hm
 obtain ⟨hb,c0,c1⟩:=h.reads
 have S5:=Lib.hid (run_any 76 CE sb at_ src w.drew Bvj hb c0 c1 hat (by omega))
 rw [List.drop_drop]
 generalize B6 CE ((bs src).drop at_)=m at *
 have hz5:=wrap_in ((at_:Int)+m) (by omega) (by omega)
 rw [show (at_:Int)+m=((at_+m:Nat):Int) by omega] at hz5
 obtain ⟨a,ha⟩:∃ a,at_+m=a:=⟨_,rfl⟩
 rw [ha] at hz5
 have hz6:(at_:Int)+m=a:=by omega
 rw [ha]
 have hza:a<=src.size:=by omega
 have B1c:(a:Int)<=src.size:=by omega
 obtain ⟨R9,hR9⟩:∃ R9,D9 ((bs src).drop a)=R9:=⟨_,rfl⟩
 rw [hR9]
 have HR9:=Lib.hid hR9
 have HSC:=Lib.hid h
 have HG:=Lib.hid hg
 clear h hg hR9
 go_enter Tryz.func39,Tryz.ntmps39
 go_wp2_with fail
 refine K9 [(0,0),(1,0),(2,0),(3,3),(4,0),(5,1)] (λw'=>w'.cell? ⟨sb,1,none⟩=some (.int .i64 at_)) (by kernel_rfl) (by kernel_rfl) (λ_ _ d _ _ h=>by cases d <;> exact h) (by first | exact c1 | exact (hb2.cell (p:=⟨sb,1,none⟩) hb).trans c1) ?_
 simp only [DP,List.filterMap_cons,List.filterMap_nil,List.getElem?_toArray,List.getElem?_cons_zero,List.getElem?_cons_succ,Option.map_some,List.drop_succ_cons,List.drop_zero,AX,Bp]
 iterate 3 (refine DY (by rfl) (λwq=>by go_simp;with_reducible rfl) ?_;simp only [Act.put,List.setIfInBounds_toArray,List.set_cons_zero,List.set_cons_succ])
 iterate 1 (refine Gj (by rfl) (λwq hq1=>by go_simp;with_reducible rfl) ?_;simp only [Act.put,List.setIfInBounds_toArray,List.set_cons_zero,List.set_cons_succ])
 iterate 1 (refine DY (by rfl) (λwq=>by go_simp;with_reducible rfl) ?_;simp only [Act.put,List.setIfInBounds_toArray,List.set_cons_zero,List.set_cons_succ])
 refine Qg ?_ ?_
 ·rfl
 intro K hK
 (go_wp2_with fail;refine S5.out.mono ?_;rintro e w1 ⟨rfl,hb2⟩;go_wp2_with fail)
 refine ⟨by first | exact c1 | exact (hb2.cell (p:=⟨sb,1,none⟩) hb).trans c1,?_⟩
 refine Lf ?_
 have Lq:=Lib.hid (HSC.out.drew.later hb2)
 have HB1:=Lib.hid (((Below.refl w.heap.size w).drew).trans hb2)
 clear hb c0 c1 hb2
 obtain ⟨hb,c0,c1⟩:=Lq.out.reads
 have hfr:=Lq.out.free 1
 go_wp2_with fail
 have Lr:=Lib.hid (Lq.out.move a)
 have HB2:=Lib.hid ((HB1.out.mono hBw).setCell (p:=⟨sb,1,none⟩) Lq.out.base (.int .i64 a))
 generalize w1.setCell ⟨sb,1,none⟩ (.int .i64 a)=w2 at *
 clear hb c0 c1 hfr
 obtain ⟨hb,c0,c1⟩:=Lr.out.reads
 refine K9 [(0,0),(1,0),(2,0),(3,3),(4,0),(5,0),(6,0),(7,3)] (λw'=>w'.cell? ⟨sb,0,none⟩=some (.string src)/\w'.cell? ⟨sb,1,none⟩=some (.int .i64 a)) (by kernel_rfl) (by kernel_rfl) (λ_ _ d _ _ h=>by cases d <;> exact h) (by refine ⟨?_,?_⟩ <;> go_simp) ?_
 simp only [DP,List.filterMap_cons,List.filterMap_nil,List.getElem?_toArray,List.getElem?_cons_zero,List.getElem?_cons_succ,Option.map_some,List.drop_succ_cons,List.drop_zero,AX,Bp]
 iterate 3 (refine DY (by rfl) (λwq=>by go_simp;with_reducible rfl) ?_;simp only [Act.put,List.setIfInBounds_toArray,List.set_cons_zero,List.set_cons_succ])
 iterate 1 (refine Gj (by rfl) (λwq hq=>by obtain ⟨hq0,hq1⟩:=hq;go_simp;with_reducible rfl) ?_;simp only [Act.put,List.setIfInBounds_toArray,List.set_cons_zero,List.set_cons_succ])
 iterate 3 (refine DY (by rfl) (λwq=>by go_simp;with_reducible rfl) ?_;simp only [Act.put,List.setIfInBounds_toArray,List.set_cons_zero,List.set_cons_succ])
 iterate 1 (refine Gj (by rfl) (λwq hq=>by obtain ⟨hq0,hq1⟩:=hq;go_simp;with_reducible rfl) ?_;simp only [Act.put,List.setIfInBounds_toArray,List.set_cons_zero,List.set_cons_succ])
 refine Lf ?_
 go_wp2_with fail
 have HDT:=Lib.hid (Tryz.utf8_DecodeRuneInString (src.extract a src.size) w2.drew ((HG.out.below HB2.out hNB).drew).utf)
 have HTL:=Lib.hid (HA src a)
 generalize hL:(bs src).drop a=L at *
 generalize hsx:src.extract a src.size=sx at *
 have HL:=Lib.hid hL
 clear hL hsx
 cases hLc:L with
 | nil =>
  subst hLc
  have he:sx.toList.isEmpty=true:=by
   rw [Lib.toList_data]
   show (bs sx).isEmpty=true
   rw [HTL.out];rfl
  refine HDT.out.mono ?_
  rintro e w3 ⟨rfl,hb3⟩
  have HB3:=Lib.hid (HB2.out.drew.trans (hb3.mono (by have:=HB2.out.size;simp;omega)))
  have NH:=Lib.hid (Lr.out.drew.later hb3)
  clear hb3 hb c0 c1
  go_wp2_with fail
  go_ret
  rw [<- HR9.out]
  exact ⟨rfl,NH.out,HB3.out⟩
 | cons c t =>
  have hne:¬ (c :: t=([]:Bs)):=by simp
  rw [hLc] at HL HTL HR9
  have HDG:=Lib.hid (A2t sx (by rw [HTL.out];simp))
  rw [HTL.out] at HDG
  have VG:=SG (c :: t)
  generalize hr:(B2 (c :: t)).1=r at *
  have Lp:=Lib.hid hr
  clear hr hLc
  have he:=TH sx c t HTL.out
  have Xu:=HDT.out
  rw [show (Lib.decodeGo sx).1=r by rw [HDG.out];exact Lp.out] at Xu
  refine Xu.mono ?_
  rintro e w3 ⟨rfl,hb3⟩
  have HB3:=Lib.hid (HB2.out.drew.trans (hb3.mono (by have:=HB2.out.size;simp;omega)))
  have NH:=Lib.hid (Lr.out.drew.later hb3)
  have hw3:B<=w3.heap.size:=by have:=HB3.out.size;omega
  have HG3:=Lib.hid (HG.out.below HB3.out hNB)
  clear hb3 hb c0 c1 HDT Xu HDG
  obtain ⟨hb,c0,c1⟩:=NH.out.reads
  have HPX:=Lib.hid (Uh sx [45,45])
  rw [HTL.out] at HPX
  by_cases hpre:([45,45]:Bs).isPrefixOf (c :: t)=true
  ·rw [hpre] at HPX
   have MA:=Lib.hid hpre
   clear hpre
   go_wp2_with fail
   refine (HPX.out w3).mono ?_
   rintro e w' ⟨rfl,rfl⟩
   have hn:=K4 KQ ((bs src).drop a)
   rw [BV,BZ,HL.out] at hn
   have HRL:=Lib.hid (run_any 79 KQ sb a src w3.drew Bvk hb c0 c1 hza (by omega))
   rw [HL.out] at HRL
   obtain ⟨n,hn2⟩:∃ n,B6 KQ (c :: t)=n:=⟨_,rfl⟩
   rw [hn2] at hn HRL
   have HRN:=Lib.hid hn2
   clear hn2
   have hzn:=wrap_in ((a:Int)+n) (by omega) (by omega)
   rw [show (a:Int)+n=((a+n:Nat):Int) by omega] at hzn
   obtain ⟨an,han⟩:∃ an,a+n=an:=⟨_,rfl⟩
   rw [han] at hzn
   have B1d:(a:Int)+n=an:=by omega
   go_wp2_with fail
   refine K9 [(0,0),(1,0),(2,0),(3,3),(4,0),(5,1)] (λw'=>w'.cell? ⟨sb,1,none⟩=some (.int .i64 a)) (by kernel_rfl) (by kernel_rfl) (λ_ _ d _ _ h=>by cases d <;> exact h) (by first | exact c1 | exact (hb4.cell (p:=⟨sb,1,none⟩) hb).trans c1) ?_
   simp only [DP,List.filterMap_cons,List.filterMap_nil,List.getElem?_toArray,List.getElem?_cons_zero,List.getElem?_cons_succ,Option.map_some,List.drop_succ_cons,List.drop_zero,AX,Bp]
   iterate 3 (refine DY (by rfl) (λwq=>by go_simp;with_reducible rfl) ?_;simp only [Act.put,List.setIfInBounds_toArray,List.set_cons_zero,List.set_cons_succ])
   iterate 1 (refine Gj (by rfl) (λwq hq1=>by go_simp;with_reducible rfl) ?_;simp only [Act.put,List.setIfInBounds_toArray,List.set_cons_zero,List.set_cons_succ])
   iterate 1 (refine DY (by rfl) (λwq=>by go_simp;with_reducible rfl) ?_;simp only [Act.put,List.setIfInBounds_toArray,List.set_cons_zero,List.set_cons_succ])
   refine Qg ?_ ?_
   ·rfl
   intro K hK
   (go_wp2_with fail;refine HRL.out.mono ?_;rintro e w4 ⟨rfl,hb4⟩;go_wp2_with fail)
   refine ⟨by first | exact c1 | exact (hb4.cell (p:=⟨sb,1,none⟩) hb).trans c1,?_⟩
   refine Lf ?_
   have UT:=Lib.hid (NH.out.drew.later hb4)
   have HB4:=Lib.hid (HB3.out.drew.trans (hb4.mono hw3))
   clear hb c0 c1 hb4
   obtain ⟨hb,c0,c1⟩:=UT.out.reads
   have hfr:=UT.out.free 1
   go_wp2_with fail
   go_ret
   have hgg:=HR9.out
   unfold D9 at hgg
   rw [Lp.out,if_neg hne,if_pos MA.out,HRN.out] at hgg
   rw [<- hgg]
   refine ⟨rfl,?_,HB4.out.setCell (p:=⟨sb,1,none⟩) UT.out.base (.int .i64 an)⟩
   rw [han]
   exact UT.out.move an
  ·have hpre':([45,45]:Bs).isPrefixOf (c :: t)=false:=Bool.eq_false_iff.2 hpre
   rw [hpre'] at HPX
   have MA:=Lib.hid hpre
   clear hpre hpre'
   go_wp2_with fail
   refine (HPX.out w3).mono ?_
   rintro e w' ⟨rfl,rfl⟩
   cases hlet:Ig r with
   | true =>
    have NG:=Lib.hid hlet
    have HLC:=Lib.hid (Ac3.2 r w3 VG)
    rw [hlet] at HLC
    clear hlet
    go_wp2_with fail
    refine HLC.out.mono ?_
    rintro e w' ⟨rfl,rfl⟩
    have HNM:=Lib.hid (name_any B sb a src l w3 NH.out HG3.out hza hs hll hw3)
    rw [HL.out] at HNM
    by_cases h40:B6 Cm (c :: t) > 40
    ·have OI:=Lib.hid (HNM.out.mono λe w' h=>(by unfold OL at h;rw [if_pos h40] at h;exact h:e=J_ 14 a/\Below B w3 w'))
     go_wp2_with fail
     refine OI.out.mono ?_
     rintro e w4 ⟨rfl,hb4⟩
     go_wp2_with fail
     refine ⟨rfl,?_⟩
     have hgg:=HR9.out
     unfold D9 at hgg
     rw [Lp.out,if_neg hne,if_neg MA.out,if_pos NG.out] at hgg
     dsimp only at hgg
     rw [if_pos h40] at hgg
     rw [<- hgg]
     exact ⟨rfl,HB3.out.trans hb4⟩
    ·have OI:=Lib.hid (HNM.out.mono λe w' h=>(by unfold OL at h;rw [if_neg h40] at h;exact h:e=.returned (.tuple #[])/\Sc B sb src (a+B6 Cm (c :: t)) (l++[⟨if LD ((c :: t).take (B6 Cm (c :: t))) then 2 else 1,(c :: t).take (B6 Cm (c :: t)),0,a⟩]) w'/\Below B w3 w'))
     go_wp2_with fail
     refine OI.out.mono ?_
     rintro e w4 ⟨rfl,Hs,hb4⟩
     go_wp2_with fail
     go_ret
     have hgg:=HR9.out
     unfold D9 at hgg
     rw [Lp.out,if_neg hne,if_neg MA.out,if_pos NG.out] at hgg
     dsimp only at hgg
     rw [if_neg h40] at hgg
     rw [<- hgg]
     exact ⟨rfl,Hs,HB3.out.trans hb4⟩
   | false =>
    have NG:=Lib.hid (show ¬ Ig r=true by rw [hlet];simp)
    have HLC:=Lib.hid (Ac3.2 r w3 VG)
    rw [hlet] at HLC
    clear hlet
    go_wp2_with fail
    refine HLC.out.mono ?_
    rintro e w' ⟨rfl,rfl⟩
    cases hdig:GN r with
    | true =>
     have QA:=Lib.hid hdig
     have HDC:=Lib.hid (WX.2 r w3 VG)
     rw [hdig] at HDC
     clear hdig
     go_wp2_with fail
     refine HDC.out.mono ?_
     rintro e w' ⟨rfl,rfl⟩
     have HNM:=Lib.hid (Bl6 B sb a src l w3 NH.out hza hs hll hw3)
     rw [HL.out] at HNM
     by_cases h40:(F9 ((c :: t).take (B6 Cm (c :: t)))).2≠0
     ·have OI:=Lib.hid (HNM.out.mono λe w' h=>(by unfold NumEnd at h;rw [if_pos h40] at h;exact h:e=J_ (F9 ((c :: t).take (B6 Cm (c :: t)))).2 a/\Below B w3 w'))
      go_wp2_with fail
      refine OI.out.mono ?_
      rintro e w4 ⟨rfl,hb4⟩
      go_wp2_with fail
      refine ⟨rfl,?_⟩
      have hgg:=HR9.out
      unfold D9 at hgg
      rw [Lp.out,if_neg hne,if_neg MA.out,if_neg NG.out,if_pos QA.out] at hgg
      dsimp only at hgg
      rw [if_pos h40] at hgg
      rw [<- hgg]
      exact ⟨rfl,HB3.out.trans hb4⟩
     ·have OI:=Lib.hid (HNM.out.mono λe w' h=>(by unfold NumEnd at h;rw [if_neg h40] at h;exact h:e=.returned (.tuple #[])/\Sc B sb src (a+B6 Cm (c :: t)) (l++[⟨3,(c :: t).take (B6 Cm (c :: t)),(F9 ((c :: t).take (B6 Cm (c :: t)))).1,a⟩]) w'/\Below B w3 w'))
      go_wp2_with fail
      refine OI.out.mono ?_
      rintro e w4 ⟨rfl,Hs,hb4⟩
      go_wp2_with fail
      go_ret
      have hgg:=HR9.out
      unfold D9 at hgg
      rw [Lp.out,if_neg hne,if_neg MA.out,if_neg NG.out,if_pos QA.out] at hgg
      dsimp only at hgg
      rw [if_neg h40] at hgg
      rw [<- hgg]
      exact ⟨rfl,Hs,HB3.out.trans hb4⟩
    | false =>
     have QA:=Lib.hid (show ¬ GN r=true by rw [hdig];simp)
     have HDC:=Lib.hid (WX.2 r w3 VG)
     rw [hdig] at HDC
     clear hdig
     go_wp2_with fail
     refine HDC.out.mono ?_
     rintro e w' ⟨rfl,rfl⟩
     by_cases hq:r=34\/r=39
     ·have hc:(c :: t).getD 0 0=c:=rfl
      have hcr:c.toNat=r:=by
       have:=A2m (c :: t) (by rw [Lp.out];omega)
       rw [Lp.out] at this
       exact this
      have HQ:=Lib.hid hq
      have hwr:IntKind.u8.wrap (r:Int)=c.toNat:=by
       rw [hcr]
       rcases HQ.out with h | h <;> rw [h] <;> rfl
      have hcu:UInt8.ofNat r=c:=by rw [<- hcr];simp
      have hlen5:src.size<=100000:=hs
      have HTX:=Lib.hid (Bv9 B sb a src l c t w3 NH.out HL.out hs hll hw3)
      have HCU:=Lib.hid hcu
      clear hcu hcr hc
      generalize htx:Fv c (c :: t).length t [] 1=TX at *
      have HTE:=Lib.hid htx
      clear htx
      have key:∀ e w',Af6 TX B sb a src l w3 e w'->True:=λ_ _ _=>trivial
      have hgg:=HR9.out
      unfold D9 at hgg
      rw [Lp.out,if_neg hne,if_neg MA.out,if_neg NG.out,if_neg QA.out,if_pos HQ.out,HCU.out] at hgg
      rw [List.tail_cons,HTE.out] at hgg
      have HGG:=Lib.hid hgg
      clear hgg key
      rcases hq with hq | hq
      ·have hq1:((r:Int) == 34)=true:=by rw [beq_iff_eq];omega
       clear hq
       go_wp2_with fail
       refine HTX.out.mono ?_
       cases TX with
       | bad ec er =>
        rintro e w4 ⟨rfl,hb4⟩
        go_wp2_with fail
        refine ⟨rfl,?_⟩
        rw [<- HGG.out]
        exact ⟨rfl,HB3.out.trans hb4⟩
       | ok ev en =>
        rintro e w4 ⟨rfl,Hs,hb4⟩
        go_wp2_with fail
        go_ret
        rw [<- HGG.out]
        exact ⟨rfl,Hs,HB3.out.trans hb4⟩
      ·have hq1:((r:Int) == 34)=false:=by rw [beq_eq_false_iff_ne];omega
       have hq2:((r:Int) == 39)=true:=by rw [beq_iff_eq];omega
       clear hq
       go_wp2_with fail
       refine HTX.out.mono ?_
       cases TX with
       | bad ec er =>
        rintro e w4 ⟨rfl,hb4⟩
        go_wp2_with fail
        refine ⟨rfl,?_⟩
        rw [<- HGG.out]
        exact ⟨rfl,HB3.out.trans hb4⟩
       | ok ev en =>
        rintro e w4 ⟨rfl,Hs,hb4⟩
        go_wp2_with fail
        go_ret
        rw [<- HGG.out]
        exact ⟨rfl,Hs,HB3.out.trans hb4⟩
     ·have hq1:((r:Int) == 34)=false:=by rw [beq_eq_false_iff_ne];omega
      have hq2:((r:Int) == 39)=false:=by rw [beq_eq_false_iff_ne];omega
      have HSG:=Lib.hid (Bu8 B sb a src l w3 NH.out HG3.out hza hs hll hw3)
      rw [HL.out] at HSG
      go_wp2_with fail
      refine HSG.out.mono ?_
      have HQ:=Lib.hid hq
      cases hsg:N2 (c :: t) with
      | none =>
       have Xw:=Lib.hid hsg
       rintro e w4 ⟨rfl,hb4⟩
       clear hsg
       go_wp2_with fail
       refine ⟨rfl,?_⟩
       have hgg:=HR9.out
       unfold D9 at hgg
       rw [Lp.out,if_neg hne,if_neg MA.out,if_neg NG.out,if_neg QA.out,if_neg HQ.out,Xw.out] at hgg
       rw [<- hgg]
       exact ⟨rfl,HB3.out.trans hb4⟩
      | some sg =>
       have Xw:=Lib.hid hsg
       rintro e w4 ⟨rfl,Hs,hb4⟩
       clear hsg
       go_wp2_with fail
       go_ret
       have hgg:=HR9.out
       unfold D9 at hgg
       rw [Lp.out,if_neg hne,if_neg MA.out,if_neg NG.out,if_neg QA.out,if_neg HQ.out,Xw.out] at hgg
       rw [<- hgg]
       exact ⟨rfl,Hs,HB3.out.trans hb4⟩
set_option maxHeartbeats 2000000 in
theorem Bu4 (p q:Nat) (x:Value) (y1 y2:Int) (c a:Int) (w:World) (hp:w.cell? ⟨p,0,none⟩=some x) (hq0:w.cell? ⟨q,0,none⟩=some (.int .i64 y1)) (hq1:w.cell? ⟨q,1,none⟩=some (.int .i64 y2))
  (fp:w.frozen? ⟨p,0,none⟩=false) (fq:w.frozen? ⟨q,0,none⟩=false) (fq1:w.frozen? ⟨q,1,none⟩=false) (hpl:p < w.heap.size) (hql:q < w.heap.size) (hne:p < q) :
  CallsD Tryz.prog 38 #[.pointer (some ⟨p,0,none⟩),.pointer (some ⟨q,0,none⟩)] (.panicking [{ v:=.iface 102 (.agg #[.int .i64 c,.int .i64 a]),recovered:=false }]) w λe u' w' =>
   e=.returned (.tuple #[])/\u'=.panicking [{ v:=.iface 102 (.agg #[.int .i64 c,.int .i64 a]),recovered:=true }] /\
   w'.cell? ⟨p,0,none⟩=some (.slice none 0 0)/\w'.cell? ⟨q,0,none⟩=some (.int .i64 c)/\w'.cell? ⟨q,1,none⟩=some (.int .i64 a)/\Below p w w':=by
 refine callsD_of_wpS Tryz.func38 rfl λc₀ cs hu=>?_
 have hta:∀ w,(Instr.typeAssert (.iface 102 (.agg #[.int .i64 c,.int .i64 a])) 20 102 true).run Tryz.prog w=.ok (.tuple #[.agg #[.int .i64 c,.int .i64 a],.bool true]) w:=λw=>by kernel_rfl
 apply wpS_seq
 apply wpS_region
 simp [wpOpsS,go_sem,recoverD,hu,Tryz.ntmps38,Exit.thenS,Array.replicate_succ]
 refine wpS_of_wp ?_
 go_wp2
 have hpn:¬ w.heap.size=p:=by omega
 have hqn:¬ w.heap.size=q:=by omega
 have hpq:¬ p=q:=by omega
 have hqp:¬ q=p:=by omega
 have B0v:¬ p=w.heap.size:=by omega
 have B02:¬ q=w.heap.size:=by omega
 refine K9 [(0,3),(1,1)] (λw'=>w'.cell? ⟨w.heap.size,0,none⟩=some (.int .i64 c)/\w'.cell? ⟨w.heap.size,1,none⟩=some (.int .i64 a)) (by kernel_rfl) (by kernel_rfl) (λ_ _ d _ _ h=>by cases d <;> exact h) (by refine ⟨?_,?_⟩ <;> go_simp) ?_
 simp only [DP,List.filterMap_cons,List.filterMap_nil,List.getElem?_toArray,List.getElem?_cons_zero,List.getElem?_cons_succ,Option.map_some,List.drop_succ_cons,List.drop_zero,AX,Bp]
 iterate 1 (refine Gj (by rfl) (λwq hq=>by obtain ⟨hq0,hq1⟩:=hq;go_simp;with_reducible rfl) ?_;simp only [Act.put,List.setIfInBounds_toArray,List.set_cons_zero,List.set_cons_succ])
 refine Qg ?_ ?_
 ·rfl
 intro K hK
 go_wp2
 refine ⟨by refine ⟨?_,?_⟩ <;> go_simp,?_⟩
 refine Lf ?_
 go_wp2
 simp [bodyPostS,results,Tryz.results38]
 refine ⟨?_,?_,?_,?_⟩
 ·go_simp
 ·go_simp
 ·go_simp
 ·exact (((((Below.refl p w).setCell (p:=⟨p,0,none⟩) (Nat.le_refl _) _).setCell (p:=⟨q,0,none⟩) (Nat.le_of_lt hne) _).setCell (p:=⟨q,1,none⟩) (Nat.le_of_lt hne) _).alloc (by simp;omega) _).drew
theorem Bu0 (p q:Value) (w:World) :
  CallsD Tryz.prog 38 #[p,q] .returning w λe u' w'=>e=.returned (.tuple #[])/\u'=.returning/\w=w':=by
 refine callsD_of_wpS Tryz.func38 rfl λc₀ cs hu=>?_
 apply wpS_seq
 apply wpS_region
 simp [wpOpsS,go_sem,recoverD,hu,Tryz.ntmps38,Exit.thenS,Array.replicate_succ]
 refine wpS_of_wp ?_
 go_wp2
 cases c₀
 simp_all [bodyPostS,results,Tryz.results38]
end
section
namespace Lx
theorem Acn (p:Nat->Bool) (l:Bs) (hl:l≠[]) (h:p (B2 l).1=true):1<=B6 p l:=by
 rw [N1 p l hl,if_pos h];have:=(Jw l).1;omega
theorem Avc (l:Bs) (n:Nat) (h:D9 l=.skip n):1<=n/\n<=l.length:=by
 unfold D9 at h;by_cases h0:l=[]
 ·rw [if_pos h0] at h;cases h
 rw [if_neg h0] at h;by_cases h1:[45,45].isPrefixOf l=true
 ·rw [if_pos h1] at h
  cases h;refine ⟨Acn _ _ h0 ?_,K4 _ _⟩;obtain ⟨t,rfl⟩:=List.isPrefixOf_iff_prefix.1 h1;rfl
 ·rw [if_neg h1] at h
  exfalso;dsimp only at h
  (repeat' split at h) <;> cases h
theorem Ak5:∀ (m:Nat) (t:Bs) (n k:Nat),(B_ m t n k).2<=k+t.length
 | 0,t,n,k=>by simp [B_]
 | m+1,[],n,k=>by simp [B_]
 | m+1,b :: t,n,k=>by
  simp only [B_];split;simp;rename_i d _;have:=Ak5 m t (16 * n+d) (k+1);simp only [AX];omega
theorem Ahz:∀ (m:Nat) (t:Bs) (n k:Nat),(DN m t n k).2<=k+t.length
 | 0,t,n,k=>by simp [DN]
 | m+1,[],n,k=>by simp [DN]
 | m+1,b :: t,n,k=>by
  simp only [DN];split;have:=Ahz m t (10 * n+(b.toNat - 48)) (k+1);simp only [AX];omega;simp
theorem A4i (l e:Bs) (n:Nat) (h:IZ l=.ok e n):2<=n/\n<=l.length+1:=by
 cases l with
 | nil=>cases h
 | cons c t =>
  simp only [IZ] at h;split at h;cases h;simp;split at h;split at h;cases h;rename_i h2;cases h;have:=Ak5 2 t 0 0;have:(B_ 2 t 0 0).2<=2:=by
   have hb:∀ m (t:Bs) n k,(B_ m t n k).2<=k+m:=by
    intro m;induction m with
    | zero=>intros;simp [B_]
    | succ m ih =>
     intro t n k;cases t with
     | nil=>simp [B_]
     | cons b t =>
      simp only [B_];split;simp;rename_i d _;have:=ih t (16 * n+d) (k+1);omega
   exact hb 2 t 0 0
  simp only [AX];omega;split at h;rename_i h3;split at h;cases h;rename_i h4;simp only [Q8.ok.injEq] at h;obtain ⟨-,rfl⟩:=h;cases t with
  | nil=>simp at h3
  | cons d t =>
   simp only [List.tail_cons,not_or,Decidable.not_not] at h4 ⊢;have h5:=h4.2.2;have:(B_ 8 t 0 0).2 < t.length:=by
    rcases Nat.lt_or_ge (B_ 8 t 0 0).2 t.length with h | h;exact h;rw [List.drop_of_length_le h] at h5;simp at h5
   simp only [AX];omega
  split at h;cases h;rename_i h4;simp only [Q8.ok.injEq] at h;obtain ⟨-,rfl⟩:=h;have:=Ahz 3 (c :: t) 0 0;simp only [not_or] at h4;omega
theorem Adk (q:UInt8):∀ (f:Nat) (l acc:Bs) (i:Nat) (v:Bs) (k:Nat),Fv q f l acc i=.ok v k->i < k/\k<=i+l.length
 | 0,l,acc,i,v,k,h=>by cases h
 | f+1,[],acc,i,v,k,h=>by cases h
 | f+1,b :: t,acc,i,v,k,h=>by
  simp only [Fv] at h;split at h;cases h;split at h;split at h;cases h;cases h;simp;split at h;split at h;cases h;cases h;rename_i e n he;have h1:=A4i t e n he;have h2:=Adk q f _ _ _ v k h;rw [BV] at h2;simp only [AX] at h2 ⊢;omega;have h2:=Adk q f _ _ _ v k h;simp only [AX];omega
theorem Avd (l:Bs) (k:Int) (t:Bs) (n:Int) (len:Nat) (h:D9 l=.tok k t n len):1<=len/\len<=l.length:=by
 unfold D9 at h;by_cases h0:l=[];rw [if_pos h0] at h;cases h;rw [if_neg h0] at h;have hl:1<=l.length:=by cases l with | nil=>exact absurd rfl h0 | cons=>simp
 by_cases h1:[45,45].isPrefixOf l=true;rw [if_pos h1] at h;cases h;rw [if_neg h1] at h;by_cases h2:Ig (B2 l).1=true;rw [if_pos h2] at h;dsimp only at h;split at h;cases h;cases h;exact ⟨Acn _ _ h0 (by unfold Cm;rw [h2];rfl),K4 _ _⟩;rw [if_neg h2] at h;by_cases h3:GN (B2 l).1=true;rw [if_pos h3] at h;dsimp only at h;split at h;cases h;cases h;exact ⟨Acn _ _ h0 (by unfold Cm;rw [h3];simp),K4 _ _⟩;rw [if_neg h3] at h;split at h;split at h;cases h;rename_i v k' ht;cases h;have:=Adk _ _ _ _ _ _ _ ht;rw [List.length_tail] at this;omega;split at h;cases h;rename_i s hs;cases h;have hm:=List.mem_of_find?_eq_some hs;have hp:=List.find?_some hs;have:∀ s ∈ H6,1<=s.length:=by decide
 refine ⟨this _ hm,?_⟩;exact (List.isPrefixOf_iff_prefix.1 hp).length_le
end Lx
end
section
open Go Go.RowKit Lx
def Xz (R:(Int×Int) ⊕ List Tok) (w:World) (e:Ending) (w':World):Prop :=
 match R with
 | .inl (c,a)=>e=.returned (.tuple #[.slice none 0 0,.agg #[.int .i64 c,.int .i64 a]])/\Below w.heap.size w w'
 | .inr l=>∃ lv,e=.returned (.tuple #[lv,.agg #[.int .i64 0,.int .i64 0]])/\w'.ownsRow w.heap.size 82 4 lv l.length (Ma l)/\Below w.heap.size w w'
def posOf (sb:Nat) (w:World):Nat:=match w.cell? ⟨sb,1,none⟩ with | some (.int _ k)=>k.toNat | _=>0
theorem WB {B sb at_:Nat} {src:Ah} {l:List Tok} {w:World} (h:Sc B sb src at_ l w):posOf sb w=at_:=by
 unfold posOf;rw [h.reads.2.2];simp
theorem Bup (src:Ah) (B:Nat) (w:World) (hB:B<=w.heap.size):Sc B w.heap.size src 0 [] (w.alloc (.cells #[.string src,.int .i64 0,.slice none 0 0] 105)) :=
 ⟨.slice none 0 0,Lw w _,⟨by simp [Ma],.inl ⟨rfl,rfl⟩⟩,by simp [Value.ownBlock],hB⟩
theorem ownsRow_base {w:World} {B B':Nat} {e:TypeId} {size n:Nat} {v:Value} {xs:List Value} (h:w.ownsRow B e size v n xs) (hB:B'<=B):w.ownsRow B' e size v n xs:=by
 refine ⟨h.1,?_⟩;rcases h.2 with h | ⟨g,cap,cur,hv,hg,r⟩;exact .inl h;exact .inr ⟨g,cap,cur,hv,by omega,r⟩
set_option maxHeartbeats 4000000 in
theorem Bux (src:Ah) (w:World) (hs:src.size > 20000):Calls Tryz.prog 20 #[.string src] w (Xz (.inl (14,-1)) w):=by
 have hz:(20000:Int) < src.size:=by omega
 go_enter_defers Tryz.func20,Tryz.ntmps20
 go_wp2_with fail
 simp [bodyPostD,Leaves,settle,results,Tryz.results20,go_sem]
 exact ⟨rfl,(((Below.refl w.heap.size w).alloc (Nat.le_refl _) _).alloc (by simp) _)⟩
set_option maxHeartbeats 4000000 in
theorem Bu5 (src:Ah) (w:World) (hs:src.size<=20000) (hg:Gl w):Calls Tryz.prog 20 #[.string src] w (Xz (H5 (src.size+1) (bs src) 0 []) w):=by
 obtain ⟨R9,hR9⟩:∃ R9,H5 (src.size+1) (bs src) 0 []=R9:=⟨_,rfl⟩
 rw [hR9]
 have HR9:=Lib.hid hR9
 have HG:=Lib.hid hg
 have hz:¬ (20000:Int) < src.size:=by omega
 clear hR9 hg
 have hmf:∀ (fn:Fn) (first cap:Array Value) (w:World),(Instr.makeFunc fn first cap).run Tryz.prog w=.ok (.func fn first cap) w:=λ_ _ _ _=>rfl
 go_enter_defers Tryz.func20,Tryz.ntmps20
 go_wp2_with fail
 have US:=Bup src (w.heap.size+2) ((w.alloc (.cells #[.slice none 0 0] 73)).alloc (.cells #[.int .i64 0,.int .i64 0] 28)) (by simp)
 simp only [World.size_alloc] at US
 have US:=Lib.hid US
 have HBP:=Lib.hid (MG (o':=.cells #[.string src,.int .i64 0,.slice none 0 0] 105) (MG (o':=.cells #[.int .i64 0,.int .i64 0] 28) (Lw w (.cells #[.slice none 0 0] 73))))
 have hbq:=MG (o':=.cells #[.string src,.int .i64 0,.slice none 0 0] 105) (Lw (w.alloc (.cells #[.slice none 0 0] 73)) (.cells #[.int .i64 0,.int .i64 0] 28))
 simp only [World.size_alloc] at hbq
 have HBQ:=Lib.hid hbq
 have HB0:=Lib.hid ((((Below.refl w.heap.size w).alloc (Nat.le_refl _) (.cells #[.slice none 0 0] 73)).alloc (by simp) (.cells #[.int .i64 0,.int .i64 0] 28)).alloc (by simp;omega) (.cells #[.string src,.int .i64 0,.slice none 0 0] 105))
 clear hbq
 generalize hw3:((w.alloc (.cells #[.slice none 0 0] 73)).alloc (.cells #[.int .i64 0,.int .i64 0] 28)).alloc (.cells #[.string src,.int .i64 0,.slice none 0 0] 105)=w3 at *
 have hsz3:w3.heap.size=w.heap.size+3:=by rw [<- hw3];simp
 clear hw3
 go_loopw [] (λwr=>∃ (at_ f:Nat) (l:List Tok),at_<=src.size/\l.length<=at_/\src.size - at_+1<=f/\Hid (Sc (w.heap.size+2) (w.heap.size+1+1) src at_ l wr)/\Hid (H5 f ((bs src).drop at_) at_ l=R9)/\Hid (Below (w.heap.size+2) w3 wr)) (λwr=>src.size - posOf (w.heap.size+1+1) wr)
 case atStart=>exact ⟨0,src.size+1,[],by omega,by simp,by omega,US,HR9,Below.refl _ _⟩
 case round =>
  obtain ⟨at_,f,l,h1,h2,h3,HSC,HGG,HBL⟩:=hrel
  have B05:=HBL.out.size
  have HNX:=next_any (w.heap.size+2) (w.heap.size+1+1) at_ src l wr HSC.out ((HG.out.below HB0.out HG.out.size).below HBL.out (by have:=HG.out.size;omega)) h1 (by omega) (by omega) (by omega) (by have:=HG.out.size;omega)
  obtain ⟨f,rfl⟩:∃ g,f=g+1:=⟨f - 1,by omega⟩
  have hg:=HGG.out
  simp only [H5] at hg
  have hk:=K4 CE ((bs src).drop at_)
  generalize B6 CE ((bs src).drop at_)=k at *
  have hlen:(((bs src).drop at_).drop k).length=src.size - at_ - k:=by rw [BV,BV,BZ]
  rw [BV,BZ] at hk
  cases hst:D9 (((bs src).drop at_).drop k) with
  | done =>
   rw [hst] at hg HNX
   simp only at hg
   have HN:=Lib.hid HNX
   have HE:=Lib.hid hg
   clear hg HNX hst hlen HGG
   go_wp2_with fail
   refine HN.out.mono ?_
   rintro e w4 ⟨rfl,Hs,hb4⟩
   have Mh:=Lib.hid (add_any (w.heap.size+2) (w.heap.size+1+1) (at_+k) src l 0 6 0 0 ByteArray.empty w4 Hs (by have:=hb4.size;omega) (by omega) (by omega))
   have HB4:=Lib.hid (HBL.out.trans hb4)
   clear Hs hb4
   go_wp2_with fail
   refine Mh.out.mono ?_
   rintro e w5 ⟨rfl,Bf2,hb5⟩
   have HB5:=Lib.hid (HB4.out.trans hb5)
   have hlen5:(l++[(⟨6,bs ByteArray.empty,0,at_+k⟩:Tok)]).length=l.length+1:=by simp
   obtain ⟨lv,hblk,hown,hne,hsb⟩:=Bf2
   rw [hlen5] at hown
   obtain ⟨g,cap,hv,hg1,hg2⟩:=Abf hown hblk (by decide)
   subst hv
   have c2:w5.cell? ⟨w.heap.size+1+1,2,none⟩=some (.slice (some ⟨g,0,none⟩) (l.length+1) cap):=by rw [FU hblk];rfl
   have hb0:=KG hblk
   have HOWN:=Lib.hid hown
   have hp:=Lv HB5.out (by omega) HBP.out
   have hq:=Lv HB5.out (by omega) HBQ.out
   have p0:w5.cell? ⟨w.heap.size,0,none⟩=some (.slice none 0 0):=by rw [FU hp];rfl
   have q0:w5.cell? ⟨w.heap.size+1,0,none⟩=some (.int .i64 0):=by rw [FU hq];rfl
   have q1:w5.cell? ⟨w.heap.size+1,1,none⟩=some (.int .i64 0):=by rw [FU hq];rfl
   have pf:=JV hp 0
   have qf0:=JV hq 0
   have qf1:=JV hq 1
   clear hsb hne hown hblk hp hq hb5 hlen5
   go_wp2_with fail
   have hgp:¬ w.heap.size=g:=by omega
   have hgq:¬ w.heap.size+1=g:=by omega
   have r0:(((w5.setCell ⟨w.heap.size,0,none⟩ (.slice (some ⟨g,0,none⟩) (l.length+1) cap)).setCell ⟨w.heap.size+1,0,none⟩ (.int .i64 0)).setCell ⟨w.heap.size+1,1,none⟩ (.int .i64 0)).cell? ⟨w.heap.size,0,none⟩=some (.slice (some ⟨g,0,none⟩) (l.length+1) cap):=by go_simp
   have r1:(((w5.setCell ⟨w.heap.size,0,none⟩ (.slice (some ⟨g,0,none⟩) (l.length+1) cap)).setCell ⟨w.heap.size+1,0,none⟩ (.int .i64 0)).setCell ⟨w.heap.size+1,1,none⟩ (.int .i64 0)).cell? ⟨w.heap.size+1,0,none⟩=some (.int .i64 0):=by go_simp
   have r2:(((w5.setCell ⟨w.heap.size,0,none⟩ (.slice (some ⟨g,0,none⟩) (l.length+1) cap)).setCell ⟨w.heap.size+1,0,none⟩ (.int .i64 0)).setCell ⟨w.heap.size+1,1,none⟩ (.int .i64 0)).cell? ⟨w.heap.size+1,1,none⟩=some (.int .i64 0):=by go_simp
   generalize hw9:((w5.setCell ⟨w.heap.size,0,none⟩ (.slice (some ⟨g,0,none⟩) (l.length+1) cap)).setCell ⟨w.heap.size+1,0,none⟩ (.int .i64 0)).setCell ⟨w.heap.size+1,1,none⟩ (.int .i64 0)=w9 at *
   have HR:Hid (w9.ownsRow (w.heap.size+2) 82 4 (.slice (some ⟨g,0,none⟩) (l.length+1) cap) (l.length+1) (Ma (l++[⟨6,bs ByteArray.empty,0,at_+k⟩]))):=by
    refine ⟨HOWN.out.1,?_⟩
    rcases HOWN.out.2 with ⟨h,_⟩ | ⟨g',cap',cur,hv,hg,hh,r⟩
    ·cases h
    ·cases hv
     rw [<- hw9]
     exact .inr ⟨g,cap,cur,rfl,hg,MH (MH (MH hh hgp _) hgq _) hgq _,r⟩
   have HB9:Hid (Below w.heap.size w w9):=by
    rw [<- hw9]
    exact (((HB0.out.trans (HB5.out.mono (by omega))).setCell (p:=⟨w.heap.size,0,none⟩) (Nat.le_refl _) _).setCell (p:=⟨w.heap.size+1,0,none⟩) (by simp) _).setCell (p:=⟨w.heap.size+1,1,none⟩) (by simp) _
   clear hw9 HBP HBQ HSC HB4 HBL HN Mh p0 q0 q1 pf qf0 qf1 c2
   refine leaves_cons (f:=38) (args:=#[.pointer (some ⟨w.heap.size,0,none⟩),.pointer (some ⟨w.heap.size+1,0,none⟩)]) (by simp) (by simp [go_sem]) ?_
   refine (Bu0 _ _ _).mono ?_
   rintro e u' w'' ⟨rfl,rfl,rfl⟩
   rw [<- HE.out]
   simp [Leaves,settle,results,Tryz.results20,go_sem,r0,r1,r2]
   refine ⟨.slice (some ⟨g,0,none⟩) (l.length+1) cap,rfl,?_,HB9.out⟩
   have h9:=HR.out
   rw [show bs ByteArray.empty=[] from rfl] at h9
   exact ownsRow_base (B:=w.heap.size+2) (B':=w.heap.size) (by rw [BT];exact h9) (Nat.le_add_right _ _)
  | skip n =>
   rw [hst] at hg HNX
   have hn:=Avc _ _ hst
   simp only at hg
   have HN:=Lib.hid HNX
   have HE:=Lib.hid hg
   clear hg HNX hst HGG
   go_wp2_with fail
   refine HN.out.mono ?_
   rintro e w4 ⟨rfl,Hs,hb4⟩
   have hpo:=WB Hs
   have YC:=WB HSC.out
   go_wp2_with fail
   go_roundw
   case rel =>
    refine ⟨at_+k+n,f,l,by omega,by omega,by omega,Hs,?_,HBL.out.trans hb4⟩
    unfold Hid
    rw [<- HE.out,List.drop_drop,List.drop_drop,show at_+(k+n)=at_+k+n by omega]
   case measure=>rw [hpo,YC];omega
  | tok kd tx n len =>
   rw [hst] at hg HNX
   have hn:=Avd _ _ _ _ _ hst
   simp only at hg
   have HN:=Lib.hid HNX
   have HE:=Lib.hid hg
   clear hg HNX hst HGG
   go_wp2_with fail
   refine HN.out.mono ?_
   rintro e w4 ⟨rfl,Hs,hb4⟩
   have hpo:=WB Hs
   have YC:=WB HSC.out
   go_wp2_with fail
   go_roundw
   case rel =>
    refine ⟨at_+k+len,f,l++[(⟨kd,tx,n,at_+k⟩:Tok)],by omega,by rw [BT,List.length_singleton];omega,by omega,Hs,?_,HBL.out.trans hb4⟩
    unfold Hid
    rw [<- HE.out,List.drop_drop,List.drop_drop,show at_+(k+len)=at_+k+len by omega]
   case measure=>rw [hpo,YC];omega
  | bad c r =>
   rw [hst] at hg HNX
   simp only at hg
   have HN:=Lib.hid HNX
   have HE:=Lib.hid hg
   clear hg HNX hst HGG
   go_wp2_with fail
   refine HN.out.mono ?_
   rintro e w4 ⟨rfl,hb4⟩
   have HB4:=Lib.hid (HBL.out.trans hb4)
   go_wp2_with fail
   have hp:=Lv HB4.out (by omega) HBP.out
   have hq:=Lv HB4.out (by omega) HBQ.out
   refine leaves_cons (f:=38) (args:=#[.pointer (some ⟨w.heap.size,0,none⟩),.pointer (some ⟨w.heap.size+1,0,none⟩)]) (by simp) (by simp [go_sem]) ?_
   have hcz:(at_:Int)+k+r=((at_+k+r:Nat):Int):=by omega
   rw [hcz]
   refine (Bu4 w.heap.size (w.heap.size+1) (.slice none 0 0) 0 0 c ((at_+k+r:Nat):Int) w4 (by rw [FU hp];rfl) (by rw [FU hq];rfl) (by rw [FU hq];rfl) (JV hp 0) (JV hq 0) (JV hq 1) (KG hp) (KG hq) (by omega)).mono ?_
   rintro e u' w'' ⟨rfl,rfl,r0,r1,r2,hb9⟩
   rw [<- HE.out]
   have HB9:=Lib.hid ((HB0.out.trans (HB4.out.mono (by omega))).trans hb9)
   clear hp hq HN HBP HBQ HSC HB4 HBL hb4 hcz
   simp [Leaves,settle,results,Tryz.results20,go_sem,r0,r1,r2]
   exact ⟨rfl,HB9.out⟩
theorem Buv (src:Ah) (w:World) (hg:Gl w):Calls Tryz.prog 20 #[.string src] w (Xz (G1 (bs src)) w):=by
 unfold G1;rw [BZ];by_cases h:src.size > 20000;rw [if_pos h];exact Bux src w h;rw [if_neg h];exact Bu5 src w (by omega) hg
def JP (Af:N):Prop:=∀ w,Af.On w->Gl w
theorem Gl.piece {w:World} (h:Gl w):JP (Go.Proofs.YteccladehmaglaaGreatDoor.old w):=λw' hw=>by
 have hb:∀ k,k < w.heap.size->w'.heap[k]? = w.heap[k]?:=λk hk=>by
  have h1:w.heap[k]? = some w.heap[k]:=Array.getElem?_eq_getElem hk;rw [h1];exact hw k w.heap[k] h1
 have hs:w.heap.size<=w'.heap.size:=by
  rcases Nat.lt_or_ge 0 w.heap.size with h0 | h0;have:=hb (w.heap.size - 1) (by omega);have h1:w.heap[w.heap.size - 1]? = some w.heap[w.heap.size - 1]:=Array.getElem?_eq_getElem (by omega);rw [h1] at this;have:=(Array.getElem?_eq_some_iff.1 this).1;omega;omega
 have hl:Gl { w with heap:=w'.heap }:=h.below (B:=w.heap.size) ⟨rfl,rfl,rfl,hs,hb⟩ h.size;exact ⟨hl.utf,hl.space,hl.maxLen,hl.size⟩
def G2 (t:Tok):Int×Ah×Int×Int:=(t.kind,str t.text,t.n,t.at_)
theorem Av5 (l:List Tok):(l.map G2).flatMap EC=Ma l:=by
 induction l with
 | nil=>rfl
 | cons t l ih=>simp only [List.map_cons,List.flatMap_cons,ih];rfl
def R6 (s:Ah):List (Int×Ah×Int×Int)×Int×Int :=
 match G1 (bs s) with
 | .inl (c,a)=>([],c,a)
 | .inr l=>(l.map G2,0,0)
def T5.f (_k:Nat) (s:Ah):Option (List (Int×Ah×Int×Int)×Int×Int):=some (R6 s)
theorem Br3 {w:World} {B:Nat} {v:Value} {l:List Tok} (h:w.ownsRow B 82 4 v l.length (Ma l)):∃ A c,v=.slice A (l.map G2).length c/\((v=.slice none 0 0/\l=[])\/∃ g cur,B<=g/\A=some ⟨g,0,none⟩/\w.heap[g]? = some (.cells cur 82 (0,0))/\AL EC 82 4 (blk g (.cells cur 82 (0,0))) v (l.map G2)):=by
 rcases h.2 with ⟨rfl,h0⟩ | ⟨g,cap,cur,rfl,hb,hg,h1,h2,h3,h4⟩;have:l=[]:=List.eq_nil_of_length_eq_zero h0;subst this;exact ⟨none,0,rfl,.inl ⟨rfl,rfl⟩⟩;refine ⟨some ⟨g,0,none⟩,cap,by rw [List.length_map],.inr ⟨g,cur,hb,rfl,hg,?_⟩⟩;unfold AL;rw [Av5,List.length_map];refine ⟨h.1,λu hu=>?_,.inr ⟨g,cap,cur,rfl,rfl,h1,h2,h3,h4⟩⟩;rw [<- Av5] at hu;exact Vu.ones _ u hu
theorem St.fresh {A w w':World} {X:List N} (hw:St A X w) (hb:Below w.heap.size w w') {g:Nat} {o:Obj} (hg:w.heap.size<=g) (ho:w'.heap[g]? = some o):St A (blk g o :: X) w':=by
 have h:=hw.below hb;refine ⟨⟨λk o' hk=>?_,λf hf k=>?_,h.sat⟩,h.os,h.tape,h.output,h.size⟩;unfold blk at hk;split at hk;rename_i e;subst e;cases hk;exact ho;cases hk;unfold blk;split;rename_i e;subst e;cases hk:f k with
 | none=>exact .inr rfl
 | some o'=>exact absurd (hw.sat.lt hf hk) (by omega)
 exact .inl rfl
theorem T5.ok {k:Nat} {a0:Ah} {Af:N} {r:List (Int×Ah×Int×Int)×Int×Int} (h:T5.f k a0=some r) (hG:JP Af):
  Ct Tryz.prog 20 #[.string a0] [] [Af] λe l1=>∃ (H0_:N) (A0_:AD) (c0_:Nat),AL EC 82 4 H0_ (.slice A0_ r.1.length c0_) r.1/\e=.returned (.tuple #[.slice A0_ r.1.length c0_,.agg #[.int .i64 r.2.1,.int .i64 r.2.2]])/\l1=[H0_]:=by
 obtain rfl:=Ao h;intro A w X hh hw;have hg:=hG w (hw.sat.on Af hh.1);refine (Buv a0 w hg).mono λe w' he=>?_;unfold R6;cases hs:G1 (bs a0) with
 | inl ca =>
  obtain ⟨c,a⟩:=ca;rw [hs] at he;obtain ⟨rfl,hb⟩:=he;exact ⟨[none_],⟨none_,none,0,AL.nil EC 82 4 none_,V,V⟩,by
   have:=hw.below hb;exact ⟨⟨λ_ _ h=>(by cases h),λ_ _ _=>.inl V,this.sat⟩,this.os,this.tape,this.output,this.size⟩⟩
 | inr l =>
  rw [hs] at he;obtain ⟨lv,rfl,hrow,hb⟩:=he;obtain ⟨A0,c0,rfl,hc⟩:=Br3 hrow;rcases hc with ⟨he,rfl⟩ | ⟨g,cur,hg1,hA,hg2,hO⟩;cases he;exact ⟨[none_],⟨none_,none,0,AL.nil EC 82 4 none_,V,V⟩,by
   have:=hw.below hb;exact ⟨⟨λ_ _ h=>(by cases h),λ_ _ _=>.inl V,this.sat⟩,this.os,this.tape,this.output,this.size⟩⟩
  exact ⟨[blk g _],⟨_,A0,c0,hO,rfl,rfl⟩,hw.fresh hb hg1 hg2⟩
def strings_Fields.f (_k:Nat) (s:Ah):Option Av:=cond (decide (s.size < 4294967281/\(Lib.fields s.data.toList).length<=1000000) && s.data.toList.all λb=>decide (b.toNat < 128)) (some ((Lib.fields s.data.toList).map λl=>⟨l.toArray⟩)) none
theorem strings_Fields.ok {k:Nat} {a0:Ah} {Af:N} {r:List Ah} (h:strings_Fields.f k a0=some r) (hG:JP Af):
  Ct Tryz.prog 37 #[.string a0] [] [Af] λe l1=>∃ (H0_:N) (A0_:Option Addr) (c0_:Nat),AL encS 9 1 H0_ (.slice A0_ r.length c0_) r/\e=.returned (.slice A0_ r.length c0_)/\l1=[H0_]:=by
 unfold strings_Fields.f at h;obtain ⟨h1,h2⟩:=Jv h;obtain ⟨h3,h4⟩:=Bool.and_eq_true_iff.1 h1;obtain ⟨h3,h5⟩:=of_decide_eq_true h3;cases h2;intro A w X hh hw;have hg:=hG w (hw.sat.on Af hh.1);refine (Tryz.strings_Fields a0 w h3 (λj b hj=>of_decide_eq_true (List.all_eq_true.1 h4 b (List.mem_of_getElem? hj))) hg.space).mono ?_;rintro e w' ⟨rfl,rfl⟩;have hl:(Lib.fields a0.data.toList).length=((Lib.fields a0.data.toList).map λl=>(⟨l.toArray⟩:Ah)).length:=(List.length_map _).symm;refine ⟨[blk w.heap.size (.cells ((Lib.fields a0.data.toList).map λl=>Value.string ⟨l.toArray⟩).toArray 9)],⟨_,some ⟨w.heap.size,0,none⟩,(Lib.fields a0.data.toList).length,?_,by rw [<- hl],V⟩,?_⟩;unfold AL;have hc:((Lib.fields a0.data.toList).map λl=>(⟨l.toArray⟩:Ah)).flatMap encS=(Lib.fields a0.data.toList).map λl=>Value.string ⟨l.toArray⟩:=by
  rw [List.flatMap_map];generalize Lib.fields a0.data.toList=L;induction L with
  | nil=>rfl
  | cons x t ih=>rw [List.flatMap_cons,List.map_cons,ih];rfl
 rw [hc,<- hl];refine ⟨by simp,λu hu=>?_,.inr ⟨w.heap.size,_,_,V,V,Nat.le_refl _,Nat.le_trans h5 (by decide),?_,?_⟩⟩;obtain ⟨x,_,rfl⟩:=List.mem_map.1 hu;rfl;simp;rw [Nat.mul_one,List.take_of_length_le (by simp)];exact hw.fresh ((Below.refl _ w).alloc (Nat.le_refl _) _) (Nat.le_refl _) (by show (w.heap.push _)[w.heap.size]? = _;simp)
end
section
open Go Go.RowKit
section
variable {A:World} {ds:List Deferred} {n0:Nat} {env env':Env} {l l' X:List N} {q:Act->World->Prop} {P:Program} {Q:Exit->Act->World->Prop} {ops:Array Oper} {os rest:List Oper} {o:Oper} {α:Type} {R:Gn α}
variable {S:World->Prop} {tail:Act->World->Prop} {pl:List (Oper×Nat)}
theorem Bkg {xs:List α} {a:α} {ix:Int} {kd:IntKind} {h:N} {A':AD} {c:Nat} {T TS:TypeId} {x y:Operand} (ho:o.op=.indexAddr TS x y) (hg:Ci ops env o=some true) (hd:inB n0 o.dst=true) (hx:BL env x=some (.slice A' xs.length c)) (hy:BL env y=some (.int kd ix))
  (h1:P.underlying TS=some (.slice T)) (h2:(P.info? T).map (·.size)=some R.sz) (hi:B5 xs ix=some a) (hR:RdR R h (.slice A' xs.length c) xs) (hk:∀ p us,R.rd a h us->Elem h p us->Place A' (ix.toNat * R.sz) p->K ds A n0 (Bl env o.dst p) l (BU P ops Q S tail pl)):K ds A n0 env l (BU P ops Q S tail ((o,0) :: pl)):=by
 intro a' w ha hw;obtain ⟨hi0,hi1,hi2⟩:=Mt hi;obtain ⟨cs,⟨hl,_,hc⟩,hrow⟩:=hR;cases hif:P.info? T with
 | none=>rw [hif] at h2;cases h2
 | some i =>
  rw [hif] at h2;have hsz:i.size=R.sz:=Ao h2;rcases hc with ⟨_,h0⟩ | ⟨b,off,cap,cur,T',z,he,hb,_,_,hc⟩;omega;cases he;refine DY (v:=.pointer (some ⟨b,off+ix.toNat * R.sz,none⟩)) (Hk ha hg) (λw'=>?_) (hk _ _ (hrow.at_ ix.toNat a hi2) ⟨b,off+ix.toNat * R.sz,cur,T',z,rfl,hb,λj u hj=>?_⟩ ⟨b,off,rfl,rfl⟩ _ _ (ha.Bl _ hd) hw);have hr:(Instr.indexAt TS (.slice (some ⟨b,off,none⟩) xs.length c) (.int kd ix)).run P w'=.ok (.pointer (some ⟨b,off+ix.toNat * R.sz,none⟩)) w':=by
   simp [Instr.indexAt,run_underlying h1,asIntOf,hi0,hi1,sizeOf,typeInfo,hif,hsz,addr_add]
  unfold execOp;simp only [ho,ha.eval hx,ha.eval hy,Sem.run_bind,hr,Result.andThen_ok,Sem.run_pure];rw [List.getElem?_take] at hj;split at hj;rw [List.getElem?_drop] at hj;rw [Nat.add_assoc];exact hc _ u hj;cases hj
end
abbrev pt (b:Nat):Value:=.pointer (some ⟨b,0,none⟩)
abbrev W {α:Type} (A:Option Addr) (xs:List α) (c:Nat):Value:=.slice A xs.length c
abbrev I (x:Int):Value:=.int .i64 x
abbrev D (x:Ah):Value:=.string x
abbrev bv (x:Bool):Value:=.bool x
abbrev bk (b:Nat) (cs:Array Value) (T:TypeId):N:=blk b (.cells cs T (0,0))
abbrev nS:Value:=.slice none 0 0
abbrev noS:Ah:=⟨#[]⟩
universe u
abbrev c3 {α0 α1 α2:Type} {ρ:Sort u} (f:α0->α1->α2->ρ) (t:α0×α1×α2):ρ:=f t.1 t.2.1 t.2.2
abbrev c4 {α0 α1 α2 α3:Type} {ρ:Sort u} (f:α0->α1->α2->α3->ρ) (t:α0×α1×α2×α3):ρ:=f t.1 t.2.1 t.2.2.1 t.2.2.2
abbrev c5 {α0 α1 α2 α3 α4:Type} {ρ:Sort u} (f:α0->α1->α2->α3->α4->ρ) (t:α0×α1×α2×α3×α4):ρ:=f t.1 t.2.1 t.2.2.1 t.2.2.2.1 t.2.2.2.2
abbrev c6 {α0 α1 α2 α3 α4 α5:Type} {ρ:Sort u} (f:α0->α1->α2->α3->α4->α5->ρ) (t:α0×α1×α2×α3×α4×α5):ρ:=f t.1 t.2.1 t.2.2.1 t.2.2.2.1 t.2.2.2.2.1 t.2.2.2.2.2
abbrev c7 {α0 α1 α2 α3 α4 α5 α6:Type} {ρ:Sort u} (f:α0->α1->α2->α3->α4->α5->α6->ρ) (t:α0×α1×α2×α3×α4×α5×α6):ρ:=f t.1 t.2.1 t.2.2.1 t.2.2.2.1 t.2.2.2.2.1 t.2.2.2.2.2.1 t.2.2.2.2.2.2
abbrev c8 {α0 α1 α2 α3 α4 α5 α6 α7:Type} {ρ:Sort u} (f:α0->α1->α2->α3->α4->α5->α6->α7->ρ) (t:α0×α1×α2×α3×α4×α5×α6×α7):ρ:=f t.1 t.2.1 t.2.2.1 t.2.2.2.1 t.2.2.2.2.1 t.2.2.2.2.2.1 t.2.2.2.2.2.2.1 t.2.2.2.2.2.2.2
abbrev c9 {α0 α1 α2 α3 α4 α5 α6 α7 α8:Type} {ρ:Sort u} (f:α0->α1->α2->α3->α4->α5->α6->α7->α8->ρ) (t:α0×α1×α2×α3×α4×α5×α6×α7×α8):ρ:=f t.1 t.2.1 t.2.2.1 t.2.2.2.1 t.2.2.2.2.1 t.2.2.2.2.2.1 t.2.2.2.2.2.2.1 t.2.2.2.2.2.2.2.1 t.2.2.2.2.2.2.2.2
abbrev c10 {α0 α1 α2 α3 α4 α5 α6 α7 α8 α9:Type} {ρ:Sort u} (f:α0->α1->α2->α3->α4->α5->α6->α7->α8->α9->ρ) (t:α0×α1×α2×α3×α4×α5×α6×α7×α8×α9):ρ:=f t.1 t.2.1 t.2.2.1 t.2.2.2.1 t.2.2.2.2.1 t.2.2.2.2.2.1 t.2.2.2.2.2.2.1 t.2.2.2.2.2.2.2.1 t.2.2.2.2.2.2.2.2.1 t.2.2.2.2.2.2.2.2.2
abbrev c12 {α0 α1 α2 α3 α4 α5 α6 α7 α8 α9 EW EX:Type} {ρ:Sort u} (f:α0->α1->α2->α3->α4->α5->α6->α7->α8->α9->EW->EX->ρ) (t:α0×α1×α2×α3×α4×α5×α6×α7×α8×α9×EW×EX):ρ:=f t.1 t.2.1 t.2.2.1 t.2.2.2.1 t.2.2.2.2.1 t.2.2.2.2.2.1 t.2.2.2.2.2.2.1 t.2.2.2.2.2.2.2.1 t.2.2.2.2.2.2.2.2.1 t.2.2.2.2.2.2.2.2.2.1 t.2.2.2.2.2.2.2.2.2.2.1 t.2.2.2.2.2.2.2.2.2.2.2
abbrev c13 {α0 α1 α2 α3 α4 α5 α6 α7 α8 α9 EW EX Fw:Type} {ρ:Sort u} (f:α0->α1->α2->α3->α4->α5->α6->α7->α8->α9->EW->EX->Fw->ρ) (t:α0×α1×α2×α3×α4×α5×α6×α7×α8×α9×EW×EX×Fw):ρ:=f t.1 t.2.1 t.2.2.1 t.2.2.2.1 t.2.2.2.2.1 t.2.2.2.2.2.1 t.2.2.2.2.2.2.1 t.2.2.2.2.2.2.2.1 t.2.2.2.2.2.2.2.2.1 t.2.2.2.2.2.2.2.2.2.1 t.2.2.2.2.2.2.2.2.2.2.1 t.2.2.2.2.2.2.2.2.2.2.2.1 t.2.2.2.2.2.2.2.2.2.2.2.2
abbrev c14 {α0 α1 α2 α3 α4 α5 α6 α7 α8 α9 EW EX Fw Gc:Type} {ρ:Sort u} (f:α0->α1->α2->α3->α4->α5->α6->α7->α8->α9->EW->EX->Fw->Gc->ρ) (t:α0×α1×α2×α3×α4×α5×α6×α7×α8×α9×EW×EX×Fw×Gc):ρ:=f t.1 t.2.1 t.2.2.1 t.2.2.2.1 t.2.2.2.2.1 t.2.2.2.2.2.1 t.2.2.2.2.2.2.1 t.2.2.2.2.2.2.2.1 t.2.2.2.2.2.2.2.2.1 t.2.2.2.2.2.2.2.2.2.1 t.2.2.2.2.2.2.2.2.2.2.1 t.2.2.2.2.2.2.2.2.2.2.2.1 t.2.2.2.2.2.2.2.2.2.2.2.2.1 t.2.2.2.2.2.2.2.2.2.2.2.2.2
abbrev c15 {α0 α1 α2 α3 α4 α5 α6 α7 α8 α9 EW EX Fw Gc GJ:Type} {ρ:Sort u} (f:α0->α1->α2->α3->α4->α5->α6->α7->α8->α9->EW->EX->Fw->Gc->GJ->ρ) (t:α0×α1×α2×α3×α4×α5×α6×α7×α8×α9×EW×EX×Fw×Gc×GJ):ρ:=f t.1 t.2.1 t.2.2.1 t.2.2.2.1 t.2.2.2.2.1 t.2.2.2.2.2.1 t.2.2.2.2.2.2.1 t.2.2.2.2.2.2.2.1 t.2.2.2.2.2.2.2.2.1 t.2.2.2.2.2.2.2.2.2.1 t.2.2.2.2.2.2.2.2.2.2.1 t.2.2.2.2.2.2.2.2.2.2.2.1 t.2.2.2.2.2.2.2.2.2.2.2.2.1 t.2.2.2.2.2.2.2.2.2.2.2.2.2.1 t.2.2.2.2.2.2.2.2.2.2.2.2.2.2
abbrev c16 {α0 α1 α2 α3 α4 α5 α6 α7 α8 α9 EW EX Fw Gc GJ I5:Type} {ρ:Sort u} (f:α0->α1->α2->α3->α4->α5->α6->α7->α8->α9->EW->EX->Fw->Gc->GJ->I5->ρ) (t:α0×α1×α2×α3×α4×α5×α6×α7×α8×α9×EW×EX×Fw×Gc×GJ×I5):ρ:=f t.1 t.2.1 t.2.2.1 t.2.2.2.1 t.2.2.2.2.1 t.2.2.2.2.2.1 t.2.2.2.2.2.2.1 t.2.2.2.2.2.2.2.1 t.2.2.2.2.2.2.2.2.1 t.2.2.2.2.2.2.2.2.2.1 t.2.2.2.2.2.2.2.2.2.2.1 t.2.2.2.2.2.2.2.2.2.2.2.1 t.2.2.2.2.2.2.2.2.2.2.2.2.1 t.2.2.2.2.2.2.2.2.2.2.2.2.2.1 t.2.2.2.2.2.2.2.2.2.2.2.2.2.2.1 t.2.2.2.2.2.2.2.2.2.2.2.2.2.2.2
abbrev c19 {α0 α1 α2 α3 α4 α5 α6 α7 α8 α9 EW EX Fw Gc GJ I5 JJ JK JL:Type} {ρ:Sort u} (f:α0->α1->α2->α3->α4->α5->α6->α7->α8->α9->EW->EX->Fw->Gc->GJ->I5->JJ->JK->JL->ρ) (t:α0×α1×α2×α3×α4×α5×α6×α7×α8×α9×EW×EX×Fw×Gc×GJ×I5×JJ×JK×JL):ρ:=f t.1 t.2.1 t.2.2.1 t.2.2.2.1 t.2.2.2.2.1 t.2.2.2.2.2.1 t.2.2.2.2.2.2.1 t.2.2.2.2.2.2.2.1 t.2.2.2.2.2.2.2.2.1 t.2.2.2.2.2.2.2.2.2.1 t.2.2.2.2.2.2.2.2.2.2.1 t.2.2.2.2.2.2.2.2.2.2.2.1 t.2.2.2.2.2.2.2.2.2.2.2.2.1 t.2.2.2.2.2.2.2.2.2.2.2.2.2.1 t.2.2.2.2.2.2.2.2.2.2.2.2.2.2.1 t.2.2.2.2.2.2.2.2.2.2.2.2.2.2.2.1 t.2.2.2.2.2.2.2.2.2.2.2.2.2.2.2.2.1 t.2.2.2.2.2.2.2.2.2.2.2.2.2.2.2.2.2.1 t.2.2.2.2.2.2.2.2.2.2.2.2.2.2.2.2.2.2
abbrev c21 {α0 α1 α2 α3 α4 α5 α6 α7 α8 α9 EW EX Fw Gc GJ I5 JJ JK JL Mc Md:Type} {ρ:Sort u} (f:α0->α1->α2->α3->α4->α5->α6->α7->α8->α9->EW->EX->Fw->Gc->GJ->I5->JJ->JK->JL->Mc->Md->ρ) (t:α0×α1×α2×α3×α4×α5×α6×α7×α8×α9×EW×EX×Fw×Gc×GJ×I5×JJ×JK×JL×Mc×Md):ρ:=f t.1 t.2.1 t.2.2.1 t.2.2.2.1 t.2.2.2.2.1 t.2.2.2.2.2.1 t.2.2.2.2.2.2.1 t.2.2.2.2.2.2.2.1 t.2.2.2.2.2.2.2.2.1 t.2.2.2.2.2.2.2.2.2.1 t.2.2.2.2.2.2.2.2.2.2.1 t.2.2.2.2.2.2.2.2.2.2.2.1 t.2.2.2.2.2.2.2.2.2.2.2.2.1 t.2.2.2.2.2.2.2.2.2.2.2.2.2.1 t.2.2.2.2.2.2.2.2.2.2.2.2.2.2.1 t.2.2.2.2.2.2.2.2.2.2.2.2.2.2.2.1 t.2.2.2.2.2.2.2.2.2.2.2.2.2.2.2.2.1 t.2.2.2.2.2.2.2.2.2.2.2.2.2.2.2.2.2.1 t.2.2.2.2.2.2.2.2.2.2.2.2.2.2.2.2.2.2.1 t.2.2.2.2.2.2.2.2.2.2.2.2.2.2.2.2.2.2.2.1 t.2.2.2.2.2.2.2.2.2.2.2.2.2.2.2.2.2.2.2.2
abbrev c23 {α0 α1 α2 α3 α4 α5 α6 α7 α8 α9 EW EX Fw Gc GJ I5 JJ JK JL Mc Md OC OD:Type} {ρ:Sort u} (f:α0->α1->α2->α3->α4->α5->α6->α7->α8->α9->EW->EX->Fw->Gc->GJ->I5->JJ->JK->JL->Mc->Md->OC->OD->ρ) (t:α0×α1×α2×α3×α4×α5×α6×α7×α8×α9×EW×EX×Fw×Gc×GJ×I5×JJ×JK×JL×Mc×Md×OC×OD):ρ:=f t.1 t.2.1 t.2.2.1 t.2.2.2.1 t.2.2.2.2.1 t.2.2.2.2.2.1 t.2.2.2.2.2.2.1 t.2.2.2.2.2.2.2.1 t.2.2.2.2.2.2.2.2.1 t.2.2.2.2.2.2.2.2.2.1 t.2.2.2.2.2.2.2.2.2.2.1 t.2.2.2.2.2.2.2.2.2.2.2.1 t.2.2.2.2.2.2.2.2.2.2.2.2.1 t.2.2.2.2.2.2.2.2.2.2.2.2.2.1 t.2.2.2.2.2.2.2.2.2.2.2.2.2.2.1 t.2.2.2.2.2.2.2.2.2.2.2.2.2.2.2.1 t.2.2.2.2.2.2.2.2.2.2.2.2.2.2.2.2.1 t.2.2.2.2.2.2.2.2.2.2.2.2.2.2.2.2.2.1 t.2.2.2.2.2.2.2.2.2.2.2.2.2.2.2.2.2.2.1 t.2.2.2.2.2.2.2.2.2.2.2.2.2.2.2.2.2.2.2.1 t.2.2.2.2.2.2.2.2.2.2.2.2.2.2.2.2.2.2.2.2.1 t.2.2.2.2.2.2.2.2.2.2.2.2.2.2.2.2.2.2.2.2.2.1 t.2.2.2.2.2.2.2.2.2.2.2.2.2.2.2.2.2.2.2.2.2.2
abbrev c25 {α0 α1 α2 α3 α4 α5 α6 α7 α8 α9 EW EX Fw Gc GJ I5 JJ JK JL Mc Md OC OD UJ UK:Type} {ρ:Sort u} (f:α0->α1->α2->α3->α4->α5->α6->α7->α8->α9->EW->EX->Fw->Gc->GJ->I5->JJ->JK->JL->Mc->Md->OC->OD->UJ->UK->ρ) (t:α0×α1×α2×α3×α4×α5×α6×α7×α8×α9×EW×EX×Fw×Gc×GJ×I5×JJ×JK×JL×Mc×Md×OC×OD×UJ×UK):ρ:=f t.1 t.2.1 t.2.2.1 t.2.2.2.1 t.2.2.2.2.1 t.2.2.2.2.2.1 t.2.2.2.2.2.2.1 t.2.2.2.2.2.2.2.1 t.2.2.2.2.2.2.2.2.1 t.2.2.2.2.2.2.2.2.2.1 t.2.2.2.2.2.2.2.2.2.2.1 t.2.2.2.2.2.2.2.2.2.2.2.1 t.2.2.2.2.2.2.2.2.2.2.2.2.1 t.2.2.2.2.2.2.2.2.2.2.2.2.2.1 t.2.2.2.2.2.2.2.2.2.2.2.2.2.2.1 t.2.2.2.2.2.2.2.2.2.2.2.2.2.2.2.1 t.2.2.2.2.2.2.2.2.2.2.2.2.2.2.2.2.1 t.2.2.2.2.2.2.2.2.2.2.2.2.2.2.2.2.2.1 t.2.2.2.2.2.2.2.2.2.2.2.2.2.2.2.2.2.2.1 t.2.2.2.2.2.2.2.2.2.2.2.2.2.2.2.2.2.2.2.1 t.2.2.2.2.2.2.2.2.2.2.2.2.2.2.2.2.2.2.2.2.1 t.2.2.2.2.2.2.2.2.2.2.2.2.2.2.2.2.2.2.2.2.2.1 t.2.2.2.2.2.2.2.2.2.2.2.2.2.2.2.2.2.2.2.2.2.2.1 t.2.2.2.2.2.2.2.2.2.2.2.2.2.2.2.2.2.2.2.2.2.2.2.1 t.2.2.2.2.2.2.2.2.2.2.2.2.2.2.2.2.2.2.2.2.2.2.2.2
abbrev c26 {α0 α1 α2 α3 α4 α5 α6 α7 α8 α9 EW EX Fw Gc GJ I5 JJ JK JL Mc Md OC OD UJ UK α25:Type} {ρ:Sort u} (f:α0->α1->α2->α3->α4->α5->α6->α7->α8->α9->EW->EX->Fw->Gc->GJ->I5->JJ->JK->JL->Mc->Md->OC->OD->UJ->UK->α25->ρ) (t:α0×α1×α2×α3×α4×α5×α6×α7×α8×α9×EW×EX×Fw×Gc×GJ×I5×JJ×JK×JL×Mc×Md×OC×OD×UJ×UK×α25):ρ:=f t.1 t.2.1 t.2.2.1 t.2.2.2.1 t.2.2.2.2.1 t.2.2.2.2.2.1 t.2.2.2.2.2.2.1 t.2.2.2.2.2.2.2.1 t.2.2.2.2.2.2.2.2.1 t.2.2.2.2.2.2.2.2.2.1 t.2.2.2.2.2.2.2.2.2.2.1 t.2.2.2.2.2.2.2.2.2.2.2.1 t.2.2.2.2.2.2.2.2.2.2.2.2.1 t.2.2.2.2.2.2.2.2.2.2.2.2.2.1 t.2.2.2.2.2.2.2.2.2.2.2.2.2.2.1 t.2.2.2.2.2.2.2.2.2.2.2.2.2.2.2.1 t.2.2.2.2.2.2.2.2.2.2.2.2.2.2.2.2.1 t.2.2.2.2.2.2.2.2.2.2.2.2.2.2.2.2.2.1 t.2.2.2.2.2.2.2.2.2.2.2.2.2.2.2.2.2.2.1 t.2.2.2.2.2.2.2.2.2.2.2.2.2.2.2.2.2.2.2.1 t.2.2.2.2.2.2.2.2.2.2.2.2.2.2.2.2.2.2.2.2.1 t.2.2.2.2.2.2.2.2.2.2.2.2.2.2.2.2.2.2.2.2.2.1 t.2.2.2.2.2.2.2.2.2.2.2.2.2.2.2.2.2.2.2.2.2.2.1 t.2.2.2.2.2.2.2.2.2.2.2.2.2.2.2.2.2.2.2.2.2.2.2.1 t.2.2.2.2.2.2.2.2.2.2.2.2.2.2.2.2.2.2.2.2.2.2.2.2.1 t.2.2.2.2.2.2.2.2.2.2.2.2.2.2.2.2.2.2.2.2.2.2.2.2.2
theorem bnd {α β:Type} {x:Option α} {f:α->Option β} {r:β} {Af:Prop} (h:x.bind f=some r) (k:∀ a,x=some a->f a=some r->Af):Af:=by
 obtain ⟨a,h1,h2⟩:=A0o h;exact k a h1 h2
def R_ (P:Program) (ops:Array Oper) (n:Nat) (os:List Oper) (env:Env):Env:=(Hf P ops n os env).getD []
section
variable {A:World} {ds:List Deferred} {n:Nat} {env env':Env} {l l' X:List N} {q next:Act->World->Prop} {P:Program} {Q:Exit->Act->World->Prop} {ops:Array Oper} {os rest:List Oper} {o:Oper} {S:World->Prop} {tail:Act->World->Prop} {pl:List (Oper×Nat)}
theorem M (m:Nat) (hk:K ds A n (R_ P ops n (os.take m) env) l (wpList P ops Q (os.drop m))) (h:(Hf P ops n (os.take m) env).isSome=true:=by kernel_rfl):K ds A n env l (wpList P ops Q os):=by
 cases hs:Hf P ops n (os.take m) env with
 | none=>rw [hs] at h;cases h
 | some Lz =>
  have e:R_ P ops n (os.take m) env=Lz:=by unfold R_;rw [hs];rfl
  rw [e] at hk;have:=Tt (rest:=os.drop m) (os.take m) env hs hk
  rwa [List.take_append_drop] at this
theorem AA (m:Nat) (hk:K ds A n (R_ P ops n ((pl.take m).map (·.1)) env) l (BU P ops Q S tail (pl.drop m))) (hz:((pl.take m).all λx=>Nat.beq x.2 0)=true:=by kernel_rfl) (h:(Hf P ops n ((pl.take m).map (·.1)) env).isSome=true:=by kernel_rfl):K ds A n env l (BU P ops Q S tail pl):=by
 cases hs:Hf P ops n ((pl.take m).map (·.1)) env with
 | none=>rw [hs] at h;cases h
 | some Lz =>
  have e:R_ P ops n ((pl.take m).map (·.1)) env=Lz:=by unfold R_;rw [hs];rfl
  rw [e] at hk;have:=Tw ((pl.take m).map (·.1)) env hs hk
  rwa [<- ZN _ hz,List.take_append_drop] at this
theorem B4 (k:Nat) {α:Type} {t:Bool} {F Af:Option α} {r:α} (h:cond t F Af=some r) (hx:F=some r->K ds A n ((k,.bool true) :: env) l q) (hy:Af=some r->K ds A n ((k,.bool false) :: env) l q) (hk:env.get k=some (.bool t):=by kernel_rfl):K ds A n env l q:=by
 have put:∀ u,t=u->K ds A n ((k,.bool u) :: env) l q->K ds A n env l q:=λu hu hq a w ha hw=>hq a w ⟨ha.size,ha.defers,λi v hi=>by
  simp only [Env.get] at hi;cases hb:Nat.beq k i with
  | true =>
   rw [hb] at hi;cases hi;rw [<- Nat.eq_of_beq_eq_true hb,<- hu];exact ha.at_ _ _ hk
  | false=>rw [hb] at hi;exact ha.at_ i v hi⟩ hw
 cases t with
 | true=>exact put true rfl (hx h)
 | false=>exact put false rfl (hy h)
theorem Az {c:Operand} {x y:Code} {α:Type} {t:Bool} {F Af:Option α} {r:α} (h:cond t F Af=some r) (hx:F=some r->K ds A n env l (x.wp P Q)) (hy:Af=some r->K ds A n env l (y.wp P Q)) (hc:BL env c=some (.bool t):=by kernel_rfl):K ds A n env l ((Code.cond c x y).wp P Q):=by
 cases t with
 | true=>exact ZG hc (hx h)
 | false=>exact ZF hc (hy h)
def lds (b:Nat):Nat->List Value->List Ev
 | _,[]=>[]
 | off,v :: r=>.ld ⟨b,off,none⟩ v :: lds b (off+1) r
def sts (b:Nat):Nat->List Value->List Ev
 | _,[]=>[]
 | off,v :: r=>.st ⟨b,off,none⟩ v :: sts b (off+1) r
theorem Ada (b:Nat):∀ (off:Nat) (vs:List Value),U1 b (sts b off vs)
 | _,[]=>trivial
 | off,v :: r=>⟨rfl,Ada b (off+1) r⟩
theorem R3 {b:Nat} {cs:Array Value} {T:TypeId} {z:Nat×Nat} {i:Nat} (hi:l[i]? = some (blk b (.cells cs T z))):∀ (vs:List Value) (off:Nat),(∀ j v,vs[j]? = some v->cs[off+j]? = some v)->JS l (lds b off vs)
 | [],_,_=>trivial
 | v :: r,off,h=>⟨⟨i,cs,T,z,hi,rfl,by simpa using h 0 v rfl⟩,R3 hi r (off+1) λj u hj=>by
   have:=h (j+1) u hj
   rwa [show off+1+j=off+(j+1) by omega]⟩
def cut (cs:Array Value) (off m:Nat):List Value:=(cs.toList.drop off).take m
theorem SF {cs:Array Value} {off m j:Nat} {v:Value} (h:(cut cs off m)[j]? = some v):cs[off+j]? = some v:=by
 unfold cut at h;rw [List.getElem?_take] at h;split at h;rw [List.getElem?_drop] at h;simpa using h;cases h
theorem kld (i off:Nat) {b:Nat} {cs:Array Value} {T:TypeId} {z:Nat×Nat} (hi:l[i]? = some (blk b (.cells cs T z))) (hk:K ds A n (Bl env o.dst (cs.getD off undef)) l (wpList P ops Q rest)) (hg:Ci ops env o=some true:=by kernel_rfl) (hs:(DC o.op && allB o.op.operands.toList env && inB n o.dst)=true:=by kernel_rfl)
  (hf:follow P (execOp (rho env) o) ((cut cs off 1).map .val)=some (.value (cs.getD off undef),lds b off (cut cs off 1)):=by kernel_rfl):K ds A n env l (wpList P ops Q (o :: rest)):=Ao1 _ _ hg hs hf (R3 hi _ _ λ_ _ h=>SF h) hk
theorem BW (i off m:Nat) {b:Nat} {cs:Array Value} {T:TypeId} {z:Nat×Nat} (hi:l[i]? = some (blk b (.cells cs T z))) (hk:K ds A n (Bl env o.dst (.agg (cut cs off m).toArray)) l (wpList P ops Q rest)) (hg:Ci ops env o=some true:=by kernel_rfl) (hs:(DC o.op && allB o.op.operands.toList env && inB n o.dst)=true:=by kernel_rfl)
  (hf:follow P (execOp (rho env) o) ((cut cs off m).map .val)=some (.value (.agg (cut cs off m).toArray),lds b off (cut cs off m)):=by kernel_rfl):K ds A n env l (wpList P ops Q (o :: rest)):=Ao1 _ _ hg hs hf (R3 hi _ _ λ_ _ h=>SF h) hk
theorem AC (off m:Nat) {b:Nat} {e:TypeId} {cs:Array Value} (cs':Array Value) (hk:K ds A n (Bl env o.dst undef) (blk b (.cells cs' e (0,0)) :: l) (wpList P ops Q rest)) (hg:Ci ops env o=some true:=by kernel_rfl) (hs:(DC o.op && allB o.op.operands.toList env && inB n o.dst)=true:=by kernel_rfl)
  (hf:follow P (execOp (rho env) o) []=some (.skip,sts b off (cut cs' off m)):=by kernel_rfl) (hc:O3 b e (sts b off (cut cs' off m)) cs=some cs':=by kernel_rfl):K ds A n env (blk b (.cells cs e (0,0)) :: l) (wpList P ops Q (o :: rest)):=Tv _ hg hs hf (Ada ..) hc hk
theorem ost (off m:Nat) {b:Nat} {e:TypeId} {cs:Array Value} (cs':Array Value) (hk:K ds A n (Bl env o.dst undef) (blk b (.cells cs' e (0,0)) :: l) q) (hs:(DC o.op && allB o.op.operands.toList env && inB n o.dst)=true:=by kernel_rfl)
  (hf:follow P (execOp (rho env) o) []=some (.skip,sts b off (cut cs' off m)):=by kernel_rfl) (hc:O3 b e (sts b off (cut cs' off m)) cs=some cs':=by kernel_rfl):K ds A n env (blk b (.cells cs e (0,0)) :: l) (λa w=>o.wp P a w q Q):=W1 _ hs hf (Ada ..) hc hk
theorem knp (cs:Array Value) (T:TypeId) (hk:∀ b,K ds A n (Bl env o.dst (pt b)) (bk b cs T :: l) (wpList P ops Q rest)) (hg:Ci ops env o=some true:=by kernel_rfl) (hs:(DC o.op && allB o.op.operands.toList env && inB n o.dst)=true:=by kernel_rfl) (hf:∀ b,follow P (execOp (rho env) o) [.num b]=some (.value (pt b),[.nw (.cells cs T (0,0)) b]):=by (intro b;kernel_rfl)) :
  K ds A n env l (wpList P ops Q (o :: rest)):=V_ _ _ hg hs hf hk
theorem Cz (cs:Array Value) (T m:Nat) (hk:∀ b,K ds A n (Bl env o.dst (.slice (some ⟨b,0,none⟩) m m)) (bk b cs T :: l) (wpList P ops Q rest)) (hg:Ci ops env o=some true:=by kernel_rfl) (hs:(DC o.op && allB o.op.operands.toList env && inB n o.dst)=true:=by kernel_rfl) (hf:∀ b,follow P (execOp (rho env) o) [.num b]=some (.value (.slice (some ⟨b,0,none⟩) m m),[.nw (.cells cs T (0,0)) b]):=by (intro b;kernel_rfl)) :
  K ds A n env l (wpList P ops Q (o :: rest)):=V_ _ _ hg hs hf hk
theorem onp (cs:Array Value) (T:TypeId) (hk:∀ b,K ds A n (Bl env o.dst (pt b)) (bk b cs T :: l) q) (hs:(DC o.op && allB o.op.operands.toList env && inB n o.dst)=true:=by kernel_rfl) (hf:∀ b,follow P (execOp (rho env) o) [.num b]=some (.value (pt b),[.nw (.cells cs T (0,0)) b]):=by (intro b;kernel_rfl)) :
  K ds A n env l (λa w=>o.wp P a w q Q):=Abe _ _ hs hf hk
theorem Gi (cs:Array Value) (T m:Nat) (hk:∀ b,K ds A n (Bl env o.dst (.slice (some ⟨b,0,none⟩) m m)) (bk b cs T :: l) q) (hs:(DC o.op && allB o.op.operands.toList env && inB n o.dst)=true:=by kernel_rfl) (hf:∀ b,follow P (execOp (rho env) o) [.num b]=some (.value (.slice (some ⟨b,0,none⟩) m m),[.nw (.cells cs T (0,0)) b]):=by (intro b;kernel_rfl)) :
  K ds A n env l (λa w=>o.wp P a w q Q):=Abe _ _ hs hf hk
theorem Ch {f:FuncId} {args:Array Value} {l0 hs:List N} {R:Ending->List N->Prop} (hc:Ct P f args l0 hs R) (hl:l=l0++X) (hh:IX hs X) (hk:∀ e l1,R e l1->Nx ds A n env o.dst X (wpList P ops Q rest) Q e l1) (hg:Ci ops env o=some true:=by kernel_rfl)
  (hg1:(DC o.op && allB o.op.operands.toList env && inB n o.dst)=true:=by kernel_rfl) (hp:FZ P (execOp (rho env) o)=some (.enter f args):=by kernel_rfl):K ds A n env l (wpList P ops Q (o :: rest)):=VY X hg hg1 hp hc hl hh hk
theorem JC {f:FuncId} {args:Array Value} {l0 hs:List N} {R:Ending->List N->Prop} (hc:Ct P f args l0 hs R) (hl:l=l0++X) (hh:IX hs X) (hk:∀ e l1,R e l1->Nx ds A n env o.dst X q Q e l1)
  (hg1:(DC o.op && allB o.op.operands.toList env && inB n o.dst)=true:=by kernel_rfl) (hp:FZ P (execOp (rho env) o)=some (.enter f args):=by kernel_rfl):K ds A n env l (λa w=>o.wp P a w q Q):=Ub hg1 hp hc hl hh hk
theorem CI {f:FuncId} {args:Array Value} {hs:List N} {v:Value} (hc:Ct P f args [] hs λe l1=>e=.returned v/\l1=[]) (hh:IX hs l) (hk:K ds A n (Bl env o.dst v) l (wpList P ops Q rest)) (hg:Ci ops env o=some true:=by kernel_rfl)
  (hg1:(DC o.op && allB o.op.operands.toList env && inB n o.dst)=true:=by kernel_rfl) (hp:FZ P (execOp (rho env) o)=some (.enter f args):=by kernel_rfl):K ds A n env l (wpList P ops Q (o :: rest)):=Bjn hg hg1 hp hc hh hk
theorem ocv {f:FuncId} {args:Array Value} {hs:List N} {v:Value} (hc:Ct P f args [] hs λe l1=>e=.returned v/\l1=[]) (hh:IX hs l) (hk:K ds A n (Bl env o.dst v) l q)
  (hg1:(DC o.op && allB o.op.operands.toList env && inB n o.dst)=true:=by kernel_rfl) (hp:FZ P (execOp (rho env) o)=some (.enter f args):=by kernel_rfl):K ds A n env l (λa w=>o.wp P a w q Q):=Arz hg1 hp hc hh hk
theorem Bc {f:FuncId} {args:Array Value} {l0 hs:List N} {v:Value} {p1:N} (hc:Ct P f args l0 hs λe l1=>e=.returned v/\l1=[p1]) (hl:l=l0++X) (hh:IX hs X) (hk:K ds A n (Bl env o.dst v) (p1 :: X) (wpList P ops Q rest)) (hg:Ci ops env o=some true:=by kernel_rfl)
  (hg1:(DC o.op && allB o.op.operands.toList env && inB n o.dst)=true:=by kernel_rfl) (hp:FZ P (execOp (rho env) o)=some (.enter f args):=by kernel_rfl):K ds A n env l (wpList P ops Q (o :: rest)):=VY X hg hg1 hp hc hl hh (by rintro e l1 ⟨rfl,rfl⟩;exact hk)
theorem BQ {α β ε:Type} {x:Option (PR α ε)} {F:α->Option (PR β ε)} {r:PR β ε} {f:FuncId} {args:Array Value} {l0 hs:List N} {fl:ε->Value} {Ae:α->Ending->List N->Prop} (h:PR.bind x F=some r) (hc:∀ v,x=some v->Ct P f args l0 hs (PR.Post fl Ae v)) (hl:l=l0++X) (hh:IX hs X)
  (hb:∀ i,r=.bad i->K ds A n env X (Q (.panic [{ v:=fl i,recovered:=false }]))) (hk:∀ a,F a=some r->∀ e l1,Ae a e l1->Nx ds A n env o.dst X (wpList P ops Q rest) Q e l1) (hg:Ci ops env o=some true:=by kernel_rfl)
  (hg1:(DC o.op && allB o.op.operands.toList env && inB n o.dst)=true:=by kernel_rfl) (hp:FZ P (execOp (rho env) o)=some (.enter f args):=by kernel_rfl):K ds A n env l (wpList P ops Q (o :: rest)):=by
 rcases Asj h with ⟨i,hx,hr⟩ | ⟨a,hx,h⟩;exact VY X hg hg1 hp (hc _ hx) hl hh (by rintro e l1 ⟨rfl,rfl⟩;exact hb i hr);exact VY X hg hg1 hp (hc _ hx) hl hh (hk a h)
theorem ocp {α β ε:Type} {x:Option (PR α ε)} {F:α->Option (PR β ε)} {r:PR β ε} {f:FuncId} {args:Array Value} {l0 hs:List N} {fl:ε->Value} {Ae:α->Ending->List N->Prop} (h:PR.bind x F=some r) (hc:∀ v,x=some v->Ct P f args l0 hs (PR.Post fl Ae v)) (hl:l=l0++X) (hh:IX hs X)
  (hb:∀ i,r=.bad i->K ds A n env X (Q (.panic [{ v:=fl i,recovered:=false }]))) (hk:∀ a,F a=some r->∀ e l1,Ae a e l1->Nx ds A n env o.dst X q Q e l1)
  (hg1:(DC o.op && allB o.op.operands.toList env && inB n o.dst)=true:=by kernel_rfl) (hp:FZ P (execOp (rho env) o)=some (.enter f args):=by kernel_rfl):K ds A n env l (λa w=>o.wp P a w q Q):=by
 rcases Asj h with ⟨i,hx,hr⟩ | ⟨a,hx,h⟩;exact Ub hg1 hp (hc _ hx) hl hh (by rintro e l1 ⟨rfl,rfl⟩;exact hb i hr);exact Ub hg1 hp (hc _ hx) hl hh (hk a h)
theorem St.Ah2:∀ (m:Nat) {l:List N} {w:World},St A l w->St A (l.drop m) w
 | 0,_,_,h=>h
 | _+1,[],_,h=>h
 | m+1,_ :: _,_,h=>St.Ah2 m h.tail
theorem kpn (m:Nat) {fn:Func} {β ε:Type} {r:PR β ε} {fl:ε->Value} {Ae:β->Ending->List N->Prop} {i:ε} (hr:r=.bad i) (hl:l.drop m=X):K [] A n env l (bodyPost P fn (λe w'=>∃ l1,PR.Post fl Ae r e l1/\St A (l1++X) w') (.panic [{ v:=fl i,recovered:=false }])):=by
 subst hr hl;exact λa w ha hw=>⟨ha.defers,[],⟨rfl,rfl⟩,hw.Ah2 m⟩
theorem kdn {fn:Func} {v:Value} {L:List N} (hl:l=L++X) (hr:hasAll fn.results.toList env=true:=by kernel_rfl) (hf:follow P (Lg fn.results (Lh env)) []=some (v,[]):=by kernel_rfl) :
  K [] A n env l (bodyPost P fn (λe w'=>∃ l1,(e=.returned v/\l1=L)/\St A (l1++X) w') .ret):=by
 subst hl;exact Gf [] [] L hr hf trivial λa w ha hw=>⟨⟨rfl,rfl⟩,hw⟩
theorem kdv {fn:Func} {R:Ending->List N->Prop} (v:Value) (l1:List N) (hk:K [] A n env l λ_ w=>R (.returned v) l1/\St A (l1++X) w) (hr:hasAll fn.results.toList env=true:=by kernel_rfl) (hf:follow P (Lg fn.results (Lh env)) []=some (v,[]):=by kernel_rfl) :
  K [] A n env l (bodyPost P fn (λe w'=>∃ l1,R e l1/\St A (l1++X) w') .ret):=Gf [] [] l1 hr hf trivial hk
theorem Dx {fn:Func} {R:Ending->List N->Prop} (i m:Nat) {b:Nat} {cs:Array Value} {T:TypeId} {z:Nat×Nat} (hi:l[i]? = some (blk b (.cells cs T z))) (l1:List N) (hk:K [] A n env l λ_ w=>R (.returned (.agg cs)) l1/\St A (l1++X) w) (hr:hasAll fn.results.toList env=true:=by kernel_rfl)
  (hf:follow P (Lg fn.results (Lh env)) ((cut cs 0 m).map .val)=some (.agg cs,lds b 0 (cut cs 0 m)):=by kernel_rfl):K [] A n env l (bodyPost P fn (λe w'=>∃ l1,R e l1/\St A (l1++X) w') .ret):=Gf _ _ l1 hr hf (R3 hi _ _ λ_ _ h=>SF h) hk
def W9 (is:List Nat) (l:List N):List N:=is.filterMap (l[·]?)
theorem Aa9 {w:World} (hw:Sat l w):∀ (is:List Nat),EB (W9 is l) w
 | []=>trivial
 | i :: is=>by
  unfold W9;rw [List.filterMap_cons];have ih:=Aa9 hw is;cases h:l[i]? with
  | none=>exact ih
  | some f=>exact ⟨hw.on f (List.mem_of_getElem? h),ih⟩
theorem kpr {id:Nat} (plan:List (Nat×Nat)) (is:List Nat) (h:K ds A n env l (BU P os.toArray Q (λw=>EB (W9 is l) w) (wpList P os.toArray Q (os.drop plan.length)) (DP os.toArray plan))) (hm:P.follows .mixedOrders=true:=by kernel_rfl)
  (hB:Ug os plan=true:=by kernel_rfl)
  (hQ:∀ c a d v w,Q (.panic c) (Act.put a d v) w->Q (.panic c) a w:=by (intro _ _ d _ _ h;cases d <;> exact h)):K ds A n env l ((Code.region id os.toArray true).wp P Q) :=
 PG plan _ hm hB hQ (λ_ hw=>Aa9 hw.sat is) h
theorem KV {id:Nat} (plan:List (Nat×Nat)) (s:List N) (hS:∀ w,St A l w->EB s w) (h:K ds A n env l (BU P os.toArray Q (λw=>EB s w) (wpList P os.toArray Q (os.drop plan.length)) (DP os.toArray plan))) (hm:P.follows .mixedOrders=true:=by kernel_rfl)
  (hB:Ug os plan=true:=by kernel_rfl)
  (hQ:∀ c a d v w,Q (.panic c) (Act.put a d v) w->Q (.panic c) a w:=by (intro _ _ d _ _ h;cases d <;> exact h)):K ds A n env l ((Code.region id os.toArray true).wp P Q) :=
 PG plan _ hm hB hQ hS h
theorem Cs (js:List Nat) {s:List N} (hs:W9 js l=s) (h:K ds A n env l q):K ds A n env l (λa w=>EB s w/\q a w):=LF (λ_ hw=>hs ▸ Aa9 hw.sat js) h
theorem kpt (h:K ds A n env l (λa w=>o.wp P a w (λa w=>S w/\BU P ops Q S tail pl a w) Q)) (hg:Ci ops env o=some true:=by kernel_rfl):K ds A n env l (BU P ops Q S tail ((o,1) :: pl)):=ZP hg h
theorem Bn (i off:Nat) {s:List N} {b:Nat} {cs:Array Value} {T:TypeId} {z:Nat×Nat} (hi:s[i]? = some (blk b (.cells cs T z))) (hk:K ds A n (Bl env o.dst (cs.getD off undef)) l (BU P ops Q (λw=>EB s w) tail pl)) (hg:Ci ops env o=some true:=by kernel_rfl) (hs:(DC o.op && allB o.op.operands.toList env && inB n o.dst)=true:=by kernel_rfl)
  (hf:follow P (execOp (rho env) o) ((cut cs off 1).map .val)=some (.value (cs.getD off undef),lds b off (cut cs off 1)):=by kernel_rfl):K ds A n env l (BU P ops Q (λw=>EB s w) tail ((o,3) :: pl)):=Wb s _ _ hg hs hf (λ_ h=>h) (R3 hi _ _ λ_ _ h=>SF h) hk
theorem E2 (i off m:Nat) {s:List N} {b:Nat} {cs:Array Value} {T:TypeId} {z:Nat×Nat} (hi:s[i]? = some (blk b (.cells cs T z))) (hk:K ds A n (Bl env o.dst (.agg (cut cs off m).toArray)) l (BU P ops Q (λw=>EB s w) tail pl)) (hg:Ci ops env o=some true:=by kernel_rfl) (hs:(DC o.op && allB o.op.operands.toList env && inB n o.dst)=true:=by kernel_rfl)
  (hf:follow P (execOp (rho env) o) ((cut cs off m).map .val)=some (.value (.agg (cut cs off m).toArray),lds b off (cut cs off m)):=by kernel_rfl):K ds A n env l (BU P ops Q (λw=>EB s w) tail ((o,3) :: pl)):=Wb s _ _ hg hs hf (λ_ h=>h) (R3 hi _ _ λ_ _ h=>SF h) hk
theorem ksr {id:Nat} {y:Code} (h:K ds A n env l (wpList P os.toArray (Exit.then (y.wp P Q) Q) os)):K ds A n env l ((Code.seq (Code.region id os.toArray false) y).wp P Q):=AR (AO h)
theorem G (h:K ds A n env l next) (he:os=[]:=by rfl):K ds A n env l (wpList P ops (Exit.then next Q) os):=he ▸ KR (At h)
theorem AW {id:Nat} {y:Code} {os':List Oper} {Q':Exit->Act->World->Prop} (h:K ds A n env l (wpList P os.toArray (Exit.then (y.wp P Q) Q) os)) (he:os'=[]:=by rfl):K ds A n env l (wpList P ops (Exit.then ((Code.seq (Code.region id os.toArray false) y).wp P Q) Q') os'):=he ▸ KR (At (AR (AO h)))
theorem E1 {id:Nat} {os':List Oper} {Q':Exit->Act->World->Prop} (h:K ds A n env l (wpList P os.toArray Q os)) (he:os'=[]:=by rfl):K ds A n env l (wpList P ops (Exit.then ((Code.region id os.toArray false).wp P Q) Q') os'):=he ▸ KR (At (AO h))
theorem knl (h:K ds A n env l (Q .normal)) (he:os=[]:=by rfl):K ds A n env l (wpList P ops Q os):=he ▸ KR h
theorem BA (h:K ds A n env l tail) (he:pl=[]:=by rfl):K ds A n env l (BU P ops Q S tail pl):=he ▸ ZM h
theorem sb {sub:Env} (h:picks (sub.map (·.1)) env=some (sub.map (·.2)):=by kernel_rfl):Sub env sub:=WA h
theorem gr {k:Nat} {v:Value} (h:env.get k=some v:=by kernel_rfl):env.get k=some v:=h
theorem gb {k:Nat} {t q:Bool} (h:t=q) (hk:env.get k=some (.bool t):=by kernel_rfl):env.get k=some (.bool q):=h ▸ hk
theorem VU {fn:Func} {β ε:Type} {x:β} {fl:ε->Value} {Ae:β->Ending->List N->Prop} {v:Value} {L:List N} (hD:Ae x (.returned v) L) (hl:l=L++X) (hr:hasAll fn.results.toList env=true:=by kernel_rfl) (hf:follow P (Lg fn.results (Lh env)) []=some (v,[]):=by kernel_rfl) :
  K [] A n env l (bodyPost P fn (λe w'=>∃ l1,PR.Post fl Ae (.ok x) e l1/\St A (l1++X) w') .ret):=by
 subst hl;exact Gf [] [] L hr hf trivial λa w ha hw=>⟨hD,hw⟩
theorem t2 {α:Type} {x a0 a1:α} {r:List α} (h:x ∈ r):x ∈ a0 :: a1 :: r:=.tail _ (.tail _ (h))
theorem t3 {α:Type} {x a0 a1 a2:α} {r:List α} (h:x ∈ r):x ∈ a0 :: a1 :: a2 :: r:=.tail _ (.tail _ (.tail _ (h)))
theorem t4 {α:Type} {x a0 a1 a2 a3:α} {r:List α} (h:x ∈ r):x ∈ a0 :: a1 :: a2 :: a3 :: r:=.tail _ (.tail _ (.tail _ (.tail _ (h))))
theorem t5 {α:Type} {x a0 a1 a2 a3 a4:α} {r:List α} (h:x ∈ r):x ∈ a0 :: a1 :: a2 :: a3 :: a4 :: r:=.tail _ (.tail _ (.tail _ (.tail _ (.tail _ (h)))))
theorem t6 {α:Type} {x a0 a1 a2 a3 a4 a5:α} {r:List α} (h:x ∈ r):x ∈ a0 :: a1 :: a2 :: a3 :: a4 :: a5 :: r:=.tail _ (.tail _ (.tail _ (.tail _ (.tail _ (.tail _ (h))))))
theorem t7 {α:Type} {x a0 a1 a2 a3 a4 a5 a6:α} {r:List α} (h:x ∈ r):x ∈ a0 :: a1 :: a2 :: a3 :: a4 :: a5 :: a6 :: r:=.tail _ (.tail _ (.tail _ (.tail _ (.tail _ (.tail _ (.tail _ (h)))))))
theorem t8 {α:Type} {x a0 a1 a2 a3 a4 a5 a6 a7:α} {r:List α} (h:x ∈ r):x ∈ a0 :: a1 :: a2 :: a3 :: a4 :: a5 :: a6 :: a7 :: r:=.tail _ (.tail _ (.tail _ (.tail _ (.tail _ (.tail _ (.tail _ (.tail _ (h))))))))
theorem t9 {α:Type} {x a0 a1 a2 a3 a4 a5 a6 a7 a8:α} {r:List α} (h:x ∈ r):x ∈ a0 :: a1 :: a2 :: a3 :: a4 :: a5 :: a6 :: a7 :: a8 :: r:=.tail _ (.tail _ (.tail _ (.tail _ (.tail _ (.tail _ (.tail _ (.tail _ (.tail _ (h)))))))))
theorem t12 {α:Type} {x a0 a1 a2 a3 a4 a5 a6 a7 a8 a9 a10 a11:α} {r:List α} (h:x ∈ r):x ∈ a0 :: a1 :: a2 :: a3 :: a4 :: a5 :: a6 :: a7 :: a8 :: a9 :: a10 :: a11 :: r:=.tail _ (.tail _ (.tail _ (.tail _ (.tail _ (.tail _ (.tail _ (.tail _ (.tail _ (.tail _ (.tail _ (.tail _ (h))))))))))))
end
section
variable {A:World} {ds:List Deferred} {n n0:Nat} {env env':Env} {l l' X:List N} {P:Program} {Q:Exit->Act->World->Prop} {ops:Array Oper} {os rest:List Oper} {o:Oper} {S:World->Prop} {tail:Act->World->Prop} {pl:List (Oper×Nat)} {α:Type} {R:Gn α}
theorem F0 {s:Ah} {kd:IntKind} {i:Int} {c:UInt8} {t:TypeId} {x ix:Operand} (ho:o.op=.index t x ix) (hc:Dm s i=some c) (h:K ds A n (Bl env o.dst (.int .u8 c.toNat)) l (wpList P ops Q rest)) (hg:Ci ops env o=some true:=by kernel_rfl) (hd:inB n o.dst=true:=by kernel_rfl) (hx:BL env x=some (.string s):=by kernel_rfl) (hi:BL env ix=some (.int kd i):=by kernel_rfl) (ht:P.underlying t=some .string:=by kernel_rfl):K ds A n env l (wpList P ops Q (o :: rest)):=Bjy ho hg hd hx hi ht hc h
theorem Dr {T TS U:TypeId} {sz bytes:Nat} {i:TypeInfo} {z:Value} {h hy:N} {v y:Value} {xs ys xs':List α} {s x:Operand} (ho:o.op=.call { callee:=.builtin .append,args:=#[s,x],argTypes:=#[TS,U] }) (he:FG P TS T sz bytes i z) (hsz:sz=R.sz) (hap:apd bytes xs ys=some xs') (hO:AM R T h v xs) (hY:AM R T hy y ys) (hk:∀ h' a' c',AM R T h' (.slice a' xs'.length c') xs'->K ds A n0 (Bl env o.dst (.slice a' xs'.length c')) (h' :: l) (wpList P ops Q rest)) (hg:Ci ops env o=some true:=by kernel_rfl) (hd:inB n0 o.dst=true:=by kernel_rfl) (hs:BL env s=some v:=by kernel_rfl) (hx:BL env x=some y:=by kernel_rfl) (hu:KZ P U=true:=by kernel_rfl):K ds A n0 env (h :: hy :: l) (wpList P ops Q (o :: rest)):=Bjk ho he hsz hg hd hs hx hu hap hO hY hk
theorem IA {α:Type} {E:α->List Value} {xs:List α} {a:α} {ix:Int} {kd:IntKind} {h:N} {A':AD} {c:Nat} {T TS:TypeId} {sz:Nat} {x y:Operand} (hE:EA E sz) (ho:o.op=.indexAddr TS x y) (hi:B5 xs ix=some a) (hR:AZ E sz h (.slice A' xs.length c) xs) (hk:∀ p,Elem h p (E a)->Place A' (ix.toNat * sz) p->K ds A n0 (Bl env o.dst p) l (wpList P ops Q rest)) (hg:Ci ops env o=some true:=by kernel_rfl) (hd:inB n0 o.dst=true:=by kernel_rfl) (hx:BL env x=some (.slice A' xs.length c):=by kernel_rfl) (hy:BL env y=some (.int kd ix):=by kernel_rfl) (h1:P.underlying TS=some (.slice T):=by kernel_rfl) (h2:(P.info? T).map (·.size)=some sz:=by kernel_rfl):K ds A n0 env l (wpList P ops Q (o :: rest)):=Bjq hE ho hg hd hx hy h1 h2 hi hR hk
theorem E0 {xs:List α} {a:α} {ix:Int} {kd:IntKind} {h:N} {A':AD} {c:Nat} {T TS:TypeId} {x y:Operand} (ho:o.op=.indexAddr TS x y) (hi:B5 xs ix=some a) (hR:RdR R h (.slice A' xs.length c) xs) (hk:∀ p us,R.rd a h us->Elem h p us->Place A' (ix.toNat * R.sz) p->K ds A n0 (Bl env o.dst p) l (wpList P ops Q rest)) (hg:Ci ops env o=some true:=by kernel_rfl) (hd:inB n0 o.dst=true:=by kernel_rfl) (hx:BL env x=some (.slice A' xs.length c):=by kernel_rfl) (hy:BL env y=some (.int kd ix):=by kernel_rfl) (h1:P.underlying TS=some (.slice T):=by kernel_rfl) (h2:(P.info? T).map (·.size)=some R.sz:=by kernel_rfl):K ds A n0 env l (wpList P ops Q (o :: rest)):=Bjr ho hg hd hx hy h1 h2 hi hR hk
theorem GV {h:N} {p:Value} {us:List Value} {T:TypeId} {k off k0:Nat} {A':AD} {x:Operand} (ho:o.op=.fieldAddr T x k) (hE:Elem h p us) (hp:Place A' k0 p) (hk:∀ p',Elem h p' (us.drop off)->Place A' (k0+off) p'->K ds A n0 (Bl env o.dst p') l (wpList P ops Q rest)) (hg:Ci ops env o=some true:=by kernel_rfl) (hd:inB n0 o.dst=true:=by kernel_rfl) (hx:BL env x=some p:=by kernel_rfl) (hT:(match P.underlying T with | some (.struct fs)=>(match fs[k]? with | some f=>(match (P.info? f.type).map (·.size) with | some (s+1)=>some f.offset | _=>none) | none=>none) | _=>none)=some off:=by kernel_rfl):K ds A n0 env l (wpList P ops Q (o :: rest)):=Bjo ho hg hd hx hT hE hp hk
theorem Ib {h:N} {p:Value} {us:List Value} {T:TypeId} {x:Operand} (ho:o.op=.load T x) (hE:Elem h p us) (hm:h ∈ l) (hk:K ds A n0 (Bl env o.dst (.agg us.toArray)) l (wpList P ops Q rest)) (hg:Ci ops env o=some true:=by kernel_rfl) (hd:inB n0 o.dst=true:=by kernel_rfl) (hx:BL env x=some p:=by kernel_rfl) (hT:(match P.underlying T with | some (.struct _)=>true | some (.array _ _)=>true | _=>false)=true:=by kernel_rfl) (hs:(P.info? T).map (·.size)=some us.length:=by kernel_rfl):K ds A n0 env l (wpList P ops Q (o :: rest)):=Bjs ho hg hd hx hT hs hE hm hk
theorem KT {α:Type} {E:α->List Value} {xs:List α} {a:α} {ix:Int} {kd:IntKind} {h:N} {A':AD} {c:Nat} {T TS:TypeId} {sz:Nat} {x y:Operand} (hE:EA E sz) (ho:o.op=.indexAddr TS x y) (hi:B5 xs ix=some a) (hR:AZ E sz h (.slice A' xs.length c) xs) (hk:∀ p,Elem h p (E a)->Place A' (ix.toNat * sz) p->K ds A n0 (Bl env o.dst p) l (BU P ops Q S tail pl)) (hg:Ci ops env o=some true:=by kernel_rfl) (hd:inB n0 o.dst=true:=by kernel_rfl) (hx:BL env x=some (.slice A' xs.length c):=by kernel_rfl) (hy:BL env y=some (.int kd ix):=by kernel_rfl) (h1:P.underlying TS=some (.slice T):=by kernel_rfl) (h2:(P.info? T).map (·.size)=some sz:=by kernel_rfl):K ds A n0 env l (BU P ops Q S tail ((o,0) :: pl)):=Bke hE ho hg hd hx hy h1 h2 hi hR hk
theorem Nc {h:N} {p:Value} {us:List Value} {T:TypeId} {k off k0:Nat} {A':AD} {x:Operand} (ho:o.op=.fieldAddr T x k) (hE:Elem h p us) (hp:Place A' k0 p) (hk:∀ p',Elem h p' (us.drop off)->Place A' (k0+off) p'->K ds A n0 (Bl env o.dst p') l (BU P ops Q S tail pl)) (hg:Ci ops env o=some true:=by kernel_rfl) (hd:inB n0 o.dst=true:=by kernel_rfl) (hx:BL env x=some p:=by kernel_rfl) (hT:(match P.underlying T with | some (.struct fs)=>(match fs[k]? with | some f=>(match (P.info? f.type).map (·.size) with | some (s+1)=>some f.offset | _=>none) | none=>none) | _=>none)=some off:=by kernel_rfl):K ds A n0 env l (BU P ops Q S tail ((o,0) :: pl)):=Bkd ho hg hd hx hT hE hp hk
theorem IC {h:N} {p:Value} {us:List Value} {T:TypeId} {x:Operand} (ho:o.op=.load T x) (hE:Elem h p us) (hm:∀ w,S w->h.On w) (hk:K ds A n0 (Bl env o.dst (.agg us.toArray)) l (BU P ops Q S tail pl)) (hg:Ci ops env o=some true:=by kernel_rfl) (hd:inB n0 o.dst=true:=by kernel_rfl) (hx:BL env x=some p:=by kernel_rfl) (hT:(match P.underlying T with | some (.struct _)=>true | some (.array _ _)=>true | _=>false)=true:=by kernel_rfl) (hs:(P.info? T).map (·.size)=some us.length:=by kernel_rfl):K ds A n0 env l (BU P ops Q S tail ((o,3) :: pl)):=Bki ho hg hd hx hT hs hE hm hk
theorem Mr {α:Type} {E:α->List Value} {xs ys xs':List α} {T TS U:TypeId} {sz bytes:Nat} {i:TypeInfo} {z:Value} {h:N} {v y:Value} {s x:Operand} (hE:EA E sz) (ho:o.op=.call { callee:=.builtin .append,args:=#[s,x],argTypes:=#[TS,U] }) (he:FG P TS T sz bytes i z) (hap:apd bytes xs ys=some xs') (hO:AL E T sz h v xs) (hsrc:∀ w,Sat (h :: l) w->Src P sz w y ys.length (ys.flatMap E)) (hk:∀ h' a' c',AL E T sz h' (.slice a' xs'.length c') xs'->K ds A n0 (Bl env o.dst (.slice a' xs'.length c')) (h' :: l) (wpList P ops Q rest)) (hg:Ci ops env o=some true:=by kernel_rfl) (hd:inB n0 o.dst=true:=by kernel_rfl) (hs:BL env s=some v:=by kernel_rfl) (hx:BL env x=some y:=by kernel_rfl) (hu:KZ P U=true:=by kernel_rfl):K ds A n0 env (h :: l) (wpList P ops Q (o :: rest)):=Bjj hE ho he hg hd hs hx hu hap hO hsrc hk
theorem KU {xs:List α} {a:α} {ix:Int} {kd:IntKind} {h:N} {A':AD} {c:Nat} {T TS:TypeId} {x y:Operand} (ho:o.op=.indexAddr TS x y) (hi:B5 xs ix=some a) (hR:RdR R h (.slice A' xs.length c) xs) (hk:∀ p us,R.rd a h us->Elem h p us->Place A' (ix.toNat * R.sz) p->K ds A n0 (Bl env o.dst p) l (BU P ops Q S tail pl)) (hg:Ci ops env o=some true:=by kernel_rfl) (hd:inB n0 o.dst=true:=by kernel_rfl) (hx:BL env x=some (.slice A' xs.length c):=by kernel_rfl) (hy:BL env y=some (.int kd ix):=by kernel_rfl) (h1:P.underlying TS=some (.slice T):=by kernel_rfl) (h2:(P.info? T).map (·.size)=some R.sz:=by kernel_rfl):K ds A n0 env l (BU P ops Q S tail ((o,0) :: pl)):=Bkg ho hg hd hx hy h1 h2 hi hR hk
end
end
end Go.Proofs.YteccladehmaglaaGreatDoor
