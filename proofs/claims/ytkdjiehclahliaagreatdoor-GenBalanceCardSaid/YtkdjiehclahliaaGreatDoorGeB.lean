/- Texts of mine for genBalance_card, part 2. -/
import Derived.Shelf.Strings.Builder1
import Derived.Shelf.Small.Utf8
import Derived.Shelf.Small.Strs
import Derived.Shelf.Small.Wraps
import Derived.Shelf.Strings.BuilderF
import Derived.Shelf.Strings.BuilderK
import Derived.Shelf.Strings.Search1
import Derived.Shelf.Strings.Search2
import Derived.Shelf.Strings.Search3
import Derived.Shelf.LaysM
import Derived.Shelf.Strings.Shaped
import Derived.Shelf.Strings.Prefix
import Derived.Shelf.Strings.Fields
import Derived.Shelf.Strings.SplitShaped
import Derived.Shelf.Unicode.Latin
import Derived.Shelf.Unicode.Decode
import Derived.Shelf.Bits.Mul64
import Derived.Shelf.Unicode.DecodeSlow
import Derived.Shelf.Unicode.DecodeAny
import Derived.Shelf.Unicode.Is16White
import Derived.Shelf.Unicode.IsSpaceAny
import Derived.Shelf.Unicode.Is16WhiteD
import Derived.Shelf.Unicode.IsSpaceAnyD
import Derived.Shelf.Strings.FieldsAny
import Derived.Shelf.Strings.FieldsFuncAny
import Derived.Shelf.Unicode.Is16Any
import Derived.Shelf.Unicode.Is32Any
import Derived.Shelf.Unicode.ExclAny
import Derived.Shelf.Strings.BuilderCap
import Derived.Shelf.Slices.Turned
import Derived.Test.YtkdjiehclahliaaGreatDoorProg
import Derived.Laws.MathBits
import Derived.Lib.IndexMore
import Derived.Test.YtkdjiehclahliaaGreatDoorGeA
set_option linter.unusedSimpArgs false
set_option linter.unusedVariables false
set_option linter.unusedSectionVars false
namespace Go.Proofs.YtkdjiehclahliaaGreatDoor
set_option maxRecDepth 100000
section
open Go Go.RowKit Lx
theorem Mo {k:IntKind} {a b:Int} (h:a=b):Ending.returned (.int k a)=.returned (.int k b):=by rw [h]
def Qc (f:FuncId) (p:Nat→Bool):Prop :=
 (∀ args w,(callFunc f args).run Tryz.prog w=.ok (.enter f args) w) ∧
 ∀ (r:Nat) (w:World),r≤1114111→Calls Tryz.prog f #[.int .i32 r] w fun e w'=>e=.returned (.bool (p r))∧w=w'
theorem Sv (l:Bs):(CC l).1≤1114111:=by
 have hb:∀ k,(l.getD k 0).toNat < 256:=fun k=>(l.getD k 0).toNat_lt
 have h0:=hb 0;have h1:=hb 1;have h2:=hb 2;have h3:=hb 3
 unfold CC
 simp only []
 (repeat' split) <;> simp_all [Utf8.valid] <;> omega
set_option maxHeartbeats 1000000 in
theorem run_any (f:FuncId) (p:Nat→Bool) (sb at_:Nat) (src:ByteArray) (w:World) (hf:Qc f p)
  (hb:sb < w.heap.size) (c0:w.cell? ⟨sb,0,none⟩=some (.string src)) (c1:w.cell? ⟨sb,1,none⟩=some (.int .i64 at_)) (hat:at_≤src.size) (hsz:src.size≤1000000) :
  Calls Tryz.prog 53 #[.pointer (some ⟨sb,0,none⟩),.func (.func f) #[] #[]] w
   fun e w'=>e=.returned (.int .i64 (C1 p ((bs src).drop at_)))∧Below w.heap.size w w':=by
 have h1:=hf.1
 have H2:=Lib.hid hf.2
 clear hf
 have hat':(at_:Int)≤src.size:=by omega
 go_enter Tryz.func53,Tryz.ntmps53
 go_wp2
 refine Kz [(0,0),(1,0),(2,0),(3,3),(4,0),(5,0),(6,0),(7,3)] (fun w'=>w'.cell? ⟨sb,0,none⟩=some (.string src)∧w'.cell? ⟨sb,1,none⟩=some (.int .i64 at_)) (by kernel_rfl) (by kernel_rfl) (fun _ _ d _ _ h=>by cases d <;> exact h) (by refine ⟨?_,?_⟩ <;> go_simp) ?_
 simp only [EN,List.filterMap_cons,List.filterMap_nil,List.getElem?_toArray,List.getElem?_cons_zero,List.getElem?_cons_succ,Option.map_some,List.drop_succ_cons,List.drop_zero,AD,Be]
 iterate 3 (refine EC (by rfl) (fun wq=>by go_simp;with_reducible rfl) ?_;simp only [Act.put,List.setIfInBounds_toArray,List.set_cons_zero,List.set_cons_succ])
 iterate 1 (refine GD (by rfl) (fun wq hq=>by obtain ⟨hq0,hq1⟩:=hq;go_simp;with_reducible rfl) ?_;simp only [Act.put,List.setIfInBounds_toArray,List.set_cons_zero,List.set_cons_succ])
 iterate 3 (refine EC (by rfl) (fun wq=>by go_simp;with_reducible rfl) ?_;simp only [Act.put,List.setIfInBounds_toArray,List.set_cons_zero,List.set_cons_succ])
 iterate 1 (refine GD (by rfl) (fun wq hq=>by obtain ⟨hq0,hq1⟩:=hq;go_simp;with_reducible rfl) ?_;simp only [Act.put,List.setIfInBounds_toArray,List.set_cons_zero,List.set_cons_succ])
 refine KO ?_
 go_wp2
 have HL:=Lib.hid (LD p (bs (src.extract at_ src.size)))
 have hss:(src.extract at_ src.size).size≤1000000:=by rw [← Dg,Ir,Cv,Dg];omega
 have Hss:=Lib.hid (show bs (src.extract at_ src.size)=(bs src).drop at_ from Ir src at_)
 have Hlen:=Lib.hid (show (src.extract at_ src.size).size=src.size - at_ by rw [← Dg,Ir,Cv,Dg])
 generalize src.extract at_ src.size=suf at *
 go_loopw [17] (fun _ wr=>∃ pos,pos≤suf.size∧Hid (C1 p (bs suf)=pos+C1 p ((bs suf).drop pos))∧wr=w.drew.iter suf pos) (fun _ wr=>suf.size - wr.iterPos w.heap.size)
 case atStart=>exact ⟨0,Nat.zero_le _,by unfold Hid;simp,rfl⟩
 case round =>
  obtain ⟨pos,hpos,hrun,rfl⟩:=hrel
  by_cases hlt:pos < suf.size
  ·have hnext:=run_next_any (P:=Tryz.prog) w.drew suf pos
   have hd:=Sv ((bs suf).drop pos)
   have HD:=Lib.hid (decode_eq suf pos)
   have hnx:∀ ty,(Instr.next (.pointer (some ⟨w.heap.size,0,none⟩)) true ty).run Tryz.prog (w.drew.iter suf pos)=.ok (.tuple #[.bool true,.int .i64 pos,.int .i32 (CC ((bs suf).drop pos)).1]) (w.drew.iter suf (pos+(CC ((bs suf).drop pos)).2)):=fun ty=>by
    have:=hnext ty hlt
    rw [HD.out] at this
    exact this
   clear hnext
   have hne:(bs suf).drop pos≠[]:=fun h=>by
    have:=congrArg List.length h
    rw [Cv,Dg] at this
    simp at this;omega
   have HS:=Lib.hid (Xc p ((bs suf).drop pos) hne)
   have HW:=Lib.hid (KA ((bs suf).drop pos))
   have hlen:((bs suf).drop pos).length=suf.size - pos:=by rw [Cv,Dg]
   have HLL:=Lib.hid hlen
   clear hlen
   have hne':=Lib.hid hne
   clear hne
   generalize hr:(CC ((bs suf).drop pos)).1=r at *
   generalize hk:(CC ((bs suf).drop pos)).2=k at *
   have hcase:p r=true∨p r=false:=by cases p r <;> simp
   have HR:=Lib.hid hr
   have HK:=Lib.hid hk
   clear hr hk
   rcases hcase with hp | hp
   ·have HP:=Lib.hid hp
    clear hp
    go_wp2_with fail
    refine (H2.out r _ hd).mono ?_
    rintro e w' ⟨rfl,rfl⟩
    rw [HP.out]
    go_wp2_with fail
    go_roundw
    case rel =>
     refine ⟨pos+k,?_,?_,rfl⟩
     ·have:=(HW.out.2.2 hne'.out);rw [HLL.out] at this;omega
     ·unfold Hid at *
      rw [hrun,HS,if_pos HP,List.drop_drop];omega
    case measure =>
     have hk1:=HW.out.1
     have e:∀ q,(w.drew.iter suf q).iterPos w.heap.size=q:=fun q=>World.iterPos_iter w.drew suf q
     simp only [e]
     omega
   ·have HP:=Lib.hid hp
    clear hp
    go_wp2_with fail
    refine (H2.out r _ hd).mono ?_
    rintro e w' ⟨rfl,rfl⟩
    rw [HP.out]
    go_wp2_with fail
    go_ret
    have hp':=HP.out
    refine ⟨Mo ?_,?_⟩
    ·have h:=hrun
     unfold Hid at *
     rw [HS,hp',Hss] at h
     simp only [Bool.false_eq_true,if_false,Nat.add_zero] at h
     rw [h]
    ·exact ((Below.refl _ w).drew).alloc (Nat.le_refl _) _
  ·have hnx:=fun ty=>run_next_end (P:=Tryz.prog) w.drew suf pos ty hlt
   have YJ:∀ ty,(Instr.next (.pointer (some ⟨w.heap.size,0,none⟩)) true ty).run Tryz.prog (w.drew.iter suf pos)=.ok (.tuple #[.bool false]) (w.drew.iter suf pos):=hnx
   clear hnx
   have d0:(w.drew.iter suf pos).cell? ⟨sb,0,none⟩=some (.string src):=(World.cell?_alloc_lt w.drew _ ⟨sb,0,none⟩ hb).trans c0
   have d1:(w.drew.iter suf pos).cell? ⟨sb,1,none⟩=some (.int .i64 at_):=(World.cell?_alloc_lt w.drew _ ⟨sb,1,none⟩ hb).trans c1
   have HBW:=Lib.hid (((Below.refl w.heap.size w).drew).alloc (Nat.le_refl _) (.stringIter suf pos))
   clear c0 c1
   go_wp2
   refine Kz [(0,0),(1,0),(2,0),(3,3),(4,0),(5,0),(6,0),(7,0),(8,3)] (fun w'=>w'.cell? ⟨sb,0,none⟩=some (.string src)∧w'.cell? ⟨sb,1,none⟩=some (.int .i64 at_)) (by kernel_rfl) (by kernel_rfl) (fun _ _ d _ _ h=>by cases d <;> exact h) (by refine ⟨?_,?_⟩ <;> go_simp) ?_
   simp only [EN,List.filterMap_cons,List.filterMap_nil,List.getElem?_toArray,List.getElem?_cons_zero,List.getElem?_cons_succ,Option.map_some,List.drop_succ_cons,List.drop_zero,AD,Be]
   iterate 3 (refine EC (by rfl) (fun wq=>by go_simp;with_reducible rfl) ?_;simp only [Act.put,List.setIfInBounds_toArray,List.set_cons_zero,List.set_cons_succ])
   iterate 1 (refine GD (by rfl) (fun wq hq=>by obtain ⟨hq0,hq1⟩:=hq;go_simp;with_reducible rfl) ?_;simp only [Act.put,List.setIfInBounds_toArray,List.set_cons_zero,List.set_cons_succ])
   iterate 4 (refine EC (by rfl) (fun wq=>by go_simp;with_reducible rfl) ?_;simp only [Act.put,List.setIfInBounds_toArray,List.set_cons_zero,List.set_cons_succ])
   iterate 1 (refine GD (by rfl) (fun wq hq=>by obtain ⟨hq0,hq1⟩:=hq;go_simp;with_reducible rfl) ?_;simp only [Act.put,List.setIfInBounds_toArray,List.set_cons_zero,List.set_cons_succ])
   refine KO ?_
   go_wp2
   go_ret
   refine ⟨Mo ?_,HBW.out.drew⟩
   have h:=hrun
   have hp:pos=suf.size:=by omega
   unfold Hid at h Hss Hlen
   rw [List.drop_of_length_le (by rw [Dg];omega),Aec,Hss] at h
   rw [h]
   omega
end
end Go.Proofs.YtkdjiehclahliaaGreatDoor
namespace Go.Proofs
open Go.Shelf
def Tryz.lays169_ren:Go.Shelf.Ren:=⟨fun | 169=>101 | n=>n,fun | 70=>136 | 9=>9 | 0=>0 | 72=>139 | 37=>137 | 127=>156 | 3=>3 | 5=>5 | n=>n,fun | n=>n⟩
theorem Tryz.lays169:Go.Proofs.Lays.n169 Tryz.prog Tryz.lays169_ren:={
 mixed:=by kernel_rfl
 f169:=Tryz.func101.trans (congrArg some (by kernel_rfl))
 t0:=Tryz.underlying0
 a0:=Tryz.isAgg0
 z0:=Tryz.sizeOf0
 v0:=Tryz.zeroValue0
 t3:=Tryz.underlying3
 a3:=Tryz.isAgg3
 z3:=Tryz.sizeOf3
 v3:=Tryz.zeroValue3
 t9:=Tryz.underlying9
 a9:=Tryz.isAgg9
 z9:=Tryz.sizeOf9
 v9:=Tryz.zeroValue9
 t37:=Tryz.underlying137
 a37:=Tryz.isAgg137
 z37:=Tryz.sizeOf137
 v37:=Tryz.zeroValue137
 t70:=Tryz.underlying136
 a70:=Tryz.isAgg136
 z70:=Tryz.sizeOf136
 v70:=Tryz.zeroValue136
 t72:=Tryz.underlying139
 a72:=Tryz.isAgg139
 z72:=Tryz.sizeOf139
 v72:=Tryz.zeroValue139
 t127:=Tryz.underlying156
 a127:=Tryz.isAgg156
 z127:=Tryz.sizeOf156
 v127:=Tryz.zeroValue156 }
theorem Tryz.Builder_Extra_169:Builder.Extra Tryz.prog Tryz.lays169_ren:={
 sizeBuilder:=by kernel_rfl
 liesBuilder:=by kernel_rfl
 t5:=Tryz.underlying5
 a5:=Tryz.isAgg5
 z5:=Tryz.sizeOf5
 v5:=Tryz.zeroValue5
 infoByte:=by kernel_rfl
 cellsByte:=by kernel_rfl
 sizeByte:=by kernel_rfl
 neB5:=by decide }
open Go.RowKit in
theorem Tryz.Builder_String_any (B b:Nat) (l:List UInt8) (w:World) (h:Lib.IsBuilder 139 5 B b (Lib.byteCells l) w) (hBw:B≤w.heap.size) :
  Calls Tryz.prog 101 #[.pointer (some ⟨b,0,none⟩)] w fun e w'=>e=.returned (.string ⟨l.toArray⟩)∧Below B w w':=Any.Builder_String_any Tryz.lays169 Tryz.Builder_Extra_169 B b l w h hBw
def Tryz.Bjq:Go.Shelf.Ren:=⟨fun | 119=>116 | n=>n,fun | 21=>21 | 4=>4 | n=>n,fun | n=>n⟩
theorem Tryz.lays119:Go.Proofs.Lays.n119 Tryz.prog Tryz.Bjq:={
 mixed:=by kernel_rfl
 f119:=Tryz.func116.trans (congrArg some (by kernel_rfl))
 t4:=Tryz.underlying4
 a4:=Tryz.isAgg4
 z4:=Tryz.sizeOf4
 v4:=Tryz.zeroValue4
 t21:=Tryz.underlying21
 a21:=Tryz.isAgg21
 z21:=Tryz.sizeOf21
 v21:=Tryz.zeroValue21 }
theorem Tryz.utf8_ValidRune (r:Int) (w:World) :
  Calls Tryz.prog 116 #[.int .i32 r] w fun e w'=>e=.returned (.bool (Lib.validRune r))∧w'=w:=Any.utf8_ValidRune Tryz.lays119 r w
def Tryz.Bjr:Go.Shelf.Ren:=⟨fun | 137=>132 | 217=>138 | 266=>146 | n=>n,fun | 9=>9 | 5=>5 | 3=>3 | n=>n,fun | n=>n⟩
theorem Tryz.lays137:Go.Proofs.Lays.n137 Tryz.prog Tryz.Bjr:={
 mixed:=by kernel_rfl
 f137:=Tryz.func132.trans (congrArg some (by kernel_rfl))
 f217:=Tryz.func138.trans (congrArg some (by kernel_rfl))
 f266:=Tryz.func146.trans (congrArg some (by kernel_rfl))
 t3:=Tryz.underlying3
 a3:=Tryz.isAgg3
 z3:=Tryz.sizeOf3
 v3:=Tryz.zeroValue3
 t5:=Tryz.underlying5
 a5:=Tryz.isAgg5
 z5:=Tryz.sizeOf5
 v5:=Tryz.zeroValue5
 t9:=Tryz.underlying9
 a9:=Tryz.isAgg9
 z9:=Tryz.sizeOf9
 v9:=Tryz.zeroValue9 }
open Go.RowKit in
theorem Tryz.strings_IndexByte (s:ByteArray) (c:Int) (w:World) :
  Calls Tryz.prog 132 #[.string s,.int .u8 c] w fun e w'=>e=.returned (.int .i64 (Lib.indexByte s.data.toList c.toNat.toUInt8))∧w'=w:=Any.strings_IndexByte Tryz.lays137 s c w
def Tryz.Bjo:Go.Shelf.Ren:=⟨fun | 103=>142 | 210=>148 | 206=>93 | n=>n,fun | 9=>9 | 4=>4 | 24=>193 | 3=>3 | n=>n,fun | n=>n⟩
theorem Tryz.Bjn:Go.Proofs.Lays.n103 Tryz.prog Tryz.Bjo:={
 mixed:=by kernel_rfl
 f103:=Tryz.func142.trans (congrArg some (by kernel_rfl))
 f206:=Tryz.func93.trans (congrArg some (by kernel_rfl))
 f210:=Tryz.func148.trans (congrArg some (by kernel_rfl))
 t3:=Tryz.underlying3
 a3:=Tryz.isAgg3
 z3:=Tryz.sizeOf3
 v3:=Tryz.zeroValue3
 t4:=Tryz.underlying4
 a4:=Tryz.isAgg4
 z4:=Tryz.sizeOf4
 v4:=Tryz.zeroValue4
 t9:=Tryz.underlying9
 a9:=Tryz.isAgg9
 z9:=Tryz.sizeOf9
 v9:=Tryz.zeroValue9
 t24:=Tryz.underlying193
 a24:=Tryz.isAgg193
 z24:=Tryz.sizeOf193
 v24:=Tryz.zeroValue193 }
open Go.RowKit in
theorem Tryz.strings_CutPrefix (s p:ByteArray) (w:World) :
  Calls Tryz.prog 142 #[.string s,.string p] w fun e w'=>e=.returned (.tuple #[.string ⟨(Lib.trimPrefix s.data.toList p.data.toList).toArray⟩,.bool (Lib.hasPrefix s.data.toList p.data.toList)])∧w'=w:=Any.strings_CutPrefix Tryz.Bjn s p w
def Tryz.Bjs:Go.Shelf.Ren:=⟨fun | 144=>97 | 143=>117 | 219=>129 | 217=>138 | 225=>139 | 224=>140 | 267=>141 | 266=>146 | 314=>147 | n=>n,fun | 9=>9 | 4=>4 | 3=>3 | 5=>5 | 46=>150 | 146=>201 | 51=>170 | n=>n,fun | 1=>4 | n=>n⟩
theorem Tryz.lays144:Go.Proofs.Lays.n144 Tryz.prog Tryz.Bjs:={
 mixed:=by kernel_rfl
 f143:=Tryz.func117.trans (congrArg some (by kernel_rfl))
 f144:=Tryz.func97.trans (congrArg some (by kernel_rfl))
 f217:=Tryz.func138.trans (congrArg some (by kernel_rfl))
 f219:=Tryz.func129.trans (congrArg some (by kernel_rfl))
 f224:=Tryz.func140.trans (congrArg some (by kernel_rfl))
 f225:=Tryz.func139.trans (congrArg some (by kernel_rfl))
 f266:=Tryz.func146.trans (congrArg some (by kernel_rfl))
 f267:=Tryz.func141.trans (congrArg some (by kernel_rfl))
 f314:=Tryz.func147.trans (congrArg some (by kernel_rfl))
 t3:=Tryz.underlying3
 a3:=Tryz.isAgg3
 z3:=Tryz.sizeOf3
 v3:=Tryz.zeroValue3
 t4:=Tryz.underlying4
 a4:=Tryz.isAgg4
 z4:=Tryz.sizeOf4
 v4:=Tryz.zeroValue4
 t5:=Tryz.underlying5
 a5:=Tryz.isAgg5
 z5:=Tryz.sizeOf5
 v5:=Tryz.zeroValue5
 t9:=Tryz.underlying9
 a9:=Tryz.isAgg9
 z9:=Tryz.sizeOf9
 v9:=Tryz.zeroValue9
 t46:=Tryz.underlying150
 a46:=Tryz.isAgg150
 z46:=Tryz.sizeOf150
 v46:=Tryz.zeroValue150
 t51:=Tryz.underlying170
 a51:=Tryz.isAgg170
 z51:=Tryz.sizeOf170
 v51:=Tryz.zeroValue170
 t146:=Tryz.underlying201
 a146:=Tryz.isAgg201
 z146:=Tryz.sizeOf201
 v146:=Tryz.zeroValue201
 g1:=by kernel_rfl }
open Go.RowKit Go.Lib in
theorem Tryz.strings_Contains (s sub:ByteArray) (m:Int) (w:World) (hs:s.size < 4294967281) (hm:w.cell? ⟨4,0,none⟩=some (.int .i64 m)) :
  Calls Tryz.prog 97 #[.string s,.string sub] w fun e w'=>e=.returned (.bool (Lib.contains s.data.toList sub.data.toList))∧w'=w:=Any.strings_Contains Tryz.lays144 s sub m w hs hm
def Tryz.Bjv:Go.Shelf.Ren:=⟨fun | 144=>97 | 143=>117 | 219=>129 | 217=>138 | 225=>139 | 224=>140 | 267=>141 | 266=>146 | 314=>147 | n=>n,fun | 9=>9 | 4=>4 | 3=>3 | 5=>5 | 46=>150 | 146=>201 | 51=>170 | n=>n,fun | 1=>4 | n=>n⟩
theorem Tryz.laysM144:Go.Proofs.LaysM.n144 Tryz.prog Tryz.Bjv:={
 mixed:=by kernel_rfl
 f143:=Tryz.func117.trans (congrArg some (by kernel_rfl))
 f144:=Tryz.func97.trans (congrArg some (by kernel_rfl))
 f217:=Tryz.func138.trans (congrArg some (by kernel_rfl))
 f219:=Tryz.func129.trans (congrArg some (by kernel_rfl))
 f224:=Tryz.func140.trans (congrArg some (by kernel_rfl))
 f225:=Tryz.func139.trans (congrArg some (by kernel_rfl))
 f266:=Tryz.func146.trans (congrArg some (by kernel_rfl))
 f267:=Tryz.func141.trans (congrArg some (by kernel_rfl))
 f314:=Tryz.func147.trans (congrArg some (by kernel_rfl))
 t3:=Tryz.underlying3
 a3:=Tryz.isAgg3
 z3:=Tryz.sizeOf3
 v3:=Tryz.zeroValue3
 t4:=Tryz.underlying4
 a4:=Tryz.isAgg4
 z4:=Tryz.sizeOf4
 v4:=Tryz.zeroValue4
 t5:=Tryz.underlying5
 a5:=Tryz.isAgg5
 z5:=Tryz.sizeOf5
 v5:=Tryz.zeroValue5
 t9:=Tryz.underlying9
 a9:=Tryz.isAgg9
 z9:=Tryz.sizeOf9
 v9:=Tryz.zeroValue9
 t46:=Tryz.underlying150
 a46:=Tryz.isAgg150
 z46:=Tryz.sizeOf150
 v46:=Tryz.zeroValue150
 t51:=Tryz.underlying170
 a51:=Tryz.isAgg170
 z51:=Tryz.sizeOf170
 v51:=Tryz.zeroValue170
 t146:=Tryz.underlying201
 a146:=Tryz.isAgg201
 z146:=Tryz.sizeOf201
 v146:=Tryz.zeroValue201
 g1:=by kernel_rfl
 i3:=by kernel_rfl
 i4:=by kernel_rfl
 i5:=by kernel_rfl
 i9:=by kernel_rfl
 i46:=by kernel_rfl
 i51:=by kernel_rfl
 i146:=by kernel_rfl
 m1:=by kernel_rfl
 s1_3:=fun w h=>Go.Proofs.cell_of_shapedOpen_int (zero:=#[.int .i64 0]) (t:=3) h (of_decide_eq_true (by kernel_rfl)) (by kernel_rfl) rfl (by kernel_rfl) (by kernel_rfl) Tryz.underlying3 }
def Tryz.lays99_ren:Go.Shelf.Ren:=⟨fun | 99=>56 | 206=>93 | n=>n,fun | 9=>9 | 4=>4 | 3=>3 | n=>n,fun | n=>n⟩
theorem Tryz.lays99:Go.Proofs.Lays.n99 Tryz.prog Tryz.lays99_ren:={
 mixed:=by kernel_rfl
 f99:=Tryz.func56.trans (congrArg some (by kernel_rfl))
 f206:=Tryz.func93.trans (congrArg some (by kernel_rfl))
 t3:=Tryz.underlying3
 a3:=Tryz.isAgg3
 z3:=Tryz.sizeOf3
 v3:=Tryz.zeroValue3
 t4:=Tryz.underlying4
 a4:=Tryz.isAgg4
 z4:=Tryz.sizeOf4
 v4:=Tryz.zeroValue4
 t9:=Tryz.underlying9
 a9:=Tryz.isAgg9
 z9:=Tryz.sizeOf9
 v9:=Tryz.zeroValue9 }
open Go.RowKit Go.Lib in
theorem Tryz.strings_HasPrefix (s p:ByteArray) (w:World) :
  Calls Tryz.prog 56 #[.string s,.string p] w fun e w'=>e=.returned (.bool (Lib.hasPrefix s.data.toList p.data.toList))∧w'=w:=Any.strings_HasPrefix Tryz.lays99 s p w
def Tryz.lays157_ren:Go.Shelf.Ren:=⟨fun | 157=>91 | 229=>114 | 199=>115 | 261=>128 | 311=>136 | 312=>137 | n=>n,fun | 9=>9 | 31=>23 | 3=>3 | 5=>5 | 4=>4 | 119=>148 | 0=>0 | 40=>118 | 152=>167 | 21=>21 | 154=>169 | 51=>170 | 141=>172 | 196=>184 | 193=>181 | 198=>187 | 49=>185 | 194=>182 | 201=>190 | 226=>199 | 46=>150 | 227=>200 | n=>n,fun | 0=>0 | 6=>3 | n=>n⟩
theorem Tryz.lays157:Go.Proofs.Lays.n157 Tryz.prog Tryz.lays157_ren:={
 mixed:=by kernel_rfl
 f157:=Tryz.func91.trans (congrArg some (by kernel_rfl))
 f199:=Tryz.func115.trans (congrArg some (by kernel_rfl))
 f229:=Tryz.func114.trans (congrArg some (by kernel_rfl))
 f261:=Tryz.func128.trans (congrArg some (by kernel_rfl))
 f311:=Tryz.func136.trans (congrArg some (by kernel_rfl))
 f312:=Tryz.func137.trans (congrArg some (by kernel_rfl))
 t0:=Tryz.underlying0
 a0:=Tryz.isAgg0
 z0:=Tryz.sizeOf0
 v0:=Tryz.zeroValue0
 t3:=Tryz.underlying3
 a3:=Tryz.isAgg3
 z3:=Tryz.sizeOf3
 v3:=Tryz.zeroValue3
 t4:=Tryz.underlying4
 a4:=Tryz.isAgg4
 z4:=Tryz.sizeOf4
 v4:=Tryz.zeroValue4
 t5:=Tryz.underlying5
 a5:=Tryz.isAgg5
 z5:=Tryz.sizeOf5
 v5:=Tryz.zeroValue5
 t9:=Tryz.underlying9
 a9:=Tryz.isAgg9
 z9:=Tryz.sizeOf9
 v9:=Tryz.zeroValue9
 t21:=Tryz.underlying21
 a21:=Tryz.isAgg21
 z21:=Tryz.sizeOf21
 v21:=Tryz.zeroValue21
 t31:=Tryz.underlying23
 a31:=Tryz.isAgg23
 z31:=Tryz.sizeOf23
 v31:=Tryz.zeroValue23
 t40:=Tryz.underlying118
 a40:=Tryz.isAgg118
 z40:=Tryz.sizeOf118
 v40:=Tryz.zeroValue118
 t46:=Tryz.underlying150
 a46:=Tryz.isAgg150
 z46:=Tryz.sizeOf150
 v46:=Tryz.zeroValue150
 t49:=Tryz.underlying185
 a49:=Tryz.isAgg185
 z49:=Tryz.sizeOf185
 v49:=Tryz.zeroValue185
 t51:=Tryz.underlying170
 a51:=Tryz.isAgg170
 z51:=Tryz.sizeOf170
 v51:=Tryz.zeroValue170
 t119:=Tryz.underlying148
 a119:=Tryz.isAgg148
 z119:=Tryz.sizeOf148
 t141:=Tryz.underlying172
 a141:=Tryz.isAgg172
 z141:=Tryz.sizeOf172
 v141:=Tryz.zeroValue172
 t152:=Tryz.underlying167
 a152:=Tryz.isAgg167
 z152:=Tryz.sizeOf167
 v152:=Tryz.zeroValue167
 t154:=Tryz.underlying169
 a154:=Tryz.isAgg169
 z154:=Tryz.sizeOf169
 v154:=Tryz.zeroValue169
 t193:=Tryz.underlying181
 a193:=Tryz.isAgg181
 z193:=Tryz.sizeOf181
 v193:=Tryz.zeroValue181
 t194:=Tryz.underlying182
 a194:=Tryz.isAgg182
 z194:=Tryz.sizeOf182
 v194:=Tryz.zeroValue182
 t196:=Tryz.underlying184
 a196:=Tryz.isAgg184
 z196:=Tryz.sizeOf184
 v196:=Tryz.zeroValue184
 t198:=Tryz.underlying187
 a198:=Tryz.isAgg187
 z198:=Tryz.sizeOf187
 v198:=Tryz.zeroValue187
 t201:=Tryz.underlying190
 a201:=Tryz.isAgg190
 z201:=Tryz.sizeOf190
 v201:=Tryz.zeroValue190
 t226:=Tryz.underlying199
 a226:=Tryz.isAgg199
 z226:=Tryz.sizeOf199
 v226:=Tryz.zeroValue199
 t227:=Tryz.underlying200
 a227:=Tryz.isAgg200
 z227:=Tryz.sizeOf200
 v227:=Tryz.zeroValue200
 g0:=by kernel_rfl
 g6:=by kernel_rfl }
open Go.RowKit Go.Lib in
theorem Tryz.strings_Fields (s:ByteArray) (w:World) (hs:s.size < 4294967281) (hascii:∀ (j:Nat) b,s.data.toList[j]? = some b→b.toNat < 128) (htab:Lib.TabIs Tryz.prog w "strings.asciiSpace" .u8 Lib.asciiSpaceTab) :
  Calls Tryz.prog 91 #[.string s] w fun e w' =>
   e=.returned (.slice (some ⟨w.heap.size,0,none⟩) (Lib.fields s.data.toList).length (Lib.fields s.data.toList).length)∧w'=w.alloc (.cells ((Lib.fields s.data.toList).map fun l=>Value.string ⟨l.toArray⟩).toArray 9):=Any.strings_Fields Tryz.lays157 (by kernel_rfl) (by kernel_rfl) s w hs hascii htab
def Tryz.lays197_ren:Go.Shelf.Ren:=⟨fun | 197=>55 | 260=>92 | n=>n,fun | 9=>9 | 21=>21 | 3=>3 | 4=>4 | 5=>5 | 105=>119 | 119=>148 | 0=>0 | 46=>150 | 139=>153 | 138=>152 | n=>n,fun | 3=>1 | 4=>2 | n=>n⟩
theorem Tryz.lays197:Go.Proofs.Lays.n197 Tryz.prog Tryz.lays197_ren:={
 mixed:=by kernel_rfl
 f197:=Tryz.func55.trans (congrArg some (by kernel_rfl))
 f260:=Tryz.func92.trans (congrArg some (by kernel_rfl))
 t0:=Tryz.underlying0
 a0:=Tryz.isAgg0
 z0:=Tryz.sizeOf0
 v0:=Tryz.zeroValue0
 t3:=Tryz.underlying3
 a3:=Tryz.isAgg3
 z3:=Tryz.sizeOf3
 v3:=Tryz.zeroValue3
 t4:=Tryz.underlying4
 a4:=Tryz.isAgg4
 z4:=Tryz.sizeOf4
 v4:=Tryz.zeroValue4
 t5:=Tryz.underlying5
 a5:=Tryz.isAgg5
 z5:=Tryz.sizeOf5
 v5:=Tryz.zeroValue5
 t9:=Tryz.underlying9
 a9:=Tryz.isAgg9
 z9:=Tryz.sizeOf9
 v9:=Tryz.zeroValue9
 t21:=Tryz.underlying21
 a21:=Tryz.isAgg21
 z21:=Tryz.sizeOf21
 v21:=Tryz.zeroValue21
 t46:=Tryz.underlying150
 a46:=Tryz.isAgg150
 z46:=Tryz.sizeOf150
 v46:=Tryz.zeroValue150
 t105:=Tryz.underlying119
 a105:=Tryz.isAgg119
 z105:=Tryz.sizeOf119
 v105:=Tryz.zeroValue119
 t119:=Tryz.underlying148
 a119:=Tryz.isAgg148
 z119:=Tryz.sizeOf148
 t138:=Tryz.underlying152
 a138:=Tryz.isAgg152
 z138:=Tryz.sizeOf152
 v138:=Tryz.zeroValue152
 t139:=Tryz.underlying153
 a139:=Tryz.isAgg153
 z139:=Tryz.sizeOf153
 v139:=Tryz.zeroValue153
 g3:=by kernel_rfl
 g4:=by kernel_rfl }
def Tryz.Bjt:Go.Shelf.Ren:=⟨fun | 264=>144 | n=>n,fun | 53=>59 | 46=>150 | n=>n,fun | n=>n⟩
theorem Tryz.lays264:Go.Proofs.Lays.n264 Tryz.prog Tryz.Bjt:={
 mixed:=by kernel_rfl
 f264:=Tryz.func144.trans (congrArg some (by kernel_rfl))
 t46:=Tryz.underlying150
 a46:=Tryz.isAgg150
 z46:=Tryz.sizeOf150
 v46:=Tryz.zeroValue150
 t53:=Tryz.underlying59
 a53:=Tryz.isAgg59
 z53:=Tryz.sizeOf59
 v53:=Tryz.zeroValue59 }
open Go.RowKit Go.Lib in
theorem Tryz.bits_Mul64 (x y:Nat) (hx:x < 18446744073709551616) (hy:y < 18446744073709551616) (w:World) :
  Calls Tryz.prog 144 #[.int .u64 x,.int .u64 y] w fun e w'=>e=.returned (.tuple #[.int .u64 ((x * y / 18446744073709551616:Nat):Int),.int .u64 ((x * y % 18446744073709551616:Nat):Int)])∧w'=w:=Any.bits_Mul64 Tryz.lays264 x y hx hy w
def Tryz.Asm:Go.Shelf.Ren:=⟨fun | 260=>92 | n=>n,fun | 9=>9 | 21=>21 | 3=>3 | 4=>4 | 5=>5 | 119=>148 | 0=>0 | 46=>150 | 139=>153 | 138=>152 | n=>n,fun | 3=>1 | 4=>2 | n=>n⟩
theorem Tryz.lays260:Go.Proofs.Lays.n260 Tryz.prog Tryz.Asm:={
 mixed:=by kernel_rfl
 f260:=Tryz.func92.trans (congrArg some (by kernel_rfl))
 t0:=Tryz.underlying0
 a0:=Tryz.isAgg0
 z0:=Tryz.sizeOf0
 v0:=Tryz.zeroValue0
 t3:=Tryz.underlying3
 a3:=Tryz.isAgg3
 z3:=Tryz.sizeOf3
 v3:=Tryz.zeroValue3
 t4:=Tryz.underlying4
 a4:=Tryz.isAgg4
 z4:=Tryz.sizeOf4
 v4:=Tryz.zeroValue4
 t5:=Tryz.underlying5
 a5:=Tryz.isAgg5
 z5:=Tryz.sizeOf5
 v5:=Tryz.zeroValue5
 t9:=Tryz.underlying9
 a9:=Tryz.isAgg9
 z9:=Tryz.sizeOf9
 v9:=Tryz.zeroValue9
 t21:=Tryz.underlying21
 a21:=Tryz.isAgg21
 z21:=Tryz.sizeOf21
 v21:=Tryz.zeroValue21
 t46:=Tryz.underlying150
 a46:=Tryz.isAgg150
 z46:=Tryz.sizeOf150
 v46:=Tryz.zeroValue150
 t119:=Tryz.underlying148
 a119:=Tryz.isAgg148
 z119:=Tryz.sizeOf148
 t138:=Tryz.underlying152
 a138:=Tryz.isAgg152
 z138:=Tryz.sizeOf152
 v138:=Tryz.zeroValue152
 t139:=Tryz.underlying153
 a139:=Tryz.isAgg153
 z139:=Tryz.sizeOf153
 v139:=Tryz.zeroValue153
 g3:=by kernel_rfl
 g4:=by kernel_rfl }
open Go.RowKit Go.Lib in
theorem Tryz.utf8_DecodeRuneInString (s:ByteArray) (w:World) (hT:Lib.Utf8Tabs 1 2 w) :
  Calls Tryz.prog 55 #[.string s] w fun e w'=>e=.returned (.tuple #[.int .i32 (Lib.decodeGo s).1,.int .i64 (Lib.decodeGo s).2])∧Below w.heap.size w w':=Any.utf8_DecodeRuneInString Tryz.lays197 s w hT
end Go.Proofs
namespace Go.Proofs.YtkdjiehclahliaaGreatDoor
set_option maxRecDepth 100000
section
open Go Go.RowKit Lx
theorem Bto (r:Int):Lib.validRune r=Utf8.valid r:=by
 simp only [Lib.validRune,Utf8.valid]
 by_cases h:(0≤r∧r < 55296)∨(57343 < r∧r≤1114111)
 ·rw [decide_eq_true h];rcases h with h | h <;> simp <;> omega
 ·rw [decide_eq_false h];simp;omega
theorem Ayb (r:Int) (w:World):Calls Tryz.prog 116 #[.int .i32 r] w fun e w'=>e=.returned (.bool (Utf8.valid r))∧w=w' :=
 (Tryz.utf8_ValidRune r w).mono fun _ _ ⟨h1,h2⟩=>⟨by rw [h1,Bto],h2.symm⟩
theorem A3x (r:Int) (w:World):Calls Tryz.prog 98 #[.int .i64 r] w fun e w'=>e=.returned (.bool (decide (48≤r∧r≤57)))∧w=w':=by
 by_cases h1:48≤r
 ·go_enter Tryz.func98,Tryz.ntmps98
  go_wp2
  go_ret
  exact ⟨by simp [h1],rfl⟩
 ·go_enter Tryz.func98,Tryz.ntmps98
  go_wp2
  go_ret
  exact ⟨by simp;omega,rfl⟩
def T8 (r:Int):Bool:=decide (97≤r∧r≤122∨65≤r∧r≤90∨r=95∨(128≤r∧r≤1114111∧r≠65533∧Utf8.valid r=true))
theorem Uk {a b:Bool} (h:a=b):Ending.returned (.bool a)=.returned (.bool b):=by rw [h]
set_option maxHeartbeats 1000000 in
theorem Bjy (r:Int) (w:World) (h0:0≤r) (h1:r≤2147483647):Calls Tryz.prog 94 #[.int .i64 r] w fun e w'=>e=.returned (.bool (T8 r))∧w=w':=by
  have hw:IntKind.i32.wrap r=r:=by unfold IntKind.wrap;simp [IntKind.bits,IntKind.signed];omega
  obtain ⟨lz,hlz⟩:∃ x,T8 r=x:=⟨_,rfl⟩
  rw [hlz]
  have HL:=Lib.hid hlz
  clear hlz
  obtain ⟨v,hv⟩:∃ v,Utf8.valid r=v:=⟨_,rfl⟩
  have hva:=Ayb r
  rw [hv] at hva
  have HV:=Lib.hid hv
  have HVA:=Lib.hid hva
  clear hv hva
  have HW:=Lib.hid hw
  go_enter Tryz.func94,Tryz.ntmps94
  go_wp2_with ((go_at_call 116;refine (HVA.out _).mono ?_;rintro e w' ⟨rfl,rfl⟩))
  all_goals go_ret
  all_goals refine ⟨Uk ?_,rfl⟩
  all_goals have hl:=HL.out
  all_goals have hv:=HV.out
  all_goals clear HL HV HVA HW hw
  all_goals subst hl
  all_goals unfold T8
  all_goals simp only [hv]
  all_goals try simp only [beq_iff_eq,beq_eq_false_iff_ne,ne_eq] at *
  all_goals first
    | exact (decide_eq_true (by omega)).symm
    | exact (decide_eq_false (by omega)).symm
    | (cases v
       · rw [Bool.and_false];exact (decide_eq_false (by simp;omega)).symm
       · rw [Bool.and_true];by_cases h:r=65533
         · subst h;rfl
         · rw [show (r != 65533)=true from bne_iff_ne.2 h];exact (decide_eq_true (by simp;omega)).symm)
theorem Bjx (r:Nat):T8 r=Mc r:=by
 unfold T8 Mc
 generalize Utf8.valid (r:Int)=v
 rw [Bool.eq_iff_iff]
 simp only [decide_eq_true_eq,Bool.or_eq_true,Bool.and_eq_true,beq_iff_eq,bne_iff_ne]
 constructor
 ·rintro (h | h | h | ⟨h1,h2,h3,h4⟩)
  ·exact .inl (.inl (.inl ⟨by omega,by omega⟩))
  ·exact .inl (.inl (.inr ⟨by omega,by omega⟩))
  ·exact .inl (.inr (by omega))
  ·exact .inr ⟨⟨⟨by omega,by omega⟩,by omega⟩,h4⟩
 ·rintro (((⟨h1,h2⟩ | ⟨h1,h2⟩) | h) | ⟨⟨⟨h1,h2⟩,h3⟩,h4⟩)
  ·exact .inl ⟨by omega,by omega⟩
  ·exact .inr (.inl ⟨by omega,by omega⟩)
  ·exact .inr (.inr (.inl (by omega)))
  ·exact .inr (.inr (.inr ⟨by omega,by omega,by omega,h4⟩))
theorem A3w (r:Nat):decide (48≤(r:Int)∧(r:Int)≤57)=Kh r:=by
 unfold Kh
 rw [Bool.eq_iff_iff]
 simp only [decide_eq_true_eq,Bool.and_eq_true]
 omega
theorem Aew:Qc 58 Mc:=by
 refine ⟨fun args w=>enters_of Tryz.func58 (by kernel_rfl) rfl args w,fun r w hr=>?_⟩
 have hc:=Bjy r
 rw [Bjx] at hc
 have HC:=Lib.hid hc
 clear hc
 have h1:(0:Int)≤r:=by omega
 have h2:(r:Int)≤2147483647:=by omega
 go_enter Tryz.func58,Tryz.ntmps58
 go_wp2_with ((go_at_call 94;refine (HC.out _ h1 h2).mono ?_;rintro e w' ⟨rfl,rfl⟩))
 go_ret
 exact ⟨rfl,rfl⟩
theorem Xg:Qc 60 Kh:=by
 refine ⟨fun args w=>enters_of Tryz.func60 (by kernel_rfl) rfl args w,fun r w hr=>?_⟩
 have hc:=A3x r
 rw [A3w] at hc
 have HC:=Lib.hid hc
 clear hc
 have h2:(r:Int)≤2147483647:=by omega
 go_enter Tryz.func60,Tryz.ntmps60
 go_wp2_with ((go_at_call 98;refine (HC.out _).mono ?_;rintro e w' ⟨rfl,rfl⟩))
 go_ret
 exact ⟨rfl,rfl⟩
theorem Awz:Qc 95 E_:=by
 refine ⟨fun args w=>enters_of Tryz.func95 (by kernel_rfl) rfl args w,fun r w hr=>?_⟩
 have H1:=Lib.hid (fun w=>Aew.2 r w hr)
 have H2:=Lib.hid (fun w=>Xg.2 r w hr)
 obtain ⟨pr,hpr⟩:∃ x,E_ r=x:=⟨_,rfl⟩
 have HP:=Lib.hid hpr
 rw [hpr]
 clear hpr
 generalize hl:Mc r=lr at *
 generalize hd:Kh r=dr at *
 have HL:=Lib.hid hl
 have HD:=Lib.hid hd
 clear hl hd
 cases lr
 ·go_enter Tryz.func95,Tryz.ntmps95
  go_wp2_with (first | ((go_at_call 58;refine (H1.out _).mono ?_;rintro e w' ⟨rfl,rfl⟩)) | ((go_at_call 60;refine (H2.out _).mono ?_;rintro e w' ⟨rfl,rfl⟩)))
  go_ret
  refine ⟨Uk ?_,rfl⟩
  rw [← HP.out,E_,HL.out,HD.out];rfl
 ·go_enter Tryz.func95,Tryz.ntmps95
  go_wp2_with (first | ((go_at_call 58;refine (H1.out _).mono ?_;rintro e w' ⟨rfl,rfl⟩)) | ((go_at_call 60;refine (H2.out _).mono ?_;rintro e w' ⟨rfl,rfl⟩)))
  go_ret
  refine ⟨Uk ?_,rfl⟩
  rw [← HP.out,E_,HL.out];rfl
theorem Brq:Qc 54 Dv:=by
 refine ⟨fun args w=>enters_of Tryz.func54 (by kernel_rfl) rfl args w,fun r w hr=>?_⟩
 obtain ⟨pr,hpr⟩:∃ x,Dv r=x:=⟨_,rfl⟩
 have HP:=Lib.hid hpr
 rw [hpr]
 clear hpr
 go_enter Tryz.func54,Tryz.ntmps54
 go_wp2
 all_goals go_ret
 all_goals refine ⟨Uk ?_,rfl⟩
 all_goals rw [← HP.out];clear HP
 all_goals unfold Dv
 all_goals rw [Bool.eq_iff_iff]
 all_goals simp only [Bool.or_eq_true,beq_iff_eq,beq_eq_false_iff_ne,Bool.true_eq_false,Bool.false_eq_true,true_iff,false_iff,not_or] at *
 all_goals omega
theorem Brr:Qc 57 O_:=by
 refine ⟨fun args w=>enters_of Tryz.func57 (by kernel_rfl) rfl args w,fun r w hr=>?_⟩
 obtain ⟨pr,hpr⟩:∃ x,O_ r=x:=⟨_,rfl⟩
 have HP:=Lib.hid hpr
 rw [hpr]
 clear hpr
 go_enter Tryz.func57,Tryz.ntmps57
 go_wp2
 go_ret
 refine ⟨Uk ?_,rfl⟩
 rw [← HP.out]
 unfold O_
 rw [Bool.eq_iff_iff]
 simp only [bne_iff_ne]
 omega
theorem Oy (c k:UInt8):(c=k) ↔ ((c.toNat:Int) == (k.toNat:Int))=true:=by
 rw [beq_iff_eq,Int.natCast_inj,UInt8.toNat_inj]
set_option maxHeartbeats 1000000 in
theorem Adj (c:UInt8) (w:World):Calls Tryz.prog 119 #[.int .u8 c.toNat] w fun e w'=>e=.returned (.int .u8 (I3 c).toNat)∧w=w':=by
 obtain ⟨x,hx⟩:∃ x,(I3 c).toNat=x:=⟨_,rfl⟩
 have HX:=Lib.hid hx
 rw [hx]
 clear hx
 go_enter Tryz.func119,Tryz.ntmps119
 go_wp2
 all_goals go_ret
 all_goals refine ⟨Mo ?_,rfl⟩
 all_goals rw [← HX.out];clear HX
 all_goals simp only [I3,Oy]
 all_goals simp_all
theorem VD (m:Nat) (b:UInt8) (t:Bs) (n k:Nat):CQ (m+1) (b :: t) n k=match hexD b with | none=>(n,k) | some d=>CQ m t (16 * n+d) (k+1):=rfl
def Baq:Bs:=[48,49,50,51,52,53,54,55,56,57,97,98,99,100,101,102]
def Q3 (b:UInt8):Int:=Lib.indexByte Baq (Go.bits .or .u8 (b.toNat:Int) 32).toNat.toUInt8
def VE (b:UInt8):Bool :=
 match hexD b with
 | none=>decide (Q3 b < 0) || decide (b.toNat < 48)
 | some d=>decide (Q3 b=d) && decide (48≤b.toNat) && decide (d < 16)
theorem Bap:∀ n,n < 256→VE (UInt8.ofNat n)=true:=by decide +kernel
theorem Am9 (b:UInt8):VE b=true:=by
 have:=Bap b.toNat b.toNat_lt
 simpa using this
theorem Bao {b:UInt8} (h:hexD b=none):Q3 b < 0∨b.toNat < 48:=by
 have:=Am9 b
 simpa [VE,h] using this
theorem VC {b:UInt8} {d:Nat} (h:hexD b=some d):Q3 b=d∧48≤b.toNat∧d < 16:=by
 have:=Am9 b
 simpa [VE,h,and_assoc] using this
theorem Adl {k:Nat} (h:k≤8):16 ^ k≤4294967296:=by
 have:=Nat.pow_le_pow_right (n:=16) (by omega) h
 omega
theorem Bgy (b:UInt8) (w:World):Calls Tryz.prog 132 #[.string ⟨#[48,49,50,51,52,53,54,55,56,57,97,98,99,100,101,102]⟩,.int .u8 (Go.bits .or .u8 (b.toNat:Int) 32)] w fun e w'=>e=.returned (.int .i64 (Q3 b))∧w=w' :=
 (Tryz.strings_IndexByte _ _ w).mono fun _ _ ⟨h1,h2⟩=>⟨h1,h2.symm⟩
theorem drop_at (s:ByteArray) (k:Nat) (h:k < s.size):(bs s).drop k=s[k] :: (bs s).drop (k+1):=by
 rw [List.drop_eq_getElem_cons (by rw [Dg];exact h)]
 rfl
set_option maxHeartbeats 1000000 in
theorem Ana (s:ByteArray) (most:Nat) (w:World) (hm:most≤8) (hs:s.size≤1000000) :
  Calls Tryz.prog 120 #[.string s,.int .i64 most] w fun e w'=>e=.returned (.tuple #[.int .i64 (CQ most (bs s) 0 0).1,.int .i64 (CQ most (bs s) 0 0).2])∧w=w':=by
 obtain ⟨R,hR⟩:∃ R,CQ most (bs s) 0 0=R:=⟨_,rfl⟩
 rw [hR]
 have HR:=Lib.hid hR
 clear hR
 go_enter Tryz.func120,Tryz.ntmps120
 go_wp2
 go_loop [6,7,8] (fun n k _=>∃ N K:Nat,K≤most∧K≤s.size∧N < 16 ^ K∧n=.int .i64 N∧k=.int .i64 K∧Hid (CQ (most - K) ((bs s).drop K) N K=R)) (fun _ k _=>most - (intOf k).toNat)
 case atStart=>exact ⟨0,0,by omega,by omega,by simp,rfl,rfl,HR.out⟩
 case round =>
  obtain ⟨N,K,hK,hKs,hN,rfl,rfl,hG⟩:=hrel
  have hp:=Adl (show K≤8 by omega)
  have hN2:N < 4294967296:=by omega
  have HN:=Lib.hid hN
  clear hN hp
  by_cases hlt:K < most
  ·by_cases hls:K < s.size
   ·have hix:=Bgy s[K]
    obtain ⟨D,hD⟩:∃ D,Q3 s[K]=D:=⟨_,rfl⟩
    rw [hD] at hix
    have HIX:=Lib.hid hix
    have HD:=Lib.hid hD
    clear hix hD
    go_wp2_with ((go_at_call 132;refine (HIX.out _).mono ?_;rintro e w' ⟨rfl,rfl⟩))
    ·go_ret2
     have hn:hexD s[K]=none:=by
      cases h:hexD s[K] with
      | none=>rfl
      | some d=>have:=VC h;rw [HD.out] at this;omega
     have h:=hG
     unfold Hid at h
     rw [show most - K=(most - K - 1)+1 by omega,drop_at s K hls,VD,hn] at h
     rw [← h]
     exact ⟨rfl,rfl⟩
    ·go_round
     case rel =>
      obtain ⟨d,hd⟩:∃ d,hexD s[K]=some d:=by
       cases h:hexD s[K] with
       | none=>have:=Bao h;rw [HD.out] at this;omega
       | some d=>exact ⟨d,rfl⟩
      have hs:=VC hd
      rw [HD.out] at hs
      obtain ⟨hDd,_,Q0⟩:=hs
      have hN16:=HN.out
      refine ⟨16 * N+d,K+1,by omega,by omega,by rw [Nat.pow_succ];omega,?_,by go_num,?_⟩
      ·rw [hDd];congr 1;unfold wrap64;omega
      ·have h:=hG
       unfold Hid at h ⊢
       rw [show most - K=(most - (K+1))+1 by omega,drop_at s K hls,VD,hd] at h
       exact h
     case measure=>simp [intOf];omega
    ·go_ret2
     have hn:hexD s[K]=none:=by
      cases h:hexD s[K] with
      | none=>rfl
      | some d=>have:=VC h;rw [HD.out] at this;omega
     have h:=hG
     unfold Hid at h
     rw [show most - K=(most - K - 1)+1 by omega,drop_at s K hls,VD,hn] at h
     rw [← h]
     exact ⟨rfl,rfl⟩
   ·go_wp2
    go_ret2
    have h:=hG
    unfold Hid at h
    rw [show most - K=(most - K - 1)+1 by omega,List.drop_of_length_le (by rw [Dg];omega)] at h
    rw [← h]
    exact ⟨rfl,rfl⟩
  ·go_wp2
   go_ret2
   have h:=hG
   unfold Hid at h
   rw [show most - K=0 by omega] at h
   rw [← h]
   exact ⟨rfl,rfl⟩
theorem SE:∀ (m:Nat) (l:Bs) (n k:Nat),n < 16 ^ k→(CQ m l n k).1 < 16 ^ (CQ m l n k).2∧k≤(CQ m l n k).2∧(CQ m l n k).2≤k+m∧(CQ m l n k).2≤k+l.length
 | 0,_,n,k,h=>by simp only [CQ];exact ⟨h,by omega,by omega,by omega⟩
 | m+1,[],n,k,h=>by simp only [CQ];exact ⟨h,by omega,by omega,by simp⟩
 | m+1,b :: t,n,k,h=>by
  rw [VD]
  cases hd:hexD b with
  | none=>simp only [];exact ⟨h,by omega,by omega,by omega⟩
  | some d =>
   simp only []
   have h16:=(VC hd).2.2
   have:=SE m t (16 * n+d) (k+1) (by rw [Nat.pow_succ];omega)
   simp only [AD]
   exact ⟨this.1,by omega,by omega,by omega⟩
set_option maxHeartbeats 1000000 in
theorem A4s (n:Int) (w:World) (h0:0≤n) (h1:n≤4294967296) :
  Calls Tryz.prog 122 #[.int .i64 n] w fun e w'=>e=.returned (.tuple #[.string (if Utf8.valid n then Utf8.encode n else ⟨#[]⟩),.int .i64 (if Utf8.valid n then 0 else 3)])∧w=w':=by
 obtain ⟨v,hv⟩:∃ v,Utf8.valid n=v:=⟨_,rfl⟩
 rw [hv]
 by_cases hbig:n≤1114111
 ·have hw:IntKind.i32.wrap n=n:=by unfold IntKind.wrap;simp [IntKind.bits,IntKind.signed];omega
  have hva:=Ayb n
  rw [hv] at hva
  have HVA:=Lib.hid hva
  clear hva hv
  obtain ⟨E,hE⟩:∃ E,Utf8.encode n=E:=⟨_,rfl⟩
  rw [hE]
  have hconv:∀ w,(convert 21 9 (.int .i32 n)).run Tryz.prog w=.ok (.string E) w:=fun w=>by
   rw [← hE];exact run_convert_int_string w 21 9 .i32 n (by rw [Tryz.underlying21];rfl) Tryz.underlying9
  clear hE
  cases v
  ·go_enter Tryz.func122,Tryz.ntmps122
   go_wp2_with ((go_at_call 116;refine (HVA.out _).mono ?_;rintro e w' ⟨rfl,rfl⟩))
   go_ret2
   exact ⟨rfl,rfl⟩
  ·go_enter Tryz.func122,Tryz.ntmps122
   go_wp2_with ((go_at_call 116;refine (HVA.out _).mono ?_;rintro e w' ⟨rfl,rfl⟩))
   go_ret2
   exact ⟨rfl,rfl⟩
 ·have hvf:v=false:=by rw [← hv];unfold Utf8.valid;simp;omega
  subst hvf
  clear hv
  go_enter Tryz.func122,Tryz.ntmps122
  go_wp2_with (fail)
  go_ret2
  exact ⟨rfl,rfl⟩
def II (r:Nat):Int:=match Ll r with | some d=>d | none=>-1
theorem A3u (r:Nat):II r=if 48≤r∧r≤57 then (r:Int) - 48 else if 97≤r∧r≤102 then (r:Int) - 87 else if 65≤r∧r≤70 then (r:Int) - 55 else -1:=by
 unfold II Ll
 (repeat' split) <;> simp_all <;> omega
set_option maxHeartbeats 1000000 in
theorem Af4 (r:Nat) (w:World) (hr:r≤1114111):Calls Tryz.prog 143 #[.int .i32 r] w fun e w'=>e=.returned (.int .i64 (II r))∧w=w':=by
 obtain ⟨x,hx⟩:∃ x,II r=x:=⟨_,rfl⟩
 rw [hx]
 rw [A3u] at hx
 have HX:=Lib.hid hx
 clear hx
 have hr':(r:Int)≤1114111:=by omega
 go_enter Tryz.func143,Tryz.ntmps143
 go_wp2
 all_goals go_ret
 all_goals refine ⟨Mo ?_,rfl⟩
 all_goals rw [← HX.out];clear HX
 all_goals (repeat' split)
 all_goals (first | omega | (unfold wrap32 wrap64;omega) | (exfalso;omega) | (simp_all;omega))
theorem Awx (hex:Bool):∀ (f g n:Nat) (l:Bs),l.length≤f→l.length≤g→Mp hex f n l=Mp hex g n l
 | 0,0,_,_,_,_=>rfl
 | 0,g+1,n,l,h,_=>by
  have:l=[]:=List.eq_nil_of_length_eq_zero (by omega)
  subst this;rfl
 | f+1,0,n,l,_,h=>by
  have:l=[]:=List.eq_nil_of_length_eq_zero (by omega)
  subst this;rfl
 | f+1,g+1,n,[],_,_=>rfl
 | f+1,g+1,n,b :: t,h,h'=>by
  simp only [Mp]
  have hw:=(KA (b :: t)).1
  split
  ·rfl
  ·split
   ·rfl
   ·exact Awx hex f g _ _ (by rw [Cv];simp only [AD] at *;omega) (by rw [Cv];simp only [AD] at *;omega)
theorem Aev (hex:Bool) (n:Nat) (l:Bs) (h:l≠[]):G7 hex n l =
  match Ll (CC l).1 with
  | none=>none
  | some d=>if d > 9 && !hex then none else
    G7 hex (if hex then (n * 16+d) % 18446744073709551616 else min (10 * n+d) 18446744073709551615) (l.drop (CC l).2):=by
 cases l with
 | nil=>exact absurd rfl h
 | cons b t =>
  have hw:=(KA (b :: t)).1
  unfold G7
  simp only [AD,Mp]
  cases hd:Ll (CC (b :: t)).1 with
  | none=>rfl
  | some d =>
   simp only []
   split
   ·rfl
   ·rw [Awx hex t.length ((b :: t).drop (CC (b :: t)).2).length _ ((b :: t).drop (CC (b :: t)).2) (by rw [Cv];simp only [AD];omega) (Nat.le_refl _)]
theorem Aer (hex:Bool) (n:Nat):G7 hex n []=some n:=rfl
theorem Aul (N d:Nat) (hd:d < 16):bits .or .u64 (IntKind.u64.wrap ((N:Int) * 16)) (d:Int)=(((N * 16+d) % 18446744073709551616:Nat):Int):=by
 have hw:IntKind.u64.wrap ((N:Int) * 16)=((2 ^ 4 * (N % 1152921504606846976):Nat):Int):=by
  unfold IntKind.wrap
  simp [IntKind.bits,IntKind.signed]
  omega
 rw [hw,bits_or_u64_nat _ _ (by omega) (by omega),← Nat.two_pow_add_eq_or_of_lt (by omega:d < 2 ^ 4)]
 congr 1
 omega
theorem A0f (x y:Int) (w:World) (hx:0≤x) (hy:0≤y):(callFunc 145 #[.int .u64 x,.int .u64 y,.int .u64 0]).run Tryz.prog w =
  .ok (.value (.tuple #[.int .u64 ((x+y) % 18446744073709551616),.int .u64 ((x+y) / 18446744073709551616)])) w:=by
 rw [run_callFunc_extern Tryz.func145 (by kernel_rfl) (by kernel_rfl) (by kernel_rfl) (e:=add64Entry) (by kernel_rfl),run_add64 x y 0 hx hy (by omega) (by omega)]
 simp [Result.andThen]
theorem Bke (N:Nat) (hN:N < 18446744073709551616) (w:World):Calls Tryz.prog 144 #[.int .u64 N,.int .u64 10] w fun e w' =>
  e=.returned (.tuple #[.int .u64 ((N * 10 / 18446744073709551616:Nat)),.int .u64 ((N * 10 % 18446744073709551616:Nat))])∧w=w' :=
 (Tryz.bits_Mul64 N 10 hN (by omega) w).mono fun _ _ ⟨h1,h2⟩=>⟨h1,h2.symm⟩
theorem A3q (N d hi lo sm cy:Nat) (hN:N < 18446744073709551616) (hd:d < 16) (hhi:N * 10 / 18446744073709551616=hi) (hlo:N * 10 % 18446744073709551616=lo)
  (hsm:(lo+d) % 18446744073709551616=sm) (hcy:(lo+d) / 18446744073709551616=cy) :
  (hi+cy=0→sm=10 * N+d∧N≤sm∧sm < 18446744073709551616)∧(hi+cy≠0→18446744073709551616≤10 * N+d)∧hi≤9∧cy≤1:=by
 omega
abbrev A1i (c:Int):Ending:=.panicked [{ v:=.iface 174 (.agg #[.int .i64 c]),recovered:=false }]
def Vh (r:Option Nat) (hex:Bool) (w:World) (e:Ending) (w':World):Prop :=
 (match r with | none=>e=A1i 4 | some u=>e=.returned (.tuple #[.int .u64 u,.bool hex]))∧Below w.heap.size w w'
set_option maxHeartbeats 1000000 in
theorem Brk (s A1:ByteArray) (w:World) (hs:s.size≤1000000) (hsz:A1.size≤1000000) (hne:bs A1≠[])
  (hc:∀ w,Calls Tryz.prog 142 #[.string s,.string ⟨#[48,120]⟩] w fun e w'=>e=.returned (.tuple #[.string A1,.bool true])∧w=w') :
  Calls Tryz.prog 131 #[.string s] w (Vh (G7 true 0 (bs A1)) true w):=by
 have HC:=Lib.hid hc
 clear hc
 have HNE:=Lib.hid hne
 have he:A1.toList.isEmpty=false:=by
  rw [Lib.toList_data];cases h:A1.data.toList with
  | nil=>exact absurd h hne
  | cons _ _=>rfl
 clear hne
 go_enter Tryz.func131,Tryz.ntmps131
 go_wp2_with ((go_at_call 142;refine (HC.out _).mono ?_;rintro e w' ⟨rfl,rfl⟩))
 have Hsz:=Lib.hid hsz
 generalize hM:A1.size=M at *
 have HM:=Lib.hid hM
 clear hM
 go_loopw [2] (fun n wr=>∃ pos N:Nat,pos≤M∧Hid (N < 18446744073709551616)∧n=.int .u64 N∧Hid (G7 true 0 (bs A1)=G7 true N ((bs A1).drop pos))∧wr=w.iter A1 pos) (fun _ wr=>M - wr.iterPos w.heap.size)
 case atStart=>exact ⟨0,0,Nat.zero_le _,by unfold Hid;omega,rfl,by unfold Hid;simp,rfl⟩
 case round =>
  obtain ⟨pos,N,hpos,hN,rfl,hG,rfl⟩:=hrel
  by_cases hlt:pos < M
  ·have hnext:=run_next_any (P:=Tryz.prog) w A1 pos
   have hd:=Sv ((bs A1).drop pos)
   have hnx:∀ ty,(Instr.next (.pointer (some ⟨w.heap.size,0,none⟩)) true ty).run Tryz.prog (w.iter A1 pos)=.ok (.tuple #[.bool true,.int .i64 pos,.int .i32 (CC ((bs A1).drop pos)).1]) (w.iter A1 (pos+(CC ((bs A1).drop pos)).2)):=fun ty=>by
    have:=hnext ty (by rw [HM.out];exact hlt)
    rw [decode_eq A1 pos] at this
    exact this
   clear hnext
   have hne:(bs A1).drop pos≠[]:=fun h=>by
    have:=congrArg List.length h
    rw [Cv,Dg,HM.out] at this
    simp at this;omega
   have HS:=Lib.hid (Aev true N ((bs A1).drop pos) hne)
   have HW:=Lib.hid (KA ((bs A1).drop pos))
   have HLL:=Lib.hid (show ((bs A1).drop pos).length=M - pos by rw [Cv,Dg,HM.out])
   have Qb:=Lib.hid hne
   clear hne
   generalize hr:(CC ((bs A1).drop pos)).1=r at *
   generalize hk:(CC ((bs A1).drop pos)).2=k at *
   have HR:=Lib.hid hr
   have HK:=Lib.hid hk
   clear hr hk
   have HDG:=Lib.hid (fun w=>Af4 r w hd)
   go_wp2_with fail
   refine (HDG.out _).mono ?_
   rintro e w' ⟨rfl,rfl⟩
   cases hdg:Ll r with
   | none =>
    have hD:II r=-1:=by unfold II;rw [hdg]
    rw [hD]
    clear hD
    have HDN:=Lib.hid hdg
    clear hdg
    go_wp2_with fail
    refine ⟨rfl,?_⟩
    have hres:G7 true 0 (bs A1)=none:=by rw [hG.out,HS.out,HDN.out]
    rw [hres]
    exact ⟨rfl,(Below.refl _ w).alloc (Nat.le_refl _) _⟩
   | some d =>
    have hD:II r=d:=by unfold II;rw [hdg]
    have Q0:d < 16:=by unfold Ll at hdg;revert hdg;(repeat' split) <;> intro h <;> (try cases h) <;> omega
    rw [hD]
    clear hD
    have HDN:=Lib.hid hdg
    clear hdg
    have hdz:(d:Int) < 16:=by omega
    go_wp2_with fail
    all_goals
     go_roundw
     case rel =>
      have hN':=hN.out
      refine ⟨pos+k,(N * 16+d) % 18446744073709551616,?_,?_,?_,?_,rfl⟩
      ·have:=HW.out.2.2 Qb.out;rw [HLL.out] at this;omega
      ·unfold Hid;omega
      ·rw [Aul N d Q0]
      ·unfold Hid
       rw [hG.out,HS.out,HDN.out,List.drop_drop]
       simp
     case measure =>
      have hk1:=HW.out.1
      have e:∀ q,(w.iter A1 q).iterPos w.heap.size=q:=fun q=>World.iterPos_iter w A1 q
      simp only [e]
      omega
  ·have hnx:=fun ty=>run_next_end (P:=Tryz.prog) w A1 pos ty (by rw [HM.out];exact hlt)
   have YJ:∀ ty,(Instr.next (.pointer (some ⟨w.heap.size,0,none⟩)) true ty).run Tryz.prog (w.iter A1 pos)=.ok (.tuple #[.bool false]) (w.iter A1 pos):=hnx
   clear hnx
   go_wp2_with fail
   go_ret2
   have hres:G7 true 0 (bs A1)=some N:=by
    rw [hG.out,List.drop_of_length_le (by rw [Dg,HM.out];omega),Aer]
   rw [hres]
   exact ⟨rfl,(Below.refl _ w).alloc (Nat.le_refl _) _⟩
set_option maxHeartbeats 1000000 in
theorem Brm (s A0 A1:ByteArray) (w:World) (hs:s.size≤1000000) (hsz:A1.size≤1000000) (hne:bs A1≠[])
  (hc0:∀ w,Calls Tryz.prog 142 #[.string s,.string ⟨#[48,120]⟩] w fun e w'=>e=.returned (.tuple #[.string A0,.bool false])∧w=w')
  (hc:∀ w,Calls Tryz.prog 142 #[.string s,.string ⟨#[48,88]⟩] w fun e w'=>e=.returned (.tuple #[.string A1,.bool true])∧w=w') :
  Calls Tryz.prog 131 #[.string s] w (Vh (G7 true 0 (bs A1)) true w):=by
 have HC:=Lib.hid hc
 have HC0:=Lib.hid hc0
 clear hc hc0
 have HNE:=Lib.hid hne
 have he:A1.toList.isEmpty=false:=by
  rw [Lib.toList_data];cases h:A1.data.toList with
  | nil=>exact absurd h hne
  | cons _ _=>rfl
 clear hne
 go_enter Tryz.func131,Tryz.ntmps131
 go_wp2_with fail
 refine (HC0.out _).mono ?_
 rintro e w' ⟨rfl,rfl⟩
 go_wp2_with fail
 refine (HC.out _).mono ?_
 rintro e w' ⟨rfl,rfl⟩
 go_wp2_with fail
 have Hsz:=Lib.hid hsz
 generalize hM:A1.size=M at *
 have HM:=Lib.hid hM
 clear hM
 go_loopw [2] (fun n wr=>∃ pos N:Nat,pos≤M∧Hid (N < 18446744073709551616)∧n=.int .u64 N∧Hid (G7 true 0 (bs A1)=G7 true N ((bs A1).drop pos))∧wr=w.iter A1 pos) (fun _ wr=>M - wr.iterPos w.heap.size)
 case atStart=>exact ⟨0,0,Nat.zero_le _,by unfold Hid;omega,rfl,by unfold Hid;simp,rfl⟩
 case round =>
  obtain ⟨pos,N,hpos,hN,rfl,hG,rfl⟩:=hrel
  by_cases hlt:pos < M
  ·have hnext:=run_next_any (P:=Tryz.prog) w A1 pos
   have hd:=Sv ((bs A1).drop pos)
   have hnx:∀ ty,(Instr.next (.pointer (some ⟨w.heap.size,0,none⟩)) true ty).run Tryz.prog (w.iter A1 pos)=.ok (.tuple #[.bool true,.int .i64 pos,.int .i32 (CC ((bs A1).drop pos)).1]) (w.iter A1 (pos+(CC ((bs A1).drop pos)).2)):=fun ty=>by
    have:=hnext ty (by rw [HM.out];exact hlt)
    rw [decode_eq A1 pos] at this
    exact this
   clear hnext
   have hne:(bs A1).drop pos≠[]:=fun h=>by
    have:=congrArg List.length h
    rw [Cv,Dg,HM.out] at this
    simp at this;omega
   have HS:=Lib.hid (Aev true N ((bs A1).drop pos) hne)
   have HW:=Lib.hid (KA ((bs A1).drop pos))
   have HLL:=Lib.hid (show ((bs A1).drop pos).length=M - pos by rw [Cv,Dg,HM.out])
   have Qb:=Lib.hid hne
   clear hne
   generalize hr:(CC ((bs A1).drop pos)).1=r at *
   generalize hk:(CC ((bs A1).drop pos)).2=k at *
   have HR:=Lib.hid hr
   have HK:=Lib.hid hk
   clear hr hk
   have HDG:=Lib.hid (fun w=>Af4 r w hd)
   go_wp2_with fail
   refine (HDG.out _).mono ?_
   rintro e w' ⟨rfl,rfl⟩
   cases hdg:Ll r with
   | none =>
    have hD:II r=-1:=by unfold II;rw [hdg]
    rw [hD]
    clear hD
    have HDN:=Lib.hid hdg
    clear hdg
    go_wp2_with fail
    refine ⟨rfl,?_⟩
    have hres:G7 true 0 (bs A1)=none:=by rw [hG.out,HS.out,HDN.out]
    rw [hres]
    exact ⟨rfl,(Below.refl _ w).alloc (Nat.le_refl _) _⟩
   | some d =>
    have hD:II r=d:=by unfold II;rw [hdg]
    have Q0:d < 16:=by unfold Ll at hdg;revert hdg;(repeat' split) <;> intro h <;> (try cases h) <;> omega
    rw [hD]
    clear hD
    have HDN:=Lib.hid hdg
    clear hdg
    have hdz:(d:Int) < 16:=by omega
    go_wp2_with fail
    all_goals
     go_roundw
     case rel =>
      have hN':=hN.out
      refine ⟨pos+k,(N * 16+d) % 18446744073709551616,?_,?_,?_,?_,rfl⟩
      ·have:=HW.out.2.2 Qb.out;rw [HLL.out] at this;omega
      ·unfold Hid;omega
      ·rw [Aul N d Q0]
      ·unfold Hid
       rw [hG.out,HS.out,HDN.out,List.drop_drop]
       simp
     case measure =>
      have hk1:=HW.out.1
      have e:∀ q,(w.iter A1 q).iterPos w.heap.size=q:=fun q=>World.iterPos_iter w A1 q
      simp only [e]
      omega
  ·have hnx:=fun ty=>run_next_end (P:=Tryz.prog) w A1 pos ty (by rw [HM.out];exact hlt)
   have YJ:∀ ty,(Instr.next (.pointer (some ⟨w.heap.size,0,none⟩)) true ty).run Tryz.prog (w.iter A1 pos)=.ok (.tuple #[.bool false]) (w.iter A1 pos):=hnx
   clear hnx
   go_wp2_with fail
   go_ret2
   have hres:G7 true 0 (bs A1)=some N:=by
    rw [hG.out,List.drop_of_length_le (by rw [Dg,HM.out];omega),Aer]
   rw [hres]
   exact ⟨rfl,(Below.refl _ w).alloc (Nat.le_refl _) _⟩
set_option maxHeartbeats 1000000 in
theorem Brd (s A0 A1:ByteArray) (w:World) (hs:s.size≤1000000) (hsz:A1.size≤1000000) (hne:bs A1≠[])
  (hc0:∀ w,Calls Tryz.prog 142 #[.string s,.string ⟨#[48,120]⟩] w fun e w'=>e=.returned (.tuple #[.string A0,.bool false])∧w=w')
  (hc:∀ w,Calls Tryz.prog 142 #[.string s,.string ⟨#[48,88]⟩] w fun e w'=>e=.returned (.tuple #[.string A1,.bool false])∧w=w') :
  Calls Tryz.prog 131 #[.string s] w (Vh (G7 false 0 (bs A1)) false w):=by
 have HC:=Lib.hid hc
 have HC0:=Lib.hid hc0
 clear hc hc0
 have HNE:=Lib.hid hne
 have he:A1.toList.isEmpty=false:=by
  rw [Lib.toList_data];cases h:A1.data.toList with
  | nil=>exact absurd h hne
  | cons _ _=>rfl
 clear hne
 go_enter Tryz.func131,Tryz.ntmps131
 go_wp2_with fail
 refine (HC0.out _).mono ?_
 rintro e w' ⟨rfl,rfl⟩
 go_wp2_with fail
 refine (HC.out _).mono ?_
 rintro e w' ⟨rfl,rfl⟩
 go_wp2_with fail
 have Hsz:=Lib.hid hsz
 generalize hM:A1.size=M at *
 have HM:=Lib.hid hM
 clear hM
 go_loopw [2] (fun n wr=>∃ pos N:Nat,pos≤M∧Hid (N < 18446744073709551616)∧n=.int .u64 N∧Hid (G7 false 0 (bs A1)=G7 false N ((bs A1).drop pos))∧wr=w.iter A1 pos) (fun _ wr=>M - wr.iterPos w.heap.size)
 case atStart=>exact ⟨0,0,Nat.zero_le _,by unfold Hid;omega,rfl,by unfold Hid;simp,rfl⟩
 case round =>
  obtain ⟨pos,N,hpos,hN,rfl,hG,rfl⟩:=hrel
  by_cases hlt:pos < M
  ·have hnext:=run_next_any (P:=Tryz.prog) w A1 pos
   have hd:=Sv ((bs A1).drop pos)
   have hnx:∀ ty,(Instr.next (.pointer (some ⟨w.heap.size,0,none⟩)) true ty).run Tryz.prog (w.iter A1 pos)=.ok (.tuple #[.bool true,.int .i64 pos,.int .i32 (CC ((bs A1).drop pos)).1]) (w.iter A1 (pos+(CC ((bs A1).drop pos)).2)):=fun ty=>by
    have:=hnext ty (by rw [HM.out];exact hlt)
    rw [decode_eq A1 pos] at this
    exact this
   clear hnext
   have hne:(bs A1).drop pos≠[]:=fun h=>by
    have:=congrArg List.length h
    rw [Cv,Dg,HM.out] at this
    simp at this;omega
   have HS:=Lib.hid (Aev false N ((bs A1).drop pos) hne)
   have HW:=Lib.hid (KA ((bs A1).drop pos))
   have HLL:=Lib.hid (show ((bs A1).drop pos).length=M - pos by rw [Cv,Dg,HM.out])
   have Qb:=Lib.hid hne
   clear hne
   generalize hr:(CC ((bs A1).drop pos)).1=r at *
   generalize hk:(CC ((bs A1).drop pos)).2=k at *
   have HR:=Lib.hid hr
   have HK:=Lib.hid hk
   clear hr hk
   have HDG:=Lib.hid (fun w=>Af4 r w hd)
   go_wp2_with fail
   refine (HDG.out _).mono ?_
   rintro e w' ⟨rfl,rfl⟩
   cases hdg:Ll r with
   | none =>
    have hD:II r=-1:=by unfold II;rw [hdg]
    rw [hD]
    clear hD
    have HDN:=Lib.hid hdg
    clear hdg
    go_wp2_with fail
    refine ⟨rfl,?_⟩
    have hres:G7 false 0 (bs A1)=none:=by rw [hG.out,HS.out,HDN.out]
    rw [hres]
    exact ⟨rfl,(Below.refl _ w).alloc (Nat.le_refl _) _⟩
   | some d =>
    have hD:II r=d:=by unfold II;rw [hdg]
    have Q0:d < 16:=by unfold Ll at hdg;revert hdg;(repeat' split) <;> intro h <;> (try cases h) <;> omega
    rw [hD]
    clear hD
    have HDN:=Lib.hid hdg
    clear hdg
    have hdz:(d:Int) < 16:=by omega
    by_cases h9:d≤9
    ·have h9z:(d:Int)≤9:=by omega
     have H9:=Lib.hid h9
     clear h9
     have Ah6:=Lib.hid (Bke N hN.out)
     have hdw:IntKind.u64.wrap (d:Int)=d:=by unfold IntKind.wrap;simp [IntKind.bits,IntKind.signed];omega
     obtain ⟨hi,hhi⟩:∃ hi,N * 10 / 18446744073709551616=hi:=⟨_,rfl⟩
     obtain ⟨lo,hlo⟩:∃ lo,N * 10 % 18446744073709551616=lo:=⟨_,rfl⟩
     rw [hhi,hlo] at Ah6
     obtain ⟨sm,hsm⟩:∃ sm,(lo+d) % 18446744073709551616=sm:=⟨_,rfl⟩
     obtain ⟨cy,hcy⟩:∃ cy,(lo+d) / 18446744073709551616=cy:=⟨_,rfl⟩
     have hadd:∀ w,(callFunc 145 #[.int .u64 lo,.int .u64 d,.int .u64 0]).run Tryz.prog w=.ok (.value (.tuple #[.int .u64 sm,.int .u64 cy])) w:=fun w=>by
      rw [A0f lo d w (by omega) (by omega),← hsm,← hcy]
      rfl
     have hNN:=hN.out
     have UV:=Lib.hid (A3q N d hi lo sm cy hNN Q0 hhi hlo hsm hcy)
     have hz1:(hi:Int)≤9:=by have:=UV.out.2.2.1;omega
     have hz2:(cy:Int)≤1:=by have:=UV.out.2.2.2;omega
     have hz0:(0:Int)≤hi:=by omega
     have hz3:(0:Int)≤cy:=by omega
     clear hhi hlo hsm hcy hNN
     go_wp2_with fail
     refine (Ah6.out _).mono ?_
     rintro e w1 ⟨rfl,rfl⟩
     go_wp2_with fail
     ·go_roundw
      case rel =>
       have hc:hi+cy≠0:=by
        have h:((hi:Int)+cy != 0)=true:=by assumption
        rw [bne_iff_ne] at h;omega
       have ha:=UV.out.2.1 hc
       have hN':=hN.out
       refine ⟨pos+k,18446744073709551615,?_,?_,?_,?_,rfl⟩
       ·have:=HW.out.2.2 Qb.out;rw [HLL.out] at this;omega
       ·unfold Hid;omega
       ·congr 1;omega
       ·unfold Hid
        rw [hG.out,HS.out,HDN.out,List.drop_drop]
        have h9':(decide (d > 9) && !false)=false:=by simp;exact H9.out
        simp only [h9',Bool.false_eq_true,if_false]
        rw [Nat.min_eq_right (by omega)]
      case measure =>
       have hk1:=HW.out.1
       have e:∀ q,(w.iter A1 q).iterPos w.heap.size=q:=fun q=>World.iterPos_iter w A1 q
       simp only [e]
       omega
     ·go_roundw
      case rel =>
       have hc:hi+cy=0:=by
        have h:((hi:Int)+cy != 0)=false:=by assumption
        simp at h;omega
       have ha:=UV.out.1 hc
       have hN':=hN.out
       refine ⟨pos+k,sm,?_,?_,?_,?_,rfl⟩
       ·have:=HW.out.2.2 Qb.out;rw [HLL.out] at this;omega
       ·unfold Hid;omega
       ·congr 1;omega
       ·unfold Hid
        rw [hG.out,HS.out,HDN.out,List.drop_drop]
        have h9':(decide (d > 9) && !false)=false:=by simp;exact H9.out
        simp only [h9',Bool.false_eq_true,if_false]
        rw [Nat.min_eq_left (by omega),← ha.1]
      case measure =>
       have hk1:=HW.out.1
       have e:∀ q,(w.iter A1 q).iterPos w.heap.size=q:=fun q=>World.iterPos_iter w A1 q
       simp only [e]
       omega
    ·have h9z:(9:Int) < d:=by omega
     have H9:=Lib.hid h9
     clear h9
     go_wp2_with fail
     refine ⟨rfl,?_⟩
     have hres:G7 false 0 (bs A1)=none:=by
      rw [hG.out,HS.out,HDN.out]
      have h9':(decide (d > 9) && !false)=true:=by simp;have:=H9.out;omega
      simp only [h9',if_true]
     rw [hres]
     exact ⟨rfl,(Below.refl _ w).alloc (Nat.le_refl _) _⟩
  ·have hnx:=fun ty=>run_next_end (P:=Tryz.prog) w A1 pos ty (by rw [HM.out];exact hlt)
   have YJ:∀ ty,(Instr.next (.pointer (some ⟨w.heap.size,0,none⟩)) true ty).run Tryz.prog (w.iter A1 pos)=.ok (.tuple #[.bool false]) (w.iter A1 pos):=hnx
   clear hnx
   go_wp2_with fail
   go_ret2
   have hres:G7 false 0 (bs A1)=some N:=by
    rw [hG.out,List.drop_of_length_le (by rw [Dg,HM.out];omega),Aer]
   rw [hres]
   exact ⟨rfl,(Below.refl _ w).alloc (Nat.le_refl _) _⟩
theorem Aj3 (s:ByteArray) (p:Bs) (w:World):Calls Tryz.prog 142 #[.string s,.string (str p)] w fun e w' =>
  e=.returned (.tuple #[.string (str (if p.isPrefixOf (bs s) then (bs s).drop p.length else bs s)),.bool (p.isPrefixOf (bs s))])∧w=w' :=
 (Tryz.strings_CutPrefix s (str p) w).mono fun _ _ ⟨h1,h2⟩=>⟨by rw [h1];simp [str,bs,Lib.trimPrefix,Lib.hasPrefix],h2.symm⟩
def KR (l:Bs):Option Nat :=
 let rest:=if GB l then l.drop 2 else l
 if rest=[] then none else G7 (GB l) 0 rest
theorem size_any (s:ByteArray) (w:World) (hs:s.size≤1000000):Calls Tryz.prog 131 #[.string s] w (Vh (KR (bs s)) (GB (bs s)) w):=by
 have h0:=fun w=>Aj3 s [48,120] w
 have h1:=fun w=>Aj3 s [48,88] w
 have hl:=Dg s
 have hstr:∀ l:Bs,l.length≤1000000→(str l).size≤1000000:=fun l h=>by rw [U0];exact h
 by_cases p0:[48,120].isPrefixOf (bs s)=true
 ·have hh:GB (bs s)=true:=by simp [GB,p0]
  simp only [p0,if_true] at h0
  unfold KR
  rw [hh]
  simp only [if_true]
  by_cases hn:(bs s).drop 2=[]
  ·rw [if_pos hn]
   have hn':(str ((bs s).drop [48,120].length)).toList.isEmpty=true:=by rw [Lib.toList_data];show ((str ((bs s).drop 2)).data.toList).isEmpty=true;rw [hn];rfl
   have H0:=Lib.hid h0
   generalize str ((bs s).drop [48,120].length)=A at *
   clear h0 h1 hh p0 hl hstr hn
   go_enter Tryz.func131,Tryz.ntmps131
   go_wp2_with fail
   refine (H0.out _).mono ?_
   rintro e w' ⟨rfl,rfl⟩
   go_wp2_with fail
   exact ⟨rfl,rfl,Below.refl _ _⟩
  ·rw [if_neg hn]
   have:=Brk s (str ((bs s).drop 2)) w hs (hstr _ (by rw [Cv];omega)) (by rw [Lj];exact hn) h0
   rw [Lj] at this
   exact this
 ·have p0':[48,120].isPrefixOf (bs s)=false:=Bool.eq_false_iff.2 p0
  simp only [p0',Bool.false_eq_true,if_false] at h0
  by_cases p1:[48,88].isPrefixOf (bs s)=true
  ·have hh:GB (bs s)=true:=by simp [GB,p1]
   simp only [p1,if_true] at h1
   unfold KR
   rw [hh]
   simp only [if_true]
   by_cases hn:(bs s).drop 2=[]
   ·rw [if_pos hn]
    have hn':(str ((bs s).drop [48,88].length)).toList.isEmpty=true:=by rw [Lib.toList_data];show ((str ((bs s).drop 2)).data.toList).isEmpty=true;rw [hn];rfl
    have H0:=Lib.hid h0
    have H1:=Lib.hid h1
    generalize str ((bs s).drop [48,88].length)=A at *
    generalize str (bs s)=A0 at *
    clear h0 h1 hh p0 p0' p1 hl hstr hn
    go_enter Tryz.func131,Tryz.ntmps131
    go_wp2_with fail
    refine (H0.out _).mono ?_
    rintro e w' ⟨rfl,rfl⟩
    go_wp2_with fail
    refine (H1.out _).mono ?_
    rintro e w' ⟨rfl,rfl⟩
    go_wp2_with fail
    exact ⟨rfl,rfl,Below.refl _ _⟩
   ·rw [if_neg hn]
    have:=Brm s (str (bs s)) (str ((bs s).drop 2)) w hs (hstr _ (by rw [Cv];omega)) (by rw [Lj];exact hn) h0 h1
    rw [Lj] at this
    exact this
  ·have p1':[48,88].isPrefixOf (bs s)=false:=Bool.eq_false_iff.2 p1
   simp only [p1',Bool.false_eq_true,if_false] at h1
   have hh:GB (bs s)=false:=by simp [GB,p0',p1']
   unfold KR
   rw [hh]
   simp only [Bool.false_eq_true,if_false]
   by_cases hn:bs s=[]
   ·rw [if_pos hn]
    have hn':(str (bs s)).toList.isEmpty=true:=by rw [Lib.toList_data];show ((str (bs s)).data.toList).isEmpty=true;rw [hn];rfl
    have H0:=Lib.hid h0
    have H1:=Lib.hid h1
    generalize str (bs s)=A0 at *
    clear h0 h1 hh p0 p0' p1 p1' hl hstr hn
    go_enter Tryz.func131,Tryz.ntmps131
    go_wp2_with fail
    refine (H0.out _).mono ?_
    rintro e w' ⟨rfl,rfl⟩
    go_wp2_with fail
    refine (H1.out _).mono ?_
    rintro e w' ⟨rfl,rfl⟩
    go_wp2_with fail
    exact ⟨rfl,rfl,Below.refl _ _⟩
   ·rw [if_neg hn]
    have:=Brd s (str (bs s)) (str (bs s)) w hs (hstr _ (by omega)) (by rw [Lj];exact hn) h0 h1
    rw [Lj] at this
    exact this
theorem catch_panicking (p q:Nat) (x y c:Int) (w:World) (hp:w.cell? ⟨p,0,none⟩=some (.int .i64 x)) (hq:w.cell? ⟨q,0,none⟩=some (.int .i64 y)) (fp:w.frozen? ⟨p,0,none⟩=false) (fq:w.frozen? ⟨q,0,none⟩=false) (hne:¬ p=q) :
  CallsD Tryz.prog 130 #[.pointer (some ⟨p,0,none⟩),.pointer (some ⟨q,0,none⟩)] (.panicking [{ v:=.iface 174 (.agg #[.int .i64 c]),recovered:=false }]) w fun e u' w' =>
   e=.returned (.tuple #[])∧u'=.panicking [{ v:=.iface 174 (.agg #[.int .i64 c]),recovered:=true }]∧((w.setCell ⟨p,0,none⟩ (.int .i64 0)).setCell ⟨q,0,none⟩ (.int .i64 c)).drew=w':=by
 refine callsD_of_wpS Tryz.func130 rfl fun c₀ cs hu=>?_
 have hta:∀ w,(Instr.typeAssert (.iface 174 (.agg #[.int .i64 c])) 20 174 false).run Tryz.prog w=.ok (.agg #[.int .i64 c]) w:=fun w=>by kernel_rfl
 have hfa:∀ w,(Instr.field 174 (.agg #[.int .i64 c]) 0).run Tryz.prog w=.ok (.int .i64 c) w:=fun w=>by kernel_rfl
 apply wpS_seq
 apply wpS_region
 simp [wpOpsS,go_sem,recoverD,hu,Tryz.ntmps130,Exit.thenS,Array.replicate_succ]
 refine wpS_of_wp ?_
 go_wp2
 refine Kz [(0,0),(1,0),(2,0)] (fun _=>True) (by kernel_rfl) (by kernel_rfl) (fun _ _ d _ _ h=>by cases d <;> exact h) (by trivial) ?_
 simp only [EN,List.filterMap_cons,List.filterMap_nil,List.getElem?_toArray,List.getElem?_cons_zero,List.getElem?_cons_succ,Option.map_some,List.drop_succ_cons,List.drop_zero,AD,Be]
 iterate 3 (refine EC (by rfl) (fun wq=>by go_simp;with_reducible rfl) ?_;simp only [Act.put,List.setIfInBounds_toArray,List.set_cons_zero,List.set_cons_succ])
 refine KO ?_
 go_wp2
 simp [bodyPostS,results,Tryz.results130]
theorem catch_idle (p q:Value) (w:World) :
  CallsD Tryz.prog 130 #[p,q] .returning w fun e u' w'=>e=.returned (.tuple #[])∧u'=.returning∧w=w':=by
 refine callsD_of_wpS Tryz.func130 rfl fun c₀ cs hu=>?_
 apply wpS_seq
 apply wpS_region
 simp [wpOpsS,go_sem,recoverD,hu,Tryz.ntmps130,Exit.thenS,Array.replicate_succ]
 refine wpS_of_wp ?_
 go_wp2
 cases c₀
 simp_all [bodyPostS,results,Tryz.results130]
theorem QV (w:World) (b:Nat) (v:Value) (e:TypeId) (h:w.heap[b]? = some (.cells #[v] e)):w.cell? ⟨b,0,none⟩=some v∧w.frozen? ⟨b,0,none⟩=false :=
 ⟨by rw [G1 h];rfl,Kf h 0⟩
set_option maxHeartbeats 1000000 in
theorem Bqa (s:ByteArray) (neg:Bool) (w:World) (hs:s.size≤1000000) (hn:KR (bs s)=none) :
  Calls Tryz.prog 118 #[.string s,.bool neg] w fun e w'=>e=.returned (.tuple #[.int .i64 0,.int .i64 4])∧Below w.heap.size w w':=by
 have hsz:=fun w=>size_any s w hs
 rw [hn] at hsz
 have HS:=Lib.hid hsz
 clear hsz
 have hmf:∀ (fn:Fn) (first cap:Array Value) (w:World),(Instr.makeFunc fn first cap).run Tryz.prog w=.ok (.func fn first cap) w:=fun _ _ _ _=>rfl
 go_enter_defers Tryz.func118,Tryz.ntmps118
 go_wp2_with fail
 refine (HS.out _).mono ?_
 rintro e w1 ⟨he,hb1⟩
 simp only [] at he
 subst he
 have hbn:=Lh hb1 (by simp;omega) (MA (Li w (.cells #[.int .i64 0] 3)))
 have hbe:=Lh hb1 (by simp) (Li (w.alloc (.cells #[.int .i64 0] 3)) (.cells #[.int .i64 0] 26))
 simp only [World.size_alloc] at hbe
 have hB:=hb1.mono (B':=w.heap.size) (by simp;omega)
 have HB:=Lib.hid ((((Below.refl w.heap.size w).alloc (Nat.le_refl _) _).alloc (by simp) _).trans hB)
 obtain ⟨cn,fn⟩:=QV w1 _ _ _ hbn
 obtain ⟨ce,fe⟩:=QV w1 _ _ _ hbe
 clear hb1 hB hbn hbe
 go_wp2_with fail
 refine leaves_cons (f:=130) (args:=#[.pointer (some ⟨w.heap.size,0,none⟩),.pointer (some ⟨w.heap.size+1,0,none⟩)]) (by simp) (by simp [go_sem]) ?_
 refine (catch_panicking w.heap.size (w.heap.size+1) 0 0 _ w1 cn ce fn fe (by omega)).mono ?_
 rintro e u' w'' ⟨rfl,rfl,rfl⟩
 have hne:¬ w.heap.size+1=w.heap.size:=by omega
 have hn0:((w1.setCell ⟨w.heap.size,0,none⟩ (.int .i64 0)).setCell ⟨w.heap.size+1,0,none⟩ (.int .i64 4)).drew.cell? ⟨w.heap.size,0,none⟩=some (.int .i64 0):=by
  rw [World.cell?_drew,World.cell?_setCell_other _ _ _ _ (by simp),World.cell?_setCell_same _ _ _ cn]
 have hn1:((w1.setCell ⟨w.heap.size,0,none⟩ (.int .i64 0)).setCell ⟨w.heap.size+1,0,none⟩ (.int .i64 4)).drew.cell? ⟨w.heap.size+1,0,none⟩=some (.int .i64 4):=by
  rw [World.cell?_drew]
  exact World.cell?_setCell_same _ _ _ ((World.cell?_setCell_other _ _ _ _ (by simp)).trans ce)
 have HBf:=((HB.out.setCell (p:=⟨w.heap.size,0,none⟩) (Nat.le_refl _) (.int .i64 0)).setCell (p:=⟨w.heap.size+1,0,none⟩) (by simp) (.int .i64 4)).drew
 generalize ((w1.setCell ⟨w.heap.size,0,none⟩ (.int .i64 0)).setCell ⟨w.heap.size+1,0,none⟩ (.int .i64 4)).drew=w9 at *
 simp [Leaves,settle,results,Tryz.results118,go_sem,hn0,hn1]
 exact HBf
theorem Awy (hex:Bool):∀ (f n:Nat) (l:Bs) (u:Nat),n < 18446744073709551616→Mp hex f n l=some u→u < 18446744073709551616
 | 0,n,l,u,hn,h=>by simp only [Mp,Option.some.injEq] at h;omega
 | f+1,n,[],u,hn,h=>by simp only [Mp,Option.some.injEq] at h;omega
 | f+1,n,b :: t,u,hn,h=>by
  simp only [Mp] at h
  split at h
  ·cases h
  ·split at h
   ·cases h
   ·refine Awy hex f _ _ u ?_ h
    split <;> omega
theorem Brb {l:Bs} {u:Nat} (h:KR l=some u):u < 18446744073709551616:=by
 unfold KR at h
 simp only [] at h
 generalize (if GB l then l.drop 2 else l)=rest at h
 by_cases hr:rest=[]
 ·rw [if_pos hr] at h;cases h
 ·rw [if_neg hr] at h
  exact Awy _ _ 0 _ _ (by omega) h
theorem Bok (l:Bs):Ix l=match KR l with | none=>(0,4) | some u=>if !GB l && decide (u > 9223372036854775807) then (0,14) else (sint u,0):=by
 unfold Ix KR
 simp only []
 generalize (if GB l then l.drop 2 else l)=rest
 by_cases h:rest=[]
 ·simp [h]
 ·simp only [h,if_false]
  all_goals (cases G7 (GB l) 0 rest <;> rfl)
theorem Bq8 (u:Nat) (h:u < 18446744073709551616):wrap64 (u:Int)=sint u:=by
 unfold wrap64 sint
 split <;> omega
set_option maxHeartbeats 1000000 in
theorem Bp9 (s:ByteArray) (w:World) (u:Nat) (hs:s.size≤1000000) (hn:KR (bs s)=some u) (hx:GB (bs s)=false) (hu:9223372036854775807 < u) :
  Calls Tryz.prog 118 #[.string s,.bool false] w fun e w'=>e=.returned (.tuple #[.int .i64 0,.int .i64 14])∧Below w.heap.size w w':=by
 have hsz:=fun w=>size_any s w hs
 rw [hn,hx] at hsz
 have HS:=Lib.hid hsz
 have huz:(9223372036854775807:Int) < u:=by omega
 clear hsz hn hx hu
 have hmf:∀ (fn:Fn) (first cap:Array Value) (w:World),(Instr.makeFunc fn first cap).run Tryz.prog w=.ok (.func fn first cap) w:=fun _ _ _ _=>rfl
 go_enter_defers Tryz.func118,Tryz.ntmps118
 go_wp2_with fail
 refine (HS.out _).mono ?_
 rintro e w1 ⟨he,hb1⟩
 simp only [] at he
 subst he
 have hbn:=Lh hb1 (by simp;omega) (MA (Li w (.cells #[.int .i64 0] 3)))
 have hbe:=Lh hb1 (by simp) (Li (w.alloc (.cells #[.int .i64 0] 3)) (.cells #[.int .i64 0] 26))
 simp only [World.size_alloc] at hbe
 have hB:=hb1.mono (B':=w.heap.size) (by simp;omega)
 have HB:=Lib.hid ((((Below.refl w.heap.size w).alloc (Nat.le_refl _) _).alloc (by simp) _).trans hB)
 obtain ⟨cn,fn⟩:=QV w1 _ _ _ hbn
 obtain ⟨ce,fe⟩:=QV w1 _ _ _ hbe
 clear hb1 hB hbn hbe
 go_wp2_with fail
 refine leaves_cons (f:=130) (args:=#[.pointer (some ⟨w.heap.size,0,none⟩),.pointer (some ⟨w.heap.size+1,0,none⟩)]) (by simp) (by simp [go_sem]) ?_
 refine (catch_panicking w.heap.size (w.heap.size+1) 0 0 _ w1 cn ce fn fe (by omega)).mono ?_
 rintro e u' w'' ⟨rfl,rfl,rfl⟩
 have hne:¬ w.heap.size+1=w.heap.size:=by omega
 have hn0:((w1.setCell ⟨w.heap.size,0,none⟩ (.int .i64 0)).setCell ⟨w.heap.size+1,0,none⟩ (.int .i64 14)).drew.cell? ⟨w.heap.size,0,none⟩=some (.int .i64 0):=by
  rw [World.cell?_drew,World.cell?_setCell_other _ _ _ _ (by simp),World.cell?_setCell_same _ _ _ cn]
 have hn1:((w1.setCell ⟨w.heap.size,0,none⟩ (.int .i64 0)).setCell ⟨w.heap.size+1,0,none⟩ (.int .i64 14)).drew.cell? ⟨w.heap.size+1,0,none⟩=some (.int .i64 14):=by
  rw [World.cell?_drew]
  exact World.cell?_setCell_same _ _ _ ((World.cell?_setCell_other _ _ _ _ (by simp)).trans ce)
 have HBf:=((HB.out.setCell (p:=⟨w.heap.size,0,none⟩) (Nat.le_refl _) (.int .i64 0)).setCell (p:=⟨w.heap.size+1,0,none⟩) (by simp) (.int .i64 14)).drew
 generalize ((w1.setCell ⟨w.heap.size,0,none⟩ (.int .i64 0)).setCell ⟨w.heap.size+1,0,none⟩ (.int .i64 14)).drew=w9 at *
 simp [Leaves,settle,results,Tryz.results118,go_sem,hn0,hn1]
 exact HBf
set_option maxHeartbeats 1000000 in
theorem Avy (s:ByteArray) (w:World) (u:Nat) (hs:s.size≤1000000) (hn:KR (bs s)=some u) (hu:GB (bs s)=true∨u≤9223372036854775807) :
  Calls Tryz.prog 118 #[.string s,.bool false] w fun e w'=>e=.returned (.tuple #[.int .i64 (sint u),.int .i64 0])∧Below w.heap.size w w':=by
 have hsz:=fun w=>size_any s w hs
 have Z1:=Brb hn
 rw [hn] at hsz
 obtain ⟨X,hX⟩:∃ X,sint u=X:=⟨_,rfl⟩
 rw [hX]
 have hcv:∀ w,(convert 59 3 (.int .u64 u)).run Tryz.prog w=.ok (.int .i64 X) w:=fun w=>by
  rw [← hX,← Bq8 u Z1];simp [go_sem,IntKind.wrap_i64,wrap64]
 have HH:Hid (GB (bs s)=true∨u≤9223372036854775807):=hu
 have HS:=Lib.hid hsz
 clear hsz hu hn
 generalize GB (bs s)=hx at *
 have Bw6:=Lib.hid Z1
 clear Z1 hX
 have hmf:∀ (fn:Fn) (first cap:Array Value) (w:World),(Instr.makeFunc fn first cap).run Tryz.prog w=.ok (.func fn first cap) w:=fun _ _ _ _=>rfl
 go_enter_defers Tryz.func118,Tryz.ntmps118
 go_wp2_with fail
 refine (HS.out _).mono ?_
 rintro e w1 ⟨he,hb1⟩
 simp only [] at he
 subst he
 have hbn:=Lh hb1 (by simp;omega) (MA (Li w (.cells #[.int .i64 0] 3)))
 have hbe:=Lh hb1 (by simp) (Li (w.alloc (.cells #[.int .i64 0] 3)) (.cells #[.int .i64 0] 26))
 simp only [World.size_alloc] at hbe
 have hB:=hb1.mono (B':=w.heap.size) (by simp;omega)
 have HB:=Lib.hid ((((Below.refl w.heap.size w).alloc (Nat.le_refl _) _).alloc (by simp) _).trans hB)
 obtain ⟨cn,fn⟩:=QV w1 _ _ _ hbn
 obtain ⟨ce,fe⟩:=QV w1 _ _ _ hbe
 clear hb1 hB hbn hbe
 have Aia:Hid (hx=true∨(hx=false∧¬ (9223372036854775807:Int) < u)):=by
  unfold Hid at *
  cases hx
  ·exact .inr ⟨rfl,by have:=HH;simp at this;omega⟩
  ·exact .inl rfl
 rcases Aia.out with rfl | ⟨rfl,huz⟩
 all_goals
  clear Aia HH HS
  go_wp2_with fail
  refine leaves_cons (f:=130) (args:=#[.pointer (some ⟨w.heap.size,0,none⟩),.pointer (some ⟨w.heap.size+1,0,none⟩)]) (by simp) (by simp [go_sem]) ?_
  refine (catch_idle _ _ _).mono ?_
  rintro e u' w'' ⟨rfl,rfl,rfl⟩
  have hn0:(((w1.setCell ⟨w.heap.size,0,none⟩ (.int .i64 X)).setCell ⟨w.heap.size,0,none⟩ (.int .i64 X)).setCell ⟨w.heap.size+1,0,none⟩ (.int .i64 0)).cell? ⟨w.heap.size,0,none⟩=some (.int .i64 X):=by
   rw [World.cell?_setCell_other _ _ _ _ (by simp)]
   exact World.cell?_setCell_same _ _ _ (World.cell?_setCell_same _ _ _ cn)
  have hn1:(((w1.setCell ⟨w.heap.size,0,none⟩ (.int .i64 X)).setCell ⟨w.heap.size,0,none⟩ (.int .i64 X)).setCell ⟨w.heap.size+1,0,none⟩ (.int .i64 0)).cell? ⟨w.heap.size+1,0,none⟩=some (.int .i64 0) :=
   World.cell?_setCell_same _ _ _ ((World.cell?_setCell_other _ _ _ _ (by simp)).trans ((World.cell?_setCell_other _ _ _ _ (by simp)).trans ce))
  have HBf:=((HB.out.setCell (p:=⟨w.heap.size,0,none⟩) (Nat.le_refl _) (.int .i64 X)).setCell (p:=⟨w.heap.size,0,none⟩) (Nat.le_refl _) (.int .i64 X)).setCell (p:=⟨w.heap.size+1,0,none⟩) (by simp) (.int .i64 0)
  generalize ((w1.setCell ⟨w.heap.size,0,none⟩ (.int .i64 X)).setCell ⟨w.heap.size,0,none⟩ (.int .i64 X)).setCell ⟨w.heap.size+1,0,none⟩ (.int .i64 0)=w9 at *
  simp [Leaves,settle,results,Tryz.results118,go_sem,hn0,hn1]
  exact HBf
theorem Bp7 (s:ByteArray) (w:World) (hs:s.size≤1000000) :
  Calls Tryz.prog 118 #[.string s,.bool false] w fun e w'=>e=.returned (.tuple #[.int .i64 (Ix (bs s)).1,.int .i64 (Ix (bs s)).2])∧Below w.heap.size w w':=by
 rw [Bok]
 cases hn:KR (bs s) with
 | none=>exact Bqa s false w hs hn
 | some u =>
  simp only []
  by_cases hx:GB (bs s)=true
  ·rw [hx]
   exact Avy s w u hs hn (.inl hx)
  ·have hx':GB (bs s)=false:=Bool.eq_false_iff.2 hx
   rw [hx']
   by_cases hu:9223372036854775807 < u
   ·simp only [Bool.not_false,Bool.true_and,decide_eq_true (show u > 9223372036854775807 from hu),if_true]
    exact Bp9 s w u hs hn hx' hu
   ·simp only [Bool.not_false,Bool.true_and,decide_eq_false (show ¬ u > 9223372036854775807 from hu),Bool.false_eq_true,if_false]
    exact Avy s w u hs hn (.inr (by omega))
theorem parse_any (s:ByteArray) (w:World) (hs:s.size≤1000000) :
  Calls Tryz.prog 99 #[.string s] w fun e w'=>e=.returned (.tuple #[.int .i64 (Ix (bs s)).1,.int .i64 (Ix (bs s)).2])∧Below w.heap.size w w':=by
 have hr:=fun w=>Bp7 s w hs
 generalize Ix (bs s)=R at *
 have HR:=Lib.hid hr
 clear hr
 go_enter Tryz.func99,Tryz.ntmps99
 go_wp2_with fail
 refine (HR.out _).mono ?_
 rintro e w' ⟨rfl,hb⟩
 go_wp2_with fail
 go_ret2
 exact ⟨rfl,hb⟩
theorem sizeBuilder:(Tryz.prog.info? 139).map (·.size)=some 2:=by kernel_rfl
theorem liesBuilder:liesAt Tryz.prog Tryz.prog.depth 139 (2 / Tryz.prog.cellsOf 139) 0 139 1=true:=by kernel_rfl
theorem infoByte:(Tryz.prog.info? 5).map (fun i=>(i.zero,i.size,i.bytes))=some (some (.int .u8 0),1,1):=by kernel_rfl
set_option maxHeartbeats 1000000 in
theorem A3d (b:Nat) (w:World) (h0:w.cell? ⟨b,0,none⟩=some (.pointer (some ⟨b,0,none⟩))) :
  Calls Tryz.prog 124 #[.pointer (some ⟨b,0,none⟩)] w fun e w'=>e=.returned (.tuple #[])∧w=w':=by
 obtain ⟨j,hj,_⟩:=Option.map_eq_some_iff.1 sizeBuilder
 go_enter Tryz.func124,Tryz.ntmps124
 go_wp2
 rw [Lib.run_neq_ptr_same w _ Tryz.underlying136 hj]
 go_wp2
 go_end0
 exact ⟨rfl,rfl⟩
set_option maxHeartbeats 1000000 in
theorem A3a (b:Nat) (w:World) (h0:w.cell? ⟨b,0,none⟩=some (.pointer none)) (hsh:w.shape? b=some (139,2)) (hfz:w.frozen? ⟨b,0,none⟩=false) :
  Calls Tryz.prog 124 #[.pointer (some ⟨b,0,none⟩)] w fun e w'=>e=.returned (.tuple #[])∧w.setCell ⟨b,0,none⟩ (.pointer (some ⟨b,0,none⟩))=w':=by
 obtain ⟨j,hj,hjs⟩:=Option.map_eq_some_iff.1 sizeBuilder
 go_enter Tryz.func124,Tryz.ntmps124
 go_wp2
 rw [Lib.run_to_unsafe w ⟨b,0,none⟩ Tryz.underlying136 Tryz.underlying178 hj (by rw [hjs];decide) hsh (Nat.zero_lt_succ 1)]
 simp only [Result.andThen]
 rw [Oper.upon_value]
 go_wp2
 rw [run_callFunc_extern Tryz.func133 (by kernel_rfl) (by kernel_rfl) (by kernel_rfl) (e:=Extern.AbiNoEscape.same) (by kernel_rfl)]
 rw [Lib.run_noEscape]
 simp only [Result.andThen]
 rw [Oper.upon_value]
 go_wp2
 rw [Lib.run_from_unsafe w ⟨b,0,none⟩ Tryz.underlying178 Tryz.underlying136 hj hsh liesBuilder]
 simp only [Result.andThen]
 rw [Oper.upon_value]
 go_wp2
 go_end0
 exact ⟨rfl,rfl⟩
abbrev Bd (B b:Nat) (l:Bs) (w:World):Prop:=Lib.IsBuilder 139 5 B b (Lib.byteCells l) w
theorem LU (l:Bs):(Lib.byteCells l).length=l.length:=by simp [Lib.byteCells]
def Used (B b:Nat) (l:Bs) (w:World):Prop:=Lib.BuilderAt 139 5 B b (.pointer (some ⟨b,0,none⟩)) (Lib.byteCells l) w
theorem check_any (B b:Nat) (l:Bs) (w:World) (h:Bd B b l w) :
  Calls Tryz.prog 124 #[.pointer (some ⟨b,0,none⟩)] w fun e w'=>e=.returned (.tuple #[])∧Used B b l w'∧Below B w w'∧w'.heap.size=w.heap.size:=by
 rcases h with h | h
 ·obtain ⟨hB,v,hb,ho,hne⟩:=h
  refine (A3a b w (by rw [G1 hb];rfl) (by simp [World.shape?,hb]) (Kf hb 0)).mono ?_
  rintro e w' ⟨rfl,rfl⟩
  refine ⟨rfl,⟨hB,v,by rw [Qj hb];rfl,⟨ho.1,?_⟩,hne⟩,(Below.refl B w).setCell hB _,by simp⟩
  rcases ho.2 with h | ⟨g,cap,cur,hv,hg,hh,r⟩
  ·exact .inl h
  ·refine .inr ⟨g,cap,cur,hv,hg,MB hh (fun e=>?_) _,r⟩
   subst hv
   exact hne (congrArg some e.symm)
 ·have h':=h
  obtain ⟨hB,v,hb,ho,hne⟩:=h
  refine (A3d b w (by rw [G1 hb];rfl)).mono ?_
  rintro e w' ⟨rfl,rfl⟩
  exact ⟨rfl,h',Below.refl _ _,rfl⟩
set_option maxHeartbeats 1000000 in
theorem RK (B b:Nat) (l:Bs) (c:UInt8) (w:World) (h:Bd B b l w) (hlen:l.length≤1000000) (hBw:B≤w.heap.size) :
    Calls Tryz.prog 103 #[.pointer (some ⟨b,0,none⟩),.int .u8 c.toNat] w fun e w'=>e=.returned .nilIface∧Bd B b (l++[c]) w'∧Below B w w':=by
  have HC:=Lib.hid (check_any B b l w h)
  clear h
  obtain ⟨i0,hi,hz0,hz1,hz2⟩:=info_parts infoByte
  go_enter Tryz.func103,Tryz.ntmps103
  go_wp2_with fail
  refine HC.out.mono ?_
  rintro e w1 ⟨rfl,hu,hb1,hsz⟩
  obtain ⟨hB,v,hblk,hown,hne⟩:=hu
  have hlt:=K9 hblk
  have c1:w1.cell? ⟨b,1,none⟩=some v:=by rw [G1 hblk];rfl
  have HB:=Lib.hid hblk
  have HB1:=Lib.hid hb1
  have hB1:B≤w1.heap.size:=by have:=hb1.size;omega
  have HSZ:=Lib.hid hsz
  clear hblk hb1 hsz
  go_wp2_with (
    (at_builtin
     refine wpList_append_own _ rfl _ _ 137 rfl B 5 i0 _ 1 1 Tryz.underlying137 hi hz0 hz1 hz2 rfl (by decide) v _ _ rfl (hown.alloc _) ⟨w1.heap.size,0,none⟩ 1 1 [.int .u8 c.toNat] rfl rfl ?_ ?_ ?_ ?_ ?_ ?_
     · exact Bkk w1 _ _
     · simp [Value.oneCell']
     · rw [LU];unfold maxLen;omega
     · rw [LU];omega
     · simp;omega
     intro v2 w2 hown2 OD _
     have HB2:=Lib.hid (XP OD hne (MA HB.out))
     rw [LU] at hown2
     obtain ⟨g2,cap2,hv2,hg2,hne2⟩:=Ac0 hown2 HB2.out (by decide)
     rw [hv2]
     have d1:w2.cell? ⟨b,1,none⟩=some v:=by rw [G1 HB2.out];rfl
     have e1:=Kf HB2.out 1
     have HO:=Lib.hid hown2
     have HG:=Lib.hid OD
     have HV:=Lib.hid hv2
     clear hown2 OD hv2 c1))
  go_ret
  have hb2:=((Below.refl B w1).alloc hB1 _).grown HG.out (by simp;omega) (fun k hk=>(hown.lt k hk).1)
  refine ⟨rfl,.inr ⟨hB,.slice (some ⟨g2,0,none⟩) (l.length+1) cap2,?_,?_,fun h=>hne2 (Ap h)⟩,HB1.out.trans (hb2.setCell hB _)⟩
  · rw [Qj HB2.out 1 _];simp
  · have ho:=HO.out
    rw [HV.out] at ho
    have e:Lib.byteCells (l++[c])=Lib.byteCells l++[.int .u8 c.toNat]:=by simp [Lib.byteCells]
    rw [LU,AM,List.length_singleton,e]
    refine ⟨ho.1,?_⟩
    rcases ho.2 with ⟨h,_⟩ | ⟨g,cap,cur,hv,hg,hh,r⟩
    · cases h
    · cases hv
      exact .inr ⟨g2,cap2,cur,rfl,hg,MB hh (fun h=>hne2 h.symm) _,r⟩
set_option maxHeartbeats 1000000 in
theorem Btv (B b:Nat) (l:Bs) (s:ByteArray) (w:World) (h:Bd B b l w) (hlen:l.length≤1000000000) (hs:s.size≤1000000000) (hBw:B≤w.heap.size) :
    Calls Tryz.prog 123 #[.pointer (some ⟨b,0,none⟩),.string s] w fun e w'=>e=.returned (.tuple #[.int .i64 s.size,.nilIface])∧Bd B b (l++bs s) w'∧Below B w w':=by
  have HC:=Lib.hid (check_any B b l w h)
  clear h
  obtain ⟨i0,hi,hz0,hz1,hz2⟩:=info_parts infoByte
  go_enter Tryz.func123,Tryz.ntmps123
  go_wp2_with fail
  refine HC.out.mono ?_
  rintro e w1 ⟨rfl,hu,hb1,hsz⟩
  obtain ⟨hB,v,hblk,hown,hne⟩:=hu
  have hlt:=K9 hblk
  have c1:w1.cell? ⟨b,1,none⟩=some v:=by rw [G1 hblk];rfl
  have HB:=Lib.hid hblk
  have HB1:=Lib.hid hb1
  have hB1:B≤w1.heap.size:=by have:=hb1.size;omega
  have HSZ:=Lib.hid hsz
  clear hblk hb1 hsz
  go_wp2_with (
    (at_builtin
     refine Lib.wpList_append_own_string _ rfl _ _ 137 9 rfl B 5 i0 Tryz.underlying137 Tryz.underlying9 hi hz0 hz1 hz2 _ _ _ rfl hown s rfl ?_ ?_ ?_ ?_
     · rw [LU];unfold maxLen;omega
     · rw [LU];omega
     · exact hB1
     intro v2 w2 hown2 OD _
     have HB2:=Lib.hid (XP OD hne HB.out)
     rw [LU] at hown2
     obtain ⟨ao,n2,cap2,hv2,hne2⟩:∃ ao n' cap,v2=.slice ao n' cap∧v2.ownBlock≠some b:=by
       rcases hown2.2 with ⟨hv,_⟩ | ⟨g,cap,cur,hv,hg,hh,_⟩
       · exact ⟨_,_,_,hv,by rw [hv];simp [Value.ownBlock]⟩
       · refine ⟨_,_,_,hv,?_⟩
         rw [hv]
         intro h
         have hgb:g=b:=Ap h
         subst hgb
         have:=HB2.out
         rw [hh] at this
         cases this
     rw [hv2]
     have d1:w2.cell? ⟨b,1,none⟩=some v:=by rw [G1 HB2.out];rfl
     have e1:=Kf HB2.out 1
     have HO:=Lib.hid hown2
     have HG:=Lib.hid OD
     have HV:=Lib.hid hv2
     have HNE:=Lib.hid hne2
     clear hown2 OD hv2 c1 hne2))
  go_ret2
  have hb2:=(Below.refl B w1).grown HG.out hB1 (fun k hk=>(hown.lt k hk).1)
  have hne2:=HNE.out
  rw [HV.out] at hne2
  refine ⟨rfl,.inr ⟨hB,.slice ao n2 cap2,?_,?_,hne2⟩,HB1.out.trans (hb2.setCell hB _)⟩
  · rw [Qj HB2.out 1 _];simp
  · have ho:=HO.out
    rw [HV.out] at ho
    have e:Lib.byteCells (l++bs s)=Lib.byteCells l++Lib.strCells s:=by simp [Lib.byteCells,Lib.strCells,bs]
    rw [LU,AM,Dg,e]
    refine ⟨ho.1,?_⟩
    rcases ho.2 with h | ⟨g,cap,cur,hv,hg,hh,r⟩
    · exact .inl h
    · refine .inr ⟨g,cap,cur,hv,hg,MB hh (fun h=>?_) _,r⟩
      rw [hv] at hne2
      exact hne2 (congrArg some h.symm)
theorem XM (B b:Nat) (l:Bs) (w:World) (h:Bd B b l w) :
  Calls Tryz.prog 100 #[.pointer (some ⟨b,0,none⟩)] w fun e w'=>e=.returned (.int .i64 l.length)∧w=w':=by
 obtain ⟨p,hB,v,hblk,hown,hne⟩:∃ p,B≤b∧∃ v,w.heap[b]? = some (.cells #[p,v] 139)∧w.ownsRow B 5 1 v (Lib.byteCells l).length (Lib.byteCells l)∧v.ownBlock≠some b:=by
  rcases h with ⟨h1,v,h2⟩ | ⟨h1,v,h2⟩
  ·exact ⟨_,h1,v,h2⟩
  ·exact ⟨_,h1,v,h2⟩
 obtain ⟨ao,cap,hv⟩:∃ ao cap,v=.slice ao l.length cap:=by
  rcases hown.2 with ⟨hv,h0⟩ | ⟨g,cap,cur,hv,_⟩
  ·rw [LU] at h0;rw [h0];exact ⟨_,_,hv⟩
  ·rw [LU] at hv;exact ⟨_,_,hv⟩
 have c1:w.cell? ⟨b,1,none⟩=some (.slice ao l.length cap):=by rw [G1 hblk,← hv];rfl
 clear hblk hown hne hv h
 go_enter Tryz.func100,Tryz.ntmps100
 go_wp2
 go_ret
 exact ⟨rfl,rfl⟩
theorem TY (s:ByteArray) (p:Bs) (w:World):Calls Tryz.prog 56 #[.string s,.string (str p)] w fun e w'=>e=.returned (.bool (p.isPrefixOf (bs s)))∧w=w' :=
 (Tryz.strings_HasPrefix s (str p) w).mono fun _ _ ⟨h1,h2⟩=>⟨by rw [h1];simp [str,bs,Lib.hasPrefix],h2.symm⟩
def PZ (r:Sh) (at_ i C bb:Nat) (acc:Bs) (w:World) (e:Ending) (w':World):Prop :=
 match r with
 | .ended=>e=Ki 4 at_∧Below C w w'
 | .Hw=>e=Ki 4 i∧Below C w w'
 | .ok b n=>e=.returned (.int .i64 (i+n:Nat))∧Bd C bb (acc++b) w'∧Below C w w'
theorem Vk (R:ByteArray) (c:UInt8) (t:Bs) (h:bs R=c :: t):∃ h0:0 < R.size,R[0]'h0=c:=by
 have h0:0 < R.size:=by rw [← Dg,h];simp
 refine ⟨h0,?_⟩
 have:=drop_at R 0 h0
 rw [List.drop_zero,h] at this
 exact (List.cons.inj this).1.symm
theorem TH (R:ByteArray) (c:UInt8) (t:Bs) (h:bs R=c :: t):R.toList.isEmpty=false:=by
 rw [Lib.toList_data]
 show (bs R).isEmpty=false
 rw [h];rfl
section
variable (sb at_ i C bb:Nat) (src:ByteArray) (acc:Bs) (w:World)
set_option maxHeartbeats 1000000 in
theorem A5a (hb:sb < w.heap.size) (c0:w.cell? ⟨sb,0,none⟩=some (.string src)) (c1:w.cell? ⟨sb,1,none⟩=some (.int .i64 at_)) (hi:i+1=src.size) (hs:src.size≤1000000) :
  Calls Tryz.prog 102 #[.pointer (some ⟨sb,0,none⟩),.pointer (some ⟨bb,0,none⟩),.int .i64 i] w (PZ .ended at_ i C bb acc w):=by
 have h1:(i:Int)+1≤src.size:=by omega
 have h2:((i:Int)+1).toNat=i+1:=by omega
 have he:(src.extract (i+1) src.size).toList.isEmpty=true:=by
  rw [Lib.toList_data];show (bs _).isEmpty=true;rw [Ir,List.drop_of_length_le (by rw [Dg];omega)];rfl
 clear hi
 go_enter Tryz.func102,Tryz.ntmps102
 go_wp2_with fail
 refine (NA _ _ _).mono ?_
 rintro e w' ⟨rfl,rfl⟩
 go_wp2_with fail
 exact ⟨rfl,rfl,by first | exact Below.refl _ _ | exact (Below.refl _ _).drew⟩
set_option maxHeartbeats 1000000 in
theorem A5b (c:UInt8) (t:Bs) (hb:sb < w.heap.size) (c0:w.cell? ⟨sb,0,none⟩=some (.string src)) (hi:i+1≤src.size) (hs:src.size≤1000000)
  (hl:(bs src).drop (i+1)=c :: t) (hp:I3 c≠0) (hB:Bd C bb acc w) (hacc:acc.length≤1000000) (hC:C≤w.heap.size) :
  Calls Tryz.prog 102 #[.pointer (some ⟨sb,0,none⟩),.pointer (some ⟨bb,0,none⟩),.int .i64 i] w (PZ (.ok [I3 c] 2) at_ i C bb acc w):=by
 have h1:(i:Int)+1≤src.size:=by omega
 have h2:((i:Int)+1).toNat=i+1:=by omega
 have h3:(i:Int)≤1000000:=by omega
 have hR:=Ir src (i+1)
 rw [hl] at hR
 have HR0:=Lib.hid (Vk _ c t hR)
 have he:=TH _ c t hR
 have h0:=HR0.out.1
 have hc0:=HR0.out.2
 have hpi:((I3 c).toNat:Int)≠0:=fun h=>hp (by apply UInt8.toNat_inj.1;rw [show (0:UInt8).toNat=0 from rfl];omega)
 have hpn:(((I3 c).toNat:Int) != 0)=true:=by rw [bne_iff_ne];exact hpi
 have hq:0 < src.size - (i+1):=by have:=congrArg List.length hl;rw [Cv,Dg] at this;simp at this;omega
 have HP:=Lib.hid (Adj c)
 have HW:=Lib.hid (RK C bb acc (I3 c) w hB hacc hC)
 clear hl hR hp hpi hB
 go_enter Tryz.func102,Tryz.ntmps102
 go_wp2_with fail
 refine (HP.out _).mono ?_
 rintro e w' ⟨rfl,rfl⟩
 go_wp2_with fail
 refine (HP.out _).mono ?_
 rintro e w' ⟨rfl,rfl⟩
 go_wp2_with fail
 refine HW.out.mono ?_
 rintro e w' ⟨rfl,hb',hbel⟩
 go_wp2_with fail
 go_ret
 exact ⟨Mo (by omega),hb',hbel⟩
theorem Br9 (s:ByteArray) (c:UInt8) (t:Bs) (h:bs s=c :: t):bs (s.extract 1 s.size)=t:=by
 rw [Ir,h];rfl
theorem Adk (c:UInt8) (h:I3 c=0) (w:World):Calls Tryz.prog 119 #[.int .u8 c.toNat] w fun e w'=>e=.returned (.int .u8 0)∧w=w':=by
 have:=Adj c w
 rw [h] at this
 exact this
theorem Vu (n:Nat) (h:n < 4294967296) (w:World):(convert 3 5 (.int .i64 n)).run Tryz.prog w=.ok (.int .u8 (UInt8.ofNat n).toNat) w:=by
 have e:IntKind.u8.wrap (n:Int)=((UInt8.ofNat n).toNat:Int):=by unfold IntKind.wrap;simp [IntKind.bits,IntKind.signed]
 rw [← e]
 simp [go_sem]
set_option maxHeartbeats 1000000 in
theorem A5d (t:Bs) (hb:sb < w.heap.size) (c0:w.cell? ⟨sb,0,none⟩=some (.string src)) (hi:i+1≤src.size) (hs:src.size≤1000000)
  (hl:(bs src).drop (i+1)=120 :: t) (hB:Bd C bb acc w) (hacc:acc.length≤1000000) (hC:C≤w.heap.size) :
  Calls Tryz.prog 102 #[.pointer (some ⟨sb,0,none⟩),.pointer (some ⟨bb,0,none⟩),.int .i64 i] w
   (PZ (if (CQ 2 t 0 0).2 < 2 then .Hw else .ok [UInt8.ofNat (CQ 2 t 0 0).1] 4) at_ i C bb acc w):=by
 obtain ⟨c,hcc⟩:∃ c:UInt8,c=120:=⟨_,rfl⟩
 rw [← hcc] at hl
 have h1:(i:Int)+1≤src.size:=by omega
 have h2:((i:Int)+1).toNat=i+1:=by omega
 have h3:(i:Int)≤1000000:=by omega
 have hR:=Ir src (i+1)
 rw [hl] at hR
 have HR0:=Lib.hid (Vk _ c t hR)
 have he:=TH _ c t hR
 have h0:=HR0.out.1
 have hc0:=HR0.out.2
 have hq:0 < src.size - (i+1):=by have:=congrArg List.length hl;rw [Cv,Dg] at this;simp at this;omega
 have HP:=Lib.hid (fun w=>Adj c w)
 clear HP
 have HP:=Lib.hid (fun w=>Adk c (by rw [hcc];rfl) w)
 have hcz:c.toNat=120:=by rw [hcc];rfl
 rw [hcz] at HP
 have hc1:((src.extract (i+1) src.size)[0]'h0).toNat=120:=by rw [hc0,hcz]
 clear hc0
 have hts:(src.extract (i+1) src.size).size=src.size - (i+1):=by rw [← Dg,Ir,Cv,Dg]
 have HH:=Lib.hid (fun w=>Ana ((src.extract (i+1) src.size).extract 1 (src.extract (i+1) src.size).size) 2 w (by omega) (by rw [← Dg,Ir,Cv,Dg,hts];omega))
 rw [Br9 _ c t hR,hts] at HH
 have hle:=SE 2 t 0 0 (by omega)
 have hpw:=Adl (show (CQ 2 t 0 0).2≤8 by omega)
 have hn1:(CQ 2 t 0 0).1 < 4294967296:=by omega
 clear hle hpw
 generalize CQ 2 t 0 0=G at *
 obtain ⟨N,K⟩:=G
 clear hl hR hcc hts
 have hcv:=fun w=>Vu N hn1 w
 have HW:=Lib.hid (RK C bb acc (UInt8.ofNat N) w hB hacc hC)
 clear hB hn1
 generalize UInt8.ofNat N=U at *
 by_cases hK:K < 2
 ·have hkz:(K:Int) < 2:=by omega
  simp only [hK,if_true]
  clear hK
  go_enter Tryz.func102,Tryz.ntmps102
  go_wp2_with fail
  refine (HP.out _).mono ?_
  rintro e w' ⟨rfl,rfl⟩
  go_wp2_with fail
  refine (HH.out _).mono ?_
  rintro e w' ⟨rfl,rfl⟩
  go_wp2_with fail
  refine (Ms _ _ _).mono ?_
  rintro e w' ⟨rfl,rfl⟩
  go_wp2_with fail
  exact ⟨rfl,rfl,by first | exact Below.refl _ _ | exact (Below.refl _ _).drew⟩
 ·have hkz:¬ (K:Int) < 2:=by omega
  simp only [hK,if_false]
  clear hK
  go_enter Tryz.func102,Tryz.ntmps102
  go_wp2_with fail
  refine (HP.out _).mono ?_
  rintro e w' ⟨rfl,rfl⟩
  go_wp2_with fail
  refine (HH.out _).mono ?_
  rintro e w' ⟨rfl,rfl⟩
  go_wp2_with fail
  refine HW.out.mono ?_
  rintro e w' ⟨rfl,hb',hbel⟩
  go_wp2_with fail
  go_ret
  exact ⟨Mo (by omega),hb',hbel⟩
end
theorem Ban (l:Bs) (c:UInt8):[c].isPrefixOf l=decide (l.head? = some c):=by
 cases l with
 | nil=>simp
 | cons b t =>
  show (c == b && ([]:Bs).isPrefixOf t)=decide (some b=some c)
  have:([]:Bs).isPrefixOf t=true:=by cases t <;> rfl
  rw [this,Bool.and_true]
  by_cases h:b=c
  ·subst h;simp
  ·simp [h];exact fun e=>h e.symm
theorem Akj (r:Int):(Utf8.encode r).size≤4:=by
 unfold Utf8.encode
 simp only []
 generalize (if Utf8.valid r then r.toNat else Utf8.runeError)=c
 by_cases h1:c < 128
 ·rw [if_pos h1];show 1≤4;omega
 ·rw [if_neg h1]
  by_cases h2:c < 2048
  ·rw [if_pos h2];show 2≤4;omega
  ·rw [if_neg h2]
   by_cases h3:c < 65536
   ·rw [if_pos h3];show 3≤4;omega
   ·rw [if_neg h3];show 4≤4;omega
section
variable (sb at_ i C bb:Nat) (src:ByteArray) (acc:Bs) (w:World)
set_option maxHeartbeats 1000000 in
theorem A5c (t:Bs) (hb:sb < w.heap.size) (c0:w.cell? ⟨sb,0,none⟩=some (.string src)) (hi:i+1≤src.size) (hs:src.size≤1000000)
  (hl:(bs src).drop (i+1)=117 :: 123 :: t) (hB:Bd C bb acc w) (hacc:acc.length≤1000000) (hC:C≤w.heap.size) :
  Calls Tryz.prog 102 #[.pointer (some ⟨sb,0,none⟩),.pointer (some ⟨bb,0,none⟩),.int .i64 i] w
   (PZ (if (CQ 8 t 0 0).2=0∨Utf8.valid (CQ 8 t 0 0).1=false∨(t.drop (CQ 8 t 0 0).2).head?≠some 125 then .Hw
    else .ok (bs (Utf8.encode (CQ 8 t 0 0).1)) (4+(CQ 8 t 0 0).2)) at_ i C bb acc w):=by
 have h1:(i:Int)+1≤src.size:=by omega
 have h2:((i:Int)+1).toNat=i+1:=by omega
 have h3:(i:Int)≤1000000:=by omega
 have hR:=Ir src (i+1)
 rw [hl] at hR
 have HR0:=Lib.hid (Vk _ _ _ hR)
 have he:=TH _ _ _ hR
 have h0:=HR0.out.1
 have hc0:=HR0.out.2
 have hlen:=congrArg List.length hl
 rw [Cv,Dg] at hlen
 simp only [AD] at hlen
 have hq:0 < src.size - (i+1):=by omega
 have hq2:2≤src.size - (i+1):=by omega
 have HP:=Lib.hid (fun w=>Adk 117 (by rfl) w)
 have hc1:((src.extract (i+1) src.size)[0]'h0).toNat=117:=by rw [hc0];rfl
 clear hc0
 have hts:(src.extract (i+1) src.size).size=src.size - (i+1):=by rw [← Dg,Ir,Cv,Dg]
 have hb2:bs ((src.extract (i+1) src.size).extract 2 (src.size - (i+1)))=t:=by
  rw [← hts,Ir,hR];rfl
 have HPU:=Lib.hid (fun w=>TY (src.extract (i+1) src.size) [117,123] w)
 rw [hR,show ([117,123]:Bs).isPrefixOf (117 :: 123 :: t)=true by simp] at HPU
 have HH:=Lib.hid (fun w=>Ana ((src.extract (i+1) src.size).extract 2 (src.size - (i+1))) 8 w (by omega) (by rw [← Dg,hb2];omega))
 rw [hb2] at HH
 have hle:=SE 8 t 0 0 (by omega)
 have hpw:=Adl (show (CQ 8 t 0 0).2≤8 by omega)
 have hn1:(CQ 8 t 0 0).1≤4294967296:=by omega
 have hk1:(CQ 8 t 0 0).2≤t.length:=by omega
 have hk8:(CQ 8 t 0 0).2≤8:=by omega
 have hb3:bs ((src.extract (i+1) src.size).extract (2+(CQ 8 t 0 0).2) (src.size - (i+1)))=t.drop (CQ 8 t 0 0).2:=by
  rw [← hts,Ir,hR,Nat.add_comm 2];rfl
 have HPB:=Lib.hid (fun w=>TY ((src.extract (i+1) src.size).extract (2+(CQ 8 t 0 0).2) (src.size - (i+1))) [125] w)
 rw [hb3,Ban] at HPB
 clear hle hpw hb3 hb2
 generalize CQ 8 t 0 0=G at *
 obtain ⟨N,K⟩:=G
 simp only at hn1 hk1 hk8 HPB HH ⊢
 have HE:=Lib.hid (fun w=>A4s N w (by omega) (by omega))
 have HW:=Lib.hid (fun w hB' hC'=>Btv C bb acc (Utf8.encode N) w hB' (by omega) (by have:=Akj N;omega) hC')
 have HBD:=Lib.hid hB
 have Anj:(K:Int)+2≤((src.size - (i+1):Nat):Int):=by omega
 have Bwt:(K:Int)≤8:=by omega
 clear hl hR hlen hB hk1 hts
 by_cases hK:K=0
 ·have hK':((K:Int) == 0)=true:=by rw [beq_iff_eq];omega
  rw [if_pos (.inl hK)]
  clear hK
  obtain ⟨T,E,HE⟩:∃ T E,Hid (∀ w,Calls Tryz.prog 122 #[.int .i64 N] w fun e w'=>e=.returned (.tuple #[.string T,.int .i64 E])∧w=w'):=⟨_,_,HE⟩
  go_enter Tryz.func102,Tryz.ntmps102
  go_wp2_with fail
  refine (HP.out _).mono ?_
  rintro e w' ⟨rfl,rfl⟩
  go_wp2_with fail
  refine (HPU.out _).mono ?_
  rintro e w' ⟨rfl,rfl⟩
  go_wp2_with fail
  refine (HH.out _).mono ?_
  rintro e w' ⟨rfl,rfl⟩
  go_wp2_with fail
  refine (HE.out _).mono ?_
  rintro e w' ⟨rfl,rfl⟩
  go_wp2_with fail
  refine (Ms _ _ _).mono ?_
  rintro e w' ⟨rfl,rfl⟩
  go_wp2_with fail
  exact ⟨rfl,rfl,by first | exact Below.refl _ _ | exact (Below.refl _ _).drew⟩
 ·have hK':((K:Int) == 0)=false:=by rw [beq_eq_false_iff_ne];omega
  cases hv:Utf8.valid (N:Int) with
  | false =>
   rw [if_pos (.inr (.inl rfl))]
   rw [hv] at HE
   simp only [Bool.false_eq_true,if_false] at HE
   clear hv
   go_enter Tryz.func102,Tryz.ntmps102
   go_wp2_with fail
   refine (HP.out _).mono ?_
   rintro e w' ⟨rfl,rfl⟩
   go_wp2_with fail
   refine (HPU.out _).mono ?_
   rintro e w' ⟨rfl,rfl⟩
   go_wp2_with fail
   refine (HH.out _).mono ?_
   rintro e w' ⟨rfl,rfl⟩
   go_wp2_with fail
   refine (HE.out _).mono ?_
   rintro e w' ⟨rfl,rfl⟩
   go_wp2_with fail
   refine (Ms _ _ _).mono ?_
   rintro e w' ⟨rfl,rfl⟩
   go_wp2_with fail
   exact ⟨rfl,rfl,by first | exact Below.refl _ _ | exact (Below.refl _ _).drew⟩
  | true =>
   rw [hv] at HE
   simp only [if_true] at HE
   clear hv
   by_cases hd:(t.drop K).head? = some 125
   ·rw [decide_eq_true hd] at HPB
    rw [if_neg (by rintro (h | h | h);exact hK h;cases h;exact h hd)]
    clear hd
    go_enter Tryz.func102,Tryz.ntmps102
    go_wp2_with fail
    refine (HP.out _).mono ?_
    rintro e w' ⟨rfl,rfl⟩
    go_wp2_with fail
    refine (HPU.out _).mono ?_
    rintro e w' ⟨rfl,rfl⟩
    go_wp2_with fail
    refine (HH.out _).mono ?_
    rintro e w' ⟨rfl,rfl⟩
    go_wp2_with fail
    refine (HE.out _).mono ?_
    rintro e w' ⟨rfl,rfl⟩
    go_wp2_with fail
    refine (HPB.out _).mono ?_
    rintro e w' ⟨rfl,rfl⟩
    go_wp2_with fail
    refine (HW.out _ HBD.out hC).mono ?_
    rintro e w' ⟨rfl,hb',hbel⟩
    go_wp2_with fail
    go_ret
    exact ⟨Mo (by omega),hb',hbel⟩
   ·rw [decide_eq_false hd] at HPB
    rw [if_pos (.inr (.inr hd))]
    clear hd
    go_enter Tryz.func102,Tryz.ntmps102
    go_wp2_with fail
    refine (HP.out _).mono ?_
    rintro e w' ⟨rfl,rfl⟩
    go_wp2_with fail
    refine (HPU.out _).mono ?_
    rintro e w' ⟨rfl,rfl⟩
    go_wp2_with fail
    refine (HH.out _).mono ?_
    rintro e w' ⟨rfl,rfl⟩
    go_wp2_with fail
    refine (HE.out _).mono ?_
    rintro e w' ⟨rfl,rfl⟩
    go_wp2_with fail
    refine (HPB.out _).mono ?_
    rintro e w' ⟨rfl,rfl⟩
    go_wp2_with fail
    refine (Ms _ _ _).mono ?_
    rintro e w' ⟨rfl,rfl⟩
    go_wp2_with fail
    exact ⟨rfl,rfl,by first | exact Below.refl _ _ | exact (Below.refl _ _).drew⟩
end
theorem XZ (m:Nat) (b:UInt8) (t:Bs) (n k:Nat):Gp (m+1) (b :: t) n k=if 48≤b.toNat∧b.toNat≤57 then Gp m t (10 * n+(b.toNat - 48)) (k+1) else (n,k):=rfl
def LV (r:Nat×Nat):Sh:=if r.2=0∨r.1 > 255 then .Hw else .ok [UInt8.ofNat r.1] (1+r.2)
section
variable (sb at_ i C bb:Nat) (src:ByteArray) (acc:Bs) (w:World)
set_option maxHeartbeats 4000000 in
theorem A4x (c:UInt8) (t:Bs) (hb:sb < w.heap.size) (c0:w.cell? ⟨sb,0,none⟩=some (.string src)) (hi:i+1≤src.size) (hs:src.size≤1000000)
  (hl:(bs src).drop (i+1)=c :: t) (hp0:I3 c=0) (hx:c≠120) (hu:¬ (c=117∧t.head? = some 123)) (hB:Bd C bb acc w) (hacc:acc.length≤1000000) (hC:C≤w.heap.size) :
  Calls Tryz.prog 102 #[.pointer (some ⟨sb,0,none⟩),.pointer (some ⟨bb,0,none⟩),.int .i64 i] w
   (PZ (LV (Gp 3 (c :: t) 0 0)) at_ i C bb acc w):=by
 have h1:(i:Int)+1≤src.size:=by omega
 have h2:((i:Int)+1).toNat=i+1:=by omega
 have h3:(i:Int)≤1000000:=by omega
 have hR:=Ir src (i+1)
 rw [hl] at hR
 have HR0:=Lib.hid (Vk _ _ _ hR)
 have he:=TH _ _ _ hR
 have h0:=HR0.out.1
 have hc0:=HR0.out.2
 have hlen:=congrArg List.length hl
 rw [Cv,Dg] at hlen
 simp only [AD] at hlen
 have hq:0 < src.size - (i+1):=by omega
 have HP:=Lib.hid (fun w=>Adk c hp0 w)
 have hx1:((c.toNat:Int) == 120)=false:=by
  rw [beq_eq_false_iff_ne];intro h;exact hx (by apply UInt8.toNat_inj.1;rw [show (120:UInt8).toNat=120 from rfl];omega)
 have HPU:=Lib.hid (fun w=>TY (src.extract (i+1) src.size) [117,123] w)
 have hpf:([117,123]:Bs).isPrefixOf (c :: t)=false:=by
  rw [Bool.eq_false_iff]
  intro h
  rw [List.isPrefixOf_iff_prefix] at h
  obtain ⟨r,hr⟩:=h
  simp only [List.cons_append,List.nil_append,List.cons.injEq] at hr
  exact hu ⟨hr.1.symm,by rw [← hr.2];rfl⟩
 rw [hR,hpf] at HPU
 have hts:(src.extract (i+1) src.size).size=src.size - (i+1):=by rw [← Dg,Ir,Cv,Dg]
 obtain ⟨R9,hR9⟩:∃ R9,Gp 3 (c :: t) 0 0=R9:=⟨_,rfl⟩
 rw [hR9]
 have HR9:=Lib.hid hR9
 have HRR:=Lib.hid hR
 have HBD:=Lib.hid hB
 have HTS:=Lib.hid hts
 clear hl hR hlen hB hR9 hpf hp0 hx hts hu
 go_enter Tryz.func102,Tryz.ntmps102
 go_wp2_with fail
 refine (HP.out _).mono ?_
 rintro e w' ⟨rfl,rfl⟩
 go_wp2_with fail
 refine (HPU.out _).mono ?_
 rintro e w' ⟨rfl,rfl⟩
 go_wp2_with fail
 have HSB:=Lib.hid (show (src.extract (i+1) src.size).size≤1000000 by rw [HTS.out];omega)
 clear he h0 hc0 hq hx1 HR0 HP HPU HTS h1 h2 c0 hb
 generalize src.extract (i+1) src.size=R at *
 have hsb:=HSB.out
 go_loop [14,15] (fun n k=>∃ N K:Nat,K≤3∧K≤R.size∧N < 10 ^ K∧n=.int .i64 N∧k=.int .i64 K∧Hid (Gp (3 - K) ((bs R).drop K) N K=R9)) (fun _ k=>3 - (intOf k).toNat)
 case atStart=>exact ⟨0,0,by omega,by omega,by simp,rfl,rfl,by unfold Hid;rw [HRR.out];exact HR9.out⟩
 case round =>
  obtain ⟨N,K,hK,hKs,hN,rfl,rfl,hG⟩:=hrel
  have hN2:N < 1000:=by have:=Nat.pow_le_pow_right (n:=10) (by omega) hK;omega
  have HN:=Lib.hid hN
  clear hN
  by_cases hlt:K < 3
  ·by_cases hls:K < R.size
   ·have hdg:=fun w=>Xg.2 (R[K]).toNat w (by have:=(R[K]).toNat_lt;omega)
    obtain ⟨D,hD⟩:∃ D,Kh (R[K]).toNat=D:=⟨_,rfl⟩
    rw [hD] at hdg
    have HDG:=Lib.hid hdg
    have HD:=Lib.hid hD
    clear hdg hD
    have hblt:=(R[K]).toNat_lt
    have hbw:wrap32 ((R[K]).toNat:Int)=(R[K]).toNat:=by unfold wrap32;omega
    have Anj:(K:Int) < 3:=by omega
    have Bat:(K:Int) < R.size:=by omega
    cases D with
    | true =>
     have hdig:48≤(R[K]).toNat∧(R[K]).toNat≤57:=by have:=HD.out;simpa [Kh] using this
     have hd1:(48:Int)≤(R[K]).toNat:=by omega
     have hd2:((R[K]).toNat:Int)≤57:=by omega
     have hbw2:IntKind.u8.wrap (((R[K]).toNat:Int) - 48)=(R[K]).toNat - 48:=by unfold IntKind.wrap;simp [IntKind.bits,IntKind.signed];omega
     clear hdig
     go_wp2_with fail
     refine (HDG.out _).mono ?_
     rintro e w' ⟨rfl,rfl⟩
     go_wp2_with fail
     go_round
     case rel =>
      have hN':=HN.out
      refine ⟨10 * N+((R[K]).toNat - 48),K+1,by omega,by omega,by rw [Nat.pow_succ];omega,?_,by go_num,?_⟩
      ·congr 1;omega
      ·have h:=hG
       unfold Hid at h ⊢
       rw [show 3 - K=(3 - (K+1))+1 by omega,drop_at R K hls,XZ,if_pos ⟨by omega,by omega⟩] at h
       exact h
     case measure=>simp [intOf];omega
    | false =>
     have hdig:¬ (48≤(R[K]).toNat∧(R[K]).toNat≤57):=by have:=HD.out;simpa [Kh] using this
     have hres:(N,K)=R9:=by
      have h:=hG
      unfold Hid at h
      rw [show 3 - K=(3 - K - 1)+1 by omega,drop_at R K hls,XZ,if_neg hdig] at h
      exact h
     clear hdig hblt
     have hcv:=fun w=>Vu N (by omega) w
     have HW:=Lib.hid (RK C bb acc (UInt8.ofNat N) w HBD.out hacc hC)
     by_cases hk0:K=0
     ·have hkz:((K:Int) == 0)=true:=by rw [beq_iff_eq];omega
      have hd:LV R9=.Hw:=by rw [← hres];exact if_pos (.inl hk0)
      have HDD:=Lib.hid hd
      clear hd hk0 hres
      go_wp2_with fail
      refine (HDG.out _).mono ?_
      rintro e w' ⟨rfl,rfl⟩
      go_wp2_with fail
      skip
      refine (Ms _ _ _).mono ?_
      rintro e w' ⟨rfl,rfl⟩
      go_wp2_with fail
      refine ⟨rfl,?_⟩
      rw [HDD.out]
      exact ⟨rfl,by first | exact Below.refl _ _ | exact (Below.refl _ _).drew⟩
     ·have hkz:((K:Int) == 0)=false:=by rw [beq_eq_false_iff_ne];omega
      by_cases hn5:N > 255
      ·have hnz:(255:Int) < N:=by omega
       have hd:LV R9=.Hw:=by rw [← hres];exact if_pos (.inr hn5)
       have HDD:=Lib.hid hd
       clear hd hk0 hres hn5
       go_wp2_with fail
       refine (HDG.out _).mono ?_
       rintro e w' ⟨rfl,rfl⟩
       go_wp2_with fail
       skip
       refine (Ms _ _ _).mono ?_
       rintro e w' ⟨rfl,rfl⟩
       go_wp2_with fail
       refine ⟨rfl,?_⟩
       rw [HDD.out]
       exact ⟨rfl,by first | exact Below.refl _ _ | exact (Below.refl _ _).drew⟩
      ·have hnz:¬ (255:Int) < N:=by omega
       have hd:LV R9=.ok [UInt8.ofNat N] (1+K):=by rw [← hres];exact if_neg (by simp only;omega)
       have HDD:=Lib.hid hd
       clear hd hk0 hres hn5
       generalize UInt8.ofNat N=U at *
       go_wp2_with fail
       refine (HDG.out _).mono ?_
       rintro e w' ⟨rfl,rfl⟩
       go_wp2_with fail
       skip
       refine HW.out.mono ?_
       rintro e w' ⟨rfl,hb',hbel⟩
       go_wp2_with fail
       go_ret
       rw [HDD.out]
       exact ⟨Mo (by omega),hb',hbel⟩
   ·have Bat:¬ (K:Int) < R.size:=by omega
    have hres:(N,K)=R9:=by
     have h:=hG
     unfold Hid at h
     rw [show 3 - K=(3 - K - 1)+1 by omega,List.drop_of_length_le (by rw [Dg];omega)] at h
     exact h
    have hcv:=fun w=>Vu N (by omega) w
    have HW:=Lib.hid (RK C bb acc (UInt8.ofNat N) w HBD.out hacc hC)
    by_cases hk0:K=0
    ·have hkz:((K:Int) == 0)=true:=by rw [beq_iff_eq];omega
     have hd:LV R9=.Hw:=by rw [← hres];exact if_pos (.inl hk0)
     have HDD:=Lib.hid hd
     clear hd hk0 hres
     skip
     go_wp2_with fail
     skip
     refine (Ms _ _ _).mono ?_
     rintro e w' ⟨rfl,rfl⟩
     go_wp2_with fail
     refine ⟨rfl,?_⟩
     rw [HDD.out]
     exact ⟨rfl,by first | exact Below.refl _ _ | exact (Below.refl _ _).drew⟩
    ·have hkz:((K:Int) == 0)=false:=by rw [beq_eq_false_iff_ne];omega
     by_cases hn5:N > 255
     ·have hnz:(255:Int) < N:=by omega
      have hd:LV R9=.Hw:=by rw [← hres];exact if_pos (.inr hn5)
      have HDD:=Lib.hid hd
      clear hd hk0 hres hn5
      skip
      go_wp2_with fail
      skip
      refine (Ms _ _ _).mono ?_
      rintro e w' ⟨rfl,rfl⟩
      go_wp2_with fail
      refine ⟨rfl,?_⟩
      rw [HDD.out]
      exact ⟨rfl,by first | exact Below.refl _ _ | exact (Below.refl _ _).drew⟩
     ·have hnz:¬ (255:Int) < N:=by omega
      have hd:LV R9=.ok [UInt8.ofNat N] (1+K):=by rw [← hres];exact if_neg (by simp only;omega)
      have HDD:=Lib.hid hd
      clear hd hk0 hres hn5
      generalize UInt8.ofNat N=U at *
      skip
      go_wp2_with fail
      skip
      refine HW.out.mono ?_
      rintro e w' ⟨rfl,hb',hbel⟩
      go_wp2_with fail
      go_ret
      rw [HDD.out]
      exact ⟨Mo (by omega),hb',hbel⟩
  ·have Anj:¬ (K:Int) < 3:=by omega
   have hres:(N,K)=R9:=by
    have h:=hG
    unfold Hid at h
    rw [show 3 - K=0 by omega] at h
    exact h
   have hcv:=fun w=>Vu N (by omega) w
   have HW:=Lib.hid (RK C bb acc (UInt8.ofNat N) w HBD.out hacc hC)
   by_cases hk0:K=0
   ·have hkz:((K:Int) == 0)=true:=by rw [beq_iff_eq];omega
    have hd:LV R9=.Hw:=by rw [← hres];exact if_pos (.inl hk0)
    have HDD:=Lib.hid hd
    clear hd hk0 hres
    skip
    go_wp2_with fail
    skip
    refine (Ms _ _ _).mono ?_
    rintro e w' ⟨rfl,rfl⟩
    go_wp2_with fail
    refine ⟨rfl,?_⟩
    rw [HDD.out]
    exact ⟨rfl,by first | exact Below.refl _ _ | exact (Below.refl _ _).drew⟩
   ·have hkz:((K:Int) == 0)=false:=by rw [beq_eq_false_iff_ne];omega
    by_cases hn5:N > 255
    ·have hnz:(255:Int) < N:=by omega
     have hd:LV R9=.Hw:=by rw [← hres];exact if_pos (.inr hn5)
     have HDD:=Lib.hid hd
     clear hd hk0 hres hn5
     skip
     go_wp2_with fail
     skip
     refine (Ms _ _ _).mono ?_
     rintro e w' ⟨rfl,rfl⟩
     go_wp2_with fail
     refine ⟨rfl,?_⟩
     rw [HDD.out]
     exact ⟨rfl,by first | exact Below.refl _ _ | exact (Below.refl _ _).drew⟩
    ·have hnz:¬ (255:Int) < N:=by omega
     have hd:LV R9=.ok [UInt8.ofNat N] (1+K):=by rw [← hres];exact if_neg (by simp only;omega)
     have HDD:=Lib.hid hd
     clear hd hk0 hres hn5
     generalize UInt8.ofNat N=U at *
     skip
     go_wp2_with fail
     skip
     refine HW.out.mono ?_
     rintro e w' ⟨rfl,hb',hbel⟩
     go_wp2_with fail
     go_ret
     rw [HDD.out]
     exact ⟨Mo (by omega),hb',hbel⟩
theorem Akn (c:UInt8) (t:Bs):N8 (c :: t) =
  if I3 c≠0 then .ok [I3 c] 2
  else if c=120 then
   if (CQ 2 t 0 0).2 < 2 then .Hw else .ok [UInt8.ofNat (CQ 2 t 0 0).1] 4
  else if c=117∧t.head? = some 123 then
   if (CQ 8 t.tail 0 0).2=0∨Utf8.valid (CQ 8 t.tail 0 0).1=false∨(t.tail.drop (CQ 8 t.tail 0 0).2).head?≠some 125 then .Hw
   else .ok (bs (Utf8.encode (CQ 8 t.tail 0 0).1)) (4+(CQ 8 t.tail 0 0).2)
  else if (Gp 3 (c :: t) 0 0).2=0∨(Gp 3 (c :: t) 0 0).1 > 255 then .Hw
  else .ok [UInt8.ofNat (Gp 3 (c :: t) 0 0).1] (1+(Gp 3 (c :: t) 0 0).2):=rfl
theorem A4w (hb:sb < w.heap.size) (c0:w.cell? ⟨sb,0,none⟩=some (.string src)) (c1:w.cell? ⟨sb,1,none⟩=some (.int .i64 at_)) (hi:i+1≤src.size) (hs:src.size≤1000000)
  (hB:Bd C bb acc w) (hacc:acc.length≤1000000) (hC:C≤w.heap.size) :
  Calls Tryz.prog 102 #[.pointer (some ⟨sb,0,none⟩),.pointer (some ⟨bb,0,none⟩),.int .i64 i] w
   (PZ (N8 ((bs src).drop (i+1))) at_ i C bb acc w):=by
 cases hl:(bs src).drop (i+1) with
 | nil =>
  have:=congrArg List.length hl
  rw [Cv,Dg] at this
  simp at this
  exact A5a sb at_ i C bb src acc w hb c0 c1 (by omega) hs
 | cons c t =>
  rw [Akn]
  by_cases hp:I3 c≠0
  ·rw [if_pos hp]
   exact A5b sb at_ i C bb src acc w c t hb c0 hi hs hl hp hB hacc hC
  ·rw [if_neg hp]
   have hp0:I3 c=0:=Classical.not_not.1 hp
   by_cases hx:c=120
   ·rw [if_pos hx]
    subst hx
    exact A5d sb at_ i C bb src acc w t hb c0 hi hs hl hB hacc hC
   ·rw [if_neg hx]
    by_cases hu:c=117∧t.head? = some 123
    ·rw [if_pos hu]
     obtain ⟨rfl,ht⟩:=hu
     cases t with
     | nil=>cases ht
     | cons d t =>
      simp only [List.head?_cons,Option.some.injEq] at ht
      subst ht
      exact A5c sb at_ i C bb src acc w t hb c0 hi hs hl hB hacc hC
    ·rw [if_neg hu]
     exact A4x sb at_ i C bb src acc w c t hb c0 hi hs hl hp0 hx hu hB hacc hC
end
theorem Aj4:∀ (m:Nat) (l:Bs) (n k:Nat),k≤(Gp m l n k).2∧(Gp m l n k).2≤k+l.length
 | 0,_,_,_=>by simp [Gp]
 | _+1,[],_,_=>by simp [Gp]
 | m+1,b :: t,n,k=>by
  rw [XZ]
  split
  ·have:=Aj4 m t (10 * n+(b.toNat - 48)) (k+1)
   simp only [AD];omega
  ·simp
theorem A4u {l:Bs} {b:Bs} {n:Nat} (h:N8 l=.ok b n):2≤n∧n≤l.length+1∧b.length≤n:=by
 cases l with
 | nil=>cases h
 | cons c t =>
  rw [Akn] at h
  simp only [AD]
  by_cases hp:I3 c≠0
  ·rw [if_pos hp] at h;cases h;simp
  ·rw [if_neg hp] at h
   by_cases hx:c=120
   ·rw [if_pos hx] at h
    by_cases h2:(CQ 2 t 0 0).2 < 2
    ·rw [if_pos h2] at h;cases h
    ·rw [if_neg h2] at h
     have:=SE 2 t 0 0 (by omega)
     cases h;simp;omega
   ·rw [if_neg hx] at h
    by_cases hu:c=117∧t.head? = some 123
    ·rw [if_pos hu] at h
     by_cases h3:(CQ 8 t.tail 0 0).2=0∨Utf8.valid (CQ 8 t.tail 0 0).1=false∨(t.tail.drop (CQ 8 t.tail 0 0).2).head?≠some 125
     ·rw [if_pos h3] at h;cases h
     ·rw [if_neg h3] at h
      have:=SE 8 t.tail 0 0 (by omega)
      simp only [not_or] at h3
      have hd:(t.tail.drop (CQ 8 t.tail 0 0).2).head? = some 125:=Classical.not_not.1 h3.2.2
      have hlen:(CQ 8 t.tail 0 0).2 < t.tail.length:=by
       rcases Nat.lt_or_ge (CQ 8 t.tail 0 0).2 t.tail.length with h' | h'
       ·exact h'
       ·rw [List.drop_of_length_le h'] at hd;cases hd
      rw [List.length_tail] at hlen
      have hes:=Akj (CQ 8 t.tail 0 0).1
      rw [← Dg] at hes
      injection h with h4 h5
      subst h4 h5
      omega
    ·rw [if_neg hu] at h
     by_cases h3:(Gp 3 (c :: t) 0 0).2=0∨(Gp 3 (c :: t) 0 0).1 > 255
     ·rw [if_pos h3] at h;cases h
     ·rw [if_neg h3] at h
      have:=Aj4 3 (c :: t) 0 0
      simp only [AD] at this
      injection h with h4 h5
      subst h4 h5
      simp;omega
theorem Bsb (q:UInt8) (f:Nat) (acc:Bs) (i:Nat):Hu q f [] acc i=.bad 4 0:=by cases f <;> rfl
theorem Bsa (q:UInt8) (f:Nat) (b:UInt8) (t:Bs) (acc:Bs) (i:Nat):Hu q (f+1) (b :: t) acc i =
  if b=10 then .bad 4 0
  else if b=q then (if acc.length > 10000 then .bad 14 0 else .ok acc (i+1))
  else if b=92 then
   match N8 t with
   | .ended=>.bad 4 0
   | .Hw=>.bad 4 i
   | .ok e n=>Hu q f ((b :: t).drop n) (acc++e) (i+n)
  else Hu q f t (acc++[b]) (i+1):=rfl
theorem A1x (w:World):Bd w.heap.size w.heap.size [] (w.alloc (.cells #[.pointer none,.slice none 0 0] 139)) :=
 .inl ⟨Nat.le_refl _,.slice none 0 0,Li w _,World.ownsRow_nil _ _ _ _,by simp [Value.ownBlock]⟩
theorem A2o (B b:Nat) (l:Bs) (w:World) (h:Bd B b l w) (hB:B≤w.heap.size) :
  Calls Tryz.prog 101 #[.pointer (some ⟨b,0,none⟩)] w.drew fun e w'=>e=.returned (.string (str l))∧Below B w w' :=
 (Tryz.Builder_String_any B b l w.drew h hB).mono fun _ _ ⟨h1,h2⟩=>⟨h1,(Below.refl B w).drew.trans h2⟩
def Ail (r:Aim) (B sb at_:Nat) (src:ByteArray) (l:List Tok) (w:World) (e:Ending) (w':World):Prop :=
 match r with
 | .bad c rel=>e=Ki c (at_+rel:Nat)∧Below B w w'
 | .ok v n=>e=.returned (.tuple #[])∧Sc B sb src (at_+n) (l++[⟨4,v,0,at_⟩]) w'∧Below B w w'
set_option maxHeartbeats 4000000 in
theorem Bsc (B sb at_:Nat) (src:ByteArray) (l:List Tok) (q:UInt8) (t:Bs) (w:World) (h:Sc B sb src at_ l w) (hl:(bs src).drop at_=q :: t) (hs:src.size≤100000) (hll:l.length≤100000) (hBw:B≤w.heap.size) :
  Calls Tryz.prog 62 #[.pointer (some ⟨sb,0,none⟩),.int .u8 q.toNat] w (Ail (Hu q (q :: t).length t [] 1) B sb at_ src l w):=by
 have hlen:=congrArg List.length hl
 rw [Cv,Dg] at hlen
 simp only [AD] at hlen
 obtain ⟨R9,hR9⟩:∃ R9,Hu q (q :: t).length t [] 1=R9:=⟨_,rfl⟩
 rw [hR9]
 have HR9:=Lib.hid hR9
 have HL:=Lib.hid hl
 obtain ⟨hb,c0,c1⟩:=h.reads
 have HSC:=Lib.hid h
 have hat:at_ < src.size:=by omega
 have HLEN:=Lib.hid hlen
 clear hR9 hl h hlen
 go_enter Tryz.func62,Tryz.ntmps62
 go_wp2_with fail
 have HB0:=Lib.hid ((Below.refl w.heap.size w).alloc (Nat.le_refl _) (.cells #[.pointer none,.slice none 0 0] 139))
 have Ah5:=Lib.hid (A1x w)
 clear c0 c1 hb
 go_loopw [5] (fun iv wr=>∃ (i f:Nat) (acc:Bs),at_+1≤i∧i≤src.size∧src.size - i+1≤f∧acc.length≤i∧iv=.int .i64 i∧Hid (Hu q f ((bs src).drop i) acc (i - at_)=R9)∧Hid (Bd w.heap.size w.heap.size acc wr)∧Hid (Below w.heap.size w wr)) (fun iv _=>src.size - (intOf iv).toNat)
 case atStart =>
  refine ⟨at_+1,(q :: t).length,[],by omega,by omega,by have:=HLEN.out;simp only [AD];omega,by simp,by go_num,?_,Ah5,HB0⟩
  have e:(bs src).drop (at_+1)=t:=by
   have:=congrArg List.tail HL.out
   rw [List.tail_drop] at this
   exact this
  unfold Hid
  rw [e,Nat.add_sub_cancel_left]
  exact HR9.out
 case round =>
  obtain ⟨i,f,acc,hi1,hi2,hf,hacc,rfl,HG,HBD,HBL⟩:=hrel
  have KZ:=Lib.hid (HSC.out.later HBL.out)
  obtain ⟨hb,c0,c1⟩:=KZ.out.reads
  have hB1:w.heap.size≤wr.heap.size:=HBL.out.size
  clear HB0 Ah5
  by_cases hend:i < src.size
  ·have hz:(i:Int) < src.size:=by omega
   have hz0:¬ (src.size:Int)≤i:=by omega
   have hiz:(i:Int)≤100000:=by omega
   have hg:=HG.out
   obtain ⟨f,rfl⟩:∃ g,f=g+1:=⟨f - 1,by omega⟩
   rw [drop_at src i hend,Bsa] at hg
   have HGG:=Lib.hid hg
   clear hg
   by_cases h10:src[i]=10
   ·have hn:((src[i].toNat:Int) == 10)=true:=(Oy _ 10).1 h10
    go_wp2_with fail
    refine (NA _ _ _).mono ?_
    rintro e w' ⟨rfl,rfl⟩
    go_wp2_with fail
    refine ⟨rfl,?_⟩
    have hg:=HGG.out
    rw [if_pos h10] at hg
    rw [← hg]
    exact ⟨rfl,HBL.out.mono hBw⟩
   ·have hn:((src[i].toNat:Int) == 10)=false:=Bool.eq_false_iff.2 fun h=>h10 ((Oy _ 10).2 h)
    by_cases hq:src[i]=q
    ·have hqn:((src[i].toNat:Int) == (q.toNat:Int))=true:=(Oy _ _).1 hq
     have Bbx:(src[i].toNat == q.toNat)=true:=by rw [hq];simp
     have HLN:=Lib.hid (fun w h=>XM w.heap.size w.heap.size acc w h)
     by_cases hbig:acc.length > 10000
     ·have hbz:(10000:Int) < acc.length:=by omega
      have X7:=Lib.hid (XM w.heap.size w.heap.size acc wr HBD.out)
      go_wp2_with fail
      refine X7.out.mono ?_
      rintro e w' ⟨rfl,rfl⟩
      go_wp2_with fail
      refine (NA _ _ _).mono ?_
      rintro e w' ⟨rfl,rfl⟩
      go_wp2_with fail
      refine ⟨rfl,?_⟩
      have hg:=HGG.out
      rw [if_neg h10,if_pos hq,if_pos hbig] at hg
      rw [← hg]
      exact ⟨rfl,HBL.out.mono hBw⟩
     ·have hbz:¬ (10000:Int) < acc.length:=by omega
      have X7:=Lib.hid (XM w.heap.size w.heap.size acc wr HBD.out)
      go_wp2_with fail
      refine X7.out.mono ?_
      rintro e w' ⟨rfl,rfl⟩
      go_wp2_with fail
      have hsC:sb < w.heap.size:=HSC.out.lt
      have Azz:=Lib.hid (A2o w.heap.size w.heap.size acc wr HBD.out hB1)
      refine Kz [(0,0),(3,0),(4,0),(5,0),(6,0),(7,0),(8,3),(9,0),(1,1),(2,0)] (fun w'=>w'.cell? ⟨sb,1,none⟩=some (.int .i64 at_)) (by kernel_rfl) (by kernel_rfl) (fun _ _ d _ _ h=>by cases d <;> exact h) (by first | exact c1 | exact (hb2.cell (p:=⟨sb,1,none⟩) hsC).trans c1) ?_
      simp only [EN,List.filterMap_cons,List.filterMap_nil,List.getElem?_toArray,List.getElem?_cons_zero,List.getElem?_cons_succ,Option.map_some,List.drop_succ_cons,List.drop_zero,AD,Be]
      iterate 6 (refine EC (by rfl) (fun wq=>by go_simp;with_reducible rfl) ?_;simp only [Act.put,List.setIfInBounds_toArray,List.set_cons_zero,List.set_cons_succ])
      iterate 1 (refine GD (by rfl) (fun wq hq1=>by go_simp;with_reducible rfl) ?_;simp only [Act.put,List.setIfInBounds_toArray,List.set_cons_zero,List.set_cons_succ])
      iterate 1 (refine EC (by rfl) (fun wq=>by go_simp;with_reducible rfl) ?_;simp only [Act.put,List.setIfInBounds_toArray,List.set_cons_zero,List.set_cons_succ])
      refine P5 ?_ ?_
      ·rfl
      intro K hK
      (go_wp2_with fail;refine Azz.out.mono ?_;rintro e w2 ⟨rfl,hb2⟩;go_wp2_with fail)
      refine ⟨by first | exact c1 | exact (hb2.cell (p:=⟨sb,1,none⟩) hsC).trans c1,?_⟩
      iterate 1 (refine EC (by rfl) (fun wq=>by go_simp;with_reducible rfl) ?_;simp only [Act.put,List.setIfInBounds_toArray,List.set_cons_zero,List.set_cons_succ])
      refine KO ?_
      go_wp2_with fail
      have HB2:=Lib.hid (HBL.out.trans hb2)
      have e2:(i:Int)+1 - at_=((i+1 - at_:Nat):Int):=by omega
      rw [e2]
      refine (add_any B sb at_ src l (i+1 - at_) 4 0 0 (str acc) w2 (HSC.out.later HB2.out) (by have:=HB2.out.size;omega) hll (by omega)).mono ?_
      rintro e w3 ⟨rfl,S_,hb3⟩
      go_wp2_with fail
      refine bodyPost_ret (results_none rfl _ _ _) rfl ?_
      have hg:=HGG.out
      rw [if_neg h10,if_pos hq,if_neg hbig] at hg
      rw [← hg]
      refine ⟨rfl,?_,(HB2.out.mono hBw).trans hb3⟩
      rw [show i - at_+1=i+1 - at_ by omega]
      rw [Lj] at S_
      exact S_
    ·have hqn:((src[i].toNat:Int) == (q.toNat:Int))=false:=Bool.eq_false_iff.2 fun h=>hq ((Oy _ _).2 h)
     have Bbx:(src[i].toNat == q.toNat)=false:=by rw [Bool.eq_false_iff];intro h;exact hq (UInt8.toNat_inj.1 (by simpa using h))
     by_cases VA:src[i]=92
     ·have hbn:((src[i].toNat:Int) == 92)=true:=(Oy _ 92).1 VA
      have Azw:=Lib.hid (A4w sb at_ i w.heap.size w.heap.size src acc wr hb c0 c1 (by omega) (by omega) HBD.out (by omega) hB1)
      go_wp2_with fail
      refine Azw.out.mono ?_
      intro e w2 LZ
      have hg:=HGG.out
      rw [if_neg h10,if_neg hq,if_pos VA] at hg
      cases hE:N8 ((bs src).drop (i+1)) with
      | ended =>
       rw [hE] at LZ hg
       have he:e=Ki 4 at_:=LZ.1
       have HB7:=Lib.hid ((HBL.out.trans LZ.2).mono hBw)
       clear LZ
       subst he
       go_wp2_with fail
       refine ⟨rfl,?_⟩
       rw [← hg]
       exact ⟨rfl,HB7.out⟩
      | Hw =>
       rw [hE] at LZ hg
       have he:e=Ki 4 i:=LZ.1
       have HB7:=Lib.hid ((HBL.out.trans LZ.2).mono hBw)
       clear LZ
       subst he
       go_wp2_with fail
       refine ⟨rfl,?_⟩
       rw [← hg]
       refine ⟨?_,HB7.out⟩
       rw [show at_+(i - at_)=i by omega]
      | ok b n =>
       rw [hE] at LZ hg
       obtain ⟨he,hbd2,hb2⟩:=LZ
       have UW:=Lib.hid (A4u hE)
       have HG9:=Lib.hid hg
       subst he
       clear hE hg
       have hn1:=UW.out.2.1
       rw [Cv,Dg] at hn1
       have hnz:(i:Int)+n≤1000000:=by omega
       go_wp2_with fail
       go_roundw
       case rel =>
        refine ⟨i+n,f,acc++b,by omega,by omega,by have:=UW.out.1;omega,by have:=UW.out.2.2;rw [AM];omega,by go_num,?_,hbd2,HBL.out.trans hb2⟩
        unfold Hid
        have hg:=HG9.out
        rw [show i+n - at_=i - at_+n by omega,← List.drop_drop,drop_at src i hend]
        exact hg
       case measure=>have:=UW.out.1;simp [intOf];omega
     ·have hbn:((src[i].toNat:Int) == 92)=false:=Bool.eq_false_iff.2 fun h=>VA ((Oy _ 92).2 h)
      have HWB:=Lib.hid (RK w.heap.size w.heap.size acc src[i] wr HBD.out (by omega) hB1)
      go_wp2_with fail
      refine HWB.out.mono ?_
      rintro e w2 ⟨rfl,hbd2,hb2⟩
      go_wp2_with fail
      go_roundw
      case rel =>
       refine ⟨i+1,f,acc++[src[i]],by omega,by omega,by omega,by simp;omega,by go_num,?_,hbd2,HBL.out.trans hb2⟩
       have hg:=HGG.out
       rw [if_neg h10,if_neg hq,if_neg VA] at hg
       unfold Hid
       rw [show i+1 - at_=i - at_+1 by omega]
       exact hg
      case measure=>simp [intOf];omega
  ·have hz:(src.size:Int)≤i:=by omega
   go_wp2_with fail
   refine (NA _ _ _).mono ?_
   rintro e w' ⟨rfl,rfl⟩
   go_wp2_with fail
   refine ⟨rfl,?_⟩
   have hg:=HG.out
   rw [List.drop_of_length_le (by rw [Dg];omega),Bsb] at hg
   rw [← hg]
   exact ⟨rfl,HBL.out.mono hBw⟩
structure Gl (w:World):Prop where
 utf:Lib.Utf8Tabs 1 2 w
 space:Lib.TabIs Tryz.prog w "strings.asciiSpace" .u8 Lib.asciiSpaceTab
 maxLen:∃ m,w.cell? ⟨4,0,none⟩=some (.int .i64 m)
 size:6≤w.heap.size
theorem Brs:Tryz.prog.globalNamed "strings.asciiSpace" =some 0:=by kernel_rfl
theorem Gl.below {B:Nat} {w w':World} (h:Gl w) (hb:Below B w w') (hB:6≤B):Gl w':=by
 obtain ⟨h1,h2,⟨m,h3⟩,h4⟩:=h
 refine ⟨⟨fun c hc=>?_,fun i hi=>⟨?_,?_⟩⟩,?_,⟨m,?_⟩,by have:=hb.size;omega⟩
 ·rw [hb.cell (p:=⟨1,c,none⟩) (show 1 < B by omega)];exact h1.1 c hc
 ·rw [hb.cell (p:=⟨2,2 * i,none⟩) (show 2 < B by omega)];exact (h1.2 i hi).1
 ·rw [hb.cell (p:=⟨2,2 * i+1,none⟩) (show 2 < B by omega)];exact (h1.2 i hi).2
 ·unfold Lib.TabIs World.var? at h2 ⊢
  rw [Brs] at h2 ⊢
  simp only [Aj] at h2 ⊢
  rw [hb.block 0 (by omega)]
  exact h2
 ·rw [hb.cell (p:=⟨4,0,none⟩) (show 4 < B by omega)];exact h3
theorem Gl.drew {w:World} (h:Gl w):Gl w.drew:=⟨h.utf,h.space,h.maxLen,h.size⟩
def LF:Bs:=[61,61,32,126,61,32,60,61,32,62,61,32,47,47,32,46,46,32,43,32,45,32,42,32,37,32,60,32,62,32,61,32,35,32,40,32,41,32,123,32,125,32,91,32,93,32,59,32,44,32,46]
theorem A6r:Lib.fields LF=I7:=by decide +kernel
theorem A6k (w:World) (h:Gl w):Calls Tryz.prog 91 #[.string (str LF)] w fun e w' =>
  e=.returned (.slice (some ⟨w.heap.size,0,none⟩) 23 23)∧w.alloc (.cells (I7.map fun l=>Value.string (str l)).toArray 9)=w':=by
 have h1:=Tryz.strings_Fields (str LF) w (by rw [U0];decide) (by
  intro j b hj
  have hb:b ∈ LF:=by
   have:(str LF).data.toList=LF:=Lj LF
   rw [this] at hj
   exact List.mem_of_getElem? hj
  revert b
  have:∀ b ∈ LF,b.toNat < 128:=by decide
  intro b _ hb
  exact this b hb) h.space
 have e:(str LF).data.toList=LF:=Lj LF
 rw [e,A6r] at h1
 exact h1.mono fun _ _ ⟨a,b⟩=>⟨a,b.symm⟩
def Az5 (r:Option Bs) (B sb at_:Nat) (src:ByteArray) (l:List Tok) (w:World) (e:Ending) (w':World):Prop :=
 match r with
 | none=>e=Ki 4 at_∧Below B w w'
 | some s=>e=.returned (.tuple #[])∧Sc B sb src (at_+s.length) (l++[⟨5,s,0,at_⟩]) w'∧Below B w w'
set_option maxHeartbeats 4000000 in
theorem Bq5 (B sb at_:Nat) (src:ByteArray) (l:List Tok) (w:World) (h:Sc B sb src at_ l w) (hg:Gl w) (hat:at_≤src.size) (hs:src.size≤100000) (hll:l.length≤100000) (hBw:B≤w.heap.size) :
  Calls Tryz.prog 63 #[.pointer (some ⟨sb,0,none⟩)] w (Az5 (Xf ((bs src).drop at_)) B sb at_ src l w):=by
 obtain ⟨R9,hR9⟩:∃ R9,Xf ((bs src).drop at_)=R9:=⟨_,rfl⟩
 rw [hR9]
 have HR9:=Lib.hid hR9
 have HF:=Lib.hid (A6k w hg)
 have HSC:=Lib.hid h
 have Bwq:(at_:Int)≤src.size:=by omega
 have Bwr:(at_:Int)≤100000:=by omega
 clear hR9 h hg
 go_enter Tryz.func63,Tryz.ntmps63
 go_wp2_with fail
 refine HF.out.mono ?_
 rintro e w' ⟨rfl,rfl⟩
 go_wp2_with fail
 have HB0:=Lib.hid ((Below.refl w.heap.size w).alloc (Nat.le_refl _) (.cells (I7.map fun l=>Value.string (str l)).toArray 9))
 have Azv:=Lib.hid (Li w (.cells (I7.map fun l=>Value.string (str l)).toArray 9))
 generalize w.alloc (.cells (I7.map fun l=>Value.string (str l)).toArray 9)=w1 at *
 go_loopw [6] (fun iv wr=>∃ k:Nat,k≤23∧iv=.int .i64 k∧Hid ((I7.drop k).find? (fun s=>s.isPrefixOf ((bs src).drop at_))=R9)∧Hid (Below (w.heap.size+1) w1 wr)) (fun iv _=>23 - (intOf iv).toNat)
 case atStart=>exact ⟨0,by omega,rfl,HR9.out,Below.refl _ _⟩
 case round =>
  obtain ⟨k,hk,rfl,HG,HBL⟩:=hrel
  have hw1:=HB0.out.size
  have HB9:=Lib.hid (HB0.out.trans (HBL.out.mono (Nat.le_succ _)))
  have KZ:=Lib.hid (HSC.out.later HB9.out)
  obtain ⟨hb,c0,c1⟩:=KZ.out.reads
  by_cases hlt:k < 23
  ·have hkz:(k:Int) < 23:=by omega
   obtain ⟨s,hsk⟩:∃ s,I7[k]? = some s:=⟨_,List.getElem?_eq_getElem (show k < I7.length from hlt)⟩
   have hcell:wr.cell? ⟨w.heap.size,k,none⟩=some (.string (str s)):=by
    rw [G1 (Lh HBL.out (by omega) Azv.out)]
    simp [hsk]
   have hdrop:I7.drop k=s :: I7.drop (k+1):=by
    rw [List.drop_eq_getElem_cons (show k < I7.length from hlt)]
    congr 1
    rw [List.getElem?_eq_getElem (show k < I7.length from hlt)] at hsk
    exact Ap hsk
   have HD:=Lib.hid hdrop
   have Bw4:s.length≤2:=by
    have:∀ x ∈ I7,x.length≤2:=by decide
    exact this s (List.mem_of_getElem? hsk)
   have HSK:=Lib.hid hsk
   clear hdrop hsk
   go_wp2_with fail
   refine Kz [(0,0),(1,0),(2,0),(3,3),(4,0),(5,0),(6,0),(7,3),(8,0),(9,0)] (fun w'=>w'.cell? ⟨sb,0,none⟩=some (.string src)∧w'.cell? ⟨sb,1,none⟩=some (.int .i64 at_)) (by kernel_rfl) (by kernel_rfl) (fun _ _ d _ _ h=>by cases d <;> exact h) (by refine ⟨?_,?_⟩ <;> go_simp) ?_
   simp only [EN,List.filterMap_cons,List.filterMap_nil,List.getElem?_toArray,List.getElem?_cons_zero,List.getElem?_cons_succ,Option.map_some,List.drop_succ_cons,List.drop_zero,AD,Be]
   iterate 3 (refine EC (by rfl) (fun wq=>by go_simp;with_reducible rfl) ?_;simp only [Act.put,List.setIfInBounds_toArray,List.set_cons_zero,List.set_cons_succ])
   iterate 1 (refine GD (by rfl) (fun wq hq=>by obtain ⟨hq0,hq1⟩:=hq;go_simp;with_reducible rfl) ?_;simp only [Act.put,List.setIfInBounds_toArray,List.set_cons_zero,List.set_cons_succ])
   iterate 3 (refine EC (by rfl) (fun wq=>by go_simp;with_reducible rfl) ?_;simp only [Act.put,List.setIfInBounds_toArray,List.set_cons_zero,List.set_cons_succ])
   iterate 1 (refine GD (by rfl) (fun wq hq=>by obtain ⟨hq0,hq1⟩:=hq;go_simp;with_reducible rfl) ?_;simp only [Act.put,List.setIfInBounds_toArray,List.set_cons_zero,List.set_cons_succ])
   iterate 2 (refine EC (by rfl) (fun wq=>by go_simp;with_reducible rfl) ?_;simp only [Act.put,List.setIfInBounds_toArray,List.set_cons_zero,List.set_cons_succ])
   refine KO ?_
   go_wp2_with fail
   have hpf:=TY (src.extract at_ src.size) s wr.drew
   rw [Ir] at hpf
   refine hpf.mono ?_
   rintro e w' ⟨rfl,rfl⟩
   cases hp:s.isPrefixOf ((bs src).drop at_) with
   | true =>
    have HP:=Lib.hid hp
    clear hp hpf
    have LN:=Lib.hid (fun hB'=>add_any B sb at_ src l s.length 5 0 0 (str s) wr.drew KZ.out.drew hB' hll (by omega))
    have hsz:((str s).size:Int)=s.length:=by rw [U0]
    go_wp2_with fail
    refine (LN.out (by have:=HB9.out.size;simp;omega)).mono ?_
    rintro e w3 ⟨rfl,S_,hb3⟩
    go_wp2_with fail
    refine bodyPost_ret (results_none rfl _ _ _) rfl ?_
    have hg:=HG.out
    rw [HD.out,List.find?_cons,HP.out] at hg
    rw [← hg]
    rw [Lj] at S_
    exact ⟨rfl,S_,(HB9.out.drew.mono hBw).trans hb3⟩
   | false =>
    have HP:=Lib.hid hp
    clear hp hpf
    go_wp2_with fail
    go_roundw
    case rel =>
     refine ⟨k+1,by omega,by go_num,?_,HBL.out.drew⟩
     have hg:=HG.out
     rw [HD.out,List.find?_cons,HP.out] at hg
     exact hg
    case measure=>simp [intOf];omega
  ·have hkz:¬ (k:Int) < 23:=by omega
   go_wp2_with fail
   refine (NA _ _ _).mono ?_
   rintro e w' ⟨rfl,rfl⟩
   go_wp2_with fail
   refine ⟨rfl,?_⟩
   have hg:=HG.out
   rw [List.drop_of_length_le (show I7.length≤k by show 23≤k;omega)] at hg
   rw [← hg]
   exact ⟨rfl,HB9.out.mono hBw⟩
end
section
namespace Lx
def Nm (ws:List Bs):Bs:=32 :: ws.flatMap (·++[32])
theorem Aw2:∀ (t w x y:Bs),(∀ b ∈ t,b≠32)→(∀ b ∈ w,b≠32)→t++32 :: x=w++32 :: y→t=w
 | [],[],_,_,_,_,_=>rfl
 | [],c :: w,x,y,_,hw,h=>by
  simp only [List.nil_append,List.cons_append,List.cons.injEq] at h
  exact absurd h.1.symm (hw c (by simp))
 | c :: t,[],x,y,ht,_,h=>by
  simp only [List.nil_append,List.cons_append,List.cons.injEq] at h
  exact absurd h.1 (ht c (by simp))
 | c :: t,d :: w,x,y,ht,hw,h=>by
  simp only [List.cons_append,List.cons.injEq] at h
  rw [h.1,Aw2 t w x y (fun b hb=>ht b (by simp [hb])) (fun b hb=>hw b (by simp [hb])) h.2]
theorem Aot (sub rest:Bs):∀ (w a b:Bs),(∀ c ∈ w,c≠32)→sub.head? = some 32→a++sub++b=w++rest→sub <:+: rest
 | [],a,b,_,_,h=>⟨a,b,h⟩
 | c :: w,[],b,hw,hs,h=>by
  cases sub with
  | nil=>simp at hs
  | cons d s =>
   simp only [List.head?_cons,Option.some.injEq] at hs
   simp only [List.nil_append,List.cons_append,List.cons.injEq] at h
   exact absurd (h.1.symm.trans hs) (hw c (by simp))
 | c :: w,d :: a,b,hw,hs,h=>by
  simp only [List.cons_append,List.cons.injEq] at h
  exact Aot sub rest w a b (fun x hx=>hw x (by simp [hx])) hs h.2
theorem Aw0 (w:Bs) (ws:List Bs):Nm (w :: ws)=32 :: (w++Nm ws):=by simp [Nm]
theorem Aov (t:Bs) (ht:∀ b ∈ t,b≠32):∀ ws:List Bs,(∀ w ∈ ws,∀ b ∈ w,b≠32)→((32 :: t++[32]) <:+: Nm ws)→t ∈ ws
 | [],_,h=>by
  have:=h.length_le
  simp [Nm] at this
 | w :: ws,hws,h=>by
  obtain ⟨a,b,h⟩:=h
  rw [Aw0] at h
  cases a with
  | nil =>
   simp only [List.nil_append,List.cons_append,Cj,List.cons.injEq,true_and] at h
   rw [Aw2 t w b (ws.flatMap (·++[32])) ht (hws w (by simp)) h]
   simp
  | cons c a =>
   simp only [List.cons_append,List.cons.injEq] at h
   have:=Aot (32 :: t++[32]) (Nm ws) w a b (hws w (by simp)) rfl (by simpa using h.2)
   exact CV _ (Aov t ht ws (fun x hx=>hws x (by simp [hx])) this)
theorem Ay0 (t:Bs):∀ ws:List Bs,t ∈ ws→((32 :: t++[32]) <:+: Nm ws)
 | w :: ws,h=>by
  rw [Aw0]
  rcases List.mem_cons.1 h with h | h
  ·subst h
   exact ⟨[],ws.flatMap (·++[32]),by simp [Nm]⟩
  ·obtain ⟨a,b,e⟩:=Ay0 t ws h
   exact ⟨32 :: w++a,b,by simp only [Cj,List.cons_append] at *;rw [e]⟩
theorem A3l (s sub:Bs):Lib.contains s sub=true ↔ sub <:+: s:=by
 unfold Lib.contains
 rw [decide_eq_true_iff]
 rcases Lib.index_spec s sub with ⟨h1,h2⟩ | ⟨i,h1,h2,h3,_⟩
 ·constructor
  ·intro h;omega
  ·rintro ⟨a,b,e⟩
   have h3:=h2 a.length (by rw [← e];simp)
   rw [← e] at h3
   simp only [Lib.occAt,Cj,List.drop_left] at h3
   rw [List.isPrefixOf_iff_prefix.2 ⟨b,rfl⟩] at h3
   exact absurd h3 (by decide)
 ·constructor
  ·intro _
   have:=List.isPrefixOf_iff_prefix.1 h3
   obtain ⟨b,hb⟩:=this
   exact ⟨s.take i,b,by rw [Cj,hb,List.take_append_drop]⟩
  ·intro _;omega
def UJ:Bs:=Nm Agb
theorem A3m (t:Bs) (ht:∀ b ∈ t,b≠32):Lib.contains UJ (32 :: t++[32])=Pc t:=by
 have hws:∀ w ∈ Agb,∀ b ∈ w,b≠32:=by decide
 rw [Bool.eq_iff_iff,A3l]
 unfold Pc
 rw [List.contains_iff_mem]
 exact ⟨Aov t ht _ hws,Ay0 t _⟩
theorem A3p (p:Nat→Bool) (hp1:p 32=false) (hp2:p 65533=false) (l:Bs) (h:p (CC l).1=true):∀ b ∈ l.take (CC l).2,b≠32:=by
 intro b hb
 obtain ⟨i,hi⟩:=List.mem_iff_getElem?.1 hb
 rw [List.getElem?_take] at hi
 split at hi
 case isFalse=>exact absurd hi (by simp)
 rename_i hlt
 have hg:l.getD i 0=b:=by rw [List.getD_eq_getElem?_getD,hi];rfl
 rintro rfl
 have hg2:(l.getD i 0).toNat=32:=by rw [hg];rfl
 clear hb hi hg
 unfold CC at h hlt
 dsimp only at h hlt
 have hi4:i=0∨i=1∨i=2∨3≤i:=by omega
 split at h
 ·rename_i h0
  rw [if_pos h0] at hlt
  have:i=0:=by simpa using hlt
  subst this
  rw [hg2] at h
  exact absurd h (by simp [hp1])
 ·rename_i h0
  rw [if_neg h0] at hlt
  have hne:i≠0:=by rintro rfl;omega
  split at h
  ·rename_i h1
   rw [if_pos h1] at hlt
   simp only [Bool.and_eq_true,beq_iff_eq,decide_eq_true_eq] at h1
   split at h
   ·rename_i h2;rw [if_pos h2] at hlt
    rcases hi4 with rfl | rfl | rfl | hi4 <;> dsimp only at hlt <;> omega
   ·exact absurd h (by simp [hp2])
  ·rename_i h1
   rw [if_neg h1] at hlt
   split at h
   ·rename_i h1
    rw [if_pos h1] at hlt
    simp only [Bool.and_eq_true,beq_iff_eq,decide_eq_true_eq] at h1
    split at h
    ·rename_i h2;rw [if_pos h2] at hlt
     rcases hi4 with rfl | rfl | rfl | hi4 <;> dsimp only at hlt <;> omega
    ·exact absurd h (by simp [hp2])
   ·rename_i h1
    rw [if_neg h1] at hlt
    split at h
    ·rename_i h1
     rw [if_pos h1] at hlt
     simp only [Bool.and_eq_true,beq_iff_eq,decide_eq_true_eq] at h1
     split at h
     ·rename_i h2;rw [if_pos h2] at hlt
      have:i=3∨4≤i∨i < 3:=by omega
      rcases hi4 with rfl | rfl | rfl | hi4 <;> dsimp only at hlt <;> try omega
      have:i=3:=by omega
      subst this;omega
     ·exact absurd h (by simp [hp2])
    ·exact absurd h (by simp [hp2])
theorem Av8 (p:Nat→Bool) (hp1:p 32=false) (hp2:p 65533=false):∀ (n:Nat) (l:Bs),l.length≤n→∀ b ∈ l.take (C1 p l),b≠32
 | 0,l,h=>by
  have:l=[]:=List.eq_nil_of_length_eq_zero (by omega)
  subst this;simp
 | n+1,l,h=>by
  by_cases hl:l=[]
  ·subst hl;simp
  ·rw [Xc p l hl]
   have hw:=KA l
   split
   ·rename_i hp
    rw [List.take_add]
    intro b hb
    rcases EG.1 hb with hb | hb
    ·exact A3p p hp1 hp2 l hp b hb
    ·exact Av8 p hp1 hp2 n (l.drop (CC l).2) (by rw [Cv];have:=hw.2.2 hl;omega) b hb
   ·simp
end Lx
end
section
open Go Go.RowKit Lx
theorem wrap_in (x:Int) (h0:0≤x) (h1:x≤1000000000):IntKind.i64.wrap x=x:=by unfold IntKind.wrap;simp [IntKind.bits,IntKind.signed];omega
def Ou (m:Nat) (t:Bs) (B sb at_:Nat) (src:ByteArray) (l:List Tok) (w:World) (e:Ending) (w':World):Prop :=
 if m > 40 then e=Ki 14 at_∧Below B w w'
 else e=.returned (.tuple #[])∧Sc B sb src (at_+m) (l++[⟨if Pc t then 2 else 1,t,0,at_⟩]) w'∧Below B w w'
theorem Btq (src:ByteArray) (at_ m:Nat) (w:World) (hm:C1 E_ ((bs src).drop at_)=m) (hle:at_+m≤src.size) (hs:m≤40) (hg:Gl w) :
  Calls Tryz.prog 97 #[.string (str UJ),.string (⟨#[32]⟩++src.extract at_ (at_+m)++⟨#[32]⟩)] w fun e w'=>e=.returned (.bool (Pc (((bs src).drop at_).take m)))∧w=w':=by
 obtain ⟨k,hk⟩:=hg.maxLen
 refine (Tryz.strings_Contains (str UJ) _ k w (by rw [U0];decide) hk).mono ?_
 rintro e w' ⟨rfl,rfl⟩
 have e1:(str UJ).data.toList=UJ:=Lj _
 have e2:(⟨#[32]⟩++src.extract at_ (at_+m)++⟨#[32]⟩:ByteArray).data.toList=32 :: (((bs src).drop at_).take m)++[32]:=by
  have h:=Vr src at_ (at_+m)
  rw [Nat.add_sub_cancel_left] at h
  rw [← h]
  simp [bs]
 refine ⟨?_,rfl⟩
 rw [e1,e2,A3m]
 rw [← hm]
 exact Av8 E_ (by decide) (by decide) _ _ (Nat.le_refl _)
set_option maxHeartbeats 4000000 in
theorem name_any (B sb at_:Nat) (src:ByteArray) (l:List Tok) (w:World) (h:Sc B sb src at_ l w) (hg:Gl w) (hat:at_≤src.size) (hs:src.size≤100000) (hll:l.length≤100000) (hBw:B≤w.heap.size) :
  Calls Tryz.prog 59 #[.pointer (some ⟨sb,0,none⟩)] w (Ou (C1 E_ ((bs src).drop at_)) (((bs src).drop at_).take (C1 E_ ((bs src).drop at_))) B sb at_ src l w):=by
 have HMM:=Lib.hid (rfl:C1 E_ ((bs src).drop at_)=C1 E_ ((bs src).drop at_))
 have HG:=Lib.hid hg
 clear hg
 have hm:=LD E_ ((bs src).drop at_)
 rw [Cv,Dg] at hm
 obtain ⟨hb,c0,c1⟩:=h.reads
 have Si:=Lib.hid (run_any 95 E_ sb at_ src w Awz hb c0 c1 hat (by omega))
 generalize hM:C1 E_ ((bs src).drop at_)=m at *
 have HM:=Lib.hid hM
 have HSC:=Lib.hid h
 clear hM h
 have hz1:(at_:Int)≤(at_:Int)+m:=by omega
 have hz2:(at_:Int)+m≤src.size:=by omega
 have hz3:((at_:Int)+m).toNat=at_+m:=by omega
 have hz4:(at_:Int)+m≤100000:=by omega
 have hz5:=wrap_in ((at_:Int)+m) (by omega) (by omega)
 go_enter Tryz.func59,Tryz.ntmps59
 go_wp2_with fail
 refine Si.out.mono ?_
 rintro e w1 ⟨rfl,hb1⟩
 have KY:=Lib.hid (HSC.out.later hb1)
 have HB1:=Lib.hid hb1
 clear c0 c1 hb hb1
 obtain ⟨hb,c0,c1⟩:=KY.out.reads
 go_wp2_with fail
 refine Kz [(0,0),(1,0),(2,0),(3,3),(4,0),(5,0),(6,0),(7,3),(8,0),(9,0),(10,0),(11,3),(12,0),(13,0),(14,0),(15,0),(16,1)] (fun w'=>w'.cell? ⟨sb,0,none⟩=some (.string src)∧w'.cell? ⟨sb,1,none⟩=some (.int .i64 at_)) (by kernel_rfl) (by kernel_rfl) (fun _ _ d _ _ h=>by cases d <;> exact h) (by refine ⟨?_,?_⟩ <;> go_simp) ?_
 simp only [EN,List.filterMap_cons,List.filterMap_nil,List.getElem?_toArray,List.getElem?_cons_zero,List.getElem?_cons_succ,Option.map_some,List.drop_succ_cons,List.drop_zero,AD,Be]
 iterate 3 (refine EC (by rfl) (fun wq=>by go_simp;with_reducible rfl) ?_;simp only [Act.put,List.setIfInBounds_toArray,List.set_cons_zero,List.set_cons_succ])
 iterate 1 (refine GD (by rfl) (fun wq hq=>by obtain ⟨hq0,hq1⟩:=hq;go_simp;with_reducible rfl) ?_;simp only [Act.put,List.setIfInBounds_toArray,List.set_cons_zero,List.set_cons_succ])
 iterate 3 (refine EC (by rfl) (fun wq=>by go_simp;with_reducible rfl) ?_;simp only [Act.put,List.setIfInBounds_toArray,List.set_cons_zero,List.set_cons_succ])
 iterate 1 (refine GD (by rfl) (fun wq hq=>by obtain ⟨hq0,hq1⟩:=hq;go_simp;with_reducible rfl) ?_;simp only [Act.put,List.setIfInBounds_toArray,List.set_cons_zero,List.set_cons_succ])
 iterate 3 (refine EC (by rfl) (fun wq=>by go_simp;with_reducible rfl) ?_;simp only [Act.put,List.setIfInBounds_toArray,List.set_cons_zero,List.set_cons_succ])
 iterate 1 (refine GD (by rfl) (fun wq hq=>by obtain ⟨hq0,hq1⟩:=hq;go_simp;with_reducible rfl) ?_;simp only [Act.put,List.setIfInBounds_toArray,List.set_cons_zero,List.set_cons_succ])
 iterate 4 (refine EC (by rfl) (fun wq=>by go_simp;with_reducible rfl) ?_;simp only [Act.put,List.setIfInBounds_toArray,List.set_cons_zero,List.set_cons_succ])
 refine P5 ?_ ?_
 ·rfl
 intro K hK
 go_wp2
 refine ⟨by refine ⟨?_,?_⟩ <;> go_simp,?_⟩
 refine KO ?_
 by_cases h40:m > 40
 ·have h40z:(40:Int) < m:=by omega
  go_wp2_with fail
  refine (NA _ _ _).mono ?_
  rintro e w' ⟨rfl,rfl⟩
  go_wp2_with fail
  refine ⟨rfl,?_⟩
  show Ou m _ B sb at_ src l w _ _
  unfold Ou
  rw [if_pos h40]
  exact ⟨rfl,((HB1.out.mono hBw).alloc (by have:=HB1.out.size;omega) _).drew⟩
 ·have h40z:¬ (40:Int) < m:=by omega
  go_wp2_with fail
  have HGW:=Lib.hid (HG.out.below HB1.out HG.out.size)
  have Azy:=Lib.hid ((HGW.out.below ((Below.refl w1.heap.size w1).alloc (Nat.le_refl _) (.cells #[.int .i64 1,.string (src.extract at_ (at_+m)),.int .i64 0,.int .i64 0] 96)) HGW.out.size).drew)
  refine (Btq src at_ m _ HM.out (by omega) (by omega) Azy.out).mono ?_
  rintro e w' ⟨rfl,rfl⟩
  generalize HT:Pc (((bs src).drop at_).take m)=bw
  have Anb:bs (src.extract at_ (at_+m))=((bs src).drop at_).take m:=by rw [Vr,Nat.add_sub_cancel_left]
  have Qa:=Lib.hid Anb
  have Be7:=HB1.out.size
  clear Anb
  cases bw
  ·have LN:=Lib.hid (add_any B sb at_ src l m 1 0 0 (src.extract at_ (at_+m)) _ ((KY.out.alloc (.cells #[.int .i64 1,.string (src.extract at_ (at_+m)),.int .i64 0,.int .i64 0] 96)).drew) (by simp;omega) hll (by omega))
   have HT2:=Lib.hid HT
   clear HT
   go_wp2_with fail
   refine LN.out.mono ?_
   rintro e w' ⟨rfl,hsc,hbb⟩
   go_wp2_with fail
   refine bodyPost_ret (results_none rfl _ _ _) rfl ?_
   unfold Ou
   rw [if_neg h40]
   rw [Qa.out] at hsc
   rw [HT2.out]
   exact ⟨rfl,hsc,(((HB1.out.mono hBw).alloc (by omega) _).drew).trans hbb⟩
  ·have LN:=Lib.hid (add_any B sb at_ src l m 2 0 0 (src.extract at_ (at_+m)) _ ((KY.out.alloc (.cells #[.int .i64 2,.string (src.extract at_ (at_+m)),.int .i64 0,.int .i64 0] 96)).drew) (by simp;omega) hll (by omega))
   have HT2:=Lib.hid HT
   clear HT
   go_wp2_with fail
   refine LN.out.mono ?_
   rintro e w' ⟨rfl,hsc,hbb⟩
   go_wp2_with fail
   refine bodyPost_ret (results_none rfl _ _ _) rfl ?_
   unfold Ou
   rw [if_neg h40]
   rw [Qa.out] at hsc
   rw [HT2.out]
   exact ⟨rfl,hsc,(((HB1.out.mono hBw).alloc (by omega) _).drew).trans hbb⟩
def NumEnd (m:Nat) (t:Bs) (B sb at_:Nat) (src:ByteArray) (l:List Tok) (w:World) (e:Ending) (w':World):Prop :=
 if (Ix t).2≠0 then e=Ki (Ix t).2 at_∧Below B w w'
 else e=.returned (.tuple #[])∧Sc B sb src (at_+m) (l++[⟨3,t,(Ix t).1,at_⟩]) w'∧Below B w w'
set_option maxHeartbeats 4000000 in
theorem Bkr (B sb at_:Nat) (src:ByteArray) (l:List Tok) (w:World) (h:Sc B sb src at_ l w) (hat:at_≤src.size) (hs:src.size≤100000) (hll:l.length≤100000) (hBw:B≤w.heap.size) :
  Calls Tryz.prog 61 #[.pointer (some ⟨sb,0,none⟩)] w (NumEnd (C1 E_ ((bs src).drop at_)) (((bs src).drop at_).take (C1 E_ ((bs src).drop at_))) B sb at_ src l w):=by
 have hm:=LD E_ ((bs src).drop at_)
 rw [Cv,Dg] at hm
 obtain ⟨hb,c0,c1⟩:=h.reads
 have Si:=Lib.hid (run_any 95 E_ sb at_ src w Awz hb c0 c1 hat (by omega))
 generalize hM:C1 E_ ((bs src).drop at_)=m at *
 have HM:=Lib.hid hM
 have HSC:=Lib.hid h
 clear hM h
 have hz1:(at_:Int)≤(at_:Int)+m:=by omega
 have hz2:(at_:Int)+m≤src.size:=by omega
 have hz3:((at_:Int)+m).toNat=at_+m:=by omega
 have hz4:(at_:Int)+m≤100000:=by omega
 have hz5:=wrap_in ((at_:Int)+m) (by omega) (by omega)
 go_enter Tryz.func61,Tryz.ntmps61
 go_wp2_with fail
 refine Si.out.mono ?_
 rintro e w1 ⟨rfl,hb1⟩
 have KY:=Lib.hid (HSC.out.later hb1)
 have HB1:=Lib.hid hb1
 clear c0 c1 hb hb1
 obtain ⟨hb,c0,c1⟩:=KY.out.reads
 have Be7:=HB1.out.size
 have Qa:=Lib.hid (show bs (src.extract at_ (at_+m))=((bs src).drop at_).take m by rw [Vr,Nat.add_sub_cancel_left])
 have HPA:=Lib.hid (fun w=>parse_any (src.extract at_ (at_+m)) w (by have:=congrArg List.length Qa.out;rw [Dg,List.length_take,Cv,Dg] at this;omega))
 generalize hPF:Ix (((bs src).drop at_).take m)=PF at *
 have HPF:=Lib.hid hPF
 clear hPF
 go_wp2_with fail
 refine Kz [(0,0),(1,0),(2,0),(3,3),(4,0),(5,0),(6,0),(7,3),(8,0),(9,0),(10,0),(11,3),(12,0),(13,0)] (fun w'=>w'.cell? ⟨sb,0,none⟩=some (.string src)∧w'.cell? ⟨sb,1,none⟩=some (.int .i64 at_)) (by kernel_rfl) (by kernel_rfl) (fun _ _ d _ _ h=>by cases d <;> exact h) (by refine ⟨?_,?_⟩ <;> go_simp) ?_
 simp only [EN,List.filterMap_cons,List.filterMap_nil,List.getElem?_toArray,List.getElem?_cons_zero,List.getElem?_cons_succ,Option.map_some,List.drop_succ_cons,List.drop_zero,AD,Be]
 iterate 3 (refine EC (by rfl) (fun wq=>by go_simp;with_reducible rfl) ?_;simp only [Act.put,List.setIfInBounds_toArray,List.set_cons_zero,List.set_cons_succ])
 iterate 1 (refine GD (by rfl) (fun wq hq=>by obtain ⟨hq0,hq1⟩:=hq;go_simp;with_reducible rfl) ?_;simp only [Act.put,List.setIfInBounds_toArray,List.set_cons_zero,List.set_cons_succ])
 iterate 3 (refine EC (by rfl) (fun wq=>by go_simp;with_reducible rfl) ?_;simp only [Act.put,List.setIfInBounds_toArray,List.set_cons_zero,List.set_cons_succ])
 iterate 1 (refine GD (by rfl) (fun wq hq=>by obtain ⟨hq0,hq1⟩:=hq;go_simp;with_reducible rfl) ?_;simp only [Act.put,List.setIfInBounds_toArray,List.set_cons_zero,List.set_cons_succ])
 iterate 3 (refine EC (by rfl) (fun wq=>by go_simp;with_reducible rfl) ?_;simp only [Act.put,List.setIfInBounds_toArray,List.set_cons_zero,List.set_cons_succ])
 iterate 1 (refine GD (by rfl) (fun wq hq=>by obtain ⟨hq0,hq1⟩:=hq;go_simp;with_reducible rfl) ?_;simp only [Act.put,List.setIfInBounds_toArray,List.set_cons_zero,List.set_cons_succ])
 iterate 2 (refine EC (by rfl) (fun wq=>by go_simp;with_reducible rfl) ?_;simp only [Act.put,List.setIfInBounds_toArray,List.set_cons_zero,List.set_cons_succ])
 refine KO ?_
 go_wp2_with fail
 refine (HPA.out _).mono ?_
 rintro e w2 ⟨rfl,hb2⟩
 rw [Qa.out,HPF.out]
 have HB2:=Lib.hid hb2
 have KZ:=Lib.hid (KY.out.drew.later hb2)
 clear hb2 hb c0 c1
 obtain ⟨hb,c0,c1⟩:=KZ.out.reads
 by_cases h0:PF.2=0
 ·rw [h0]
  have LN:=Lib.hid (add_any B sb at_ src l m 3 PF.1 0 (src.extract at_ (at_+m)) w2 KZ.out (by have:=HB2.out.size;simp at this;omega) hll (by omega))
  go_wp2_with fail
  refine LN.out.mono ?_
  rintro e w' ⟨rfl,hsc,hbb⟩
  go_wp2_with fail
  refine bodyPost_ret (results_none rfl _ _ _) rfl ?_
  unfold NumEnd
  rw [HPF.out,if_neg (by simp [h0])]
  rw [Qa.out] at hsc
  exact ⟨rfl,hsc,((HB1.out.drew.mono hBw).trans (HB2.out.mono (by simp;omega))).trans hbb⟩
 ·have h0':(PF.2 == 0)=false:=by simpa using h0
  go_wp2_with fail
  refine (NA _ _ _).mono ?_
  rintro e w' ⟨rfl,rfl⟩
  go_wp2_with fail
  refine ⟨rfl,?_⟩
  unfold NumEnd
  rw [HPF.out,if_pos h0]
  exact ⟨rfl,(HB1.out.drew.mono hBw).trans (HB2.out.mono (by simp;omega))⟩
def Az0 (r:Step) (B sb at_:Nat) (src:ByteArray) (l:List Tok) (w:World) (e:Ending) (w':World):Prop :=
 match r with
 | .done=>e=.returned (.bool false)∧Sc B sb src at_ l w'∧Below B w w'
 | .skip n=>e=.returned (.bool true)∧Sc B sb src (at_+n) l w'∧Below B w w'
 | .tok k t n len=>e=.returned (.bool true)∧Sc B sb src (at_+len) (l++[⟨k,t,n,at_⟩]) w'∧Below B w w'
 | .bad c rel=>e=Ki c (at_+rel:Nat)∧Below B w w'
theorem A3o (l:Bs) (h:(CC l).1 < 128):(l.getD 0 0).toNat=(CC l).1:=by
 unfold CC at h ⊢
 dsimp only at h ⊢
 by_cases h0:(l.getD 0 0).toNat < 128
 ·rw [if_pos h0]
 ·rw [if_neg h0] at h ⊢
  exfalso
  (repeat' split at h) <;> simp_all <;> omega
theorem A3t (s:ByteArray) (h:bs s≠[]):Lib.decodeGo s=CC (bs s):=by
 unfold Lib.decodeGo
 have:s.size≠0:=by
  intro h0
  rw [← Dg] at h0
  exact h (List.eq_nil_of_length_eq_zero h0)
 rw [if_neg this,decode_eq,List.drop_zero]
set_option maxHeartbeats 4000000 in
theorem next_any (B sb at_:Nat) (src:ByteArray) (l:List Tok) (w:World) (h:Sc B sb src at_ l w) (hg:Gl w) (hat:at_≤src.size) (hs:src.size≤100000) (hll:l.length≤100000) (hBw:B≤w.heap.size) (hNB:6≤B) :
  Calls Tryz.prog 38 #[.pointer (some ⟨sb,0,none⟩)] w (Az0 (ES (((bs src).drop at_).drop (C1 Dv ((bs src).drop at_)))) B sb (at_+C1 Dv ((bs src).drop at_)) src l w):=by
 have hm:=LD Dv ((bs src).drop at_)
 rw [Cv,Dg] at hm
 obtain ⟨hb,c0,c1⟩:=h.reads
 have Si:=Lib.hid (run_any 54 Dv sb at_ src w.drew Brq hb c0 c1 hat (by omega))
 rw [List.drop_drop]
 generalize C1 Dv ((bs src).drop at_)=m at *
 have hz5:=wrap_in ((at_:Int)+m) (by omega) (by omega)
 rw [show (at_:Int)+m=((at_+m:Nat):Int) by omega] at hz5
 obtain ⟨a,ha⟩:∃ a,at_+m=a:=⟨_,rfl⟩
 rw [ha] at hz5
 have hz6:(at_:Int)+m=a:=by omega
 rw [ha]
 have hza:a≤src.size:=by omega
 have Bw8:(a:Int)≤src.size:=by omega
 obtain ⟨R9,hR9⟩:∃ R9,ES ((bs src).drop a)=R9:=⟨_,rfl⟩
 rw [hR9]
 have HR9:=Lib.hid hR9
 have HSC:=Lib.hid h
 have HG:=Lib.hid hg
 clear h hg hR9
 go_enter Tryz.func38,Tryz.ntmps38
 go_wp2_with fail
 refine Kz [(0,0),(1,0),(2,0),(3,3),(4,0),(5,1)] (fun w'=>w'.cell? ⟨sb,1,none⟩=some (.int .i64 at_)) (by kernel_rfl) (by kernel_rfl) (fun _ _ d _ _ h=>by cases d <;> exact h) (by first | exact c1 | exact (hb2.cell (p:=⟨sb,1,none⟩) hb).trans c1) ?_
 simp only [EN,List.filterMap_cons,List.filterMap_nil,List.getElem?_toArray,List.getElem?_cons_zero,List.getElem?_cons_succ,Option.map_some,List.drop_succ_cons,List.drop_zero,AD,Be]
 iterate 3 (refine EC (by rfl) (fun wq=>by go_simp;with_reducible rfl) ?_;simp only [Act.put,List.setIfInBounds_toArray,List.set_cons_zero,List.set_cons_succ])
 iterate 1 (refine GD (by rfl) (fun wq hq1=>by go_simp;with_reducible rfl) ?_;simp only [Act.put,List.setIfInBounds_toArray,List.set_cons_zero,List.set_cons_succ])
 iterate 1 (refine EC (by rfl) (fun wq=>by go_simp;with_reducible rfl) ?_;simp only [Act.put,List.setIfInBounds_toArray,List.set_cons_zero,List.set_cons_succ])
 refine P5 ?_ ?_
 ·rfl
 intro K hK
 (go_wp2_with fail;refine Si.out.mono ?_;rintro e w1 ⟨rfl,hb2⟩;go_wp2_with fail)
 refine ⟨by first | exact c1 | exact (hb2.cell (p:=⟨sb,1,none⟩) hb).trans c1,?_⟩
 refine KO ?_
 have KY:=Lib.hid (HSC.out.drew.later hb2)
 have HB1:=Lib.hid (((Below.refl w.heap.size w).drew).trans hb2)
 clear hb c0 c1 hb2
 obtain ⟨hb,c0,c1⟩:=KY.out.reads
 have hfr:=KY.out.free 1
 go_wp2_with fail
 have KZ:=Lib.hid (KY.out.move a)
 have HB2:=Lib.hid ((HB1.out.mono hBw).setCell (p:=⟨sb,1,none⟩) KY.out.base (.int .i64 a))
 generalize w1.setCell ⟨sb,1,none⟩ (.int .i64 a)=w2 at *
 clear hb c0 c1 hfr
 obtain ⟨hb,c0,c1⟩:=KZ.out.reads
 refine Kz [(0,0),(1,0),(2,0),(3,3),(4,0),(5,0),(6,0),(7,3)] (fun w'=>w'.cell? ⟨sb,0,none⟩=some (.string src)∧w'.cell? ⟨sb,1,none⟩=some (.int .i64 a)) (by kernel_rfl) (by kernel_rfl) (fun _ _ d _ _ h=>by cases d <;> exact h) (by refine ⟨?_,?_⟩ <;> go_simp) ?_
 simp only [EN,List.filterMap_cons,List.filterMap_nil,List.getElem?_toArray,List.getElem?_cons_zero,List.getElem?_cons_succ,Option.map_some,List.drop_succ_cons,List.drop_zero,AD,Be]
 iterate 3 (refine EC (by rfl) (fun wq=>by go_simp;with_reducible rfl) ?_;simp only [Act.put,List.setIfInBounds_toArray,List.set_cons_zero,List.set_cons_succ])
 iterate 1 (refine GD (by rfl) (fun wq hq=>by obtain ⟨hq0,hq1⟩:=hq;go_simp;with_reducible rfl) ?_;simp only [Act.put,List.setIfInBounds_toArray,List.set_cons_zero,List.set_cons_succ])
 iterate 3 (refine EC (by rfl) (fun wq=>by go_simp;with_reducible rfl) ?_;simp only [Act.put,List.setIfInBounds_toArray,List.set_cons_zero,List.set_cons_succ])
 iterate 1 (refine GD (by rfl) (fun wq hq=>by obtain ⟨hq0,hq1⟩:=hq;go_simp;with_reducible rfl) ?_;simp only [Act.put,List.setIfInBounds_toArray,List.set_cons_zero,List.set_cons_succ])
 refine KO ?_
 go_wp2_with fail
 have HDT:=Lib.hid (Tryz.utf8_DecodeRuneInString (src.extract a src.size) w2.drew ((HG.out.below HB2.out hNB).drew).utf)
 have HTL:=Lib.hid (Ir src a)
 generalize hL:(bs src).drop a=L at *
 generalize hsx:src.extract a src.size=sx at *
 have HL:=Lib.hid hL
 clear hL hsx
 cases hLc:L with
 | nil =>
  subst hLc
  have he:sx.toList.isEmpty=true:=by
   rw [Lib.toList_data]
   show (bs sx).isEmpty=true
   rw [HTL.out];rfl
  refine HDT.out.mono ?_
  rintro e w3 ⟨rfl,hb3⟩
  have HB3:=Lib.hid (HB2.out.drew.trans (hb3.mono (by have:=HB2.out.size;simp;omega)))
  have N0:=Lib.hid (KZ.out.drew.later hb3)
  clear hb3 hb c0 c1
  go_wp2_with fail
  go_ret
  rw [← HR9.out]
  exact ⟨rfl,N0.out,HB3.out⟩
 | cons c t =>
  have hne:¬ (c :: t=([]:Bs)):=by simp
  rw [hLc] at HL HTL HR9
  have HDG:=Lib.hid (A3t sx (by rw [HTL.out];simp))
  rw [HTL.out] at HDG
  have VL:=Sv (c :: t)
  generalize hr:(CC (c :: t)).1=r at *
  have KX:=Lib.hid hr
  clear hr hLc
  have he:=TH sx c t HTL.out
  have X6:=HDT.out
  rw [show (Lib.decodeGo sx).1=r by rw [HDG.out];exact KX.out] at X6
  refine X6.mono ?_
  rintro e w3 ⟨rfl,hb3⟩
  have HB3:=Lib.hid (HB2.out.drew.trans (hb3.mono (by have:=HB2.out.size;simp;omega)))
  have N0:=Lib.hid (KZ.out.drew.later hb3)
  have hw3:B≤w3.heap.size:=by have:=HB3.out.size;omega
  have HG3:=Lib.hid (HG.out.below HB3.out hNB)
  clear hb3 hb c0 c1 HDT X6 HDG
  obtain ⟨hb,c0,c1⟩:=N0.out.reads
  have HPX:=Lib.hid (TY sx [45,45])
  rw [HTL.out] at HPX
  by_cases hpre:([45,45]:Bs).isPrefixOf (c :: t)=true
  ·rw [hpre] at HPX
   have M1:=Lib.hid hpre
   clear hpre
   go_wp2_with fail
   refine (HPX.out w3).mono ?_
   rintro e w' ⟨rfl,rfl⟩
   have hn:=LD O_ ((bs src).drop a)
   rw [Cv,Dg,HL.out] at hn
   have HRL:=Lib.hid (run_any 57 O_ sb a src w3.drew Brr hb c0 c1 hza (by omega))
   rw [HL.out] at HRL
   obtain ⟨n,hn2⟩:∃ n,C1 O_ (c :: t)=n:=⟨_,rfl⟩
   rw [hn2] at hn HRL
   have HRN:=Lib.hid hn2
   clear hn2
   have hzn:=wrap_in ((a:Int)+n) (by omega) (by omega)
   rw [show (a:Int)+n=((a+n:Nat):Int) by omega] at hzn
   obtain ⟨an,han⟩:∃ an,a+n=an:=⟨_,rfl⟩
   rw [han] at hzn
   have Bw9:(a:Int)+n=an:=by omega
   go_wp2_with fail
   refine Kz [(0,0),(1,0),(2,0),(3,3),(4,0),(5,1)] (fun w'=>w'.cell? ⟨sb,1,none⟩=some (.int .i64 a)) (by kernel_rfl) (by kernel_rfl) (fun _ _ d _ _ h=>by cases d <;> exact h) (by first | exact c1 | exact (hb4.cell (p:=⟨sb,1,none⟩) hb).trans c1) ?_
   simp only [EN,List.filterMap_cons,List.filterMap_nil,List.getElem?_toArray,List.getElem?_cons_zero,List.getElem?_cons_succ,Option.map_some,List.drop_succ_cons,List.drop_zero,AD,Be]
   iterate 3 (refine EC (by rfl) (fun wq=>by go_simp;with_reducible rfl) ?_;simp only [Act.put,List.setIfInBounds_toArray,List.set_cons_zero,List.set_cons_succ])
   iterate 1 (refine GD (by rfl) (fun wq hq1=>by go_simp;with_reducible rfl) ?_;simp only [Act.put,List.setIfInBounds_toArray,List.set_cons_zero,List.set_cons_succ])
   iterate 1 (refine EC (by rfl) (fun wq=>by go_simp;with_reducible rfl) ?_;simp only [Act.put,List.setIfInBounds_toArray,List.set_cons_zero,List.set_cons_succ])
   refine P5 ?_ ?_
   ·rfl
   intro K hK
   (go_wp2_with fail;refine HRL.out.mono ?_;rintro e w4 ⟨rfl,hb4⟩;go_wp2_with fail)
   refine ⟨by first | exact c1 | exact (hb4.cell (p:=⟨sb,1,none⟩) hb).trans c1,?_⟩
   refine KO ?_
   have UY:=Lib.hid (N0.out.drew.later hb4)
   have HB4:=Lib.hid (HB3.out.drew.trans (hb4.mono hw3))
   clear hb c0 c1 hb4
   obtain ⟨hb,c0,c1⟩:=UY.out.reads
   have hfr:=UY.out.free 1
   go_wp2_with fail
   go_ret
   have hgg:=HR9.out
   unfold ES at hgg
   rw [KX.out,if_neg hne,if_pos M1.out,HRN.out] at hgg
   rw [← hgg]
   refine ⟨rfl,?_,HB4.out.setCell (p:=⟨sb,1,none⟩) UY.out.base (.int .i64 an)⟩
   rw [han]
   exact UY.out.move an
  ·have hpre':([45,45]:Bs).isPrefixOf (c :: t)=false:=Bool.eq_false_iff.2 hpre
   rw [hpre'] at HPX
   have M1:=Lib.hid hpre
   clear hpre hpre'
   go_wp2_with fail
   refine (HPX.out w3).mono ?_
   rintro e w' ⟨rfl,rfl⟩
   cases hlet:Mc r with
   | true =>
    have Nz:=Lib.hid hlet
    have HLC:=Lib.hid (Aew.2 r w3 VL)
    rw [hlet] at HLC
    clear hlet
    go_wp2_with fail
    refine HLC.out.mono ?_
    rintro e w' ⟨rfl,rfl⟩
    have HNM:=Lib.hid (name_any B sb a src l w3 N0.out HG3.out hza hs hll hw3)
    rw [HL.out] at HNM
    by_cases h40:C1 E_ (c :: t) > 40
    ·have Ot:=Lib.hid (HNM.out.mono fun e w' h=>(by unfold Ou at h;rw [if_pos h40] at h;exact h:e=Ki 14 a∧Below B w3 w'))
     go_wp2_with fail
     refine Ot.out.mono ?_
     rintro e w4 ⟨rfl,hb4⟩
     go_wp2_with fail
     refine ⟨rfl,?_⟩
     have hgg:=HR9.out
     unfold ES at hgg
     rw [KX.out,if_neg hne,if_neg M1.out,if_pos Nz.out] at hgg
     dsimp only at hgg
     rw [if_pos h40] at hgg
     rw [← hgg]
     exact ⟨rfl,HB3.out.trans hb4⟩
    ·have Ot:=Lib.hid (HNM.out.mono fun e w' h=>(by unfold Ou at h;rw [if_neg h40] at h;exact h:e=.returned (.tuple #[])∧Sc B sb src (a+C1 E_ (c :: t)) (l++[⟨if Pc ((c :: t).take (C1 E_ (c :: t))) then 2 else 1,(c :: t).take (C1 E_ (c :: t)),0,a⟩]) w'∧Below B w3 w'))
     go_wp2_with fail
     refine Ot.out.mono ?_
     rintro e w4 ⟨rfl,HU,hb4⟩
     go_wp2_with fail
     go_ret
     have hgg:=HR9.out
     unfold ES at hgg
     rw [KX.out,if_neg hne,if_neg M1.out,if_pos Nz.out] at hgg
     dsimp only at hgg
     rw [if_neg h40] at hgg
     rw [← hgg]
     exact ⟨rfl,HU,HB3.out.trans hb4⟩
   | false =>
    have Nz:=Lib.hid (show ¬ Mc r=true by rw [hlet];simp)
    have HLC:=Lib.hid (Aew.2 r w3 VL)
    rw [hlet] at HLC
    clear hlet
    go_wp2_with fail
    refine HLC.out.mono ?_
    rintro e w' ⟨rfl,rfl⟩
    cases hdig:Kh r with
    | true =>
     have P_:=Lib.hid hdig
     have HDC:=Lib.hid (Xg.2 r w3 VL)
     rw [hdig] at HDC
     clear hdig
     go_wp2_with fail
     refine HDC.out.mono ?_
     rintro e w' ⟨rfl,rfl⟩
     have HNM:=Lib.hid (Bkr B sb a src l w3 N0.out hza hs hll hw3)
     rw [HL.out] at HNM
     by_cases h40:(Ix ((c :: t).take (C1 E_ (c :: t)))).2≠0
     ·have Ot:=Lib.hid (HNM.out.mono fun e w' h=>(by unfold NumEnd at h;rw [if_pos h40] at h;exact h:e=Ki (Ix ((c :: t).take (C1 E_ (c :: t)))).2 a∧Below B w3 w'))
      go_wp2_with fail
      refine Ot.out.mono ?_
      rintro e w4 ⟨rfl,hb4⟩
      go_wp2_with fail
      refine ⟨rfl,?_⟩
      have hgg:=HR9.out
      unfold ES at hgg
      rw [KX.out,if_neg hne,if_neg M1.out,if_neg Nz.out,if_pos P_.out] at hgg
      dsimp only at hgg
      rw [if_pos h40] at hgg
      rw [← hgg]
      exact ⟨rfl,HB3.out.trans hb4⟩
     ·have Ot:=Lib.hid (HNM.out.mono fun e w' h=>(by unfold NumEnd at h;rw [if_neg h40] at h;exact h:e=.returned (.tuple #[])∧Sc B sb src (a+C1 E_ (c :: t)) (l++[⟨3,(c :: t).take (C1 E_ (c :: t)),(Ix ((c :: t).take (C1 E_ (c :: t)))).1,a⟩]) w'∧Below B w3 w'))
      go_wp2_with fail
      refine Ot.out.mono ?_
      rintro e w4 ⟨rfl,HU,hb4⟩
      go_wp2_with fail
      go_ret
      have hgg:=HR9.out
      unfold ES at hgg
      rw [KX.out,if_neg hne,if_neg M1.out,if_neg Nz.out,if_pos P_.out] at hgg
      dsimp only at hgg
      rw [if_neg h40] at hgg
      rw [← hgg]
      exact ⟨rfl,HU,HB3.out.trans hb4⟩
    | false =>
     have P_:=Lib.hid (show ¬ Kh r=true by rw [hdig];simp)
     have HDC:=Lib.hid (Xg.2 r w3 VL)
     rw [hdig] at HDC
     clear hdig
     go_wp2_with fail
     refine HDC.out.mono ?_
     rintro e w' ⟨rfl,rfl⟩
     by_cases hq:r=34∨r=39
     ·have hc:(c :: t).getD 0 0=c:=rfl
      have hcr:c.toNat=r:=by
       have:=A3o (c :: t) (by rw [KX.out];omega)
       rw [KX.out] at this
       exact this
      have HQ:=Lib.hid hq
      have hwr:IntKind.u8.wrap (r:Int)=c.toNat:=by
       rw [hcr]
       rcases HQ.out with h | h <;> rw [h] <;> rfl
      have hcu:UInt8.ofNat r=c:=by rw [← hcr];simp
      have hlen5:src.size≤100000:=hs
      have HTX:=Lib.hid (Bsc B sb a src l c t w3 N0.out HL.out hs hll hw3)
      have HCU:=Lib.hid hcu
      clear hcu hcr hc
      generalize htx:Hu c (c :: t).length t [] 1=TX at *
      have HTE:=Lib.hid htx
      clear htx
      have key:∀ e w',Ail TX B sb a src l w3 e w'→True:=fun _ _ _=>trivial
      have hgg:=HR9.out
      unfold ES at hgg
      rw [KX.out,if_neg hne,if_neg M1.out,if_neg Nz.out,if_neg P_.out,if_pos HQ.out,HCU.out] at hgg
      rw [List.tail_cons,HTE.out] at hgg
      have HGG:=Lib.hid hgg
      clear hgg key
      rcases hq with hq | hq
      ·have hq1:((r:Int) == 34)=true:=by rw [beq_iff_eq];omega
       clear hq
       go_wp2_with fail
       refine HTX.out.mono ?_
       cases TX with
       | bad ec er =>
        rintro e w4 ⟨rfl,hb4⟩
        go_wp2_with fail
        refine ⟨rfl,?_⟩
        rw [← HGG.out]
        exact ⟨rfl,HB3.out.trans hb4⟩
       | ok ev en =>
        rintro e w4 ⟨rfl,HU,hb4⟩
        go_wp2_with fail
        go_ret
        rw [← HGG.out]
        exact ⟨rfl,HU,HB3.out.trans hb4⟩
      ·have hq1:((r:Int) == 34)=false:=by rw [beq_eq_false_iff_ne];omega
       have hq2:((r:Int) == 39)=true:=by rw [beq_iff_eq];omega
       clear hq
       go_wp2_with fail
       refine HTX.out.mono ?_
       cases TX with
       | bad ec er =>
        rintro e w4 ⟨rfl,hb4⟩
        go_wp2_with fail
        refine ⟨rfl,?_⟩
        rw [← HGG.out]
        exact ⟨rfl,HB3.out.trans hb4⟩
       | ok ev en =>
        rintro e w4 ⟨rfl,HU,hb4⟩
        go_wp2_with fail
        go_ret
        rw [← HGG.out]
        exact ⟨rfl,HU,HB3.out.trans hb4⟩
     ·have hq1:((r:Int) == 34)=false:=by rw [beq_eq_false_iff_ne];omega
      have hq2:((r:Int) == 39)=false:=by rw [beq_eq_false_iff_ne];omega
      have HSG:=Lib.hid (Bq5 B sb a src l w3 N0.out HG3.out hza hs hll hw3)
      rw [HL.out] at HSG
      go_wp2_with fail
      refine HSG.out.mono ?_
      have HQ:=Lib.hid hq
      cases hsg:Xf (c :: t) with
      | none =>
       have X8:=Lib.hid hsg
       rintro e w4 ⟨rfl,hb4⟩
       clear hsg
       go_wp2_with fail
       refine ⟨rfl,?_⟩
       have hgg:=HR9.out
       unfold ES at hgg
       rw [KX.out,if_neg hne,if_neg M1.out,if_neg Nz.out,if_neg P_.out,if_neg HQ.out,X8.out] at hgg
       rw [← hgg]
       exact ⟨rfl,HB3.out.trans hb4⟩
      | some sg =>
       have X8:=Lib.hid hsg
       rintro e w4 ⟨rfl,HU,hb4⟩
       clear hsg
       go_wp2_with fail
       go_ret
       have hgg:=HR9.out
       unfold ES at hgg
       rw [KX.out,if_neg hne,if_neg M1.out,if_neg Nz.out,if_neg P_.out,if_neg HQ.out,X8.out] at hgg
       rw [← hgg]
       exact ⟨rfl,HU,HB3.out.trans hb4⟩
set_option maxHeartbeats 2000000 in
theorem Bq0 (p q:Nat) (x:Value) (y1 y2:Int) (c a:Int) (w:World) (hp:w.cell? ⟨p,0,none⟩=some x) (hq0:w.cell? ⟨q,0,none⟩=some (.int .i64 y1)) (hq1:w.cell? ⟨q,1,none⟩=some (.int .i64 y2))
  (fp:w.frozen? ⟨p,0,none⟩=false) (fq:w.frozen? ⟨q,0,none⟩=false) (fq1:w.frozen? ⟨q,1,none⟩=false) (hpl:p < w.heap.size) (hql:q < w.heap.size) (hne:p < q) :
  CallsD Tryz.prog 37 #[.pointer (some ⟨p,0,none⟩),.pointer (some ⟨q,0,none⟩)] (.panicking [{ v:=.iface 104 (.agg #[.int .i64 c,.int .i64 a]),recovered:=false }]) w fun e u' w' =>
   e=.returned (.tuple #[])∧u'=.panicking [{ v:=.iface 104 (.agg #[.int .i64 c,.int .i64 a]),recovered:=true }] ∧
   w'.cell? ⟨p,0,none⟩=some (.slice none 0 0)∧w'.cell? ⟨q,0,none⟩=some (.int .i64 c)∧w'.cell? ⟨q,1,none⟩=some (.int .i64 a)∧Below p w w':=by
 refine callsD_of_wpS Tryz.func37 rfl fun c₀ cs hu=>?_
 have hta:∀ w,(Instr.typeAssert (.iface 104 (.agg #[.int .i64 c,.int .i64 a])) 20 104 true).run Tryz.prog w=.ok (.tuple #[.agg #[.int .i64 c,.int .i64 a],.bool true]) w:=fun w=>by kernel_rfl
 apply wpS_seq
 apply wpS_region
 simp [wpOpsS,go_sem,recoverD,hu,Tryz.ntmps37,Exit.thenS,Array.replicate_succ]
 refine wpS_of_wp ?_
 go_wp2
 have hpn:¬ w.heap.size=p:=by omega
 have hqn:¬ w.heap.size=q:=by omega
 have hpq:¬ p=q:=by omega
 have hqp:¬ q=p:=by omega
 have Bwz:¬ p=w.heap.size:=by omega
 have Bw2:¬ q=w.heap.size:=by omega
 refine Kz [(0,3),(1,1)] (fun w'=>w'.cell? ⟨w.heap.size,0,none⟩=some (.int .i64 c)∧w'.cell? ⟨w.heap.size,1,none⟩=some (.int .i64 a)) (by kernel_rfl) (by kernel_rfl) (fun _ _ d _ _ h=>by cases d <;> exact h) (by refine ⟨?_,?_⟩ <;> go_simp) ?_
 simp only [EN,List.filterMap_cons,List.filterMap_nil,List.getElem?_toArray,List.getElem?_cons_zero,List.getElem?_cons_succ,Option.map_some,List.drop_succ_cons,List.drop_zero,AD,Be]
 iterate 1 (refine GD (by rfl) (fun wq hq=>by obtain ⟨hq0,hq1⟩:=hq;go_simp;with_reducible rfl) ?_;simp only [Act.put,List.setIfInBounds_toArray,List.set_cons_zero,List.set_cons_succ])
 refine P5 ?_ ?_
 ·rfl
 intro K hK
 go_wp2
 refine ⟨by refine ⟨?_,?_⟩ <;> go_simp,?_⟩
 refine KO ?_
 go_wp2
 simp [bodyPostS,results,Tryz.results37]
 refine ⟨?_,?_,?_,?_⟩
 ·go_simp
 ·go_simp
 ·go_simp
 ·exact (((((Below.refl p w).setCell (p:=⟨p,0,none⟩) (Nat.le_refl _) _).setCell (p:=⟨q,0,none⟩) (Nat.le_of_lt hne) _).setCell (p:=⟨q,1,none⟩) (Nat.le_of_lt hne) _).alloc (by simp;omega) _).drew
theorem Bqv (p q:Value) (w:World) :
  CallsD Tryz.prog 37 #[p,q] .returning w fun e u' w'=>e=.returned (.tuple #[])∧u'=.returning∧w=w':=by
 refine callsD_of_wpS Tryz.func37 rfl fun c₀ cs hu=>?_
 apply wpS_seq
 apply wpS_region
 simp [wpOpsS,go_sem,recoverD,hu,Tryz.ntmps37,Exit.thenS,Array.replicate_succ]
 refine wpS_of_wp ?_
 go_wp2
 cases c₀
 simp_all [bodyPostS,results,Tryz.results37]
end
section
namespace Lx
theorem Aei (p:Nat→Bool) (l:Bs) (hl:l≠[]) (h:p (CC l).1=true):1≤C1 p l:=by
 rw [Xc p l hl,if_pos h]
 have:=(KA l).1
 omega
theorem Aw7 (l:Bs) (n:Nat) (h:ES l=.skip n):1≤n∧n≤l.length:=by
 unfold ES at h
 by_cases h0:l=[]
 ·rw [if_pos h0] at h;cases h
 rw [if_neg h0] at h
 by_cases h1:[45,45].isPrefixOf l=true
 ·rw [if_pos h1] at h
  cases h
  refine ⟨Aei _ _ h0 ?_,LD _ _⟩
  obtain ⟨t,rfl⟩:=List.isPrefixOf_iff_prefix.1 h1
  rfl
 ·rw [if_neg h1] at h
  exfalso
  dsimp only at h
  (repeat' split at h) <;> cases h
theorem Am6:∀ (m:Nat) (t:Bs) (n k:Nat),(CQ m t n k).2≤k+t.length
 | 0,t,n,k=>by simp [CQ]
 | m+1,[],n,k=>by simp [CQ]
 | m+1,b :: t,n,k=>by
  simp only [CQ]
  split
  ·simp
  ·rename_i d _
   have:=Am6 m t (16 * n+d) (k+1)
   simp only [AD];omega
theorem Aj5:∀ (m:Nat) (t:Bs) (n k:Nat),(Gp m t n k).2≤k+t.length
 | 0,t,n,k=>by simp [Gp]
 | m+1,[],n,k=>by simp [Gp]
 | m+1,b :: t,n,k=>by
  simp only [Gp]
  split
  ·have:=Aj5 m t (10 * n+(b.toNat - 48)) (k+1)
   simp only [AD];omega
  ·simp
theorem A4v (l e:Bs) (n:Nat) (h:N8 l=.ok e n):2≤n∧n≤l.length+1:=by
 cases l with
 | nil=>cases h
 | cons c t =>
  simp only [N8] at h
  split at h
  ·cases h;simp
  split at h
  ·split at h
   ·cases h
   ·rename_i h2
    cases h
    have:=Am6 2 t 0 0
    have:(CQ 2 t 0 0).2≤2:=by
     have hb:∀ m (t:Bs) n k,(CQ m t n k).2≤k+m:=by
      intro m
      induction m with
      | zero=>intros;simp [CQ]
      | succ m ih =>
       intro t n k
       cases t with
       | nil=>simp [CQ]
       | cons b t =>
        simp only [CQ]
        split
        ·simp
        ·rename_i d _
         have:=ih t (16 * n+d) (k+1)
         omega
     exact hb 2 t 0 0
    simp only [AD];omega
  split at h
  ·rename_i h3
   split at h
   ·cases h
   ·rename_i h4
    simp only [Sh.ok.injEq] at h
    obtain ⟨-,rfl⟩:=h
    cases t with
    | nil=>simp at h3
    | cons d t =>
     simp only [List.tail_cons,not_or,Decidable.not_not] at h4 ⊢
     have h5:=h4.2.2
     have:(CQ 8 t 0 0).2 < t.length:=by
      rcases Nat.lt_or_ge (CQ 8 t 0 0).2 t.length with h | h
      ·exact h
      ·rw [List.drop_of_length_le h] at h5
       simp at h5
     simp only [AD];omega
  ·split at h
   ·cases h
   ·rename_i h4
    simp only [Sh.ok.injEq] at h
    obtain ⟨-,rfl⟩:=h
    have:=Aj5 3 (c :: t) 0 0
    simp only [not_or] at h4
    omega
theorem Afc (q:UInt8):∀ (f:Nat) (l acc:Bs) (i:Nat) (v:Bs) (k:Nat),Hu q f l acc i=.ok v k→i < k∧k≤i+l.length
 | 0,l,acc,i,v,k,h=>by cases h
 | f+1,[],acc,i,v,k,h=>by cases h
 | f+1,b :: t,acc,i,v,k,h=>by
  simp only [Hu] at h
  split at h
  ·cases h
  split at h
  ·split at h
   ·cases h
   ·cases h;simp
  split at h
  ·split at h
   ·cases h
   ·cases h
   ·rename_i e n he
    have h1:=A4v t e n he
    have h2:=Afc q f _ _ _ v k h
    rw [Cv] at h2
    simp only [AD] at h2 ⊢
    omega
  ·have h2:=Afc q f _ _ _ v k h
   simp only [AD]
   omega
theorem Aw8 (l:Bs) (k:Int) (t:Bs) (n:Int) (len:Nat) (h:ES l=.tok k t n len):1≤len∧len≤l.length:=by
 unfold ES at h
 by_cases h0:l=[]
 ·rw [if_pos h0] at h;cases h
 rw [if_neg h0] at h
 have hl:1≤l.length:=by cases l with | nil=>exact absurd rfl h0 | cons=>simp
 by_cases h1:[45,45].isPrefixOf l=true
 ·rw [if_pos h1] at h;cases h
 rw [if_neg h1] at h
 by_cases h2:Mc (CC l).1=true
 ·rw [if_pos h2] at h
  dsimp only at h
  split at h
  ·cases h
  ·cases h
   exact ⟨Aei _ _ h0 (by unfold E_;rw [h2];rfl),LD _ _⟩
 rw [if_neg h2] at h
 by_cases h3:Kh (CC l).1=true
 ·rw [if_pos h3] at h
  dsimp only at h
  split at h
  ·cases h
  ·cases h
   exact ⟨Aei _ _ h0 (by unfold E_;rw [h3];simp),LD _ _⟩
 rw [if_neg h3] at h
 split at h
 ·split at h
  ·cases h
  ·rename_i v k' ht
   cases h
   have:=Afc _ _ _ _ _ _ _ ht
   rw [List.length_tail] at this
   omega
 ·split at h
  ·cases h
  ·rename_i s hs
   cases h
   have hm:=List.mem_of_find?_eq_some hs
   have hp:=List.find?_some hs
   have:∀ s ∈ I7,1≤s.length:=by decide
   refine ⟨this _ hm,?_⟩
   exact (List.isPrefixOf_iff_prefix.1 hp).length_le
end Lx
end
section
open Go Go.RowKit Lx
def XC (R:(Int×Int) ⊕ List Tok) (w:World) (e:Ending) (w':World):Prop :=
 match R with
 | .inl (c,a)=>e=.returned (.tuple #[.slice none 0 0,.agg #[.int .i64 c,.int .i64 a]])∧Below w.heap.size w w'
 | .inr l=>∃ lv,e=.returned (.tuple #[lv,.agg #[.int .i64 0,.int .i64 0]])∧w'.ownsRow w.heap.size 96 4 lv l.length (LH l)∧Below w.heap.size w w'
def posOf (sb:Nat) (w:World):Nat:=match w.cell? ⟨sb,1,none⟩ with | some (.int _ k)=>k.toNat | _=>0
theorem WJ {B sb at_:Nat} {src:ByteArray} {l:List Tok} {w:World} (h:Sc B sb src at_ l w):posOf sb w=at_:=by
 unfold posOf
 rw [h.reads.2.2]
 simp
theorem Bqk (src:ByteArray) (B:Nat) (w:World) (hB:B≤w.heap.size):Sc B w.heap.size src 0 [] (w.alloc (.cells #[.string src,.int .i64 0,.slice none 0 0] 107)) :=
 ⟨.slice none 0 0,Li w _,⟨by simp [LH],.inl ⟨rfl,rfl⟩⟩,by simp [Value.ownBlock],hB⟩
theorem ownsRow_base {w:World} {B B':Nat} {e:TypeId} {size n:Nat} {v:Value} {xs:List Value} (h:w.ownsRow B e size v n xs) (hB:B'≤B):w.ownsRow B' e size v n xs:=by
 refine ⟨h.1,?_⟩
 rcases h.2 with h | ⟨g,cap,cur,hv,hg,r⟩
 ·exact .inl h
 ·exact .inr ⟨g,cap,cur,hv,by omega,r⟩
set_option maxHeartbeats 4000000 in
theorem Bqr (src:ByteArray) (w:World) (hs:src.size > 20000):Calls Tryz.prog 24 #[.string src] w (XC (.inl (14,-1)) w):=by
 have hz:(20000:Int) < src.size:=by omega
 go_enter_defers Tryz.func24,Tryz.ntmps24
 go_wp2_with fail
 simp [bodyPostD,Leaves,settle,results,Tryz.results24,go_sem]
 exact ⟨rfl,(((Below.refl w.heap.size w).alloc (Nat.le_refl _) _).alloc (by simp) _)⟩
set_option maxHeartbeats 4000000 in
theorem Bq1 (src:ByteArray) (w:World) (hs:src.size≤20000) (hg:Gl w):Calls Tryz.prog 24 #[.string src] w (XC (Ij (src.size+1) (bs src) 0 []) w):=by
 obtain ⟨R9,hR9⟩:∃ R9,Ij (src.size+1) (bs src) 0 []=R9:=⟨_,rfl⟩
 rw [hR9]
 have HR9:=Lib.hid hR9
 have HG:=Lib.hid hg
 have hz:¬ (20000:Int) < src.size:=by omega
 clear hR9 hg
 have hmf:∀ (fn:Fn) (first cap:Array Value) (w:World),(Instr.makeFunc fn first cap).run Tryz.prog w=.ok (.func fn first cap) w:=fun _ _ _ _=>rfl
 go_enter_defers Tryz.func24,Tryz.ntmps24
 go_wp2_with fail
 have UX:=Bqk src (w.heap.size+2) ((w.alloc (.cells #[.slice none 0 0] 87)).alloc (.cells #[.int .i64 0,.int .i64 0] 28)) (by simp)
 simp only [World.size_alloc] at UX
 have UX:=Lib.hid UX
 have HBP:=Lib.hid (MA (o':=.cells #[.string src,.int .i64 0,.slice none 0 0] 107) (MA (o':=.cells #[.int .i64 0,.int .i64 0] 28) (Li w (.cells #[.slice none 0 0] 87))))
 have hbq:=MA (o':=.cells #[.string src,.int .i64 0,.slice none 0 0] 107) (Li (w.alloc (.cells #[.slice none 0 0] 87)) (.cells #[.int .i64 0,.int .i64 0] 28))
 simp only [World.size_alloc] at hbq
 have HBQ:=Lib.hid hbq
 have HB0:=Lib.hid ((((Below.refl w.heap.size w).alloc (Nat.le_refl _) (.cells #[.slice none 0 0] 87)).alloc (by simp) (.cells #[.int .i64 0,.int .i64 0] 28)).alloc (by simp;omega) (.cells #[.string src,.int .i64 0,.slice none 0 0] 107))
 clear hbq
 generalize hw3:((w.alloc (.cells #[.slice none 0 0] 87)).alloc (.cells #[.int .i64 0,.int .i64 0] 28)).alloc (.cells #[.string src,.int .i64 0,.slice none 0 0] 107)=w3 at *
 have hsz3:w3.heap.size=w.heap.size+3:=by rw [← hw3];simp
 clear hw3
 go_loopw [] (fun wr=>∃ (at_ f:Nat) (l:List Tok),at_≤src.size∧l.length≤at_∧src.size - at_+1≤f∧Hid (Sc (w.heap.size+2) (w.heap.size+1+1) src at_ l wr)∧Hid (Ij f ((bs src).drop at_) at_ l=R9)∧Hid (Below (w.heap.size+2) w3 wr)) (fun wr=>src.size - posOf (w.heap.size+1+1) wr)
 case atStart=>exact ⟨0,src.size+1,[],by omega,by simp,by omega,UX,HR9,Below.refl _ _⟩
 case round =>
  obtain ⟨at_,f,l,h1,h2,h3,HSC,HGG,HBL⟩:=hrel
  have Bw5:=HBL.out.size
  have HNX:=next_any (w.heap.size+2) (w.heap.size+1+1) at_ src l wr HSC.out ((HG.out.below HB0.out HG.out.size).below HBL.out (by have:=HG.out.size;omega)) h1 (by omega) (by omega) (by omega) (by have:=HG.out.size;omega)
  obtain ⟨f,rfl⟩:∃ g,f=g+1:=⟨f - 1,by omega⟩
  have hg:=HGG.out
  simp only [Ij] at hg
  have hk:=LD Dv ((bs src).drop at_)
  generalize C1 Dv ((bs src).drop at_)=k at *
  have hlen:(((bs src).drop at_).drop k).length=src.size - at_ - k:=by rw [Cv,Cv,Dg]
  rw [Cv,Dg] at hk
  cases hst:ES (((bs src).drop at_).drop k) with
  | done =>
   rw [hst] at hg HNX
   simp only at hg
   have HN:=Lib.hid HNX
   have HE:=Lib.hid hg
   clear hg HNX hst hlen HGG
   go_wp2_with fail
   refine HN.out.mono ?_
   rintro e w4 ⟨rfl,HU,hb4⟩
   have LN:=Lib.hid (add_any (w.heap.size+2) (w.heap.size+1+1) (at_+k) src l 0 6 0 0 ByteArray.empty w4 HU (by have:=hb4.size;omega) (by omega) (by omega))
   have HB4:=Lib.hid (HBL.out.trans hb4)
   clear HU hb4
   go_wp2_with fail
   refine LN.out.mono ?_
   rintro e w5 ⟨rfl,Be1,hb5⟩
   have HB5:=Lib.hid (HB4.out.trans hb5)
   have hlen5:(l++[(⟨6,bs ByteArray.empty,0,at_+k⟩:Tok)]).length=l.length+1:=by simp
   obtain ⟨lv,hblk,hown,hne,hsb⟩:=Be1
   rw [hlen5] at hown
   obtain ⟨g,cap,hv,hg1,hg2⟩:=Ac0 hown hblk (by decide)
   subst hv
   have c2:w5.cell? ⟨w.heap.size+1+1,2,none⟩=some (.slice (some ⟨g,0,none⟩) (l.length+1) cap):=by rw [G1 hblk];rfl
   have hb0:=K9 hblk
   have HOWN:=Lib.hid hown
   have hp:=Lh HB5.out (by omega) HBP.out
   have hq:=Lh HB5.out (by omega) HBQ.out
   have p0:w5.cell? ⟨w.heap.size,0,none⟩=some (.slice none 0 0):=by rw [G1 hp];rfl
   have q0:w5.cell? ⟨w.heap.size+1,0,none⟩=some (.int .i64 0):=by rw [G1 hq];rfl
   have q1:w5.cell? ⟨w.heap.size+1,1,none⟩=some (.int .i64 0):=by rw [G1 hq];rfl
   have pf:=Kf hp 0
   have qf0:=Kf hq 0
   have qf1:=Kf hq 1
   clear hsb hne hown hblk hp hq hb5 hlen5
   go_wp2_with fail
   have hgp:¬ w.heap.size=g:=by omega
   have hgq:¬ w.heap.size+1=g:=by omega
   have r0:(((w5.setCell ⟨w.heap.size,0,none⟩ (.slice (some ⟨g,0,none⟩) (l.length+1) cap)).setCell ⟨w.heap.size+1,0,none⟩ (.int .i64 0)).setCell ⟨w.heap.size+1,1,none⟩ (.int .i64 0)).cell? ⟨w.heap.size,0,none⟩=some (.slice (some ⟨g,0,none⟩) (l.length+1) cap):=by go_simp
   have r1:(((w5.setCell ⟨w.heap.size,0,none⟩ (.slice (some ⟨g,0,none⟩) (l.length+1) cap)).setCell ⟨w.heap.size+1,0,none⟩ (.int .i64 0)).setCell ⟨w.heap.size+1,1,none⟩ (.int .i64 0)).cell? ⟨w.heap.size+1,0,none⟩=some (.int .i64 0):=by go_simp
   have r2:(((w5.setCell ⟨w.heap.size,0,none⟩ (.slice (some ⟨g,0,none⟩) (l.length+1) cap)).setCell ⟨w.heap.size+1,0,none⟩ (.int .i64 0)).setCell ⟨w.heap.size+1,1,none⟩ (.int .i64 0)).cell? ⟨w.heap.size+1,1,none⟩=some (.int .i64 0):=by go_simp
   generalize hw9:((w5.setCell ⟨w.heap.size,0,none⟩ (.slice (some ⟨g,0,none⟩) (l.length+1) cap)).setCell ⟨w.heap.size+1,0,none⟩ (.int .i64 0)).setCell ⟨w.heap.size+1,1,none⟩ (.int .i64 0)=w9 at *
   have HR:Hid (w9.ownsRow (w.heap.size+2) 96 4 (.slice (some ⟨g,0,none⟩) (l.length+1) cap) (l.length+1) (LH (l++[⟨6,bs ByteArray.empty,0,at_+k⟩]))):=by
    refine ⟨HOWN.out.1,?_⟩
    rcases HOWN.out.2 with ⟨h,_⟩ | ⟨g',cap',cur,hv,hg,hh,r⟩
    ·cases h
    ·cases hv
     rw [← hw9]
     exact .inr ⟨g,cap,cur,rfl,hg,MB (MB (MB hh hgp _) hgq _) hgq _,r⟩
   have HB9:Hid (Below w.heap.size w w9):=by
    rw [← hw9]
    exact (((HB0.out.trans (HB5.out.mono (by omega))).setCell (p:=⟨w.heap.size,0,none⟩) (Nat.le_refl _) _).setCell (p:=⟨w.heap.size+1,0,none⟩) (by simp) _).setCell (p:=⟨w.heap.size+1,1,none⟩) (by simp) _
   clear hw9 HBP HBQ HSC HB4 HBL HN LN p0 q0 q1 pf qf0 qf1 c2
   refine leaves_cons (f:=37) (args:=#[.pointer (some ⟨w.heap.size,0,none⟩),.pointer (some ⟨w.heap.size+1,0,none⟩)]) (by simp) (by simp [go_sem]) ?_
   refine (Bqv _ _ _).mono ?_
   rintro e u' w'' ⟨rfl,rfl,rfl⟩
   rw [← HE.out]
   simp [Leaves,settle,results,Tryz.results24,go_sem,r0,r1,r2]
   refine ⟨.slice (some ⟨g,0,none⟩) (l.length+1) cap,rfl,?_,HB9.out⟩
   have h9:=HR.out
   rw [show bs ByteArray.empty=[] from rfl] at h9
   exact ownsRow_base (B:=w.heap.size+2) (B':=w.heap.size) (by rw [AM];exact h9) (Nat.le_add_right _ _)
  | skip n =>
   rw [hst] at hg HNX
   have hn:=Aw7 _ _ hst
   simp only at hg
   have HN:=Lib.hid HNX
   have HE:=Lib.hid hg
   clear hg HNX hst HGG
   go_wp2_with fail
   refine HN.out.mono ?_
   rintro e w4 ⟨rfl,HU,hb4⟩
   have hpo:=WJ HU
   have YK:=WJ HSC.out
   go_wp2_with fail
   go_roundw
   case rel =>
    refine ⟨at_+k+n,f,l,by omega,by omega,by omega,HU,?_,HBL.out.trans hb4⟩
    unfold Hid
    rw [← HE.out,List.drop_drop,List.drop_drop,show at_+(k+n)=at_+k+n by omega]
   case measure=>rw [hpo,YK];omega
  | tok kd tx n len =>
   rw [hst] at hg HNX
   have hn:=Aw8 _ _ _ _ _ hst
   simp only at hg
   have HN:=Lib.hid HNX
   have HE:=Lib.hid hg
   clear hg HNX hst HGG
   go_wp2_with fail
   refine HN.out.mono ?_
   rintro e w4 ⟨rfl,HU,hb4⟩
   have hpo:=WJ HU
   have YK:=WJ HSC.out
   go_wp2_with fail
   go_roundw
   case rel =>
    refine ⟨at_+k+len,f,l++[(⟨kd,tx,n,at_+k⟩:Tok)],by omega,by rw [AM,List.length_singleton];omega,by omega,HU,?_,HBL.out.trans hb4⟩
    unfold Hid
    rw [← HE.out,List.drop_drop,List.drop_drop,show at_+(k+len)=at_+k+len by omega]
   case measure=>rw [hpo,YK];omega
  | bad c r =>
   rw [hst] at hg HNX
   simp only at hg
   have HN:=Lib.hid HNX
   have HE:=Lib.hid hg
   clear hg HNX hst HGG
   go_wp2_with fail
   refine HN.out.mono ?_
   rintro e w4 ⟨rfl,hb4⟩
   have HB4:=Lib.hid (HBL.out.trans hb4)
   go_wp2_with fail
   have hp:=Lh HB4.out (by omega) HBP.out
   have hq:=Lh HB4.out (by omega) HBQ.out
   refine leaves_cons (f:=37) (args:=#[.pointer (some ⟨w.heap.size,0,none⟩),.pointer (some ⟨w.heap.size+1,0,none⟩)]) (by simp) (by simp [go_sem]) ?_
   have hcz:(at_:Int)+k+r=((at_+k+r:Nat):Int):=by omega
   rw [hcz]
   refine (Bq0 w.heap.size (w.heap.size+1) (.slice none 0 0) 0 0 c ((at_+k+r:Nat):Int) w4 (by rw [G1 hp];rfl) (by rw [G1 hq];rfl) (by rw [G1 hq];rfl) (Kf hp 0) (Kf hq 0) (Kf hq 1) (K9 hp) (K9 hq) (by omega)).mono ?_
   rintro e u' w'' ⟨rfl,rfl,r0,r1,r2,hb9⟩
   rw [← HE.out]
   have HB9:=Lib.hid ((HB0.out.trans (HB4.out.mono (by omega))).trans hb9)
   clear hp hq HN HBP HBQ HSC HB4 HBL hb4 hcz
   simp [Leaves,settle,results,Tryz.results24,go_sem,r0,r1,r2]
   exact ⟨rfl,HB9.out⟩
theorem Bql (src:ByteArray) (w:World) (hg:Gl w):Calls Tryz.prog 24 #[.string src] w (XC (Ii (bs src)) w):=by
 unfold Ii
 rw [Dg]
 by_cases h:src.size > 20000
 ·rw [if_pos h];exact Bqr src w h
 ·rw [if_neg h];exact Bq1 src w (by omega) hg
def E2 (G:Ab):Prop:=∀ w,G.On w→Gl w
theorem Gl.piece {w:World} (h:Gl w):E2 (Go.Proofs.YtkdjiehclahliaaGreatDoor.old w):=fun w' hw=>by
 have hb:∀ k,k < w.heap.size→w'.heap[k]? = w.heap[k]?:=fun k hk=>by
  have h1:w.heap[k]? = some w.heap[k]:=Array.getElem?_eq_getElem hk
  rw [h1]
  exact hw k w.heap[k] h1
 have hs:w.heap.size≤w'.heap.size:=by
  rcases Nat.lt_or_ge 0 w.heap.size with h0 | h0
  ·have:=hb (w.heap.size - 1) (by omega)
   have h1:w.heap[w.heap.size - 1]? = some w.heap[w.heap.size - 1]:=Array.getElem?_eq_getElem (by omega)
   rw [h1] at this
   have:=(Array.getElem?_eq_some_iff.1 this).1
   omega
  ·omega
 have hl:Gl { w with heap:=w'.heap }:=h.below (B:=w.heap.size) ⟨rfl,rfl,rfl,hs,hb⟩ h.size
 exact ⟨hl.utf,hl.space,hl.maxLen,hl.size⟩
def Kx (t:Tok):Int×ByteArray×Int×Int:=(t.kind,str t.text,t.n,t.at_)
theorem Axs (l:List Tok):(l.map Kx).flatMap FJ=LH l:=by
 induction l with
 | nil=>rfl
 | cons t l ih=>simp only [List.map_cons,List.flatMap_cons,ih];rfl
def Aas (s:ByteArray):List (Int×ByteArray×Int×Int)×Int×Int :=
 match Ii (bs s) with
 | .inl (c,a)=>([],c,a)
 | .inr l=>(l.map Kx,0,0)
def T9.f (_k:Nat) (s:ByteArray):Option (List (Int×ByteArray×Int×Int)×Int×Int):=some (Aas s)
theorem Bn2 {w:World} {B:Nat} {v:Value} {l:List Tok} (h:w.ownsRow B 96 4 v l.length (LH l)):∃ A c,v=.slice A (l.map Kx).length c∧((v=.slice none 0 0∧l=[])∨∃ g cur,B≤g∧A=some ⟨g,0,none⟩∧w.heap[g]? = some (.cells cur 96 (0,0))∧Ah FJ 96 4 (blk g (.cells cur 96 (0,0))) v (l.map Kx)):=by
 rcases h.2 with ⟨rfl,h0⟩ | ⟨g,cap,cur,rfl,hb,hg,h1,h2,h3,h4⟩
 ·have:l=[]:=List.eq_nil_of_length_eq_zero h0
  subst this
  exact ⟨none,0,rfl,.inl ⟨rfl,rfl⟩⟩
 ·refine ⟨some ⟨g,0,none⟩,cap,by rw [List.length_map],.inr ⟨g,cur,hb,rfl,hg,?_⟩⟩
  unfold Ah
  rw [Axs,List.length_map]
  refine ⟨h.1,fun u hu=>?_,.inr ⟨g,cap,cur,rfl,rfl,h1,h2,h3,h4⟩⟩
  rw [← Axs] at hu
  exact Vw.ones _ u hu
theorem St.fresh {A w w':World} {X:List Ab} (hw:St A X w) (hb:Below w.heap.size w w') {g:Nat} {o:Obj} (hg:w.heap.size≤g) (ho:w'.heap[g]? = some o):St A (blk g o :: X) w':=by
 have h:=hw.below hb
 refine ⟨⟨fun k o' hk=>?_,fun f hf k=>?_,h.sat⟩,h.os,h.tape,h.output,h.size⟩
 ·unfold blk at hk
  split at hk
  ·rename_i e;subst e;cases hk;exact ho
  ·cases hk
 ·unfold blk
  split
  ·rename_i e
   subst e
   cases hk:f k with
   | none=>exact .inr rfl
   | some o'=>exact absurd (hw.sat.lt hf hk) (by omega)
  ·exact .inl rfl
theorem T9.ok {k:Nat} {a0:ByteArray} {G:Ab} {r:List (Int×ByteArray×Int×Int)×Int×Int} (h:T9.f k a0=some r) (hG:E2 G):
  Ct Tryz.prog 24 #[.string a0] [] [G] fun e l1=>∃ (H0_:Ab) (A0_:Ar) (c0_:Nat),Ah FJ 96 4 H0_ (.slice A0_ r.1.length c0_) r.1∧e=.returned (.tuple #[.slice A0_ r.1.length c0_,.agg #[.int .i64 r.2.1,.int .i64 r.2.2]])∧l1=[H0_]:=by
 obtain rfl:=Ap h
 intro A w X hh hw
 have hg:=hG w (hw.sat.on G hh.1)
 refine (Bql a0 w hg).mono fun e w' he=>?_
 unfold Aas
 cases hs:Ii (bs a0) with
 | inl ca =>
  obtain ⟨c,a⟩:=ca
  rw [hs] at he
  obtain ⟨rfl,hb⟩:=he
  exact ⟨[none_],⟨none_,none,0,Ah.nil FJ 96 4 none_,rfl,rfl⟩,by
   have:=hw.below hb
   exact ⟨⟨fun _ _ h=>(by cases h),fun _ _ _=>.inl rfl,this.sat⟩,this.os,this.tape,this.output,this.size⟩⟩
 | inr l =>
  rw [hs] at he
  obtain ⟨lv,rfl,hrow,hb⟩:=he
  obtain ⟨A0,c0,rfl,hc⟩:=Bn2 hrow
  rcases hc with ⟨he,rfl⟩ | ⟨g,cur,hg1,hA,hg2,hO⟩
  ·cases he
   exact ⟨[none_],⟨none_,none,0,Ah.nil FJ 96 4 none_,rfl,rfl⟩,by
    have:=hw.below hb
    exact ⟨⟨fun _ _ h=>(by cases h),fun _ _ _=>.inl rfl,this.sat⟩,this.os,this.tape,this.output,this.size⟩⟩
  ·exact ⟨[blk g _],⟨_,A0,c0,hO,rfl,rfl⟩,hw.fresh hb hg1 hg2⟩
def strings_Fields.f (_k:Nat) (s:ByteArray):Option Ag:=cond (decide (s.size < 4294967281∧(Lib.fields s.data.toList).length≤1000000) && s.data.toList.all fun b=>decide (b.toNat < 128)) (some ((Lib.fields s.data.toList).map fun l=>⟨l.toArray⟩)) none
theorem strings_Fields.ok {k:Nat} {a0:ByteArray} {G:Ab} {r:List ByteArray} (h:strings_Fields.f k a0=some r) (hG:E2 G):
  Ct Tryz.prog 91 #[.string a0] [] [G] fun e l1=>∃ (H0_:Ab) (A0_:Option Addr) (c0_:Nat),Ah encS 9 1 H0_ (.slice A0_ r.length c0_) r∧e=.returned (.slice A0_ r.length c0_)∧l1=[H0_]:=by
 unfold strings_Fields.f at h
 obtain ⟨h1,h2⟩:=IH h
 obtain ⟨h3,h4⟩:=Bool.and_eq_true_iff.1 h1
 obtain ⟨h3,h5⟩:=of_decide_eq_true h3
 cases h2
 intro A w X hh hw
 have hg:=hG w (hw.sat.on G hh.1)
 refine (Tryz.strings_Fields a0 w h3 (fun j b hj=>of_decide_eq_true (List.all_eq_true.1 h4 b (List.mem_of_getElem? hj))) hg.space).mono ?_
 rintro e w' ⟨rfl,rfl⟩
 have hl:(Lib.fields a0.data.toList).length=((Lib.fields a0.data.toList).map fun l=>(⟨l.toArray⟩:ByteArray)).length:=(List.length_map _).symm
 refine ⟨[blk w.heap.size (.cells ((Lib.fields a0.data.toList).map fun l=>Value.string ⟨l.toArray⟩).toArray 9)],⟨_,some ⟨w.heap.size,0,none⟩,(Lib.fields a0.data.toList).length,?_,by rw [← hl],rfl⟩,?_⟩
 ·unfold Ah
  have hc:((Lib.fields a0.data.toList).map fun l=>(⟨l.toArray⟩:ByteArray)).flatMap encS=(Lib.fields a0.data.toList).map fun l=>Value.string ⟨l.toArray⟩:=by
   rw [List.flatMap_map]
   generalize Lib.fields a0.data.toList=L
   induction L with
   | nil=>rfl
   | cons x t ih=>rw [List.flatMap_cons,List.map_cons,ih];rfl
  rw [hc,← hl]
  refine ⟨by simp,fun u hu=>?_,.inr ⟨w.heap.size,_,_,rfl,rfl,Nat.le_refl _,Nat.le_trans h5 (by decide),?_,?_⟩⟩
  ·obtain ⟨x,_,rfl⟩:=List.mem_map.1 hu;rfl
  ·simp
  ·rw [Nat.mul_one,List.take_of_length_le (by simp)]
 ·exact hw.fresh ((Below.refl _ w).alloc (Nat.le_refl _) _) (Nat.le_refl _) (by show (w.heap.push _)[w.heap.size]? = _;simp)
end
section
open Go Go.RowKit
section
variable {A:World} {ds:List Deferred} {n0:Nat} {env env':Env} {l l' X:List Ab} {q:Act→World→Prop} {P:Program} {Q:Exit→Act→World→Prop} {ops:Array Oper} {os rest:List Oper} {o:Oper} {α:Type} {R:FH α}
variable {S:World→Prop} {tail:Act→World→Prop} {pl:List (Oper×Nat)}
theorem Bi9 {xs:List α} {a:α} {ix:Int} {kd:IntKind} {h:Ab} {A':Ar} {c:Nat} {T TS:TypeId} {x y:Operand} (ho:o.op=.indexAddr TS x y) (hg:Cn ops env o=some true) (hd:inB n0 o.dst=true) (hx:BV env x=some (.slice A' xs.length c)) (hy:BV env y=some (.int kd ix))
  (h1:P.underlying TS=some (.slice T)) (h2:(P.info? T).map (·.size)=some R.sz) (hi:AZ xs ix=some a) (hR:RdR R h (.slice A' xs.length c) xs) (hk:∀ p us,R.rd a h us→Elem h p us→Place A' (ix.toNat * R.sz) p→K ds A n0 (Bp env o.dst p) l (Ce P ops Q S tail pl)):K ds A n0 env l (Ce P ops Q S tail ((o,0) :: pl)):=by
 intro a' w ha hw
 obtain ⟨hi0,hi1,hi2⟩:=KL hi
 obtain ⟨cs,⟨hl,_,hc⟩,hrow⟩:=hR
 cases hif:P.info? T with
 | none=>rw [hif] at h2;cases h2
 | some i =>
  rw [hif] at h2
  have hsz:i.size=R.sz:=Ap h2
  rcases hc with ⟨_,h0⟩ | ⟨b,off,cap,cur,T',z,he,hb,_,_,hc⟩
  ·omega
  ·cases he
   refine EC (v:=.pointer (some ⟨b,off+ix.toNat * R.sz,none⟩)) (Il ha hg) (fun w'=>?_) (hk _ _ (hrow.at_ ix.toNat a hi2) ⟨b,off+ix.toNat * R.sz,cur,T',z,rfl,hb,fun j u hj=>?_⟩ ⟨b,off,rfl,rfl⟩ _ _ (ha.Bp _ hd) hw)
   ·have hr:(Instr.indexAt TS (.slice (some ⟨b,off,none⟩) xs.length c) (.int kd ix)).run P w'=.ok (.pointer (some ⟨b,off+ix.toNat * R.sz,none⟩)) w':=by
     simp [Instr.indexAt,run_underlying h1,asIntOf,hi0,hi1,sizeOf,typeInfo,hif,hsz,addr_add]
    unfold execOp
    simp only [ho,ha.eval hx,ha.eval hy,Sem.run_bind,hr,Result.andThen_ok,Sem.run_pure]
   ·rw [List.getElem?_take] at hj
    split at hj
    ·rw [List.getElem?_drop] at hj
     rw [Nat.add_assoc]
     exact hc _ u hj
    ·cases hj
end
abbrev pt (b:Nat):Value:=.pointer (some ⟨b,0,none⟩)
abbrev Aa {α:Type} (A:Option Addr) (xs:List α) (c:Nat):Value:=.slice A xs.length c
abbrev iv (x:Int):Value:=.int .i64 x
abbrev sv (x:ByteArray):Value:=.string x
abbrev bv (x:Bool):Value:=.bool x
abbrev bk (b:Nat) (cs:Array Value) (T:TypeId):Ab:=blk b (.cells cs T (0,0))
abbrev nS:Value:=.slice none 0 0
abbrev noS:ByteArray:=⟨#[]⟩
theorem bnd {α β:Type} {x:Option α} {f:α→Option β} {r:β} {G:Prop} (h:x.bind f=some r) (k:∀ a,x=some a→f a=some r→G):G:=by
 obtain ⟨a,h1,h2⟩:=Vp h
 exact k a h1 h2
def R5 (P:Program) (ops:Array Oper) (n:Nat) (os:List Oper) (env:Env):Env:=(I8 P ops n os env).getD []
section
variable {A:World} {ds:List Deferred} {n:Nat} {env env':Env} {l l' X:List Ab} {q next:Act→World→Prop} {P:Program} {Q:Exit→Act→World→Prop} {ops:Array Oper} {os rest:List Oper} {o:Oper} {S:World→Prop} {tail:Act→World→Prop} {pl:List (Oper×Nat)}
theorem kx (m:Nat) (hk:K ds A n (R5 P ops n (os.take m) env) l (wpList P ops Q (os.drop m))) (h:(I8 P ops n (os.take m) env).isSome=true:=by kernel_rfl):K ds A n env l (wpList P ops Q os):=by
 cases hs:I8 P ops n (os.take m) env with
 | none=>rw [hs] at h;cases h
 | some Jt =>
  have e:R5 P ops n (os.take m) env=Jt:=by unfold R5;rw [hs];rfl
  rw [e] at hk
  have:=Wd (rest:=os.drop m) (os.take m) env hs hk
  rwa [List.take_append_drop] at this
theorem Ax (m:Nat) (hk:K ds A n (R5 P ops n ((pl.take m).map (·.1)) env) l (Ce P ops Q S tail (pl.drop m))) (hz:((pl.take m).all fun x=>Nat.beq x.2 0)=true:=by kernel_rfl) (h:(I8 P ops n ((pl.take m).map (·.1)) env).isSome=true:=by kernel_rfl):K ds A n env l (Ce P ops Q S tail pl):=by
 cases hs:I8 P ops n ((pl.take m).map (·.1)) env with
 | none=>rw [hs] at h;cases h
 | some Jt =>
  have e:R5 P ops n ((pl.take m).map (·.1)) env=Jt:=by unfold R5;rw [hs];rfl
  rw [e] at hk
  have:=Wi ((pl.take m).map (·.1)) env hs hk
  rwa [← Aag _ hz,List.take_append_drop] at this
theorem Dw (k:Nat) {α:Type} {t:Bool} {F G:Option α} {r:α} (h:cond t F G=some r) (hx:F=some r→K ds A n ((k,.bool true) :: env) l q) (hy:G=some r→K ds A n ((k,.bool false) :: env) l q) (hk:env.get k=some (.bool t):=by kernel_rfl):K ds A n env l q:=by
 have put:∀ u,t=u→K ds A n ((k,.bool u) :: env) l q→K ds A n env l q:=fun u hu hq a w ha hw=>hq a w ⟨ha.size,ha.defers,fun i v hi=>by
  simp only [Env.get] at hi
  cases hb:Nat.beq k i with
  | true =>
   rw [hb] at hi
   cases hi
   rw [← Nat.eq_of_beq_eq_true hb,← hu]
   exact ha.at_ _ _ hk
  | false=>rw [hb] at hi;exact ha.at_ i v hi⟩ hw
 cases t with
 | true=>exact put true rfl (hx h)
 | false=>exact put false rfl (hy h)
theorem AF {c:Operand} {x y:Code} {α:Type} {t:Bool} {F G:Option α} {r:α} (h:cond t F G=some r) (hx:F=some r→K ds A n env l (x.wp P Q)) (hy:G=some r→K ds A n env l (y.wp P Q)) (hc:BV env c=some (.bool t):=by kernel_rfl):K ds A n env l ((Code.cond c x y).wp P Q):=by
 cases t with
 | true=>exact VX hc (hx h)
 | false=>exact VW hc (hy h)
def lds (b:Nat):Nat→List Value→List Ev
 | _,[]=>[]
 | off,v :: r=>.ld ⟨b,off,none⟩ v :: lds b (off+1) r
def sts (b:Nat):Nat→List Value→List Ev
 | _,[]=>[]
 | off,v :: r=>.st ⟨b,off,none⟩ v :: sts b (off+1) r
theorem Afa (b:Nat):∀ (off:Nat) (vs:List Value),Uo b (sts b off vs)
 | _,[]=>trivial
 | off,v :: r=>⟨rfl,Afa b (off+1) r⟩
theorem QT {b:Nat} {cs:Array Value} {T:TypeId} {z:Nat×Nat} {i:Nat} (hi:l[i]? = some (blk b (.cells cs T z))):∀ (vs:List Value) (off:Nat),(∀ j v,vs[j]? = some v→cs[off+j]? = some v)→Kd l (lds b off vs)
 | [],_,_=>trivial
 | v :: r,off,h=>⟨⟨i,cs,T,z,hi,rfl,by simpa using h 0 v rfl⟩,QT hi r (off+1) fun j u hj=>by
   have:=h (j+1) u hj
   rwa [show off+1+j=off+(j+1) by omega]⟩
def cut (cs:Array Value) (off m:Nat):List Value:=(cs.toList.drop off).take m
theorem Su {cs:Array Value} {off m j:Nat} {v:Value} (h:(cut cs off m)[j]? = some v):cs[off+j]? = some v:=by
 unfold cut at h
 rw [List.getElem?_take] at h
 split at h
 ·rw [List.getElem?_drop] at h;simpa using h
 ·cases h
theorem kld (i off:Nat) {b:Nat} {cs:Array Value} {T:TypeId} {z:Nat×Nat} (hi:l[i]? = some (blk b (.cells cs T z))) (hk:K ds A n (Bp env o.dst (cs.getD off undef)) l (wpList P ops Q rest)) (hg:Cn ops env o=some true:=by kernel_rfl) (hs:(Eb o.op && allB o.op.operands.toList env && inB n o.dst)=true:=by kernel_rfl)
  (hf:follow P (execOp (rho env) o) ((cut cs off 1).map .val)=some (.value (cs.getD off undef),lds b off (cut cs off 1)):=by kernel_rfl):K ds A n env l (wpList P ops Q (o :: rest)):=Arv _ _ hg hs hf (QT hi _ _ fun _ _ h=>Su h) hk
theorem CE (i off m:Nat) {b:Nat} {cs:Array Value} {T:TypeId} {z:Nat×Nat} (hi:l[i]? = some (blk b (.cells cs T z))) (hk:K ds A n (Bp env o.dst (.agg (cut cs off m).toArray)) l (wpList P ops Q rest)) (hg:Cn ops env o=some true:=by kernel_rfl) (hs:(Eb o.op && allB o.op.operands.toList env && inB n o.dst)=true:=by kernel_rfl)
  (hf:follow P (execOp (rho env) o) ((cut cs off m).map .val)=some (.value (.agg (cut cs off m).toArray),lds b off (cut cs off m)):=by kernel_rfl):K ds A n env l (wpList P ops Q (o :: rest)):=Arv _ _ hg hs hf (QT hi _ _ fun _ _ h=>Su h) hk
theorem AQ (off m:Nat) {b:Nat} {e:TypeId} {cs:Array Value} (cs':Array Value) (hk:K ds A n (Bp env o.dst undef) (blk b (.cells cs' e (0,0)) :: l) (wpList P ops Q rest)) (hg:Cn ops env o=some true:=by kernel_rfl) (hs:(Eb o.op && allB o.op.operands.toList env && inB n o.dst)=true:=by kernel_rfl)
  (hf:follow P (execOp (rho env) o) []=some (.skip,sts b off (cut cs' off m)):=by kernel_rfl) (hc:NZ b e (sts b off (cut cs' off m)) cs=some cs':=by kernel_rfl):K ds A n env (blk b (.cells cs e (0,0)) :: l) (wpList P ops Q (o :: rest)):=Tw _ hg hs hf (Afa ..) hc hk
theorem ost (off m:Nat) {b:Nat} {e:TypeId} {cs:Array Value} (cs':Array Value) (hk:K ds A n (Bp env o.dst undef) (blk b (.cells cs' e (0,0)) :: l) q) (hs:(Eb o.op && allB o.op.operands.toList env && inB n o.dst)=true:=by kernel_rfl)
  (hf:follow P (execOp (rho env) o) []=some (.skip,sts b off (cut cs' off m)):=by kernel_rfl) (hc:NZ b e (sts b off (cut cs' off m)) cs=some cs':=by kernel_rfl):K ds A n env (blk b (.cells cs e (0,0)) :: l) (fun a w=>o.wp P a w q Q):=W4 _ hs hf (Afa ..) hc hk
theorem knp (cs:Array Value) (T:TypeId) (hk:∀ b,K ds A n (Bp env o.dst (pt b)) (bk b cs T :: l) (wpList P ops Q rest)) (hg:Cn ops env o=some true:=by kernel_rfl) (hs:(Eb o.op && allB o.op.operands.toList env && inB n o.dst)=true:=by kernel_rfl) (hf:∀ b,follow P (execOp (rho env) o) [.num b]=some (.value (pt b),[.nw (.cells cs T (0,0)) b]):=by (intro b;kernel_rfl)) :
  K ds A n env l (wpList P ops Q (o :: rest)):=Wg _ _ hg hs hf hk
theorem De (cs:Array Value) (T m:Nat) (hk:∀ b,K ds A n (Bp env o.dst (.slice (some ⟨b,0,none⟩) m m)) (bk b cs T :: l) (wpList P ops Q rest)) (hg:Cn ops env o=some true:=by kernel_rfl) (hs:(Eb o.op && allB o.op.operands.toList env && inB n o.dst)=true:=by kernel_rfl) (hf:∀ b,follow P (execOp (rho env) o) [.num b]=some (.value (.slice (some ⟨b,0,none⟩) m m),[.nw (.cells cs T (0,0)) b]):=by (intro b;kernel_rfl)) :
  K ds A n env l (wpList P ops Q (o :: rest)):=Wg _ _ hg hs hf hk
theorem Hq (cs:Array Value) (T m:Nat) (hk:∀ b,K ds A n (Bp env o.dst (.slice (some ⟨b,0,none⟩) m m)) (bk b cs T :: l) q) (hs:(Eb o.op && allB o.op.operands.toList env && inB n o.dst)=true:=by kernel_rfl) (hf:∀ b,follow P (execOp (rho env) o) [.num b]=some (.value (.slice (some ⟨b,0,none⟩) m m),[.nw (.cells cs T (0,0)) b]):=by (intro b;kernel_rfl)) :
  K ds A n env l (fun a w=>o.wp P a w q Q):=Auc _ _ hs hf hk
theorem B6 {f:FuncId} {args:Array Value} {l0 hs:List Ab} {R:Ending→List Ab→Prop} (hc:Ct P f args l0 hs R) (hl:l=l0++X) (hh:IG hs X) (hk:∀ e l1,R e l1→Nx ds A n env o.dst X (wpList P ops Q rest) Q e l1) (hg:Cn ops env o=some true:=by kernel_rfl)
  (hg1:(Eb o.op && allB o.op.operands.toList env && inB n o.dst)=true:=by kernel_rfl) (hp:G6 P (execOp (rho env) o)=some (.enter f args):=by kernel_rfl):K ds A n env l (wpList P ops Q (o :: rest)):=We X hg hg1 hp hc hl hh hk
theorem ocl {f:FuncId} {args:Array Value} {l0 hs:List Ab} {R:Ending→List Ab→Prop} (hc:Ct P f args l0 hs R) (hl:l=l0++X) (hh:IG hs X) (hk:∀ e l1,R e l1→Nx ds A n env o.dst X q Q e l1)
  (hg1:(Eb o.op && allB o.op.operands.toList env && inB n o.dst)=true:=by kernel_rfl) (hp:G6 P (execOp (rho env) o)=some (.enter f args):=by kernel_rfl):K ds A n env l (fun a w=>o.wp P a w q Q):=Rr hg1 hp hc hl hh hk
theorem FN {f:FuncId} {args:Array Value} {hs:List Ab} {v:Value} (hc:Ct P f args [] hs fun e l1=>e=.returned v∧l1=[]) (hh:IG hs l) (hk:K ds A n (Bp env o.dst v) l (wpList P ops Q rest)) (hg:Cn ops env o=some true:=by kernel_rfl)
  (hg1:(Eb o.op && allB o.op.operands.toList env && inB n o.dst)=true:=by kernel_rfl) (hp:G6 P (execOp (rho env) o)=some (.enter f args):=by kernel_rfl):K ds A n env l (wpList P ops Q (o :: rest)):=Bih hg hg1 hp hc hh hk
theorem ocv {f:FuncId} {args:Array Value} {hs:List Ab} {v:Value} (hc:Ct P f args [] hs fun e l1=>e=.returned v∧l1=[]) (hh:IG hs l) (hk:K ds A n (Bp env o.dst v) l q)
  (hg1:(Eb o.op && allB o.op.operands.toList env && inB n o.dst)=true:=by kernel_rfl) (hp:G6 P (execOp (rho env) o)=some (.enter f args):=by kernel_rfl):K ds A n env l (fun a w=>o.wp P a w q Q):=At9 hg1 hp hc hh hk
theorem CI {f:FuncId} {args:Array Value} {l0 hs:List Ab} {v:Value} {p1:Ab} (hc:Ct P f args l0 hs fun e l1=>e=.returned v∧l1=[p1]) (hl:l=l0++X) (hh:IG hs X) (hk:K ds A n (Bp env o.dst v) (p1 :: X) (wpList P ops Q rest)) (hg:Cn ops env o=some true:=by kernel_rfl)
  (hg1:(Eb o.op && allB o.op.operands.toList env && inB n o.dst)=true:=by kernel_rfl) (hp:G6 P (execOp (rho env) o)=some (.enter f args):=by kernel_rfl):K ds A n env l (wpList P ops Q (o :: rest)):=We X hg hg1 hp hc hl hh (by rintro e l1 ⟨rfl,rfl⟩;exact hk)
theorem Mj {f:FuncId} {args:Array Value} {l0 hs:List Ab} {v:Value} {p1:Ab} (hc:Ct P f args l0 hs fun e l1=>e=.returned v∧l1=[p1]) (hl:l=l0++X) (hh:IG hs X) (hk:K ds A n (Bp env o.dst v) (p1 :: X) q)
  (hg1:(Eb o.op && allB o.op.operands.toList env && inB n o.dst)=true:=by kernel_rfl) (hp:G6 P (execOp (rho env) o)=some (.enter f args):=by kernel_rfl):K ds A n env l (fun a w=>o.wp P a w q Q):=Rr hg1 hp hc hl hh (by rintro e l1 ⟨rfl,rfl⟩;exact hk)
theorem B_ {α β ε:Type} {x:Option (PR α ε)} {F:α→Option (PR β ε)} {r:PR β ε} {f:FuncId} {args:Array Value} {l0 hs:List Ab} {fl:ε→Value} {D:α→Ending→List Ab→Prop} (h:PR.bind x F=some r) (hc:∀ v,x=some v→Ct P f args l0 hs (PR.Post fl D v)) (hl:l=l0++X) (hh:IG hs X)
  (hb:∀ i,r=.bad i→K ds A n env X (Q (.panic [{ v:=fl i,recovered:=false }]))) (hk:∀ a,F a=some r→∀ e l1,D a e l1→Nx ds A n env o.dst X (wpList P ops Q rest) Q e l1) (hg:Cn ops env o=some true:=by kernel_rfl)
  (hg1:(Eb o.op && allB o.op.operands.toList env && inB n o.dst)=true:=by kernel_rfl) (hp:G6 P (execOp (rho env) o)=some (.enter f args):=by kernel_rfl):K ds A n env l (wpList P ops Q (o :: rest)):=by
 rcases Au6 h with ⟨i,hx,hr⟩ | ⟨a,hx,h⟩
 ·exact We X hg hg1 hp (hc _ hx) hl hh (by rintro e l1 ⟨rfl,rfl⟩;exact hb i hr)
 ·exact We X hg hg1 hp (hc _ hx) hl hh (hk a h)
theorem ocp {α β ε:Type} {x:Option (PR α ε)} {F:α→Option (PR β ε)} {r:PR β ε} {f:FuncId} {args:Array Value} {l0 hs:List Ab} {fl:ε→Value} {D:α→Ending→List Ab→Prop} (h:PR.bind x F=some r) (hc:∀ v,x=some v→Ct P f args l0 hs (PR.Post fl D v)) (hl:l=l0++X) (hh:IG hs X)
  (hb:∀ i,r=.bad i→K ds A n env X (Q (.panic [{ v:=fl i,recovered:=false }]))) (hk:∀ a,F a=some r→∀ e l1,D a e l1→Nx ds A n env o.dst X q Q e l1)
  (hg1:(Eb o.op && allB o.op.operands.toList env && inB n o.dst)=true:=by kernel_rfl) (hp:G6 P (execOp (rho env) o)=some (.enter f args):=by kernel_rfl):K ds A n env l (fun a w=>o.wp P a w q Q):=by
 rcases Au6 h with ⟨i,hx,hr⟩ | ⟨a,hx,h⟩
 ·exact Rr hg1 hp (hc _ hx) hl hh (by rintro e l1 ⟨rfl,rfl⟩;exact hb i hr)
 ·exact Rr hg1 hp (hc _ hx) hl hh (hk a h)
theorem St.Aj9:∀ (m:Nat) {l:List Ab} {w:World},St A l w→St A (l.drop m) w
 | 0,_,_,h=>h
 | _+1,[],_,h=>h
 | m+1,_ :: _,_,h=>St.Aj9 m h.tail
theorem kpn (m:Nat) {fn:Func} {β ε:Type} {r:PR β ε} {fl:ε→Value} {D:β→Ending→List Ab→Prop} {i:ε} (hr:r=.bad i) (hl:l.drop m=X):K [] A n env l (bodyPost P fn (fun e w'=>∃ l1,PR.Post fl D r e l1∧St A (l1++X) w') (.panic [{ v:=fl i,recovered:=false }])):=by
 subst hr hl
 exact fun a w ha hw=>⟨ha.defers,[],⟨rfl,rfl⟩,hw.Aj9 m⟩
theorem kdn {fn:Func} {v:Value} {L:List Ab} (hl:l=L++X) (hr:hasAll fn.results.toList env=true:=by kernel_rfl) (hf:follow P (KP fn.results (KQ env)) []=some (v,[]):=by kernel_rfl) :
  K [] A n env l (bodyPost P fn (fun e w'=>∃ l1,(e=.returned v∧l1=L)∧St A (l1++X) w') .ret):=by
 subst hl
 exact Ma [] [] L hr hf trivial fun a w ha hw=>⟨⟨rfl,rfl⟩,hw⟩
theorem kdv {fn:Func} {R:Ending→List Ab→Prop} (v:Value) (l1:List Ab) (hk:K [] A n env l fun _ w=>R (.returned v) l1∧St A (l1++X) w) (hr:hasAll fn.results.toList env=true:=by kernel_rfl) (hf:follow P (KP fn.results (KQ env)) []=some (v,[]):=by kernel_rfl) :
  K [] A n env l (bodyPost P fn (fun e w'=>∃ l1,R e l1∧St A (l1++X) w') .ret):=Ma [] [] l1 hr hf trivial hk
theorem HY {fn:Func} {R:Ending→List Ab→Prop} (i m:Nat) {b:Nat} {cs:Array Value} {T:TypeId} {z:Nat×Nat} (hi:l[i]? = some (blk b (.cells cs T z))) (l1:List Ab) (hk:K [] A n env l fun _ w=>R (.returned (.agg cs)) l1∧St A (l1++X) w) (hr:hasAll fn.results.toList env=true:=by kernel_rfl)
  (hf:follow P (KP fn.results (KQ env)) ((cut cs 0 m).map .val)=some (.agg cs,lds b 0 (cut cs 0 m)):=by kernel_rfl):K [] A n env l (bodyPost P fn (fun e w'=>∃ l1,R e l1∧St A (l1++X) w') .ret):=Ma _ _ l1 hr hf (QT hi _ _ fun _ _ h=>Su h) hk
def WH (is:List Nat) (l:List Ab):List Ab:=is.filterMap (l[·]?)
theorem Acv {w:World} (hw:Sat l w):∀ (is:List Nat),FG (WH is l) w
 | []=>trivial
 | i :: is=>by
  unfold WH
  rw [List.filterMap_cons]
  have ih:=Acv hw is
  cases h:l[i]? with
  | none=>exact ih
  | some f=>exact ⟨hw.on f (List.mem_of_getElem? h),ih⟩
theorem kpr {id:Nat} (plan:List (Nat×Nat)) (is:List Nat) (h:K ds A n env l (Ce P os.toArray Q (fun w=>FG (WH is l) w) (wpList P os.toArray Q (os.drop plan.length)) (EN os.toArray plan))) (hm:P.follows .mixedOrders=true:=by kernel_rfl)
  (hB:TW os plan=true:=by kernel_rfl)
  (hQ:∀ c a d v w,Q (.panic c) (Act.put a d v) w→Q (.panic c) a w:=by (intro _ _ d _ _ h;cases d <;> exact h)):K ds A n env l ((Code.region id os.toArray true).wp P Q) :=
 Tv plan _ hm hB hQ (fun _ hw=>Acv hw.sat is) h
theorem IN {id:Nat} (plan:List (Nat×Nat)) (s:List Ab) (hS:∀ w,St A l w→FG s w) (h:K ds A n env l (Ce P os.toArray Q (fun w=>FG s w) (wpList P os.toArray Q (os.drop plan.length)) (EN os.toArray plan))) (hm:P.follows .mixedOrders=true:=by kernel_rfl)
  (hB:TW os plan=true:=by kernel_rfl)
  (hQ:∀ c a d v w,Q (.panic c) (Act.put a d v) w→Q (.panic c) a w:=by (intro _ _ d _ _ h;cases d <;> exact h)):K ds A n env l ((Code.region id os.toArray true).wp P Q) :=
 Tv plan _ hm hB hQ hS h
theorem Dp (js:List Nat) {s:List Ab} (hs:WH js l=s) (h:K ds A n env l q):K ds A n env l (fun a w=>FG s w∧q a w):=Pi (fun _ hw=>hs ▸ Acv hw.sat js) h
theorem kpt (h:K ds A n env l (fun a w=>o.wp P a w (fun a w=>S w∧Ce P ops Q S tail pl a w) Q)) (hg:Cn ops env o=some true:=by kernel_rfl):K ds A n env l (Ce P ops Q S tail ((o,1) :: pl)):=Aah hg h
theorem Bjk (h:K ds A n env l (fun a w=>o.wp P a w (Ce P ops Q S tail pl) Q)) (hg:Cn ops env o=some true:=by kernel_rfl):K ds A n env l (Ce P ops Q S tail ((o,2) :: pl)):=Bjj hg h
theorem AU (i off:Nat) {s:List Ab} {b:Nat} {cs:Array Value} {T:TypeId} {z:Nat×Nat} (hi:s[i]? = some (blk b (.cells cs T z))) (hk:K ds A n (Bp env o.dst (cs.getD off undef)) l (Ce P ops Q (fun w=>FG s w) tail pl)) (hg:Cn ops env o=some true:=by kernel_rfl) (hs:(Eb o.op && allB o.op.operands.toList env && inB n o.dst)=true:=by kernel_rfl)
  (hf:follow P (execOp (rho env) o) ((cut cs off 1).map .val)=some (.value (cs.getD off undef),lds b off (cut cs off 1)):=by kernel_rfl):K ds A n env l (Ce P ops Q (fun w=>FG s w) tail ((o,3) :: pl)):=Wj s _ _ hg hs hf (fun _ h=>h) (QT hi _ _ fun _ _ h=>Su h) hk
theorem Gt (i off m:Nat) {s:List Ab} {b:Nat} {cs:Array Value} {T:TypeId} {z:Nat×Nat} (hi:s[i]? = some (blk b (.cells cs T z))) (hk:K ds A n (Bp env o.dst (.agg (cut cs off m).toArray)) l (Ce P ops Q (fun w=>FG s w) tail pl)) (hg:Cn ops env o=some true:=by kernel_rfl) (hs:(Eb o.op && allB o.op.operands.toList env && inB n o.dst)=true:=by kernel_rfl)
  (hf:follow P (execOp (rho env) o) ((cut cs off m).map .val)=some (.value (.agg (cut cs off m).toArray),lds b off (cut cs off m)):=by kernel_rfl):K ds A n env l (Ce P ops Q (fun w=>FG s w) tail ((o,3) :: pl)):=Wj s _ _ hg hs hf (fun _ h=>h) (QT hi _ _ fun _ _ h=>Su h) hk
theorem ksr {id:Nat} {y:Code} (h:K ds A n env l (wpList P os.toArray (Exit.then (y.wp P Q) Q) os)):K ds A n env l ((Code.seq (Code.region id os.toArray false) y).wp P Q):=Bz (Bc h)
theorem Ad (h:K ds A n env l next) (he:os=[]:=by rfl):K ds A n env l (wpList P ops (Exit.then next Q) os):=he ▸ KG (AB h)
theorem AY {id:Nat} {y:Code} {os':List Oper} {Q':Exit→Act→World→Prop} (h:K ds A n env l (wpList P os.toArray (Exit.then (y.wp P Q) Q) os)) (he:os'=[]:=by rfl):K ds A n env l (wpList P ops (Exit.then ((Code.seq (Code.region id os.toArray false) y).wp P Q) Q') os'):=he ▸ KG (AB (Bz (Bc h)))
theorem Fw {id:Nat} {os':List Oper} {Q':Exit→Act→World→Prop} (h:K ds A n env l (wpList P os.toArray Q os)) (he:os'=[]:=by rfl):K ds A n env l (wpList P ops (Exit.then ((Code.region id os.toArray false).wp P Q) Q') os'):=he ▸ KG (AB (Bc h))
theorem knl (h:K ds A n env l (Q .normal)) (he:os=[]:=by rfl):K ds A n env l (wpList P ops Q os):=he ▸ KG h
theorem BY (h:K ds A n env l tail) (he:pl=[]:=by rfl):K ds A n env l (Ce P ops Q S tail pl):=he ▸ Aaf h
theorem sb {sub:Env} (h:picks (sub.map (·.1)) env=some (sub.map (·.2)):=by kernel_rfl):Sub env sub:=WI h
theorem gr {k:Nat} {v:Value} (h:env.get k=some v:=by kernel_rfl):env.get k=some v:=h
theorem gb {k:Nat} {t q:Bool} (h:t=q) (hk:env.get k=some (.bool t):=by kernel_rfl):env.get k=some (.bool q):=h ▸ hk
theorem V_ {fn:Func} {β ε:Type} {x:β} {fl:ε→Value} {D:β→Ending→List Ab→Prop} {v:Value} {L:List Ab} (hD:D x (.returned v) L) (hl:l=L++X) (hr:hasAll fn.results.toList env=true:=by kernel_rfl) (hf:follow P (KP fn.results (KQ env)) []=some (v,[]):=by kernel_rfl) :
  K [] A n env l (bodyPost P fn (fun e w'=>∃ l1,PR.Post fl D (.ok x) e l1∧St A (l1++X) w') .ret):=by
 subst hl
 exact Ma [] [] L hr hf trivial fun a w ha hw=>⟨hD,hw⟩
theorem t2 {α:Type} {x a0 a1:α} {r:List α} (h:x ∈ r):x ∈ a0 :: a1 :: r:=.tail _ (.tail _ (h))
theorem t3 {α:Type} {x a0 a1 a2:α} {r:List α} (h:x ∈ r):x ∈ a0 :: a1 :: a2 :: r:=.tail _ (.tail _ (.tail _ (h)))
theorem t4 {α:Type} {x a0 a1 a2 a3:α} {r:List α} (h:x ∈ r):x ∈ a0 :: a1 :: a2 :: a3 :: r:=.tail _ (.tail _ (.tail _ (.tail _ (h))))
theorem t5 {α:Type} {x a0 a1 a2 a3 a4:α} {r:List α} (h:x ∈ r):x ∈ a0 :: a1 :: a2 :: a3 :: a4 :: r:=.tail _ (.tail _ (.tail _ (.tail _ (.tail _ (h)))))
theorem t6 {α:Type} {x a0 a1 a2 a3 a4 a5:α} {r:List α} (h:x ∈ r):x ∈ a0 :: a1 :: a2 :: a3 :: a4 :: a5 :: r:=.tail _ (.tail _ (.tail _ (.tail _ (.tail _ (.tail _ (h))))))
theorem t7 {α:Type} {x a0 a1 a2 a3 a4 a5 a6:α} {r:List α} (h:x ∈ r):x ∈ a0 :: a1 :: a2 :: a3 :: a4 :: a5 :: a6 :: r:=.tail _ (.tail _ (.tail _ (.tail _ (.tail _ (.tail _ (.tail _ (h)))))))
theorem t8 {α:Type} {x a0 a1 a2 a3 a4 a5 a6 a7:α} {r:List α} (h:x ∈ r):x ∈ a0 :: a1 :: a2 :: a3 :: a4 :: a5 :: a6 :: a7 :: r:=.tail _ (.tail _ (.tail _ (.tail _ (.tail _ (.tail _ (.tail _ (.tail _ (h))))))))
theorem t9 {α:Type} {x a0 a1 a2 a3 a4 a5 a6 a7 a8:α} {r:List α} (h:x ∈ r):x ∈ a0 :: a1 :: a2 :: a3 :: a4 :: a5 :: a6 :: a7 :: a8 :: r:=.tail _ (.tail _ (.tail _ (.tail _ (.tail _ (.tail _ (.tail _ (.tail _ (.tail _ (h)))))))))
theorem t10 {α:Type} {x a0 a1 a2 a3 a4 a5 a6 a7 a8 a9:α} {r:List α} (h:x ∈ r):x ∈ a0 :: a1 :: a2 :: a3 :: a4 :: a5 :: a6 :: a7 :: a8 :: a9 :: r:=.tail _ (.tail _ (.tail _ (.tail _ (.tail _ (.tail _ (.tail _ (.tail _ (.tail _ (.tail _ (h))))))))))
theorem t11 {α:Type} {x a0 a1 a2 a3 a4 a5 a6 a7 a8 a9 a10:α} {r:List α} (h:x ∈ r):x ∈ a0 :: a1 :: a2 :: a3 :: a4 :: a5 :: a6 :: a7 :: a8 :: a9 :: a10 :: r:=.tail _ (.tail _ (.tail _ (.tail _ (.tail _ (.tail _ (.tail _ (.tail _ (.tail _ (.tail _ (.tail _ (h)))))))))))
end
section
variable {A:World} {ds:List Deferred} {n n0:Nat} {env env':Env} {l l' X:List Ab} {P:Program} {Q:Exit→Act→World→Prop} {ops:Array Oper} {os rest:List Oper} {o:Oper} {S:World→Prop} {tail:Act→World→Prop} {pl:List (Oper×Nat)} {α:Type} {R:FH α}
theorem F7 {T TS U:TypeId} {sz bytes:Nat} {i:TypeInfo} {z:Value} {h hy:Ab} {v y:Value} {xs ys xs':List α} {s x:Operand} (ho:o.op=.call { callee:=.builtin .append,args:=#[s,x],argTypes:=#[TS,U] }) (he:Ft P TS T sz bytes i z) (hsz:sz=R.sz) (hap:apd bytes xs ys=some xs') (hO:AL R T h v xs) (hY:AL R T hy y ys) (hk:∀ h' a' c',AL R T h' (.slice a' xs'.length c') xs'→K ds A n0 (Bp env o.dst (.slice a' xs'.length c')) (h' :: l) (wpList P ops Q rest)) (hg:Cn ops env o=some true:=by kernel_rfl) (hd:inB n0 o.dst=true:=by kernel_rfl) (hs:BV env s=some v:=by kernel_rfl) (hx:BV env x=some y:=by kernel_rfl) (hu:KM P U=true:=by kernel_rfl):K ds A n0 env (h :: hy :: l) (wpList P ops Q (o :: rest)):=Bid ho he hsz hg hd hs hx hu hap hO hY hk
theorem F8 {α:Type} {E:α→List Value} {xs:List α} {a:α} {ix:Int} {kd:IntKind} {h:Ab} {A':Ar} {c:Nat} {T TS:TypeId} {sz:Nat} {x y:Operand} (hE:Ex E sz) (ho:o.op=.indexAddr TS x y) (hi:AZ xs ix=some a) (hR:Bf E sz h (.slice A' xs.length c) xs) (hk:∀ p,Elem h p (E a)→Place A' (ix.toNat * sz) p→K ds A n0 (Bp env o.dst p) l (wpList P ops Q rest)) (hg:Cn ops env o=some true:=by kernel_rfl) (hd:inB n0 o.dst=true:=by kernel_rfl) (hx:BV env x=some (.slice A' xs.length c):=by kernel_rfl) (hy:BV env y=some (.int kd ix):=by kernel_rfl) (h1:P.underlying TS=some (.slice T):=by kernel_rfl) (h2:(P.info? T).map (·.size)=some sz:=by kernel_rfl):K ds A n0 env l (wpList P ops Q (o :: rest)):=Art hE ho hg hd hx hy h1 h2 hi hR hk
theorem DL {xs:List α} {a:α} {ix:Int} {kd:IntKind} {h:Ab} {A':Ar} {c:Nat} {T TS:TypeId} {x y:Operand} (ho:o.op=.indexAddr TS x y) (hi:AZ xs ix=some a) (hR:RdR R h (.slice A' xs.length c) xs) (hk:∀ p us,R.rd a h us→Elem h p us→Place A' (ix.toNat * R.sz) p→K ds A n0 (Bp env o.dst p) l (wpList P ops Q rest)) (hg:Cn ops env o=some true:=by kernel_rfl) (hd:inB n0 o.dst=true:=by kernel_rfl) (hx:BV env x=some (.slice A' xs.length c):=by kernel_rfl) (hy:BV env y=some (.int kd ix):=by kernel_rfl) (h1:P.underlying TS=some (.slice T):=by kernel_rfl) (h2:(P.info? T).map (·.size)=some R.sz:=by kernel_rfl):K ds A n0 env l (wpList P ops Q (o :: rest)):=Bim ho hg hd hx hy h1 h2 hi hR hk
theorem GV {h:Ab} {p:Value} {us:List Value} {T:TypeId} {k off k0:Nat} {A':Ar} {x:Operand} (ho:o.op=.fieldAddr T x k) (hE:Elem h p us) (hp:Place A' k0 p) (hk:∀ p',Elem h p' (us.drop off)→Place A' (k0+off) p'→K ds A n0 (Bp env o.dst p') l (wpList P ops Q rest)) (hg:Cn ops env o=some true:=by kernel_rfl) (hd:inB n0 o.dst=true:=by kernel_rfl) (hx:BV env x=some p:=by kernel_rfl) (hT:(match P.underlying T with | some (.struct fs)=>(match fs[k]? with | some f=>(match (P.info? f.type).map (·.size) with | some (s+1)=>some f.offset | _=>none) | none=>none) | _=>none)=some off:=by kernel_rfl):K ds A n0 env l (wpList P ops Q (o :: rest)):=Bil ho hg hd hx hT hE hp hk
theorem E8 {h:Ab} {p:Value} {us:List Value} {T:TypeId} {x:Operand} (ho:o.op=.load T x) (hE:Elem h p us) (hm:h ∈ l) (hk:K ds A n0 (Bp env o.dst (.agg us.toArray)) l (wpList P ops Q rest)) (hg:Cn ops env o=some true:=by kernel_rfl) (hd:inB n0 o.dst=true:=by kernel_rfl) (hx:BV env x=some p:=by kernel_rfl) (hT:(match P.underlying T with | some (.struct _)=>true | some (.array _ _)=>true | _=>false)=true:=by kernel_rfl) (hs:(P.info? T).map (·.size)=some us.length:=by kernel_rfl):K ds A n0 env l (wpList P ops Q (o :: rest)):=Bip ho hg hd hx hT hs hE hm hk
theorem QK {α:Type} {E:α→List Value} {xs:List α} {a:α} {ix:Int} {kd:IntKind} {h:Ab} {A':Ar} {c:Nat} {T TS:TypeId} {sz:Nat} {x y:Operand} (hE:Ex E sz) (ho:o.op=.indexAddr TS x y) (hi:AZ xs ix=some a) (hR:Bf E sz h (.slice A' xs.length c) xs) (hk:∀ p,Elem h p (E a)→Place A' (ix.toNat * sz) p→K ds A n0 (Bp env o.dst p) l (Ce P ops Q S tail pl)) (hg:Cn ops env o=some true:=by kernel_rfl) (hd:inB n0 o.dst=true:=by kernel_rfl) (hx:BV env x=some (.slice A' xs.length c):=by kernel_rfl) (hy:BV env y=some (.int kd ix):=by kernel_rfl) (h1:P.underlying TS=some (.slice T):=by kernel_rfl) (h2:(P.info? T).map (·.size)=some sz:=by kernel_rfl):K ds A n0 env l (Ce P ops Q S tail ((o,0) :: pl)):=Arz hE ho hg hd hx hy h1 h2 hi hR hk
theorem Ar5 {h:Ab} {p:Value} {us:List Value} {T:TypeId} {k off k0:Nat} {A':Ar} {x:Operand} (ho:o.op=.fieldAddr T x k) (hE:Elem h p us) (hp:Place A' k0 p) (hk:∀ p',Elem h p' (us.drop off)→Place A' (k0+off) p'→K ds A n0 (Bp env o.dst p') l (Ce P ops Q S tail pl)) (hg:Cn ops env o=some true:=by kernel_rfl) (hd:inB n0 o.dst=true:=by kernel_rfl) (hx:BV env x=some p:=by kernel_rfl) (hT:(match P.underlying T with | some (.struct fs)=>(match fs[k]? with | some f=>(match (P.info? f.type).map (·.size) with | some (s+1)=>some f.offset | _=>none) | none=>none) | _=>none)=some off:=by kernel_rfl):K ds A n0 env l (Ce P ops Q S tail ((o,0) :: pl)):=Bi8 ho hg hd hx hT hE hp hk
theorem IM {h:Ab} {p:Value} {us:List Value} {T:TypeId} {x:Operand} (ho:o.op=.load T x) (hE:Elem h p us) (hm:∀ w,S w→h.On w) (hk:K ds A n0 (Bp env o.dst (.agg us.toArray)) l (Ce P ops Q S tail pl)) (hg:Cn ops env o=some true:=by kernel_rfl) (hd:inB n0 o.dst=true:=by kernel_rfl) (hx:BV env x=some p:=by kernel_rfl) (hT:(match P.underlying T with | some (.struct _)=>true | some (.array _ _)=>true | _=>false)=true:=by kernel_rfl) (hs:(P.info? T).map (·.size)=some us.length:=by kernel_rfl):K ds A n0 env l (Ce P ops Q S tail ((o,3) :: pl)):=Bjc ho hg hd hx hT hs hE hm hk
theorem QJ {α:Type} {E:α→List Value} {xs ys xs':List α} {T TS U:TypeId} {sz bytes:Nat} {i:TypeInfo} {z:Value} {h:Ab} {v y:Value} {s x:Operand} (hE:Ex E sz) (ho:o.op=.call { callee:=.builtin .append,args:=#[s,x],argTypes:=#[TS,U] }) (he:Ft P TS T sz bytes i z) (hap:apd bytes xs ys=some xs') (hO:Ah E T sz h v xs) (hsrc:∀ w,Sat (h :: l) w→Src P sz w y ys.length (ys.flatMap E)) (hk:∀ h' a' c',Ah E T sz h' (.slice a' xs'.length c') xs'→K ds A n0 (Bp env o.dst (.slice a' xs'.length c')) (h' :: l) (wpList P ops Q rest)) (hg:Cn ops env o=some true:=by kernel_rfl) (hd:inB n0 o.dst=true:=by kernel_rfl) (hs:BV env s=some v:=by kernel_rfl) (hx:BV env x=some y:=by kernel_rfl) (hu:KM P U=true:=by kernel_rfl):K ds A n0 env (h :: l) (wpList P ops Q (o :: rest)):=Bib hE ho he hg hd hs hx hu hap hO hsrc hk
theorem Jd {xs:List α} {a:α} {ix:Int} {kd:IntKind} {h:Ab} {A':Ar} {c:Nat} {T TS:TypeId} {x y:Operand} (ho:o.op=.indexAddr TS x y) (hi:AZ xs ix=some a) (hR:RdR R h (.slice A' xs.length c) xs) (hk:∀ p us,R.rd a h us→Elem h p us→Place A' (ix.toNat * R.sz) p→K ds A n0 (Bp env o.dst p) l (Ce P ops Q S tail pl)) (hg:Cn ops env o=some true:=by kernel_rfl) (hd:inB n0 o.dst=true:=by kernel_rfl) (hx:BV env x=some (.slice A' xs.length c):=by kernel_rfl) (hy:BV env y=some (.int kd ix):=by kernel_rfl) (h1:P.underlying TS=some (.slice T):=by kernel_rfl) (h2:(P.info? T).map (·.size)=some R.sz:=by kernel_rfl):K ds A n0 env l (Ce P ops Q S tail ((o,0) :: pl)):=Bi9 ho hg hd hx hy h1 h2 hi hR hk
end
end
end Go.Proofs.YtkdjiehclahliaaGreatDoor
