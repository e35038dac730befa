/- Texts of mine for checkMemory_card, part 2. -/
import Derived.Test.YteccladehmaglaaGreatDoorCmA
set_option linter.unusedSimpArgs false
set_option linter.unusedVariables false
set_option linter.unusedSectionVars false
namespace Go.Proofs.YteccladehmaglaaGreatDoor
set_option maxRecDepth 100000
section
open Go Go.RowKit Lx
theorem M0 {k:IntKind} {a b:Int} (h:a=b):Ending.returned (.int k a)=.returned (.int k b):=by rw [h]
def QD (f:FuncId) (p:Nat->Bool):Prop :=
 (∀ args w,(callFunc f args).run Tryz.prog w=.ok (.enter f args) w) /\
 ∀ (r:Nat) (w:World),r<=1114111->Calls Tryz.prog f #[.int .i32 r] w λe w'=>e=.returned (.bool (p r))/\w=w'
theorem SG (l:Bs):(B2 l).1<=1114111:=by
 have hb:∀ k,(l.getD k 0).toNat < 256:=λk=>(l.getD k 0).toNat_lt;have h0:=hb 0;have h1:=hb 1;have h2:=hb 2;have h3:=hb 3;unfold B2;simp only []
 (repeat' split) <;> simp_all [Utf8.valid] <;> omega
set_option maxHeartbeats 1000000 in
theorem run_any (f:FuncId) (p:Nat->Bool) (sb at_:Nat) (src:Ah) (w:World) (hf:QD f p)
  (hb:sb < w.heap.size) (c0:w.cell? ⟨sb,0,none⟩=some (.string src)) (c1:w.cell? ⟨sb,1,none⟩=some (.int .i64 at_)) (hat:at_<=src.size) (hsz:src.size<=1000000) :
  Calls Tryz.prog 75 #[.pointer (some ⟨sb,0,none⟩),.func (.func f) #[] #[]] w
   λe w'=>e=.returned (.int .i64 (B6 p ((bs src).drop at_)))/\Below w.heap.size w w':=by
 have h1:=hf.1
 have H2:=Lib.hid hf.2
 clear hf
 have hat':(at_:Int)<=src.size:=by omega
 go_enter Tryz.func75,Tryz.ntmps75
 go_wp2
 refine K9 [(0,0),(1,0),(2,0),(3,3),(4,0),(5,0),(6,0),(7,3)] (λw'=>w'.cell? ⟨sb,0,none⟩=some (.string src)/\w'.cell? ⟨sb,1,none⟩=some (.int .i64 at_)) (by kernel_rfl) (by kernel_rfl) (λ_ _ d _ _ h=>by cases d <;> exact h) (by refine ⟨?_,?_⟩ <;> go_simp) ?_
 simp only [DP,List.filterMap_cons,List.filterMap_nil,List.getElem?_toArray,List.getElem?_cons_zero,List.getElem?_cons_succ,Option.map_some,List.drop_succ_cons,List.drop_zero,AX,Bp]
 iterate 3 (refine DY (by rfl) (λwq=>by go_simp;with_reducible rfl) ?_;simp only [Act.put,List.setIfInBounds_toArray,List.set_cons_zero,List.set_cons_succ])
 iterate 1 (refine Gj (by rfl) (λwq hq=>by obtain ⟨hq0,hq1⟩:=hq;go_simp;with_reducible rfl) ?_;simp only [Act.put,List.setIfInBounds_toArray,List.set_cons_zero,List.set_cons_succ])
 iterate 3 (refine DY (by rfl) (λwq=>by go_simp;with_reducible rfl) ?_;simp only [Act.put,List.setIfInBounds_toArray,List.set_cons_zero,List.set_cons_succ])
 iterate 1 (refine Gj (by rfl) (λwq hq=>by obtain ⟨hq0,hq1⟩:=hq;go_simp;with_reducible rfl) ?_;simp only [Act.put,List.setIfInBounds_toArray,List.set_cons_zero,List.set_cons_succ])
 refine Lf ?_
 go_wp2
 have HL:=Lib.hid (K4 p (bs (src.extract at_ src.size)))
 have hss:(src.extract at_ src.size).size<=1000000:=by rw [<- BZ,HA,BV,BZ];omega
 have Hss:=Lib.hid (show bs (src.extract at_ src.size)=(bs src).drop at_ from HA src at_)
 have Hlen:=Lib.hid (show (src.extract at_ src.size).size=src.size - at_ by rw [<- BZ,HA,BV,BZ])
 generalize src.extract at_ src.size=suf at *
 go_loopw [17] (λ_ wr=>∃ pos,pos<=suf.size/\Hid (B6 p (bs suf)=pos+B6 p ((bs suf).drop pos))/\wr=w.drew.iter suf pos) (λ_ wr=>suf.size - wr.iterPos w.heap.size)
 case atStart=>exact ⟨0,Nat.zero_le _,by unfold Hid;simp,rfl⟩
 case round =>
  obtain ⟨pos,hpos,hrun,rfl⟩:=hrel
  by_cases hlt:pos < suf.size
  ·have hnext:=run_next_any (P:=Tryz.prog) w.drew suf pos
   have hd:=SG ((bs suf).drop pos)
   have HD:=Lib.hid (decode_eq suf pos)
   have hnx:∀ ty,(Instr.next (.pointer (some ⟨w.heap.size,0,none⟩)) true ty).run Tryz.prog (w.drew.iter suf pos)=.ok (.tuple #[.bool true,.int .i64 pos,.int .i32 (B2 ((bs suf).drop pos)).1]) (w.drew.iter suf (pos+(B2 ((bs suf).drop pos)).2)):=λty=>by
    have:=hnext ty hlt
    rw [HD.out] at this
    exact this
   clear hnext
   have hne:(bs suf).drop pos≠[]:=λh=>by
    have:=congrArg List.length h
    rw [BV,BZ] at this
    simp at this;omega
   have HS:=Lib.hid (N1 p ((bs suf).drop pos) hne)
   have HW:=Lib.hid (Jw ((bs suf).drop pos))
   have hlen:((bs suf).drop pos).length=suf.size - pos:=by rw [BV,BZ]
   have HLL:=Lib.hid hlen
   clear hlen
   have hne':=Lib.hid hne
   clear hne
   generalize hr:(B2 ((bs suf).drop pos)).1=r at *
   generalize hk:(B2 ((bs suf).drop pos)).2=k at *
   have hcase:p r=true\/p r=false:=by cases p r <;> simp
   have HR:=Lib.hid hr
   have HK:=Lib.hid hk
   clear hr hk
   rcases hcase with hp | hp
   ·have HP:=Lib.hid hp
    clear hp
    go_wp2_with fail
    refine (H2.out r _ hd).mono ?_
    rintro e w' ⟨rfl,rfl⟩
    rw [HP.out]
    go_wp2_with fail
    go_roundw
    case rel =>
     refine ⟨pos+k,?_,?_,rfl⟩
     ·have:=(HW.out.2.2 hne'.out);rw [HLL.out] at this;omega
     ·unfold Hid at *
      rw [hrun,HS,if_pos HP,List.drop_drop];omega
    case measure =>
     have hk1:=HW.out.1
     have e:∀ q,(w.drew.iter suf q).iterPos w.heap.size=q:=λq=>World.iterPos_iter w.drew suf q
     simp only [e]
     omega
   ·have HP:=Lib.hid hp
    clear hp
    go_wp2_with fail
    refine (H2.out r _ hd).mono ?_
    rintro e w' ⟨rfl,rfl⟩
    rw [HP.out]
    go_wp2_with fail
    go_ret
    have hp':=HP.out
    refine ⟨M0 ?_,?_⟩
    ·have h:=hrun
     unfold Hid at *
     rw [HS,hp',Hss] at h
     simp only [Bool.false_eq_true,if_false,Nat.add_zero] at h
     rw [h]
    ·exact ((Below.refl _ w).drew).alloc (Nat.le_refl _) _
  ·have hnx:=λty=>run_next_end (P:=Tryz.prog) w.drew suf pos ty hlt
   have YB:∀ ty,(Instr.next (.pointer (some ⟨w.heap.size,0,none⟩)) true ty).run Tryz.prog (w.drew.iter suf pos)=.ok (.tuple #[.bool false]) (w.drew.iter suf pos):=hnx
   clear hnx
   have d0:(w.drew.iter suf pos).cell? ⟨sb,0,none⟩=some (.string src):=(World.cell?_alloc_lt w.drew _ ⟨sb,0,none⟩ hb).trans c0
   have d1:(w.drew.iter suf pos).cell? ⟨sb,1,none⟩=some (.int .i64 at_):=(World.cell?_alloc_lt w.drew _ ⟨sb,1,none⟩ hb).trans c1
   have HBW:=Lib.hid (((Below.refl w.heap.size w).drew).alloc (Nat.le_refl _) (.stringIter suf pos))
   clear c0 c1
   go_wp2
   refine K9 [(0,0),(1,0),(2,0),(3,3),(4,0),(5,0),(6,0),(7,0),(8,3)] (λw'=>w'.cell? ⟨sb,0,none⟩=some (.string src)/\w'.cell? ⟨sb,1,none⟩=some (.int .i64 at_)) (by kernel_rfl) (by kernel_rfl) (λ_ _ d _ _ h=>by cases d <;> exact h) (by refine ⟨?_,?_⟩ <;> go_simp) ?_
   simp only [DP,List.filterMap_cons,List.filterMap_nil,List.getElem?_toArray,List.getElem?_cons_zero,List.getElem?_cons_succ,Option.map_some,List.drop_succ_cons,List.drop_zero,AX,Bp]
   iterate 3 (refine DY (by rfl) (λwq=>by go_simp;with_reducible rfl) ?_;simp only [Act.put,List.setIfInBounds_toArray,List.set_cons_zero,List.set_cons_succ])
   iterate 1 (refine Gj (by rfl) (λwq hq=>by obtain ⟨hq0,hq1⟩:=hq;go_simp;with_reducible rfl) ?_;simp only [Act.put,List.setIfInBounds_toArray,List.set_cons_zero,List.set_cons_succ])
   iterate 4 (refine DY (by rfl) (λwq=>by go_simp;with_reducible rfl) ?_;simp only [Act.put,List.setIfInBounds_toArray,List.set_cons_zero,List.set_cons_succ])
   iterate 1 (refine Gj (by rfl) (λwq hq=>by obtain ⟨hq0,hq1⟩:=hq;go_simp;with_reducible rfl) ?_;simp only [Act.put,List.setIfInBounds_toArray,List.set_cons_zero,List.set_cons_succ])
   refine Lf ?_
   go_wp2
   go_ret
   refine ⟨M0 ?_,HBW.out.drew⟩
   have h:=hrun
   have hp:pos=suf.size:=by omega
   unfold Hid at h Hss Hlen
   rw [List.drop_of_length_le (by rw [BZ];omega),Ack,Hss] at h
   rw [h]
   omega
end
end Go.Proofs.YteccladehmaglaaGreatDoor
