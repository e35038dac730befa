/- Texts of mine for genSound_card, part 6. -/
import Derived.RangeFuncNested
import Derived.RangeFuncBound
import Derived.RangeFuncBox
import Derived.RangeFuncCalls
import Derived.RangeFuncLeaves
import Derived.Shelf.Abstract
import Derived.Shelf.RegionOpen
import Derived.WalkKit
import Derived.OwnWalkIn
import Derived.TacticsInMore
import Derived.LoopNIn
import Derived.LoopIn
import Derived.Lib.OthersKept
import Derived.Lib.UnsafeStr
import Derived.Test.YtkdjiehclahliaaGreatDoorProg
import Derived.Test.YtkdjiehclahliaaGreatDoorGsE
set_option linter.unusedSimpArgs false
set_option linter.unusedVariables false
set_option linter.unusedSectionVars false
namespace Go.Proofs.YtkdjiehclahliaaGreatDoor
set_option maxRecDepth 100000
section
open Go Go.RowKit Go.Shelf Go.Proofs
attribute [local go_sem] Oper.semAt_some
def At7:List ByteArray→ByteArray→Nat
 | [],_=>0
 | y :: r,x=>if (y.toList == x.toList)=true then r.length+1 else At7 r x
def A3y.f (_k:Nat) (Aal:List ByteArray) (a1:ByteArray):Option Int:=some ((At7 Aal.reverse a1:Nat):Int)
namespace Bw
def upto {α:Type} (f:Nat→α) (k:Nat):List α:=(List.range k).map f
theorem upto_succ {α:Type} (f:Nat→α) (k:Nat):upto f (k+1)=upto f k++[f k]:=by simp [upto,List.range_succ]
theorem upto_length {α:Type} (f:Nat→α) (k:Nat):(upto f k).length=k:=by simp [upto]
def dn (zs:List ByteArray) (j:Nat):Nat×ByteArray:=(zs.length - 1 - j,zs[zs.length - 1 - j]?.getD ⟨#[]⟩)
set_option maxHeartbeats 2000000 in
theorem Cpi (F:Fence) (n:Nat) (h8:F.fn 135) (hro:F.round=none) (hn:1≤n) (l Bs n₀ b off cap:Nat) (zs:List ByteArray) (hreach:zs.length≤9223372036854775807) (hb:b < n₀) (J Jx:List (Nat×ByteArray)→World→Prop)
  (hY:∀ pre x W,J pre W→pre.length < zs.length→YieldAt F (n - 1) Tryz.prog l #[.int .i64 (x.1:Int),.string x.2] W fun e W' =>
   (e=.returned (.bool true)∧J (pre++[x]) W'∧Below n₀ W W')∨(e=.returned (.bool false)∧Jx (pre++[x]) W'))
  (W:World) (Cu0:Bs < n₀) (hBs:W.cell? ⟨Bs,0,none⟩=some (.slice (some ⟨b,off,none⟩) zs.length cap)) (hc:∀ j,j < zs.length→W.cell? ⟨b,off+j,none⟩=some (.string (zs[j]?.getD ⟨#[]⟩))) (h0:J [] W) :
  CallsIn F n Tryz.prog 135 #[.func (.yield l) #[] #[],.pointer (some ⟨Bs,0,none⟩)] W fun e W'=>(∃ v,e=.returned v) ∧
   ((∃ ys,ys=upto (dn zs) zs.length∧J ys W')∨(∃ pre,(∃ k,k≤zs.length∧pre=upto (dn zs) k)∧Jx pre W')):=by
 refine callsIn_of_wp Tryz.func135 rfl h8 ?_ hro
 simp only [Tryz.ntmps135,List.size_toArray,Aa4,Acg,Nat.reduceAdd,Nat.reduceSub,Array.replicate_succ,Array.replicate_zero,List.push_toArray,List.append_toArray,List.nil_append,List.cons_append]
 gi_wp2
 gi_loopw [3] (fun i wr=>∃ k:Nat,k≤zs.length∧i=.int .i64 ((zs.length:Int) - 1 - (k:Int))∧J (upto (dn zs) k) wr∧Below n₀ W wr)
  (fun i _=>(intOf i+1).toNat)
 case atStart=>exact ⟨0,Nat.zero_le _,by simp,h0,Below.refl _ _⟩
 case round =>
  obtain ⟨k,hk,rfl,hJs,hnx⟩:=hrel
  have hcs:wr.cell? ⟨Bs,0,none⟩=some (.slice (some ⟨b,off,none⟩) zs.length cap):=(hnx.cell (p:=⟨Bs,0,none⟩) Cu0).trans hBs
  by_cases hlt:k < zs.length
  ·have hcx:wr.cell? ⟨b,off+(zs.length - 1 - k),none⟩=some (.string (zs[zs.length - 1 - k]?.getD ⟨#[]⟩)):=(hnx.cell (p:=⟨b,off+(zs.length - 1 - k),none⟩) hb).trans (hc _ (by omega))
   obtain ⟨fn,tmps,assign,body,hy,hR⟩:=hY _ (dn zs k) wr hJs (by rw [upto_length];exact hlt)
   dsimp only [dn] at hy
   rw [show ((zs.length:Int) - 1 - (k:Int))=((zs.length - 1 - k:Nat):Int) by omega]
   gi_wp2
   refine hR.mono ?_
   rintro e W3 (⟨rfl,hJ3,hk3⟩ | ⟨rfl,hJx3⟩)
   ·gi_wp2
    go_roundw
    case rel=>exact ⟨k+1,by omega,by first | (congr 1;done) | (congr 1;omega),by rw [upto_succ];exact hJ3,hnx.trans hk3⟩
    case measure=>first | (simp [intOf];done) | (simp [intOf];omega)
   ·gi_wp2
    refine bodyPost_ret (results_none rfl _ _ _) rfl ?_
    exact ⟨⟨_,rfl⟩,.inr ⟨_,⟨k+1,by omega,(upto_succ _ _).symm⟩,hJx3⟩⟩
  ·obtain rfl:k=zs.length:=by omega
   gi_wp2
   go_end0
   exact ⟨⟨_,rfl⟩,.inl ⟨_,rfl,hJs⟩⟩
def Strs (n₀:Nat) (W:World) (sv:Value) (zs:List ByteArray):Prop :=
 (sv=.slice none 0 0∧zs=[])∨∃ b off cap,sv=.slice (some ⟨b,off,none⟩) zs.length cap∧b < n₀∧∀ j,j < zs.length→W.cell? ⟨b,off+j,none⟩=some (.string (zs[j]?.getD ⟨#[]⟩))
theorem Strs.below {n₀:Nat} {A B:World} (h:Below n₀ A B) {sv:Value} {zs:List ByteArray}:Strs n₀ A sv zs→Strs n₀ B sv zs
 | .inl e=>.inl e
 | .inr ⟨b,off,cap,e,hb,hc⟩=>.inr ⟨b,off,cap,e,hb,fun j hj=>(h.cell (p:=⟨b,off+j,none⟩) hb).trans (hc j hj)⟩
theorem Strs.mono {n₀ n₁:Nat} {A:World} (h:n₀≤n₁) {sv:Value} {zs:List ByteArray}:Strs n₀ A sv zs→Strs n₁ A sv zs
 | .inl e=>.inl e
 | .inr ⟨b,off,cap,e,hb,hc⟩=>.inr ⟨b,off,cap,e,by omega,hc⟩
set_option maxHeartbeats 1000000 in
theorem Cpj (F:Fence) (n:Nat) (h8:F.fn 135) (hro:F.round=none) (l Bs:Nat) (J:List (Nat×ByteArray)→World→Prop) (W:World) (hBs:W.cell? ⟨Bs,0,none⟩=some (.slice none 0 0)) (h0:J [] W) :
  CallsIn F n Tryz.prog 135 #[.func (.yield l) #[] #[],.pointer (some ⟨Bs,0,none⟩)] W fun e W'=>(∃ v,e=.returned v)∧J [] W':=by
 refine callsIn_of_wp Tryz.func135 rfl h8 ?_ hro
 simp only [Tryz.ntmps135,List.size_toArray,Aa4,Acg,Nat.reduceAdd,Nat.reduceSub,Array.replicate_succ,Array.replicate_zero,List.push_toArray,List.append_toArray,List.nil_append,List.cons_append]
 gi_wp2
 gi_loopw [3] (fun i wr=>i=.int .i64 (-1)∧J [] wr) (fun _ _=>0)
 case atStart=>exact ⟨rfl,h0⟩
 case round =>
  obtain ⟨rfl,hJs⟩:=hrel
  gi_wp2
  go_end0
  exact ⟨⟨_,rfl⟩,hJs⟩
set_option maxHeartbeats 1000000 in
theorem Cpo (F:Fence) (n:Nat) (h6:F.fn 126) (hro:F.round=none) (a:Option Addr) (len cap:Nat) (w:World) :
  CallsIn F n Tryz.prog 126 #[.slice a len cap] w fun e w'=>e=.returned (.func (.func 135) #[] #[.pointer (some ⟨w.heap.size,0,none⟩)])∧w'=w.alloc (.cells #[.slice a len cap] 23):=by
 refine callsIn_of_wp Tryz.func126 rfl h6 ?_ hro
 simp only [Tryz.ntmps126,List.size_toArray,Aa4,Acg,Nat.reduceAdd,Nat.reduceSub,Array.replicate_succ,Array.replicate_zero,List.push_toArray,List.append_toArray,List.nil_append,List.cons_append]
 gi_wp2
 go_ret
 exact ⟨rfl,rfl⟩
theorem Cpp (F:Fence) (n:Nat) (h8:F.fn 135) (hro:F.round=none) (hn:1≤n) (Bs n₀:Nat) (sv:Value) (zs:List ByteArray) (hreach:zs.length≤9223372036854775807) (w:World) (hBs:Bs < n₀) (hn₀:n₀≤w.heap.size)
  (hc:w.cell? ⟨Bs,0,none⟩=some sv) (hI:Strs n₀ w sv zs) :
  SeqStopsK F n Tryz.prog 135 #[.pointer (some ⟨Bs,0,none⟩)] (fun x:Nat×ByteArray=>#[Value.int .i64 (x.1:Int),Value.string x.2]) (Below n₀) (fun ys=>ys=upto (dn zs) zs.length)
   (fun pre=>∃ k,k≤zs.length∧pre=upto (dn zs) k) zs.length w:=fun l J Jx W hW _ _ hY h0=>by
 have hc':=(hW.cell (p:=⟨Bs,0,none⟩) (Nat.lt_of_lt_of_le hBs hn₀)).trans hc
 rcases hI.below (hW.mono hn₀) with ⟨rfl,rfl⟩ | ⟨b,off,cap,rfl,hb,hcs⟩
 ·exact (Cpj F n h8 hro l Bs J W hc' h0).mono fun e W' ⟨he,hj⟩=>⟨he,.inl ⟨_,rfl,hj⟩⟩
 ·exact Cpi F n h8 hro hn l Bs n₀ b off cap zs hreach hb J Jx hY W hBs hc' hcs h0
theorem Bxv:∀ (l m:List ByteArray) (x:ByteArray),(∀ y ∈ l,¬ (y.toList == x.toList)=true)→At7 (l++m) x=At7 m x
 | [],m,x,_=>rfl
 | y :: l,m,x,h=>by
  rw [List.cons_append,At7,if_neg (h y (Af5 ..)),Bxv l m x fun z hz=>h z (Ahb _ hz)]
theorem B7v (zs:List ByteArray):(upto (dn zs) zs.length).map Prod.snd=zs.reverse:=by
 apply List.ext_getElem
 ·simp [upto]
 ·intro i h1 h2
  have:i < zs.length:=by simpa using h2
  simp only [upto,List.map_map,List.getElem_map,List.getElem_range,Function.comp,dn,List.getElem_reverse]
  rw [List.getElem?_eq_getElem (by omega)]
  rfl
theorem Cre (zs:List ByteArray) (k:Nat) (hk:k≤zs.length):(upto (dn zs) k).map Prod.snd=zs.reverse.take k:=by
 rw [← B7v,← List.map_take]
 congr 1
 unfold upto
 rw [← List.map_take,List.take_range,Nat.min_eq_left hk]
set_option maxHeartbeats 2000000 in
theorem C67 (F:Fence) (n:Nat) (h4:F.fn 108) (h6:F.fn 126) (h8:F.fn 135) (hro:F.round=none) (hn:3≤n) (b0:Nat) (name:ByteArray) (a:TyO) (cap:Nat) (zs:TyC) (hreach:zs.length≤9223372036854775807) (w:World)
  (hb0:b0 < w.heap.size) (hc0:w.cell? ⟨b0,10,none⟩=some (slW a zs cap)) (hI:Strs w.heap.size w (slW a zs cap) zs) :
  CallsIn F n Tryz.prog 108 #[.pointer (some ⟨b0,0,none⟩),.string name] w fun e W'=>e=.returned (.int .i64 (At7 zs.reverse name:Nat))∧Below w.heap.size w W':=by
 have h1:1≤n:=by omega
 refine callsIn_of_wp_marks Tryz.func108 rfl h4 ?_ hro
 simp only [Tryz.ntmps108,List.size_toArray,Aa4,Acg,Nat.reduceAdd,Nat.reduceSub,Array.replicate_succ,Array.replicate_zero,List.push_toArray,List.append_toArray,List.nil_append,List.cons_append]
 gi_wp2_with (gi_at_call 126;refine (Cpo F (n - 1) h6 hro _ _ _ _).mono ?_;rintro e w' ⟨rfl,rfl⟩)
 have bN:=Boxed.new w 9 (.string name)
 have bR:=Boxed.new (w.alloc (.cells #[.string name] 9)) 3 (.int .i64 0)
 have bS:=Boxed.new ((w.alloc (.cells #[.string name] 9)).alloc (.cells #[.int .i64 0] 3)) 23 (slW a zs cap)
 rw [World.size_alloc] at bR
 rw [World.size_alloc,World.size_alloc] at bS
 have hB0:Below w.heap.size w (((w.alloc (.cells #[.string name] 9)).alloc (.cells #[.int .i64 0] 3)).alloc (.cells #[slW a zs cap] 23)):=(((Below.refl _ w).alloc (Nat.le_refl _) _).alloc (by simp) _).alloc (by simp;omega) _
 refine wpIn_rangeFunc_ownG hro h1 (gf:=135) (lb:=#[.pointer (some ⟨w.heap.size+1+1,0,none⟩)]) rfl h8 (enters_of Tryz.func135 (by kernel_rfl) rfl)
  (Cpp F (n - 1) h8 hro (by omega) (w.heap.size+1+1) (w.heap.size+3) _ zs hreach _ (by omega) (by simp) bS.cell ((hI.below hB0).mono (by omega))) belowK_t (belowK_b (by simp)) (Below.refl _ _) (fun _=>rfl)
  (fun pre W=>((∀ p ∈ pre,¬ (p.2.toList == name.toList)=true)∧(W.cell? ⟨w.heap.size+1,0,none⟩=some (.int .i64 0)∧W.frozen? ⟨w.heap.size+1,0,none⟩=false)∧W.cell? ⟨w.heap.size,0,none⟩=some (.string name))∧Below w.heap.size w W)
  (fun c pre W=>(c=.ret∧∃ ini last,pre=ini++[last]∧(∀ p ∈ ini,¬ (p.2.toList == name.toList)=true)∧(last.2.toList == name.toList)=true∧W.cell? ⟨w.heap.size+1,0,none⟩=some (.int .i64 (wrap64 ((last.1:Int)+1))))∧Below w.heap.size w W)
  (OwnFrom.and (Own.from (fun s A B row hs hg hr=>⟨hs.1,⟨cell_kept hs.2.1.1 hg hr,(frozen_kept hs.2.1.1 hg hr).trans hs.2.1.2⟩,cell_kept hs.2.2 hg hr⟩) _) (ownFrom_below (Nat.le_refl _) (by simp;omega)))
  (fun c=>OwnFrom.and (Own.from (fun s A B row hs hg hr=>by obtain ⟨hc,ini,last,e1,e2,e3,e4⟩:=hs;exact ⟨hc,ini,last,e1,e2,e3,cell_kept e4 hg hr⟩) _) (ownFrom_below (Nat.le_refl _) (by simp;omega)))
  ⟨⟨by simp,⟨(bR.alloc _).cell,(bR.alloc _).frozen⟩,((bN.alloc _).alloc _).cell⟩,hB0⟩
  (fun x=>{ tmps:=#[.pointer (some ⟨b0,0,none⟩),.string name,undef,.pointer (some ⟨w.heap.size,0,none⟩),.pointer (some ⟨w.heap.size+1,0,none⟩),.int .i64 (x.1:Int),.string x.2,.pointer (some ⟨b0,0,none⟩),.pointer (some ⟨b0,0,none⟩),.pointer (some ⟨b0,10,none⟩),slW a zs cap,.func (.func 135) #[] #[.pointer (some ⟨w.heap.size+1+1,0,none⟩)],.int .i64 (x.1:Int),.string x.2,undef,undef,undef,undef,undef],defers:=[] }) ?assign ?body ?done ?stop
 case assign =>
  intro l x W K hK
  gi_wp2
  exact hK
 case body =>
  rintro l pre x W ⟨⟨hp,⟨hcr,hfr⟩,hcn⟩,hB⟩ _
  gi_wp2
  ·have hx:(x.2.toList == name.toList)=true:=by assumption
   exact ⟨(KeepsOthers.setCell _ _ _).from _,⟨rfl,pre,x,rfl,hp,hx,World.cell?_setCell_same' _ _ _ (by rw [hcr];rfl)⟩,hB.setCell (p:=⟨w.heap.size+1,0,none⟩) (by simp) _⟩
  ·have hx:(x.2.toList == name.toList)=false:=by assumption
   exact ⟨KeepsFrom.refl _ _,Below.refl _ _,⟨fun p hp'=>(Agb.1 hp').elim (hp p) (fun e=>by simp only [Ag1] at e;subst e;rw [hx];exact Bool.false_ne_true),⟨hcr,hfr⟩,hcn⟩,hB⟩
 case done =>
  rintro D ys W hD rfl ⟨⟨hne,⟨hcr,hfr⟩,_⟩,hB⟩ hK
  gi_wp2
  have hK':=(KeepsOthers.setCell W ⟨w.heap.size+1,0,none⟩ (.int .i64 0)).same D _ hK rfl
  refine ⟨by simp,.inl ⟨_,_,rfl,run_takeDeferred hK',?_⟩⟩
  have hc5:=cell_kept (World.cell?_setCell_same' W ⟨w.heap.size+1,0,none⟩ (.int .i64 0) (by rw [hcr];rfl)) (grownBy_putObj' _ D (.deferred none)) (fun r e=>by cases e;exact ⟨_,hK',rfl⟩)
  refine ⟨.int .i64 0,?_,?_,(hB.setCell (p:=⟨w.heap.size+1,0,none⟩) (by simp) _).trans (belowK_b (w:=w) (Nat.le_refl _) _ D _ _ (by simp at hD;omega) hK' rfl rfl)⟩
  ·simp [results,Tryz.f108,go_sem,hc5]
  ·have h0:At7 zs.reverse name=0:=by
    rw [← B7v,← List.append_nil (List.map _ _),Bxv _ _ _ (fun y hy=>by
     obtain ⟨p,hp,rfl⟩:=List.mem_map.1 hy
     exact hne p hp)]
    rfl
   rw [h0]
   rfl
 case stop =>
  rintro D c pre W hD ⟨k,hk,rfl⟩ ⟨⟨rfl,ini,last,e1,e2,e3,hcr⟩,hB⟩ hK
  gi_wp2
  refine ⟨by simp,.inl ⟨_,_,rfl,run_takeDeferred hK,?_⟩⟩
  have hc5:=cell_kept hcr (grownBy_putObj' _ D (.deferred none)) (fun r e=>by cases e;exact ⟨_,hK,rfl⟩)
  obtain ⟨k',rfl⟩:∃ k',k=k'+1:=by
   cases k with
   | zero=>simp [upto] at e1
   | succ k'=>exact ⟨k',rfl⟩
  rw [upto_succ] at e1
  obtain ⟨rfl,e5⟩:=List.append_inj' e1 rfl
  obtain rfl:dn zs k'=last:=by simpa using e5
  refine ⟨.int .i64 (wrap64 (((dn zs k').1:Int)+1)),?_,?_,hB.trans (belowK_b (w:=w) (Nat.le_refl _) W D _ _ (by simp at hD;omega) hK rfl rfl)⟩
  ·simp [results,Tryz.f108,go_sem,hc5]
  ·have hk':k' < zs.length:=by omega
   have hl:At7 zs.reverse name=zs.length - 1 - k'+1:=by
    have hd:zs.reverse=zs.reverse.take k'++zs.reverse.drop k':=(List.take_append_drop _ _).symm
    rw [hd,Bxv _ _ _ (fun y hy=>by
     rw [← Cre zs k' (by omega)] at hy
     obtain ⟨p,hp,rfl⟩:=List.mem_map.1 hy
     exact e2 p hp)]
    have hk2:k' < zs.reverse.length:=by rw [List.length_reverse];exact hk'
    rw [List.drop_eq_getElem_cons hk2,At7,if_pos]
    ·rw [Afe,List.length_reverse];omega
    ·rw [List.getElem_reverse]
     have:(dn zs k').2=zs[zs.length - 1 - k']:=by
      simp only [dn]
      rw [List.getElem?_eq_getElem (by omega)]
      rfl
     rw [← this]
     exact e3
   rw [hl]
   congr 2
   simp only [dn,wrap64]
   omega
end Bw
theorem B72:∀ l:List ByteArray,l.flatMap encS=l.map Value.string
 | []=>rfl
 | x :: t=>by rw [List.flatMap_cons,List.map_cons,B72 t];rfl
theorem A3y.ok {k b0 c_:Nat} {Aal:TyC} {a1:ByteArray} {Aay Aaz Aa0 Ah2 Akm Ac5 Ajb Aa3 Ac7 Ada Acn:Value} {H_:Aaa} {A_:TyO} {r:Int} (h:A3y.f k Aal a1=some r) (R_:RdT encS 1 H_ (slW A_ Aal c_) Aal):
  Ct Tryz.prog 108 #[.pointer (some ⟨b0,0,none⟩),.string a1] [blk b0 (.cells #[Aay,Aaz,Aa0,Ah2,Akm,Ac5,Ajb,Aa3,Ac7,Ada,slW A_ Aal c_,Acn] 66 (0,0))] [H_]
   (fun e l1=>e=.returned (.int .i64 r)∧l1=[blk b0 (.cells #[Aay,Aaz,Aa0,Ah2,Akm,Ac5,Ajb,Aa3,Ac7,Ada,slW A_ Aal c_,Acn] 66 (0,0))]):=by
 cases h
 intro A w X hh hw
 have hb:=hw.sat.on _ (Af5 ..) b0 _ (if_pos rfl)
 have hH:=hw.sat.on H_ (Ahb _ hh.1)
 have hlt:b0 < w.heap.size:=(Array.getElem?_eq_some_iff.1 hb).1
 have hI:Bw.Strs w.heap.size w (slW A_ Aal c_) Aal∧Aal.length≤9223372036854775807:=by
  obtain ⟨h1,h2,h3⟩:=R_
  rcases h3 with ⟨h3,h4⟩ | ⟨b,off,cap,cur,T,z,h3,h4,h5,h6,h7⟩
  ·refine ⟨.inl ⟨h3,List.eq_nil_of_length_eq_zero h4⟩,by rw [h4];decide⟩
  ·have hm:maxLen=9223372036854775807:=by decide
   have hg:=hH b _ h4
   refine ⟨.inr ⟨b,off,cap,h3,(Array.getElem?_eq_some_iff.1 hg).1,fun j hj=>?_⟩,by omega⟩
   have h8:=h7 j (.string (Aal[j]?.getD ⟨#[]⟩)) (by
    rw [B72,List.getElem?_map,List.getElem?_eq_getElem hj]
    rfl)
   simp [World.cell?,hg,h8]
 refine (callsIn_wide (n:=3)).1 ((Bw.C67 Fence.wide 3 trivial trivial trivial rfl (Nat.le_refl _) b0 a1 A_ c_ Aal hI.2 w hlt (by simp [World.cell?,hb]) hI.1).mono ?_)
 rintro e w' ⟨rfl,h2⟩
 exact ⟨_,⟨rfl,rfl⟩,hw.below h2⟩
end
section
open Go Go.RowKit
def B5s (b:Nat) (v:Value):Prop:=v=.pointer none∨v=.pointer (some ⟨b,0,none⟩)
def rAt (s:ByteArray) (pos:Nat):Int:=(Utf8.decode s pos).1
def rNx (s:ByteArray) (pos:Nat):Nat:=pos+(Utf8.decode s pos).2
section
variable {A:World} {ds:List Deferred} {n0:Nat} {env env':Env} {l l' X:List Aaa} {q:Act→World→Prop} {P:Program} {Q:Exit→Act→World→Prop} {ops:Array Oper} {os rest:List Oper} {o:Oper}
theorem St.iter {w:World} {b:Nat} {s:ByteArray} {pos:Nat} (h:St A (blk b (.stringIter s pos) :: l) w) (pos':Nat):St A (blk b (.stringIter s pos') :: l) (w.iterAt b s pos'):=by
 have hb:w.heap[b]? = some (.stringIter s pos):=h.sat.1 b _ (by simp [blk])
 refine ⟨⟨fun k o hk=>?_,fun f hf k=>?_,h.sat.2.2.keep fun f hf k o hk=>?_⟩,h.os,h.tape,h.output,by rw [Lib.iterAt_size];exact h.size⟩
 ·unfold blk at hk
  split at hk
  ·rename_i e;subst e;cases hk;exact Lib.iterAt_heap w k s pos pos' hb
  ·cases hk
 ·rcases h.sat.2.1 f hf k with h' | h'
  ·unfold blk at h' ⊢
   split at h'
   ·cases h'
   ·rename_i e';rw [if_neg e'];exact .inl rfl
  ·exact .inr h'
 ·refine Lib.iterAt_other w b k s pos' fun e'=>?_
  subst e'
  rcases h.sat.2.1 f hf k with h' | h'
  ·simp [blk] at h'
  ·rw [h'] at hk;cases hk
theorem C5e {s:ByteArray} {t:TypeId} {x:Operand} (ho:o.op=.range t x) (hg:Afh ops env o=some true) (hd:inB n0 o.dst=true) (hx:Aeb env x=some (.string s)) (ht:P.underlying t=some .string)
  (h:∀ b,K ds A n0 (Acz env o.dst (.pointer (some ⟨b,0,none⟩))) (blk b (.stringIter s 0) :: l) (wpList P ops Q rest)):K ds A n0 env l (wpList P ops Q (o :: rest)) :=
 Ami hg fun a w ha hw=>by
  unfold Oper.wp execOp
  simp only [ho,ha.eval hx,Sem.run_bind,run_range_string w t s ht,Result.andThen_ok,Sem.run_pure]
  exact h _ _ _ (ha.Acz _ hd) (hw.new _)
theorem C5c {b:Nat} {s:ByteArray} {pos:Nat} {x:Operand} (hlt:decide (pos < s.size)=true) (ho:o.op=.next x true) (hg:Afh ops env o=some true) (hd:inB n0 o.dst=true) (hx:Aeb env x=some (.pointer (some ⟨b,0,none⟩)))
  (h:K ds A n0 (Acz env o.dst (.tuple #[.bool true,.int .i64 (pos:Nat),.int .i32 (rAt s pos)])) (blk b (.stringIter s (rNx s pos)) :: l) (wpList P ops Q rest)):K ds A n0 env (blk b (.stringIter s pos) :: l) (wpList P ops Q (o :: rest)) :=
 Ami hg fun a w ha hw=>by
  have hb:w.heap[b]? = some (.stringIter s pos):=hw.sat.1 b _ (by simp [blk])
  unfold Oper.wp execOp
  simp only [ho,ha.eval hx,Sem.run_bind,Lib.run_next_any_at w b s pos _ hb (of_decide_eq_true hlt),Result.andThen_ok,Sem.run_pure]
  exact h _ _ (ha.Acz _ hd) (hw.iter _)
theorem C5b {b:Nat} {s:ByteArray} {pos:Nat} {x:Operand} (hlt:decide (pos < s.size)=false) (ho:o.op=.next x true) (hg:Afh ops env o=some true) (hd:inB n0 o.dst=true) (hx:Aeb env x=some (.pointer (some ⟨b,0,none⟩)))
  (h:K ds A n0 (Acz env o.dst (.tuple #[.bool false])) (blk b (.stringIter s pos) :: l) (wpList P ops Q rest)):K ds A n0 env (blk b (.stringIter s pos) :: l) (wpList P ops Q (o :: rest)) :=
 Ami hg fun a w ha hw=>by
  have hb:w.heap[b]? = some (.stringIter s pos):=hw.sat.1 b _ (by simp [blk])
  unfold Oper.wp execOp
  simp only [ho,ha.eval hx,Sem.run_bind,Lib.run_next_end_at w b s pos _ hb (of_decide_eq_false hlt),Result.andThen_ok,Sem.run_pure]
  exact h _ _ (ha.Acz _ hd) hw
theorem St.freeze {w:World} {g:Nat} {o:Obj} (h:St A (blk g o :: l) w) (n:Nat):St A l (w.freeze ⟨g,0,none⟩ n):=by
 have hks:∀ f ∈ l,∀ k o',f k=some o'→(w.freeze ⟨g,0,none⟩ n).heap[k]? = w.heap[k]?:=fun f hf k o' hk=>by
  have hne:k≠g:=fun e=>by
   subst e
   rcases h.sat.2.1 f hf k with h' | h'
   ·simp [blk] at h'
   ·rw [h'] at hk;cases hk
  unfold World.freeze
  split
  ·rfl
  ·simp only [Array.getElem?_modify]
   rw [if_neg (fun e=>hne e.symm)]
 have hsz:(w.freeze ⟨g,0,none⟩ n).heap.size=w.heap.size:=by unfold World.freeze;split <;> simp
 have ho:(w.freeze ⟨g,0,none⟩ n).os=w.os∧(w.freeze ⟨g,0,none⟩ n).tape=w.tape∧(w.freeze ⟨g,0,none⟩ n).output=w.output:=by unfold World.freeze;split <;> exact ⟨rfl,rfl,rfl⟩
 exact ⟨h.sat.2.2.keep hks,ho.1.trans h.os,ho.2.1.trans h.tape,ho.2.2.trans h.output,by rw [hsz];exact h.size⟩
end
def Ccm (T:Nat):Prop:=liesAt Tryz.prog Tryz.prog.depth T (2 / Tryz.prog.cellsOf T) 0 139 1=true
theorem Ckr:(Tryz.prog.info? 139).map (·.size)=some 2:=by kernel_rfl
set_option maxHeartbeats 1000000 in
theorem Cqj (b:Nat) (w:World) (h0:w.cell? ⟨b,0,none⟩=some (.pointer (some ⟨b,0,none⟩))) :
  Calls Tryz.prog 124 #[.pointer (some ⟨b,0,none⟩)] w fun e w'=>e=.returned (.tuple #[])∧w=w':=by
 obtain ⟨j,hj,_⟩:=Option.map_eq_some_iff.1 Ckr
 go_enter Tryz.func124,Tryz.ntmps124
 go_wp2
 rw [Lib.run_neq_ptr_same w _ Tryz.underlying136 hj]
 go_wp2
 go_end0
 exact ⟨rfl,rfl⟩
set_option maxHeartbeats 1000000 in
theorem Cqi (b T:Nat) (w:World) (hT:Ccm T) (h0:w.cell? ⟨b,0,none⟩=some (.pointer none)) (hsh:w.shape? b=some (T,2)) (hfz:w.frozen? ⟨b,0,none⟩=false) :
  Calls Tryz.prog 124 #[.pointer (some ⟨b,0,none⟩)] w fun e w'=>e=.returned (.tuple #[])∧w.setCell ⟨b,0,none⟩ (.pointer (some ⟨b,0,none⟩))=w':=by
 obtain ⟨j,hj,hjs⟩:=Option.map_eq_some_iff.1 Ckr
 have hlies:liesAt Tryz.prog Tryz.prog.depth T (2 / Tryz.prog.cellsOf T) 0 139 1=true:=hT
 clear hT
 go_enter Tryz.func124,Tryz.ntmps124
 go_wp2
 rw [Lib.run_to_unsafe w ⟨b,0,none⟩ Tryz.underlying136 Tryz.underlying178 hj (by rw [hjs];decide) hsh (Nat.zero_lt_succ 1)]
 simp only [Result.andThen]
 rw [Oper.upon_value]
 go_wp2
 rw [run_callFunc_extern Tryz.func133 (by kernel_rfl) (by kernel_rfl) (by kernel_rfl) (e:=Extern.AbiNoEscape.same) (by kernel_rfl)]
 rw [Lib.run_noEscape]
 simp only [Result.andThen]
 rw [Oper.upon_value]
 go_wp2
 rw [Lib.run_from_unsafe w ⟨b,0,none⟩ Tryz.underlying178 Tryz.underlying136 hj hsh hlies]
 simp only [Result.andThen]
 rw [Oper.upon_value]
 go_wp2
 go_end0
 exact ⟨rfl,rfl⟩
def Cld.f (_k:Nat) (_l:List Int):Option Unit:=some ()
theorem Cld.ok {k b0 T0 c:Nat} {l:List Int} {v:Value} {H:Aaa} {A':TyO} {r:Unit} (_h:Cld.f k l=some r) (hT:Ccm T0) (hv:B5s b0 v) (_hR:RdT (encI .u8) 1 H (.slice A' l.length c) l):
  Ct Tryz.prog 124 #[.pointer (some ⟨b0,0,none⟩)] [blk b0 (.cells #[v,.slice A' l.length c] T0 (0,0))] [H] fun e l1=>∃ W0_:Value,B5s b0 W0_∧e=.returned (.tuple #[])∧l1=[blk b0 (.cells #[W0_,.slice A' l.length c] T0 (0,0))]:=by
 intro A w X _ hw
 have hw':St A (blk b0 (.cells #[v,.slice A' l.length c] T0 (0,0)) :: X) w:=hw
 have hc:=hw'.sat.cell (Af5 ..) 0
 have hf:=hw'.sat.free (Af5 ..) 0
 have hb:w.heap[b0]? = some (.cells #[v,.slice A' l.length c] T0 (0,0)):=hw'.sat.1 b0 _ (by simp [blk])
 rcases hv with rfl | rfl
 ·refine (Cqi b0 T0 w hT hc (by simp [World.shape?,hb]) hf).mono ?_
  rintro e w2 ⟨rfl,rfl⟩
  exact ⟨_,⟨_,.inr rfl,rfl,rfl⟩,hw'.set 0 _⟩
 ·refine (Cqj b0 w hc).mono ?_
  rintro e w2 ⟨rfl,rfl⟩
  exact ⟨_,⟨_,.inr rfl,rfl,rfl⟩,hw'⟩
def Atd.l0:Nat→(a0:ByteArray)→(a1:Int)→(J5:Int→Int→Option (Int×Int×Int))→(x7:Int)→(x8:Int)→(p9:Nat)→Option (Int×Int×Int)
 | 0,_,_,_,_,_,_=>none
 | m10+1,a0,a1,J5,x7,x8,p9=>cond (decide (p9 < ByteArray.size a0)) (cond (decide (((p9:Nat):Int) ≥ a1)) (J5 x7 x8) (cond ((rAt a0 p9) == 10) (Atd.l0 m10 a0 a1 J5 (IntKind.i64.wrap (x7+1)) 1 (rNx a0 p9)) (Atd.l0 m10 a0 a1 J5 x7 (IntKind.i64.wrap (x8+1)) (rNx a0 p9)))) (J5 x7 x8)
def Atd.f (k:Nat) (a0:ByteArray) (a1:Int):Option (Int×Int×Int):=(cond (decide (a1 < 0)) (some true) (some (decide (a1 > (a0.size:Int)))):Option Bool).bind fun q1=>cond q1 (some (0,0,1)) (Adj (fun (x3:Int) (x4:Int)=>some (x3,x4,0)) (fun J5=>Atd.l0 k a0 a1 J5 1 1 0))
theorem Atd.ok {k:Nat} {a0:ByteArray} {a1:Int} {r:Int×Int×Int} (h:Atd.f k a0 a1=some r): Ct Tryz.prog 46 #[sv a0,iv a1] [] [] (fun e l1=>e=.returned (.tuple #[iv r.1,iv r.2.1,iv r.2.2])∧l1=[]):=by
 refine Afi (args:=[sv a0,iv a1]) Tryz.func46 rfl (Ac0 rfl) ?_
 intro A X hh_
 unfold Atd.f at h
 refine ksr (kx 3 (knt (Acx (bnd h fun q1 hq1 h=>?_))))
 refine Ak3 [(0,sv a0),(1,iv a1),(18,bv q1)] (X) ?_ ?_
 ·clear hq1
  refine kcn h (fun h=>?_) fun h=>?_
  ·refine ksr (kx 3 (knt (Aem (Afx ?_))))
   obtain rfl:=Aam h
   exact kdn rfl
  ·refine Adl (Abi (ksr (kx 2 (knt ?_))))
   obtain ⟨J5,hJ5,h⟩:=Ags h
   refine Agt (τ:=Int×Int) (fun t=>[(7,iv t.1),(8,iv t.2)]) (fun t=>X) (fun t=>J5 t.1 t.2=some r) ?_ ?_
   ·rintro ⟨x3,x4⟩ h
    subst hJ5
    refine ksr (kx 5 (knt (Aem ?_)))
    obtain rfl:=Aam h
    exact kdn rfl
   ·skip
    refine ksr (kx 1 (C5e (s:=a0) rfl (by kernel_rfl) (by kernel_rfl) (by kernel_rfl) (by kernel_rfl) fun b6=>(knt (Aez (Akb (τ:=Int×Int×Nat) (fun t=>[(1,iv a1),(7,iv t.1),(8,iv t.2.1),(20,pt b6)]) (fun t=>blk b6 (.stringIter a0 t.2.2) :: X) (fun m t=>Atd.l0 m a0 a1 J5 t.1 t.2.1 t.2.2=some r) k (1,1,0) h sb rfl ?_)))))
    clear h
    rintro m10 ⟨x7,x8,p9⟩ h
    cases m10 with
    | zero=>simp [Atd.l0] at h
    | succ m10 =>
     simp only [Atd.l0] at h
     refine ksr ?_
     rcases Bool.eq_false_or_eq_true (decide (p9 < ByteArray.size a0)) with t11 | t11
     ·have h:=Cqt h t11
      refine C5c t11 rfl (by kernel_rfl) (by kernel_rfl) (by kernel_rfl) (kx 1 (knt (Acx (Bmo (by kernel_rfl) (Adl (Abi (Aez (ksr (kx 4 (knt ?_))))))))))
      refine Acx (ksr (kx 3 (knt ?_)))
      refine kcn h (fun h=>?_) fun h=>?_
      ·exact Aj9 (Agh (Bmu rfl (Agh (Aka (Abi (K.drop (Ac1 (x7,x8) h sb rfl)))))))
      ·refine Adl (Abi (ksr (kx 3 (Abz (kx 2 (knt ?_))))))
       refine kcn h (fun h=>?_) fun h=>?_
       ·exact Ab6 (kx 4 (knl (Ade (Abi (Ai4 m10 (IntKind.i64.wrap (x7+1),1,(rNx a0 p9)) (Nat.lt_succ_self _) h sb rfl)))))
       ·exact Adl (Ade (Abi (Ai4 m10 (x7,IntKind.i64.wrap (x8+1),(rNx a0 p9)) (Nat.lt_succ_self _) h sb rfl)))
     ·have h:=Cqs h t11
      refine C5b t11 rfl (by kernel_rfl) (by kernel_rfl) (by kernel_rfl) (kx 1 (knt (Acx (Bmm (by kernel_rfl) (Aj9 (Agh (Agh (Aka (Abi (K.drop ?_))))))))))
      exact Ac1 (x7,x8) h sb rfl
 ·have h:=hq1
  clear hq1
  refine Ab6 (kx 3 ?_)
  refine kcs 13 h (fun h=>?_) fun h=>?_
  ·exact kx 5 (knt (Afa ⟨gr,gr,gb (Aam h),trivial⟩))
  ·exact kx 5 (knt (Afa ⟨gr,gr,gb (Aam h),trivial⟩))
def Awi.f (k:Nat) (Aac:Int) (A0l:TyA) (Afm:Int):Option (Int×TyA×Int):=cond (decide (Aac > 0)) ((Adi.f k A0l 28 ([Aac,Afm])).bind fun r3=>some (0,r3.2,IntKind.i64.wrap (Afm+Aac))) (some (Aac,A0l,Afm))
theorem Awi.ok {k b0 b1_ Azh Beq b2_:Nat} {Aac Afm:Int} {A0l:TyA} {Bjd Bjg Bjl Bjn Bjo Bjq Bjr Bjs Bjt Bjj Bjk:Value} {Beb:Aaa} {Bd7:TyO} {r:Int×TyA×Int} (h:Awi.f k Aac A0l Afm=some r) (B5p:Aaf e48 48 4 Beb (slW Bd7 A0l Beq) A0l): Ct Tryz.prog 127 #[pt b0,pt b1_,pt b2_] [bk b0 #[iv Aac] 3,bk b1_ #[pt Azh] 61,bk Azh #[Bjd,Bjg,Bjl,Bjn,slW Bd7 A0l Beq,Bjo,Bjq,Bjr,Bjs,Bjt,Bjj,Bjk] 66,Beb,bk b2_ #[iv Afm] 3] [] (fun e l1=>∃ (H0_:Aaa) (A0_:TyO) (c0_:Nat),Aaf e48 48 4 H0_ (slW A0_ r.2.1 c0_) r.2.1∧e=.returned (.tuple #[])∧l1=[bk b0 #[iv r.1] 3,bk b1_ #[pt Azh] 61,bk Azh #[Bjd,Bjg,Bjl,Bjn,slW A0_ r.2.1 c0_,Bjo,Bjq,Bjr,Bjs,Bjt,Bjj,Bjk] 66,H0_,bk b2_ #[iv r.2.2] 3]):=by
 refine Afi (args:=[pt b0,pt b1_,pt b2_]) Tryz.func127 rfl (Ac0 rfl) ?_
 intro A X hh_
 unfold Awi.f at h
 refine K.eq (env':=[(0,pt b0),(1,pt b1_),(2,pt b2_)]) (l':=bk b0 #[iv Aac] 3 :: bk b1_ #[pt Azh] 61 :: bk Azh #[Bjd,Bjg,Bjl,Bjn,slW Bd7 A0l Beq,Bjo,Bjq,Bjr,Bjs,Bjt,Bjj,Bjk] 66 :: Beb :: bk b2_ #[iv Afm] 3 :: X) rfl rfl (ksr (kld 0 0 rfl (kx 1 (knt ?_))))
 refine kcn h (fun h=>?_) fun h=>?_
 ·refine ksr (kld 1 0 rfl (kld 0 0 rfl (kld 4 0 rfl (kns #[iv Aac,iv Afm] 3 2 fun b2=>(K.mv4 (K.mv4 (bnd h fun r3 hr3 h=>(kcl (Adi.ok hr3 B5p (Aaf.rd (Aaf.blk 3 (Ai1 .i64) b2 [Aac,Afm] #[iv Aac,iv Afm] 2 (by kernel_rfl) rfl (by decide)))) rfl ⟨(.head _),trivial⟩ ?_))))))))
  rintro _ _ ⟨h4,A5,k6,o7,rfl,rfl⟩
  refine Ach (K.mv2 (K.drop (knr (kld 4 0 rfl (kld 2 0 rfl (kx 1 (K.mv4 (kst 0 1 #[iv (IntKind.i64.wrap (Afm+Aac))] (K.mv3 (kst 0 1 #[iv 0] ?_))))))))))
  refine knl (Afg ?_)
  obtain rfl:=Aam h
  exact kdv (.tuple #[]) [bk b0 #[iv 0] 3,bk b1_ #[pt Azh] 61,bk Azh #[Bjd,Bjg,Bjl,Bjn,slW A5 r3.2 k6,Bjo,Bjq,Bjr,Bjs,Bjt,Bjj,Bjk] 66,h4,bk b2_ #[iv (IntKind.i64.wrap (Afm+Aac))] 3] (K.mv1 (K.mv3 (K.mv3 (K.mv4 (K.mv4 (Adq ⟨h4,A5,k6,o7,rfl,rfl⟩))))))
 ·refine Adl (Afg ?_)
  obtain rfl:=Aam h
  exact kdv (.tuple #[]) [bk b0 #[iv Aac] 3,bk b1_ #[pt Azh] 61,bk Azh #[Bjd,Bjg,Bjl,Bjn,slW Bd7 A0l Beq,Bjo,Bjq,Bjr,Bjs,Bjt,Bjj,Bjk] 66,Beb,bk b2_ #[iv Afm] 3] (Adq ⟨Beb,Bd7,Beq,B5p,rfl,rfl⟩)
def Bav.f (k:Nat) (Aop:List (Int×Int×Int×Int)) (Aan:Int):Option (List (Int×Int×Int×Int)):=(Adi.f k Aop 18 ([Aan])).bind fun r2=>some (r2.2)
theorem Bav.ok {k b0 Am0 Axt b1_:Nat} {Aop r:TyA} {Aan:Int} {Aul Aun Aus Aut Auu Auv Auw Auy Au0 Auo Aup:Value} {Axg:Aaa} {Aw6:TyO} (h:Bav.f k Aop Aan=some r) (Bec:Aaf e48 48 4 Axg (slW Aw6 Aop Axt) Aop): Ct Tryz.prog 79 #[pt b0,pt b1_] [bk b0 #[pt Am0] 61,bk Am0 #[Aul,Aun,Aus,Aut,slW Aw6 Aop Axt,Auu,Auv,Auw,Auy,Au0,Auo,Aup] 66,Axg,bk b1_ #[iv Aan] 3] [] (fun e l1=>∃ (H0_:Aaa) (A0_:TyO) (c0_:Nat),Aaf e48 48 4 H0_ (slW A0_ r c0_) r∧e=.returned (.tuple #[])∧l1=[bk b0 #[pt Am0] 61,bk Am0 #[Aul,Aun,Aus,Aut,slW A0_ r c0_,Auu,Auv,Auw,Auy,Au0,Auo,Aup] 66,H0_,bk b1_ #[iv Aan] 3]):=by
 refine Afi (args:=[pt b0,pt b1_]) Tryz.func79 rfl (Ac0 rfl) ?_
 intro A X hh_
 unfold Bav.f at h
 refine K.eq (env':=[(0,pt b0),(1,pt b1_)]) (l':=bk b0 #[pt Am0] 61 :: bk Am0 #[Aul,Aun,Aus,Aut,slW Aw6 Aop Axt,Auu,Auv,Auw,Auy,Au0,Auo,Aup] 66 :: Axg :: bk b1_ #[iv Aan] 3 :: X) rfl rfl (Ab6 (kld 0 0 rfl (kld 3 0 rfl (kns #[iv Aan] 3 1 fun b1=>(K.mv3 (K.mv3 (bnd h fun r2 hr2 h=>(kcl (Adi.ok hr2 Bec (Aaf.rd (Aaf.blk 3 (Ai1 .i64) b1 [Aan] #[iv Aan] 1 (by kernel_rfl) rfl (by decide)))) rfl ⟨(.head _),trivial⟩ ?_))))))))
 rintro _ _ ⟨h3,A4,k5,o6,rfl,rfl⟩
 refine Ach (K.mv2 (K.drop (knl (Afg ?_))))
 obtain rfl:=Aam h
 exact kdv (.tuple #[]) [bk b0 #[pt Am0] 61,bk Am0 #[Aul,Aun,Aus,Aut,slW A4 r2.2 k5,Auu,Auv,Auw,Auy,Au0,Auo,Aup] 66,h3,bk b1_ #[iv Aan] 3] (K.mv3 (K.mv2 (K.mv2 (K.mv3 (Adq ⟨h3,A4,k5,o6,rfl,rfl⟩)))))
def Bax.f (k:Nat) (Aop:List (Int×Int×Int×Int)) (Aan:Int) (Afm:Int):Option (List (Int×Int×Int×Int)):=(Adi.f k Aop 31 ([Aan,IntKind.i64.wrap (Afm+1)])).bind fun r2=>some (r2.2)
theorem Bax.ok {k b0 Am0 Axt b1_ b2_:Nat} {Aop r:TyA} {Aan Afm:Int} {Aul Aun Aus Aut Auu Auv Auw Auy Au0 Auo Aup:Value} {Axg:Aaa} {Aw6:TyO} (h:Bax.f k Aop Aan Afm=some r) (Bec:Aaf e48 48 4 Axg (slW Aw6 Aop Axt) Aop): Ct Tryz.prog 82 #[pt b0,pt b1_,pt b2_] [bk b0 #[pt Am0] 61,bk Am0 #[Aul,Aun,Aus,Aut,slW Aw6 Aop Axt,Auu,Auv,Auw,Auy,Au0,Auo,Aup] 66,Axg,bk b1_ #[iv Aan] 3,bk b2_ #[iv Afm] 3] [] (fun e l1=>∃ (H0_:Aaa) (A0_:TyO) (c0_:Nat),Aaf e48 48 4 H0_ (slW A0_ r c0_) r∧e=.returned (.tuple #[])∧l1=[bk b0 #[pt Am0] 61,bk Am0 #[Aul,Aun,Aus,Aut,slW A0_ r c0_,Auu,Auv,Auw,Auy,Au0,Auo,Aup] 66,H0_,bk b1_ #[iv Aan] 3,bk b2_ #[iv Afm] 3]):=by
 refine Afi (args:=[pt b0,pt b1_,pt b2_]) Tryz.func82 rfl (Ac0 rfl) ?_
 intro A X hh_
 unfold Bax.f at h
 refine K.eq (env':=[(0,pt b0),(1,pt b1_),(2,pt b2_)]) (l':=bk b0 #[pt Am0] 61 :: bk Am0 #[Aul,Aun,Aus,Aut,slW Aw6 Aop Axt,Auu,Auv,Auw,Auy,Au0,Auo,Aup] 66 :: Axg :: bk b1_ #[iv Aan] 3 :: bk b2_ #[iv Afm] 3 :: X) rfl rfl (Ab6 (kld 0 0 rfl (kld 3 0 rfl (kld 4 0 rfl (kx 1 (kns #[iv Aan,iv (IntKind.i64.wrap (Afm+1))] 3 2 fun b1=>(K.mv3 (K.mv3 (bnd h fun r2 hr2 h=>(kcl (Adi.ok hr2 Bec (Aaf.rd (Aaf.blk 3 (Ai1 .i64) b1 [Aan,IntKind.i64.wrap (Afm+1)] #[iv Aan,iv (IntKind.i64.wrap (Afm+1))] 2 (by kernel_rfl) rfl (by decide)))) rfl ⟨(.head _),trivial⟩ ?_))))))))))
 rintro _ _ ⟨h3,A4,k5,o6,rfl,rfl⟩
 refine Ach (K.mv2 (K.drop (knl (Afg ?_))))
 obtain rfl:=Aam h
 exact kdv (.tuple #[]) [bk b0 #[pt Am0] 61,bk Am0 #[Aul,Aun,Aus,Aut,slW A4 r2.2 k5,Auu,Auv,Auw,Auy,Au0,Auo,Aup] 66,h3,bk b1_ #[iv Aan] 3,bk b2_ #[iv Afm] 3] (K.mv4 (K.mv4 (K.mv3 (K.mv3 (K.mv4 (Adq ⟨h3,A4,k5,o6,rfl,rfl⟩))))))
def Bat.f (k:Nat) (Aop:List (Int×Int×Int×Int)) (Aan:Int):Option (List (Int×Int×Int×Int)):=(Adi.f k Aop 18 ([Aan])).bind fun r2=>some (r2.2)
theorem Bat.ok {k b0 Am0 Axt b1_:Nat} {Aop r:TyA} {Aan:Int} {Aul Aun Aus Aut Auu Auv Auw Auy Au0 Auo Aup:Value} {Axg:Aaa} {Aw6:TyO} (h:Bat.f k Aop Aan=some r) (Bec:Aaf e48 48 4 Axg (slW Aw6 Aop Axt) Aop): Ct Tryz.prog 112 #[pt b0,pt b1_] [bk b0 #[pt Am0] 61,bk Am0 #[Aul,Aun,Aus,Aut,slW Aw6 Aop Axt,Auu,Auv,Auw,Auy,Au0,Auo,Aup] 66,Axg,bk b1_ #[iv Aan] 3] [] (fun e l1=>∃ (H0_:Aaa) (A0_:TyO) (c0_:Nat),Aaf e48 48 4 H0_ (slW A0_ r c0_) r∧e=.returned (.tuple #[])∧l1=[bk b0 #[pt Am0] 61,bk Am0 #[Aul,Aun,Aus,Aut,slW A0_ r c0_,Auu,Auv,Auw,Auy,Au0,Auo,Aup] 66,H0_,bk b1_ #[iv Aan] 3]):=by
 refine Afi (args:=[pt b0,pt b1_]) Tryz.func112 rfl (Ac0 rfl) ?_
 intro A X hh_
 unfold Bat.f at h
 refine K.eq (env':=[(0,pt b0),(1,pt b1_)]) (l':=bk b0 #[pt Am0] 61 :: bk Am0 #[Aul,Aun,Aus,Aut,slW Aw6 Aop Axt,Auu,Auv,Auw,Auy,Au0,Auo,Aup] 66 :: Axg :: bk b1_ #[iv Aan] 3 :: X) rfl rfl (Ab6 (kld 0 0 rfl (kld 3 0 rfl (kns #[iv Aan] 3 1 fun b1=>(K.mv3 (K.mv3 (bnd h fun r2 hr2 h=>(kcl (Adi.ok hr2 Bec (Aaf.rd (Aaf.blk 3 (Ai1 .i64) b1 [Aan] #[iv Aan] 1 (by kernel_rfl) rfl (by decide)))) rfl ⟨(.head _),trivial⟩ ?_))))))))
 rintro _ _ ⟨h3,A4,k5,o6,rfl,rfl⟩
 refine Ach (K.mv2 (K.drop (knl (Afg ?_))))
 obtain rfl:=Aam h
 exact kdv (.tuple #[]) [bk b0 #[pt Am0] 61,bk Am0 #[Aul,Aun,Aus,Aut,slW A4 r2.2 k5,Auu,Auv,Auw,Auy,Au0,Auo,Aup] 66,h3,bk b1_ #[iv Aan] 3] (K.mv3 (K.mv2 (K.mv2 (K.mv3 (Adq ⟨h3,A4,k5,o6,rfl,rfl⟩)))))
structure GE where
 Ag4:List (Int×Int×ByteArray)→List (Int×Int×Int×Int)→List ByteArray→List ByteArray→Int→ByteArray→Int→Int→List Tree→Option (List (Int×Int×Int×Int))
 Ah3:List (Int×Int×ByteArray)→List (Int×Int×Int×Int)→List ByteArray→List ByteArray→List Tree→Option (List (Int×Int×Int×Int))
 Amb:List (Int×Int×ByteArray)→List (Int×Int×Int×Int)→List ByteArray→List ByteArray→List Tree→Option (List (Int×Int×Int×Int))
 Ako:List (Int×Int×ByteArray)→List (Int×Int×Int×Int)→List ByteArray→List ByteArray→Int→ByteArray→Int→Int→List Tree→Int→Option (List (Int×Int×Int×Int))
 Aqs:List (Int×Int×ByteArray)→List (Int×Int×Int×Int)→List ByteArray→List ByteArray→Int→ByteArray→Int→Int→List Tree→Option (List (Int×Int×Int×Int))
 Amc:List (Int×Int×ByteArray)→List (Int×Int×Int×Int)→List ByteArray→List ByteArray→List Tree→Option (List (Int×Int×Int×Int))
def Ag4.C (fC:TyB→TyA→TyC→TyC→Int→ByteArray→Int→Int→List Tree→Option TyA):Prop:=∀ {Aae:TyB} {Aax r:TyA} {Aah Aal:TyC} {Aan Aao Aa5:Int} {Aar:ByteArray} {Aag:List Tree} {b0 Abb Ac3 Aa8 Abp Abx:Nat} {Aay Aaz Aa0 Ac5 Aa3 Ac7 Ada Acn:Value} {Afz Adk Afk Adz Ae4 G:Aaa} {Aa9 Ac2 Aa7 Abn Abu:TyO} (h:fC Aae Aax Aah Aal Aan Aar Aao Aa5 Aag=some r) (Afd:RdT e78 3 Afz (slW Aa9 Aae Abb) Aae) (Aeo:Aaf e48 48 4 Adk (slW Ac2 Aax Ac3) Aax) (Aev:RdT encS 1 Afk (slW Aa7 Aah Aa8) Aah) (Aek:RdT encS 1 Adz (slW Abn Aal Abp) Aal) (Ado:RdR (Abt 54) Ae4 (slW Abu Aag Abx) Aag) (hG:GlP G),Ct Tryz.prog 77 #[pt b0,.agg #[iv Aan,sv Aar,iv Aao,iv Aa5,slW Abu Aag Abx]] [bk b0 #[Aay,Aaz,Aa0,slW Aa9 Aae Abb,slW Ac2 Aax Ac3,Ac5,slW Aa7 Aah Aa8,Aa3,Ac7,Ada,slW Abn Aal Abp,Acn] 66,Adk] [Afz,Afk,Adz,Ae4,G] (fun e l1=>∃ (H0_:Aaa) (A0_:TyO) (c0_:Nat),Aaf e48 48 4 H0_ (slW A0_ r c0_) r∧e=.returned (.tuple #[])∧l1=[bk b0 #[Aay,Aaz,Aa0,slW Aa9 Aae Abb,slW A0_ r c0_,Ac5,slW Aa7 Aah Aa8,Aa3,Ac7,Ada,slW Abn Aal Abp,Acn] 66,H0_])
def Ah3.C (fC:TyB→TyA→TyC→TyC→List Tree→Option TyA):Prop:=∀ {Aae:TyB} {Aax r:TyA} {Aah Aal:TyC} {a1:List Tree} {b0 Abb Ac3 Aa8 Abp Ae6:Nat} {Aay Aaz Aa0 Ac5 Aa3 Ac7 Ada Acn:Value} {Afz Adk Afk Adz Ahz G:Aaa} {Aa9 Ac2 Aa7 Abn Ae2:TyO} (h:fC Aae Aax Aah Aal a1=some r) (Afd:RdT e78 3 Afz (slW Aa9 Aae Abb) Aae) (Aeo:Aaf e48 48 4 Adk (slW Ac2 Aax Ac3) Aax) (Aev:RdT encS 1 Afk (slW Aa7 Aah Aa8) Aah) (Aek:RdT encS 1 Adz (slW Abn Aal Abp) Aal) (Ajh:RdR (Abt 54) Ahz (slW Ae2 a1 Ae6) a1) (hG:GlP G),Ct Tryz.prog 80 #[pt b0,slW Ae2 a1 Ae6] [bk b0 #[Aay,Aaz,Aa0,slW Aa9 Aae Abb,slW Ac2 Aax Ac3,Ac5,slW Aa7 Aah Aa8,Aa3,Ac7,Ada,slW Abn Aal Abp,Acn] 66,Adk] [Afz,Afk,Adz,Ahz,G] (fun e l1=>∃ (H0_:Aaa) (A0_:TyO) (c0_:Nat),Aaf e48 48 4 H0_ (slW A0_ r c0_) r∧e=.returned (.tuple #[])∧l1=[bk b0 #[Aay,Aaz,Aa0,slW Aa9 Aae Abb,slW A0_ r c0_,Ac5,slW Aa7 Aah Aa8,Aa3,Ac7,Ada,slW Abn Aal Abp,Acn] 66,H0_])
def Amb.C (fC:TyB→TyA→TyC→TyC→List Tree→Option TyA):Prop:=∀ {Aae:TyB} {Aax r:TyA} {Aah Aal:TyC} {a1:List Tree} {b0 Abb Ac3 Aa8 Abp Ae6:Nat} {Aay Aaz Aa0 Ac5 Aa3 Ac7 Ada Acn:Value} {Afz Adk Afk Adz Ahz G:Aaa} {Aa9 Ac2 Aa7 Abn Ae2:TyO} (h:fC Aae Aax Aah Aal a1=some r) (Afd:RdT e78 3 Afz (slW Aa9 Aae Abb) Aae) (Aeo:Aaf e48 48 4 Adk (slW Ac2 Aax Ac3) Aax) (Aev:RdT encS 1 Afk (slW Aa7 Aah Aa8) Aah) (Aek:RdT encS 1 Adz (slW Abn Aal Abp) Aal) (Ajh:RdR (Abt 54) Ahz (slW Ae2 a1 Ae6) a1) (hG:GlP G),Ct Tryz.prog 85 #[pt b0,slW Ae2 a1 Ae6] [bk b0 #[Aay,Aaz,Aa0,slW Aa9 Aae Abb,slW Ac2 Aax Ac3,Ac5,slW Aa7 Aah Aa8,Aa3,Ac7,Ada,slW Abn Aal Abp,Acn] 66,Adk] [Afz,Afk,Adz,Ahz,G] (fun e l1=>∃ (H0_:Aaa) (A0_:TyO) (c0_:Nat),Aaf e48 48 4 H0_ (slW A0_ r c0_) r∧e=.returned (.tuple #[])∧l1=[bk b0 #[Aay,Aaz,Aa0,slW Aa9 Aae Abb,slW A0_ r c0_,Ac5,slW Aa7 Aah Aa8,Aa3,Ac7,Ada,slW Abn Aal Abp,Acn] 66,H0_])
def Ako.C (fC:TyB→TyA→TyC→TyC→Int→ByteArray→Int→Int→List Tree→Int→Option TyA):Prop:=∀ {Aae:TyB} {Aax r:TyA} {Aah Aal:TyC} {Aan Aao Aa5 a2:Int} {Aar:ByteArray} {Aag:List Tree} {b0 Abb Ac3 Aa8 Abp Abx:Nat} {Aay Aaz Aa0 Ac5 Aa3 Ac7 Ada Acn:Value} {Afz Adk Afk Adz Ae4 G:Aaa} {Aa9 Ac2 Aa7 Abn Abu:TyO} (h:fC Aae Aax Aah Aal Aan Aar Aao Aa5 Aag a2=some r) (Afd:RdT e78 3 Afz (slW Aa9 Aae Abb) Aae) (Aeo:Aaf e48 48 4 Adk (slW Ac2 Aax Ac3) Aax) (Aev:RdT encS 1 Afk (slW Aa7 Aah Aa8) Aah) (Aek:RdT encS 1 Adz (slW Abn Aal Abp) Aal) (Ado:RdR (Abt 54) Ae4 (slW Abu Aag Abx) Aag) (hG:GlP G),Ct Tryz.prog 74 #[pt b0,.agg #[iv Aan,sv Aar,iv Aao,iv Aa5,slW Abu Aag Abx],iv a2] [bk b0 #[Aay,Aaz,Aa0,slW Aa9 Aae Abb,slW Ac2 Aax Ac3,Ac5,slW Aa7 Aah Aa8,Aa3,Ac7,Ada,slW Abn Aal Abp,Acn] 66,Adk] [Afz,Afk,Adz,Ae4,G] (fun e l1=>∃ (H0_:Aaa) (A0_:TyO) (c0_:Nat),Aaf e48 48 4 H0_ (slW A0_ r c0_) r∧e=.returned (.tuple #[])∧l1=[bk b0 #[Aay,Aaz,Aa0,slW Aa9 Aae Abb,slW A0_ r c0_,Ac5,slW Aa7 Aah Aa8,Aa3,Ac7,Ada,slW Abn Aal Abp,Acn] 66,H0_])
def Aqs.C (fC:TyB→TyA→TyC→TyC→Int→ByteArray→Int→Int→List Tree→Option TyA):Prop:=∀ {Aae:TyB} {Aax r:TyA} {Aah Aal:TyC} {Aan Aao Aa5:Int} {Aar:ByteArray} {Aag:List Tree} {b0 Abb Ac3 Aa8 Abp Abx:Nat} {Aay Aaz Aa0 Ac5 Aa3 Ac7 Ada Acn:Value} {Afz Adk Afk Adz Ae4 G:Aaa} {Aa9 Ac2 Aa7 Abn Abu:TyO} (h:fC Aae Aax Aah Aal Aan Aar Aao Aa5 Aag=some r) (Afd:RdT e78 3 Afz (slW Aa9 Aae Abb) Aae) (Aeo:Aaf e48 48 4 Adk (slW Ac2 Aax Ac3) Aax) (Aev:RdT encS 1 Afk (slW Aa7 Aah Aa8) Aah) (Aek:RdT encS 1 Adz (slW Abn Aal Abp) Aal) (Ado:RdR (Abt 54) Ae4 (slW Abu Aag Abx) Aag) (hG:GlP G),Ct Tryz.prog 110 #[pt b0,.agg #[iv Aan,sv Aar,iv Aao,iv Aa5,slW Abu Aag Abx]] [bk b0 #[Aay,Aaz,Aa0,slW Aa9 Aae Abb,slW Ac2 Aax Ac3,Ac5,slW Aa7 Aah Aa8,Aa3,Ac7,Ada,slW Abn Aal Abp,Acn] 66,Adk] [Afz,Afk,Adz,Ae4,G] (fun e l1=>∃ (H0_:Aaa) (A0_:TyO) (c0_:Nat),Aaf e48 48 4 H0_ (slW A0_ r c0_) r∧e=.returned (.tuple #[])∧l1=[bk b0 #[Aay,Aaz,Aa0,slW Aa9 Aae Abb,slW A0_ r c0_,Ac5,slW Aa7 Aah Aa8,Aa3,Ac7,Ada,slW Abn Aal Abp,Acn] 66,H0_])
def Amc.C (fC:TyB→TyA→TyC→TyC→List Tree→Option TyA):Prop:=∀ {Aae:TyB} {Aax r:TyA} {Aah Aal:TyC} {a1:List Tree} {b0 Abb Ac3 Aa8 Abp Ae6:Nat} {Aay Aaz Aa0 Ac5 Aa3 Ac7 Ada Acn:Value} {Afz Adk Afk Adz Ahz G:Aaa} {Aa9 Ac2 Aa7 Abn Ae2:TyO} (h:fC Aae Aax Aah Aal a1=some r) (Afd:RdT e78 3 Afz (slW Aa9 Aae Abb) Aae) (Aeo:Aaf e48 48 4 Adk (slW Ac2 Aax Ac3) Aax) (Aev:RdT encS 1 Afk (slW Aa7 Aah Aa8) Aah) (Aek:RdT encS 1 Adz (slW Abn Aal Abp) Aal) (Ajh:RdR (Abt 54) Ahz (slW Ae2 a1 Ae6) a1) (hG:GlP G),Ct Tryz.prog 111 #[pt b0,slW Ae2 a1 Ae6] [bk b0 #[Aay,Aaz,Aa0,slW Aa9 Aae Abb,slW Ac2 Aax Ac3,Ac5,slW Aa7 Aah Aa8,Aa3,Ac7,Ada,slW Abn Aal Abp,Acn] 66,Adk] [Afz,Afk,Adz,Ahz,G] (fun e l1=>∃ (H0_:Aaa) (A0_:TyO) (c0_:Nat),Aaf e48 48 4 H0_ (slW A0_ r c0_) r∧e=.returned (.tuple #[])∧l1=[bk b0 #[Aay,Aaz,Aa0,slW Aa9 Aae Abb,slW A0_ r c0_,Ac5,slW Aa7 Aah Aa8,Aa3,Ac7,Ada,slW Abn Aal Abp,Acn] 66,H0_])
structure GE.Good (R:GE):Prop where
 Ag4:Ag4.C R.Ag4
 Ah3:Ah3.C R.Ah3
 Amb:Amb.C R.Amb
 Ako:Ako.C R.Ako
 Aqs:Aqs.C R.Aqs
 Amc:Amc.C R.Amc
def Ag4.g (Rc:GE) (k:Nat) (Aae:TyB) (Aax:TyA) (Aah:TyC) (Aal:TyC) (Aan:Int) (Aar:ByteArray) (Aao:Int) (Aa5:Int) (Aag:List Tree):Option TyA:=cond (Aan == 1) ((Adi.f k Aax 3 ([])).bind fun r3=>some (r3.2)) (cond (Aan == 2) ((Adi.f k Aax 4 ([])).bind fun r9=>some (r9.2)) (cond (Aan == 3) ((Adi.f k Aax 5 ([])).bind fun r15=>some (r15.2)) (cond (Aan == 4) ((Ax2.f k Aae Aax 2 Aao (⟨#[]⟩:ByteArray)).bind fun r21=>some (r21)) (cond (Aan == 5) ((Ax2.f k Aae Aax 3 0 Aar).bind fun r27=>some (r27)) (cond (Aan == 6) ((A3y.f k Aal Aar).bind fun r33=>cond (decide (r33 > 0)) ((Adi.f k Aax 6 ([r33])).bind fun r36=>some (r36.2)) ((Ax4.f k Aah Aar).bind fun r41=>(Adi.f k Aax 8 ([r41])).bind fun r43=>some (r43.2))) (cond (Aan == 7) ((Ack Aag 0).bind fun x49=>(cond (x49.kind == 6) (cond (x49.text.toList == (⟨#[116,97,98,108,101]⟩:ByteArray).toList) (some true) (some (x49.text.toList == (⟨#[117,116,102,56]⟩:ByteArray).toList))) (some false):Option Bool).bind fun q59=>cond q59 ((A2v x49.text (⟨#[46]⟩:ByteArray)).bind fun s61:ByteArray=>(Ack Aag 1).bind fun x62=>(A2v s61 x62.text).bind fun s74:ByteArray=>(A06.f k s74).bind fun r75=>(Adi.f k Aax 10 ([r75])).bind fun r77=>some (r77.2)) ((Rc.Ah3 Aae Aax Aah Aal Aag).bind fun r82=>(Adi.f k r82 12 ([])).bind fun r87=>some (r87.2))) (cond (Aan == 8) ((Rc.Ako Aae Aax Aah Aal Aan Aar Aao Aa5 Aag 1).bind fun r95=>some (r95)) (cond (Aan == 9) ((Ack Aag 0).bind fun x101=>(Rc.Ag4 Aae Aax Aah Aal x101.kind x101.text x101.n x101.at_ x101.kids).bind fun B0n=>some (B0n)) (cond (Aan == 10) ((Ack Aag 0).bind fun Bdk=>(Rc.Ag4 Aae Aax Aah Aal Bdk.kind Bdk.text Bdk.n Bdk.at_ Bdk.kids).bind fun Ci9=>(Akt.f k ([(⟨#[]⟩:ByteArray),(⟨#[110,111,116]⟩:ByteArray),(⟨#[35]⟩:ByteArray),(⟨#[45]⟩:ByteArray)]) Aar).bind fun Bh6=>(Adi.f k Ci9 16 ([Bh6])).bind fun B0r=>some (B0r.2)) (cond (Aan == 11) ((Rc.Aqs Aae Aax Aah Aal Aan Aar Aao Aa5 Aag).bind fun B0s=>some (B0s)) (cond (Aan == 12) ((Rc.Amc Aae Aax Aah Aal Aag).bind fun B0t=>some (B0t)) (some (Aax)))))))))))))
theorem Ag4.okg {Rc:GE} (hR:Rc.Good) {k:Nat}:Ag4.C (Ag4.g Rc k):=by
 intro Aae Aax r Aah Aal Aan Aao Aa5 Aar Aag b0 Abb Ac3 Aa8 Abp Abx Aay Aaz Aa0 Ac5 Aa3 Ac7 Ada Acn Afz Adk Afk Adz Ae4 G Aa9 Ac2 Aa7 Abn Abu h Afd Aeo Aev Aek Ado hG
 refine Afi (args:=[pt b0,.agg #[iv Aan,sv Aar,iv Aao,iv Aa5,slW Abu Aag Abx]]) Tryz.func77 rfl (Ac0 rfl) ?_
 intro A X hh_
 obtain ⟨Agn,Af2,Ak2,Adg,Ad1,_⟩:=hh_
 unfold Ag4.g at h
 refine K.eq (env':=[(0,pt b0),(1,.agg #[iv Aan,sv Aar,iv Aao,iv Aa5,slW Abu Aag Abx])]) (l':=bk b0 #[Aay,Aaz,Aa0,slW Aa9 Aae Abb,slW Ac2 Aax Ac3,Ac5,slW Aa7 Aah Aa8,Aa3,Ac7,Ada,slW Abn Aal Abp,Acn] 66 :: Adk :: X) rfl rfl (ksr (knp #[iv Aan,sv Aar,iv Aao,iv Aa5,slW Abu Aag Abx] 54 fun b1=>(Abz (kx 1 (kld 0 0 rfl (knt (Aez (ksr (kx 2 (knt ?_))))))))))
 refine kcn h (fun h=>?_) fun h=>?_
 ·refine Ab6 (kx 1 (Ag6 (K.mv3 (K.mv3 (bnd h fun r3 hr3 h=>(kcl (Adi.ok hr3 Aeo (RdT.nil (encI .i64) 1 none_)) rfl ⟨(.head _),trivial⟩ ?_))))))
  rintro _ _ ⟨h4,A5,k6,o7,rfl,rfl⟩
  refine Ach (K.mv2 (K.drop (K.mv2 (K.drop (knl (Ade (Afg ?_)))))))
  obtain rfl:=Aam h
  exact kdv (.tuple #[]) [bk b0 #[Aay,Aaz,Aa0,slW Aa9 Aae Abb,slW A5 r3.2 k6,Ac5,slW Aa7 Aah Aa8,Aa3,Ac7,Ada,slW Abn Aal Abp,Acn] 66,h4] (Adq ⟨h4,A5,k6,o7,rfl,rfl⟩)
 ·refine ksr (kx 2 (knt ?_))
  refine kcn h (fun h=>?_) fun h=>?_
  ·refine Ab6 (kx 1 (Ag6 (K.mv3 (K.mv3 (bnd h fun r9 hr9 h=>(kcl (Adi.ok hr9 Aeo (RdT.nil (encI .i64) 1 none_)) rfl ⟨(.head _),trivial⟩ ?_))))))
   rintro _ _ ⟨h10,A11,k12,o13,rfl,rfl⟩
   refine Ach (K.mv2 (K.drop (K.mv2 (K.drop (knl (Ade (Afg ?_)))))))
   obtain rfl:=Aam h
   exact kdv (.tuple #[]) [bk b0 #[Aay,Aaz,Aa0,slW Aa9 Aae Abb,slW A11 r9.2 k12,Ac5,slW Aa7 Aah Aa8,Aa3,Ac7,Ada,slW Abn Aal Abp,Acn] 66,h10] (Adq ⟨h10,A11,k12,o13,rfl,rfl⟩)
  ·refine ksr (kx 2 (knt ?_))
   refine kcn h (fun h=>?_) fun h=>?_
   ·refine Ab6 (kx 1 (Ag6 (K.mv3 (K.mv3 (bnd h fun r15 Ayb h=>(kcl (Adi.ok Ayb Aeo (RdT.nil (encI .i64) 1 none_)) rfl ⟨(.head _),trivial⟩ ?_))))))
    rintro _ _ ⟨h16,A17,k18,o19,rfl,rfl⟩
    refine Ach (K.mv2 (K.drop (K.mv2 (K.drop (knl (Ade (Afg ?_)))))))
    obtain rfl:=Aam h
    exact kdv (.tuple #[]) [bk b0 #[Aay,Aaz,Aa0,slW Aa9 Aae Abb,slW A17 r15.2 k18,Ac5,slW Aa7 Aah Aa8,Aa3,Ac7,Ada,slW Abn Aal Abp,Acn] 66,h16] (Adq ⟨h16,A17,k18,o19,rfl,rfl⟩)
   ·refine ksr (kx 2 (knt ?_))
    refine kcn h (fun h=>?_) fun h=>?_
    ·refine Ab6 (kx 2 (kld 0 2 rfl (K.drop (kx 1 (K.mv1 (K.mv1 (bnd h fun r21 Avx h=>(kcl (Ax2.ok Avx Afd Aeo) rfl ⟨Agn,trivial⟩ ?_))))))))
     rintro _ _ ⟨h22,A23,k24,o25,rfl,rfl⟩
     refine Ach (knl (Ade (Afg ?_)))
     obtain rfl:=Aam h
     exact kdv (.tuple #[]) [bk b0 #[Aay,Aaz,Aa0,slW Aa9 Aae Abb,slW A23 r21 k24,Ac5,slW Aa7 Aah Aa8,Aa3,Ac7,Ada,slW Abn Aal Abp,Acn] 66,h22] (Adq ⟨h22,A23,k24,o25,rfl,rfl⟩)
    ·refine ksr (kx 2 (knt ?_))
     refine kcn h (fun h=>?_) fun h=>?_
     ·refine Ab6 (kx 2 (kld 0 1 rfl (K.drop (kx 1 (K.mv1 (K.mv1 (bnd h fun r27 Avy h=>(kcl (Ax2.ok Avy Afd Aeo) rfl ⟨Agn,trivial⟩ ?_))))))))
      rintro _ _ ⟨h28,A29,k30,o31,rfl,rfl⟩
      refine Ach (knl (Ade (Afg ?_)))
      obtain rfl:=Aam h
      exact kdv (.tuple #[]) [bk b0 #[Aay,Aaz,Aa0,slW Aa9 Aae Abb,slW A29 r27 k30,Ac5,slW Aa7 Aah Aa8,Aa3,Ac7,Ada,slW Abn Aal Abp,Acn] 66,h28] (Adq ⟨h28,A29,k30,o31,rfl,rfl⟩)
     ·refine ksr (kx 2 (knt ?_))
      refine kcn h (fun h=>?_) fun h=>?_
      ·refine ksr (kx 2 (kld 0 1 rfl (K.mv1 (bnd h fun r33 Czx h=>(kc1 (A3y.ok Czx Aek) rfl ⟨(t2 Ak2),trivial⟩ (kx 1 (Abz (kx 2 (knt ?_)))))))))
       refine kcn h (fun h=>?_) fun h=>?_
       ·refine Ab6 (kx 2 (kns #[iv r33] 3 1 fun b35=>(K.mv2 (K.drop (K.mv2 (K.mv2 (bnd h fun r36 Ayc h=>(kcl (Adi.ok Ayc Aeo (Aaf.rd (Aaf.blk 3 (Ai1 .i64) b35 [r33] #[iv r33] 1 (by kernel_rfl) rfl (by decide)))) rfl ⟨(.head _),trivial⟩ ?_))))))))
        rintro _ _ ⟨h37,A38,k39,o40,rfl,rfl⟩
        refine Ach (K.mv2 (K.drop (knl (Ade (Afg ?_)))))
        obtain rfl:=Aam h
        exact kdv (.tuple #[]) [bk b0 #[Aay,Aaz,Aa0,slW Aa9 Aae Abb,slW A38 r36.2 k39,Ac5,slW Aa7 Aah Aa8,Aa3,Ac7,Ada,slW Abn Aal Abp,Acn] 66,h37] (Adq ⟨h37,A38,k39,o40,rfl,rfl⟩)
       ·refine Ab6 (kx 3 (kld 1 1 rfl (K.mv1 (K.drop (bnd h fun r41 A7m h=>(kc1 (Ax4.ok A7m Aev) rfl ⟨(.tail _ Af2),trivial⟩ (kns #[iv r41] 3 1 fun b42=>(K.mv2 (K.mv2 (bnd h fun r43 Bvb h=>?_))))))))))
        refine kcl (Adi.ok Bvb Aeo (Aaf.rd (Aaf.blk 3 (Ai1 .i64) b42 [r41] #[iv r41] 1 (by kernel_rfl) rfl (by decide)))) rfl ⟨(.head _),trivial⟩ ?_
        rintro _ _ ⟨h44,A45,k46,o47,rfl,rfl⟩
        refine Ach (K.mv2 (K.drop (knl (Ade (Afg ?_)))))
        obtain rfl:=Aam h
        exact kdv (.tuple #[]) [bk b0 #[Aay,Aaz,Aa0,slW Aa9 Aae Abb,slW A45 r43.2 k46,Ac5,slW Aa7 Aah Aa8,Aa3,Ac7,Ada,slW Abn Aal Abp,Acn] 66,h44] (Adq ⟨h44,A45,k46,o47,rfl,rfl⟩)
      ·refine ksr (kx 2 (knt ?_))
       refine kcn h (fun h=>?_) fun h=>?_
       ·refine Acx (ksr (kx 1 (kld 0 4 rfl (bnd h fun x49 hx49 h=>(Ail (T:=54) (kd:=.i64) (R:=(Abt 54)) rfl hx49 Ado fun p50 u53 q54 e51 y52=>?_)))))
        obtain ⟨A55,k56,rfl,o57⟩:=Aig 54 q54
        refine keN rfl e51 (t3 Adg) (knp #[iv 0,sv noS,iv 0,iv 0,nS] 54 fun b58=>(kst 0 5 #[iv x49.kind,sv x49.text,iv x49.n,iv x49.at_,slW A55 x49.kids k56] (knt (bnd h fun q59 hq59 h=>?_))))
        refine Ak3 [(0,pt b0),(3,pt b1),(5,pt b58),(71,bv q59)] (bk b58 #[iv x49.kind,sv x49.text,iv x49.n,iv x49.at_,slW A55 x49.kids k56] 54 :: bk b1 #[iv Aan,sv Aar,iv Aao,iv Aa5,slW Abu Aag Abx] 54 :: bk b0 #[Aay,Aaz,Aa0,slW Aa9 Aae Abb,slW Ac2 Aax Ac3,Ac5,slW Aa7 Aah Aa8,Aa3,Ac7,Ada,slW Abn Aal Abp,Acn] 66 :: Adk :: X) ?_ ?_
        ·clear hq59
         refine kcn h (fun h=>?_) fun h=>?_
         ·refine Acx (Arz [(0,0),(1,0),(2,3),(3,0),(4,0),(5,3),(6,0),(7,0),(8,3)] [bk b58 #[iv x49.kind,sv x49.text,iv x49.n,iv x49.at_,slW A55 x49.kids k56] 54,bk b1 #[iv Aan,sv Aar,iv Aao,iv Aa5,slW Abu Aag Abx] 54,Ae4] (fun w h_=>⟨h_.sat.on _ (.head _),h_.sat.on _ (.tail _ (.head _)),h_.sat.on _ (t4 Adg),trivial⟩) (kpx 2 (kpd 0 1 rfl (bnd h fun s61 C0w h=>(C5p rfl (by kernel_rfl) (by kernel_rfl) (by kernel_rfl) (by kernel_rfl) C0w (kpx 1 (kpd 1 4 rfl (bnd h fun x62 Bv8 h=>(Ap9 (T:=54) (kd:=.i64) (R:=(Abt 54)) rfl Bv8 Ado fun p63 u66 q67 e64 y65=>?_)))))))))
          obtain ⟨A68,k69,rfl,o70⟩:=Aig 54 q67
          refine Bbq (off:=1) rfl e64 y65 fun p71 e72 y73=>?_
          have e72:Elem _ p71 [sv x62.text,iv x62.n,iv x62.at_,slW A68 x62.kids k69]:=e72
          refine A2j rfl (by kernel_rfl) (by kernel_rfl) (by kernel_rfl) (by kernel_rfl) e72 (fun w h_=>h_.mem _ (.tail _ (.tail _ (.head _)))) (kpz (bnd h fun s74 C00 h=>(Bxd rfl (by kernel_rfl) (by kernel_rfl) (by kernel_rfl) (by kernel_rfl) C00 (K.drop (K.drop (bnd h fun r75 C0d h=>(kcv (A06.ok C0d hG) ⟨(t2 Ad1),trivial⟩ (kns #[iv r75] 3 1 fun b76=>(K.mv2 (K.mv2 ?_))))))))))
          refine bnd h fun r77 C0h h=>(kcl (Adi.ok C0h Aeo (Aaf.rd (Aaf.blk 3 (Ai1 .i64) b76 [r75] #[iv r75] 1 (by kernel_rfl) rfl (by decide)))) rfl ⟨(.head _),trivial⟩ ?_)
          rintro _ _ ⟨h78,A79,k80,o81,rfl,rfl⟩
          refine Ach (K.mv2 (K.drop (knt (Aem (Afx (Ahj ?_))))))
          obtain rfl:=Aam h
          exact kdv (.tuple #[]) [bk b0 #[Aay,Aaz,Aa0,slW Aa9 Aae Abb,slW A79 r77.2 k80,Ac5,slW Aa7 Aah Aa8,Aa3,Ac7,Ada,slW Abn Aal Abp,Acn] 66,h78] (Adq ⟨h78,A79,k80,o81,rfl,rfl⟩)
         ·refine Adl (Abi (ksr (kx 2 (kld 1 4 rfl (K.drop (K.drop (K.mv1 (K.mv1 (bnd h fun r82 A1n h=>(kcl (hR.Ah3 A1n Afd Aeo Aev Aek Ado hG) rfl ⟨Agn,Af2,Ak2,Adg,Ad1,trivial⟩ ?_))))))))))
          rintro _ _ ⟨h83,A84,k85,o86,rfl,rfl⟩
          refine Ach (knr (kx 1 (Ag6 (K.mv2 (K.mv2 (bnd h fun r87 Bvz h=>(kcl (Adi.ok Bvz o86 (RdT.nil (encI .i64) 1 none_)) rfl ⟨(.head _),trivial⟩ ?_)))))))
          rintro _ _ ⟨h88,A89,k90,o91,rfl,rfl⟩
          refine Ach (K.mv2 (K.drop (knl (Ade (Afg ?_)))))
          obtain rfl:=Aam h
          exact kdv (.tuple #[]) [bk b0 #[Aay,Aaz,Aa0,slW Aa9 Aae Abb,slW A89 r87.2 k90,Ac5,slW Aa7 Aah Aa8,Aa3,Ac7,Ada,slW Abn Aal Abp,Acn] 66,h88] (Adq ⟨h88,A89,k90,o91,rfl,rfl⟩)
        ·have h:=hq59
         clear hq59
         refine Ab6 (kx 1 (kld 0 0 rfl (kx 2 ?_)))
         refine kcs 62 h (fun h=>?_) fun h=>?_
         ·refine kx 1 (kld 0 1 rfl (kx 2 ?_))
          refine kcs 66 h (fun h=>?_) fun h=>?_
          ·exact kx 5 (knt (Afa ⟨gr,gr,gr,gb (Aam h),trivial⟩))
          ·exact kx 1 (kld 0 1 rfl (kx 3 (knt (Afa ⟨gr,gr,gr,gb (Aam h),trivial⟩))))
         ·exact kx 9 (knt (Afa ⟨gr,gr,gr,gb (Aam h),trivial⟩))
       ·refine ksr (kx 2 (knt ?_))
        refine kcn h (fun h=>?_) fun h=>?_
        ·refine Ab6 (kx 1 (kla 0 0 5 rfl (K.drop (K.mv1 (K.mv1 (bnd h fun r95 A1s h=>(kcl (hR.Ako A1s Afd Aeo Aev Aek Ado hG) rfl ⟨Agn,Af2,Ak2,Adg,Ad1,trivial⟩ ?_)))))))
         rintro _ _ ⟨h96,A97,k98,o99,rfl,rfl⟩
         refine Ach (knl (Ade (Afg ?_)))
         obtain rfl:=Aam h
         exact kdv (.tuple #[]) [bk b0 #[Aay,Aaz,Aa0,slW Aa9 Aae Abb,slW A97 r95 k98,Ac5,slW Aa7 Aah Aa8,Aa3,Ac7,Ada,slW Abn Aal Abp,Acn] 66,h96] (Adq ⟨h96,A97,k98,o99,rfl,rfl⟩)
        ·refine ksr (kx 2 (knt ?_))
         refine kcn h (fun h=>?_) fun h=>?_
         ·refine Ab6 (kx 2 (kld 0 4 rfl (K.drop (bnd h fun x101 hx101 h=>(Ail (T:=54) (kd:=.i64) (R:=(Abt 54)) rfl hx101 Ado fun Dlz u105 Dcc Crl y104=>?_)))))
          obtain ⟨Cm0,C3m,rfl,Byh⟩:=Aig 54 Dcc
          refine keN rfl Crl (t2 Adg) (K.mv1 (K.mv1 (bnd h fun B0n Cyb h=>(kcl (hR.Ag4 Cyb Afd Aeo Aev Aek Byh hG) rfl ⟨Agn,Af2,Ak2,Adg,Ad1,trivial⟩ ?_))))
          rintro _ _ ⟨B9p,B3t,Ccs,C8a,rfl,rfl⟩
          refine Ach (knl (Ade (Afg ?_)))
          obtain rfl:=Aam h
          exact kdv (.tuple #[]) [bk b0 #[Aay,Aaz,Aa0,slW Aa9 Aae Abb,slW B3t B0n Ccs,Ac5,slW Aa7 Aah Aa8,Aa3,Ac7,Ada,slW Abn Aal Abp,Acn] 66,B9p] (Adq ⟨B9p,B3t,Ccs,C8a,rfl,rfl⟩)
         ·refine ksr (kx 2 (knt ?_))
          refine kcn h (fun h=>?_) fun h=>?_
          ·refine ksr (kx 2 (kld 0 4 rfl (bnd h fun Bdk C1o h=>(Ail (T:=54) (kd:=.i64) (R:=(Abt 54)) rfl C1o Ado fun Dl6 Dmy Dch e118 Dno=>?_))))
           obtain ⟨B30,Ccx,rfl,Byo⟩:=Aig 54 Dch
           refine keN rfl e118 (t3 Adg) (K.mv2 (K.mv2 (bnd h fun Ci9 Cyj h=>(kcl (hR.Ag4 Cyj Afd Aeo Aev Aek Byo hG) rfl ⟨(.tail _ Agn),(.tail _ Af2),(.tail _ Ak2),(.tail _ Adg),(.tail _ Ad1),trivial⟩ ?_))))
           rintro _ _ ⟨Dit,Dg1,Dky,C8o,rfl,rfl⟩
           refine Ach (knr (kx 1 (kns #[sv noS,sv (⟨#[110,111,116]⟩:ByteArray),sv (⟨#[35]⟩:ByteArray),sv (⟨#[45]⟩:ByteArray)] 9 4 fun Cov=>(kx 1 (kld 3 1 rfl (K.mv3 (K.drop (bnd h fun Bh6 Cyk h=>(kcv (Akt.ok Cyk (Aaf.rd (Aaf.blk 9 Arv Cov [(⟨#[]⟩:ByteArray),(⟨#[110,111,116]⟩:ByteArray),(⟨#[35]⟩:ByteArray),(⟨#[45]⟩:ByteArray)] #[sv noS,sv (⟨#[110,111,116]⟩:ByteArray),sv (⟨#[35]⟩:ByteArray),sv (⟨#[45]⟩:ByteArray)] 4 (by kernel_rfl) rfl (by decide)))) ⟨(.head _),trivial⟩ (K.drop ?_))))))))))
           refine kns #[iv Bh6] 3 1 fun Coy=>(K.mv2 (K.mv2 (bnd h fun B0r Cyo h=>(kcl (Adi.ok Cyo C8o (Aaf.rd (Aaf.blk 3 (Ai1 .i64) Coy [Bh6] #[iv Bh6] 1 (by kernel_rfl) rfl (by decide)))) rfl ⟨(.head _),trivial⟩ ?_))))
           rintro _ _ ⟨B9q,B31,Ccy,C8q,rfl,rfl⟩
           refine Ach (K.mv2 (K.drop (knl (Ade (Afg ?_)))))
           obtain rfl:=Aam h
           exact kdv (.tuple #[]) [bk b0 #[Aay,Aaz,Aa0,slW Aa9 Aae Abb,slW B31 B0r.2 Ccy,Ac5,slW Aa7 Aah Aa8,Aa3,Ac7,Ada,slW Abn Aal Abp,Acn] 66,B9q] (Adq ⟨B9q,B31,Ccy,C8q,rfl,rfl⟩)
          ·refine ksr (kx 2 (knt ?_))
           refine kcn h (fun h=>?_) fun h=>?_
           ·refine Ab6 (kx 1 (kla 0 0 5 rfl (K.drop (K.mv1 (K.mv1 (bnd h fun B0s Cyp h=>(kcl (hR.Aqs Cyp Afd Aeo Aev Aek Ado hG) rfl ⟨Agn,Af2,Ak2,Adg,Ad1,trivial⟩ ?_)))))))
            rintro _ _ ⟨B9t,B34,Ccz,C8t,rfl,rfl⟩
            refine Ach (knl (Ade (Afg ?_)))
            obtain rfl:=Aam h
            exact kdv (.tuple #[]) [bk b0 #[Aay,Aaz,Aa0,slW Aa9 Aae Abb,slW B34 B0s Ccz,Ac5,slW Aa7 Aah Aa8,Aa3,Ac7,Ada,slW Abn Aal Abp,Acn] 66,B9t] (Adq ⟨B9t,B34,Ccz,C8t,rfl,rfl⟩)
           ·refine ksr (kx 2 (knt ?_))
            refine kcn h (fun h=>?_) fun h=>?_
            ·refine Ab6 (kx 2 (kld 0 4 rfl (K.drop (K.mv1 (K.mv1 (bnd h fun B0t Cys h=>(kcl (hR.Amc Cys Afd Aeo Aev Aek Ado hG) rfl ⟨Agn,Af2,Ak2,Adg,Ad1,trivial⟩ ?_)))))))
             rintro _ _ ⟨B9u,B36,Cc3,C8x,rfl,rfl⟩
             refine Ach (knl (Ade (Afg ?_)))
             obtain rfl:=Aam h
             exact kdv (.tuple #[]) [bk b0 #[Aay,Aaz,Aa0,slW Aa9 Aae Abb,slW B36 B0t Cc3,Ac5,slW Aa7 Aah Aa8,Aa3,Ac7,Ada,slW Abn Aal Abp,Acn] 66,B9u] (Adq ⟨B9u,B36,Cc3,C8x,rfl,rfl⟩)
            ·refine Adl (Ade (Afg ?_))
             obtain rfl:=Aam h
             exact kdv (.tuple #[]) [bk b0 #[Aay,Aaz,Aa0,slW Aa9 Aae Abb,slW Ac2 Aax Ac3,Ac5,slW Aa7 Aah Aa8,Aa3,Ac7,Ada,slW Abn Aal Abp,Acn] 66,Adk] (K.drop (Adq ⟨Adk,Ac2,Ac3,Aeo,rfl,rfl⟩))
def Ah3.l0:Nat→(Rc:GE)→(Aae:List (Int×Int×ByteArray))→(Aah:List ByteArray)→(Aal:List ByteArray)→(a1:List Tree)→(x1:Int)→(l2:List (Int×Int×Int×Int))→Option (List (Int×Int×Int×Int))
 | 0,_,_,_,_,_,_,_=>none
 | m7+1,Rc,Aae,Aah,Aal,a1,x1,l2=>cond (decide (x1 < ((a1.length:Nat):Int))) ((Ack a1 x1).bind fun x9=>(Rc.Ag4 Aae l2 Aah Aal x9.kind x9.text x9.n x9.at_ x9.kids).bind fun r19=>Ah3.l0 m7 Rc Aae Aah Aal a1 (IntKind.i64.wrap (x1+1)) r19) (some (l2))
def Ah3.g (Rc:GE) (k:Nat) (Aae:TyB) (Aax:TyA) (Aah:TyC) (Aal:TyC) (a1:List Tree):Option TyA:=Ah3.l0 k Rc Aae Aah Aal a1 0 Aax
theorem Ah3.okg {Rc:GE} (hR:Rc.Good) {k:Nat}:Ah3.C (Ah3.g Rc k):=by
 intro Aae Aax r Aah Aal a1 b0 Abb Ac3 Aa8 Abp Ae6 Aay Aaz Aa0 Ac5 Aa3 Ac7 Ada Acn Afz Adk Afk Adz Ahz G Aa9 Ac2 Aa7 Abn Ae2 h Afd Aeo Aev Aek Ajh hG
 refine Afi (args:=[pt b0,slW Ae2 a1 Ae6]) Tryz.func80 rfl (Ac0 rfl) ?_
 intro A X hh_
 obtain ⟨Agn,Af2,Ak2,Ah4,Ad1,_⟩:=hh_
 unfold Ah3.g at h
 refine K.eq (env':=[(0,pt b0),(1,slW Ae2 a1 Ae6)]) (l':=bk b0 #[Aay,Aaz,Aa0,slW Aa9 Aae Abb,slW Ac2 Aax Ac3,Ac5,slW Aa7 Aah Aa8,Aa3,Ac7,Ada,slW Abn Aal Abp,Acn] 66 :: Adk :: X) rfl rfl (ksr (kx 3 (knt (Aez (Akb (τ:=Int×TyA×Aaa×TyO×Nat) (fun t=>[(0,pt b0),(6,slW Ae2 a1 Ae6),(7,iv ((a1.length:Nat):Int)),(8,iv t.1)]) (fun t=>bk b0 #[Aay,Aaz,Aa0,slW Aa9 Aae Abb,slW t.2.2.2.1 t.2.1 t.2.2.2.2,Ac5,slW Aa7 Aah Aa8,Aa3,Ac7,Ada,slW Abn Aal Abp,Acn] 66 :: t.2.2.1 :: X) (fun m t=>Ah3.l0 m Rc Aae Aah Aal a1 t.1 t.2.1=some r∧Aaf e48 48 4 t.2.2.1 (slW t.2.2.2.1 t.2.1 t.2.2.2.2) t.2.1) k (0,Aax,Adk,Ac2,Ac3) ⟨h,Aeo⟩ sb rfl ?_)))))
 clear h
 rintro m7 ⟨x1,l2,h3,A4,k5⟩ ⟨h,o6⟩
 cases m7 with
 | zero=>simp [Ah3.l0] at h
 | succ m7 =>
  simp only [Ah3.l0] at h
  refine ksr (kx 1 (knt (Acx ?_)))
  refine kcn h (fun h=>?_) fun h=>?_
  ·refine Adl (Abi (Acx (Aez (ksr (bnd h fun x9 hx9 h=>(Ail (T:=54) (kd:=.i64) (R:=(Abt 54)) rfl hx9 Ajh fun p10 u13 q14 e11 y12=>?_))))))
   obtain ⟨A15,k16,rfl,o17⟩:=Aig 54 q14
   refine keN rfl e11 (t2 Ah4) (knp #[iv 0,sv noS,iv 0,iv 0,nS] 54 fun b18=>(kst 0 5 #[iv x9.kind,sv x9.text,iv x9.n,iv x9.at_,slW A15 x9.kids k16] (knr (kx 1 (kla 0 0 5 rfl (K.drop (K.mv1 (K.mv1 (bnd h fun r19 hr19 h=>(kcl (hR.Ag4 hr19 Afd o6 Aev Aek o17 hG) rfl ⟨Agn,Af2,Ak2,Ah4,Ad1,trivial⟩ ?_))))))))))
   rintro _ _ ⟨h20,A21,k22,o23,rfl,rfl⟩
   exact Ach (knl (Ade (Abi (Ab6 (kx 2 (knt (Ai4 m7 (IntKind.i64.wrap (x1+1),r19,h20,A21,k22) (Nat.lt_succ_self _) ⟨h,o23⟩ sb rfl)))))))
  ·refine Aj9 (Agh (Agh (Aka (Afg ?_))))
   obtain rfl:=Aam h
   exact kdv (.tuple #[]) [bk b0 #[Aay,Aaz,Aa0,slW Aa9 Aae Abb,slW A4 l2 k5,Ac5,slW Aa7 Aah Aa8,Aa3,Ac7,Ada,slW Abn Aal Abp,Acn] 66,h3] (Adq ⟨h3,A4,k5,o6,rfl,rfl⟩)
def Amb.g (Rc:GE) (_k:Nat) (Aae:TyB) (Aax:TyA) (Aah:TyC) (Aal:TyC) (a1:List Tree):Option TyA:=(cond (decide ((IntKind.i64.wrap (((a1.length:Nat):Int) - 1)) ≥ 0)) ((Ack a1 (IntKind.i64.wrap (((a1.length:Nat):Int) - 1))).bind fun x32=>some (x32.kind == 8)) (some false):Option Bool).bind fun q1=>cond q1 ((Aiq a1 0 (IntKind.i64.wrap (((a1.length:Nat):Int) - 1))).bind fun l3=>(Rc.Ah3 Aae Aax Aah Aal l3).bind fun r7=>(Ack a1 (IntKind.i64.wrap (((a1.length:Nat):Int) - 1))).bind fun x12=>(Rc.Ako Aae r7 Aah Aal x12.kind x12.text x12.n x12.at_ x12.kids (-1:Int)).bind fun r21=>some (r21)) ((Rc.Ah3 Aae Aax Aah Aal a1).bind fun r26=>some (r26))
theorem Amb.okg {Rc:GE} (hR:Rc.Good) {k:Nat}:Amb.C (Amb.g Rc k):=by
 intro Aae Aax r Aah Aal a1 b0 Abb Ac3 Aa8 Abp Ae6 Aay Aaz Aa0 Ac5 Aa3 Ac7 Ada Acn Afz Adk Afk Adz Ahz G Aa9 Ac2 Aa7 Abn Ae2 h Afd Aeo Aev Aek Ajh hG
 refine Afi (args:=[pt b0,slW Ae2 a1 Ae6]) Tryz.func85 rfl (Ac0 rfl) ?_
 intro A X hh_
 obtain ⟨Agn,Af2,Ak2,Ah4,Ad1,_⟩:=hh_
 unfold Amb.g at h
 refine K.eq (env':=[(0,pt b0),(1,slW Ae2 a1 Ae6)]) (l':=bk b0 #[Aay,Aaz,Aa0,slW Aa9 Aae Abb,slW Ac2 Aax Ac3,Ac5,slW Aa7 Aah Aa8,Aa3,Ac7,Ada,slW Abn Aal Abp,Acn] 66 :: Adk :: X) rfl rfl (Acx (ksr (kx 4 (knt (bnd h fun q1 hq1 h=>?_)))))
 refine Ak3 [(0,pt b0),(1,slW Ae2 a1 Ae6),(4,iv (IntKind.i64.wrap (((a1.length:Nat):Int) - 1))),(17,bv q1)] (bk b0 #[Aay,Aaz,Aa0,slW Aa9 Aae Abb,slW Ac2 Aax Ac3,Ac5,slW Aa7 Aah Aa8,Aa3,Ac7,Ada,slW Abn Aal Abp,Acn] 66 :: Adk :: X) ?_ ?_
 ·clear hq1
  refine kcn h (fun h=>?_) fun h=>?_
  ·refine ksr (kx 3 (bnd h fun l3 hl3 h=>(A8i (T:=54) (R:=(Abt 54)) (xs:=a1) 0 (IntKind.i64.wrap (((a1.length:Nat):Int) - 1)) rfl (by kernel_rfl) (by kernel_rfl) (by kernel_rfl) (.inl ⟨rfl,rfl⟩) (.inr ⟨_,.i64,rfl,(by kernel_rfl)⟩) (by kernel_rfl) (by kernel_rfl) hl3 Ajh fun A4 k5 o6=>(K.mv1 (K.mv1 (bnd h fun r7 hr7 h=>(kcl (hR.Ah3 hr7 Afd Aeo Aev Aek o6 hG) rfl ⟨Agn,Af2,Ak2,Ah4,Ad1,trivial⟩ ?_)))))))
   rintro _ _ ⟨h8,A9,k10,o11,rfl,rfl⟩
   refine Ach (Abz (kx 3 (bnd h fun x12 C1p h=>(Ail (T:=54) (kd:=.i64) (R:=(Abt 54)) rfl C1p Ajh fun p13 u16 q17 e14 y15=>?_))))
   obtain ⟨A18,k19,rfl,o20⟩:=Aig 54 q17
   refine keN rfl e14 (t2 Ah4) (K.mv1 (K.mv1 (bnd h fun r21 Avx h=>(kcl (hR.Ako Avx Afd o11 Aev Aek o20 hG) rfl ⟨Agn,Af2,Ak2,Ah4,Ad1,trivial⟩ ?_))))
   rintro _ _ ⟨h22,A23,k24,o25,rfl,rfl⟩
   refine Ach (knt (Aem (Afx ?_)))
   obtain rfl:=Aam h
   exact kdv (.tuple #[]) [bk b0 #[Aay,Aaz,Aa0,slW Aa9 Aae Abb,slW A23 r21 k24,Ac5,slW Aa7 Aah Aa8,Aa3,Ac7,Ada,slW Abn Aal Abp,Acn] 66,h22] (Adq ⟨h22,A23,k24,o25,rfl,rfl⟩)
  ·refine Adl (Abi (Ab6 (kx 2 (K.mv1 (K.mv1 (bnd h fun r26 A1i h=>(kcl (hR.Ah3 A1i Afd Aeo Aev Aek Ajh hG) rfl ⟨Agn,Af2,Ak2,Ah4,Ad1,trivial⟩ ?_)))))))
   rintro _ _ ⟨h27,A28,k29,o30,rfl,rfl⟩
   refine Ach (knl (Afg ?_))
   obtain rfl:=Aam h
   exact kdv (.tuple #[]) [bk b0 #[Aay,Aaz,Aa0,slW Aa9 Aae Abb,slW A28 r26 k29,Ac5,slW Aa7 Aah Aa8,Aa3,Ac7,Ada,slW Abn Aal Abp,Acn] 66,h27] (Adq ⟨h27,A28,k29,o30,rfl,rfl⟩)
 ·have h:=hq1
  clear hq1
  refine Ab6 (kx 3 ?_)
  refine kcs 10 h (fun h=>?_) fun h=>?_
  ·refine kx 2 (bnd h fun x32 hx32 h=>(Ail (T:=54) (kd:=.i64) (R:=(Abt 54)) rfl hx32 Ajh fun p33 u36 q37 e34 y35=>?_))
   obtain ⟨A38,k39,rfl,o40⟩:=Aig 54 q37
   refine Api (off:=0) rfl e34 y35 fun p41 e42 y43=>?_
   have e42:Elem _ p41 [iv x32.kind,sv x32.text,iv x32.n,iv x32.at_,slW A38 x32.kids k39]:=e42
   exact Aqx rfl (by kernel_rfl) (by kernel_rfl) (by kernel_rfl) (by kernel_rfl) e42 (t2 Ah4) (kx 2 (knt (Afa ⟨gr,gr,gr,gb (Aam h),trivial⟩)))
  ·exact kx 7 (knt (Afa ⟨gr,gr,gr,gb (Aam h),trivial⟩))
def Ako.g (Rc:GE) (k:Nat) (Aae:TyB) (Aax:TyA) (Aah:TyC) (Aal:TyC) (Aan:Int) (Aar:ByteArray) (Aao:Int) (Aa5:Int) (Aag:List Tree) (a2:Int):Option TyA:=(Ack Aag 0).bind fun x2=>(Rc.Ag4 Aae Aax Aah Aal x2.kind x2.text x2.n x2.at_ x2.kids).bind fun r11=>(Adi.f k r11 22 ([])).bind fun r16=>(Aiq Aag 1 ((Aag.length:Nat):Int)).bind fun l21=>(Rc.Amb Aae r16.2 Aah Aal l21).bind fun r25=>(Adi.f k r25 24 ([a2])).bind fun r31=>some (r31.2)
theorem Ako.okg {Rc:GE} (hR:Rc.Good) {k:Nat}:Ako.C (Ako.g Rc k):=by
 intro Aae Aax r Aah Aal Aan Aao Aa5 a2 Aar Aag b0 Abb Ac3 Aa8 Abp Abx Aay Aaz Aa0 Ac5 Aa3 Ac7 Ada Acn Afz Adk Afk Adz Ae4 G Aa9 Ac2 Aa7 Abn Abu h Afd Aeo Aev Aek Ado hG
 refine Afi (args:=[pt b0,.agg #[iv Aan,sv Aar,iv Aao,iv Aa5,slW Abu Aag Abx],iv a2]) Tryz.func74 rfl (Ac0 rfl) ?_
 intro A X hh_
 obtain ⟨Agn,Af2,Ak2,Adg,Ad1,_⟩:=hh_
 unfold Ako.g at h
 refine K.eq (env':=[(0,pt b0),(1,.agg #[iv Aan,sv Aar,iv Aao,iv Aa5,slW Abu Aag Abx]),(2,iv a2)]) (l':=bk b0 #[Aay,Aaz,Aa0,slW Aa9 Aae Abb,slW Ac2 Aax Ac3,Ac5,slW Aa7 Aah Aa8,Aa3,Ac7,Ada,slW Abn Aal Abp,Acn] 66 :: Adk :: X) rfl rfl (ksr (knp #[iv Aan,sv Aar,iv Aao,iv Aa5,slW Abu Aag Abx] 54 fun b1=>(Abz (kx 2 (kld 0 4 rfl (bnd h fun x2 hx2 h=>(Ail (T:=54) (kd:=.i64) (R:=(Abt 54)) rfl hx2 Ado fun p3 u6 q7 e4 y5=>?_)))))))
 obtain ⟨A8,k9,rfl,o10⟩:=Aig 54 q7
 refine keN rfl e4 (t3 Adg) (K.mv2 (K.mv2 (bnd h fun r11 A6y h=>(kcl (hR.Ag4 A6y Afd Aeo Aev Aek o10 hG) rfl ⟨(.tail _ Agn),(.tail _ Af2),(.tail _ Ak2),(.tail _ Adg),(.tail _ Ad1),trivial⟩ ?_))))
 rintro _ _ ⟨h12,A13,k14,o15,rfl,rfl⟩
 refine Ach (Abz (kx 1 (Ag6 (K.mv2 (K.mv2 (bnd h fun r16 Avu h=>(kcl (Adi.ok Avu o15 (RdT.nil (encI .i64) 1 none_)) rfl ⟨(.head _),trivial⟩ ?_)))))))
 rintro _ _ ⟨h17,A18,k19,o20,rfl,rfl⟩
 refine Ach (K.mv2 (K.drop (Abz (kx 2 (kld 2 4 rfl (K.mv2 (K.drop (bnd h fun l21 Bt1 h=>(A8i (T:=54) (R:=(Abt 54)) (xs:=Aag) 1 ((Aag.length:Nat):Int) rfl (by kernel_rfl) (by kernel_rfl) (by kernel_rfl) (.inr ⟨_,.i64,rfl,(by kernel_rfl)⟩) (.inl ⟨rfl,rfl⟩) (by kernel_rfl) (by kernel_rfl) Bt1 Ado fun A22 k23 o24=>(K.mv1 ?_))))))))))
 refine K.mv1 (bnd h fun r25 Bfu h=>(kcl (hR.Amb Bfu Afd o20 Aev Aek o24 hG) rfl ⟨Agn,Af2,Ak2,Adg,Ad1,trivial⟩ ?_))
 rintro _ _ ⟨h26,A27,k28,o29,rfl,rfl⟩
 refine Ach (knr (kx 2 (kns #[iv a2] 3 1 fun b30=>(K.mv2 (K.mv2 (bnd h fun r31 Bu7 h=>(kcl (Adi.ok Bu7 o29 (Aaf.rd (Aaf.blk 3 (Ai1 .i64) b30 [a2] #[iv a2] 1 (by kernel_rfl) rfl (by decide)))) rfl ⟨(.head _),trivial⟩ ?_)))))))
 rintro _ _ ⟨h32,A33,k34,o35,rfl,rfl⟩
 refine Ach (K.mv2 (K.drop (knl (Afg ?_))))
 obtain rfl:=Aam h
 exact kdv (.tuple #[]) [bk b0 #[Aay,Aaz,Aa0,slW Aa9 Aae Abb,slW A33 r31.2 k34,Ac5,slW Aa7 Aah Aa8,Aa3,Ac7,Ada,slW Abn Aal Abp,Acn] 66,h32] (Adq ⟨h32,A33,k34,o35,rfl,rfl⟩)
def Aqs.g (Rc:GE) (k:Nat) (Aae:TyB) (Aax:TyA) (Aah:TyC) (Aal:TyC) (Aan:Int) (Aar:ByteArray) (Aao:Int) (Aa5:Int) (Aag:List Tree):Option TyA:=(Ack Aag 0).bind fun x2=>(Rc.Ag4 Aae Aax Aah Aal x2.kind x2.text x2.n x2.at_ x2.kids).bind fun r11=>(Akt.f k ([(⟨#[]⟩:ByteArray),(⟨#[43]⟩:ByteArray),(⟨#[45]⟩:ByteArray),(⟨#[42]⟩:ByteArray),(⟨#[47,47]⟩:ByteArray),(⟨#[37]⟩:ByteArray),(⟨#[46,46]⟩:ByteArray),(⟨#[61,61]⟩:ByteArray),(⟨#[126,61]⟩:ByteArray),(⟨#[60]⟩:ByteArray),(⟨#[60,61]⟩:ByteArray),(⟨#[62]⟩:ByteArray),(⟨#[62,61]⟩:ByteArray)]) Aar).bind fun r17=>cond (decide (r17 > 0)) ((Ack Aag 1).bind fun x19=>(Rc.Ag4 Aae r11 Aah Aal x19.kind x19.text x19.n x19.at_ x19.kids).bind fun r28=>(Adi.f k r28 17 ([r17])).bind fun r34=>some (r34.2)) (Adj (fun (x39:Int)=>(Adi.f k r11 x39 ([])).bind fun r41=>(Ack Aag 1).bind fun x46=>(Rc.Ag4 Aae r41.2 Aah Aal x46.kind x46.text x46.n x46.at_ x46.kids).bind fun r55=>(Akp.f k r55).bind fun r60=>(Ack r55 r41.1).bind fun x61=>(Akq r55 r41.1 (x61.1,r60,x61.2.2.1,x61.2.2.2)).bind fun l68=>some (l68)) (fun J40=>cond (Aar.toList == (⟨#[111,114]⟩:ByteArray).toList) (J40 21) (J40 20)))
theorem Aqs.okg {Rc:GE} (hR:Rc.Good) {k:Nat}:Aqs.C (Aqs.g Rc k):=by
 intro Aae Aax r Aah Aal Aan Aao Aa5 Aar Aag b0 Abb Ac3 Aa8 Abp Abx Aay Aaz Aa0 Ac5 Aa3 Ac7 Ada Acn Afz Adk Afk Adz Ae4 G Aa9 Ac2 Aa7 Abn Abu h Afd Aeo Aev Aek Ado hG
 refine Afi (args:=[pt b0,.agg #[iv Aan,sv Aar,iv Aao,iv Aa5,slW Abu Aag Abx]]) Tryz.func110 rfl (Ac0 rfl) ?_
 intro A X hh_
 obtain ⟨Agn,Af2,Ak2,Adg,Ad1,_⟩:=hh_
 unfold Aqs.g at h
 refine K.eq (env':=[(0,pt b0),(1,.agg #[iv Aan,sv Aar,iv Aao,iv Aa5,slW Abu Aag Abx])]) (l':=bk b0 #[Aay,Aaz,Aa0,slW Aa9 Aae Abb,slW Ac2 Aax Ac3,Ac5,slW Aa7 Aah Aa8,Aa3,Ac7,Ada,slW Abn Aal Abp,Acn] 66 :: Adk :: X) rfl rfl (ksr (knp #[iv Aan,sv Aar,iv Aao,iv Aa5,slW Abu Aag Abx] 54 fun b1=>(Abz (kx 2 (kld 0 4 rfl (bnd h fun x2 hx2 h=>(Ail (T:=54) (kd:=.i64) (R:=(Abt 54)) rfl hx2 Ado fun p3 u6 q7 e4 y5=>?_)))))))
 obtain ⟨A8,k9,rfl,o10⟩:=Aig 54 q7
 refine keN rfl e4 (t3 Adg) (K.mv2 (K.mv2 (bnd h fun r11 A6y h=>(kcl (hR.Ag4 A6y Afd Aeo Aev Aek o10 hG) rfl ⟨(.tail _ Agn),(.tail _ Af2),(.tail _ Ak2),(.tail _ Adg),(.tail _ Ad1),trivial⟩ ?_))))
 rintro _ _ ⟨h12,A13,k14,o15,rfl,rfl⟩
 refine Ach (Abz (kns #[sv noS,sv (⟨#[43]⟩:ByteArray),sv (⟨#[45]⟩:ByteArray),sv (⟨#[42]⟩:ByteArray),sv (⟨#[47,47]⟩:ByteArray),sv (⟨#[37]⟩:ByteArray),sv (⟨#[46,46]⟩:ByteArray),sv (⟨#[61,61]⟩:ByteArray),sv (⟨#[126,61]⟩:ByteArray),sv (⟨#[60]⟩:ByteArray),sv (⟨#[60,61]⟩:ByteArray),sv (⟨#[62]⟩:ByteArray),sv (⟨#[62,61]⟩:ByteArray)] 9 13 fun b16=>(kx 1 (kld 3 1 rfl (bnd h fun r17 Avv h=>(kcv (Akt.ok Avv (Aaf.rd (Aaf.blk 9 Arv b16 [(⟨#[]⟩:ByteArray),(⟨#[43]⟩:ByteArray),(⟨#[45]⟩:ByteArray),(⟨#[42]⟩:ByteArray),(⟨#[47,47]⟩:ByteArray),(⟨#[37]⟩:ByteArray),(⟨#[46,46]⟩:ByteArray),(⟨#[61,61]⟩:ByteArray),(⟨#[126,61]⟩:ByteArray),(⟨#[60]⟩:ByteArray),(⟨#[60,61]⟩:ByteArray),(⟨#[62]⟩:ByteArray),(⟨#[62,61]⟩:ByteArray)] #[sv noS,sv (⟨#[43]⟩:ByteArray),sv (⟨#[45]⟩:ByteArray),sv (⟨#[42]⟩:ByteArray),sv (⟨#[47,47]⟩:ByteArray),sv (⟨#[37]⟩:ByteArray),sv (⟨#[46,46]⟩:ByteArray),sv (⟨#[61,61]⟩:ByteArray),sv (⟨#[126,61]⟩:ByteArray),sv (⟨#[60]⟩:ByteArray),sv (⟨#[60,61]⟩:ByteArray),sv (⟨#[62]⟩:ByteArray),sv (⟨#[62,61]⟩:ByteArray)] 13 (by kernel_rfl) rfl (by decide)))) ⟨(.head _),trivial⟩ (K.drop (kx 1 (knt (Acx ?_))))))))))
 refine ksr (kx 2 (knt ?_))
 refine kcn h (fun h=>?_) fun h=>?_
 ·refine ksr (kx 2 (kld 2 4 rfl (K.mv2 (K.drop (bnd h fun x19 C17 h=>(Ail (T:=54) (kd:=.i64) (R:=(Abt 54)) rfl C17 Ado fun p20 u23 q24 e21 y22=>?_))))))
  obtain ⟨A25,k26,rfl,o27⟩:=Aig 54 q24
  refine keN rfl e21 (t2 Adg) (K.mv1 (K.mv1 (bnd h fun r28 Bfv h=>(kcl (hR.Ag4 Bfv Afd o15 Aev Aek o27 hG) rfl ⟨Agn,Af2,Ak2,Adg,Ad1,trivial⟩ ?_))))
  rintro _ _ ⟨h29,A30,k31,o32,rfl,rfl⟩
  refine Ach (Abz (kx 2 (kns #[iv r17] 3 1 fun b33=>(K.mv2 (K.mv2 (bnd h fun r34 Bu8 h=>(kcl (Adi.ok Bu8 o32 (Aaf.rd (Aaf.blk 3 (Ai1 .i64) b33 [r17] #[iv r17] 1 (by kernel_rfl) rfl (by decide)))) rfl ⟨(.head _),trivial⟩ ?_)))))))
  rintro _ _ ⟨h35,A36,k37,o38,rfl,rfl⟩
  refine Ach (K.mv2 (K.drop (knt (Aem (Afx ?_)))))
  obtain rfl:=Aam h
  exact kdv (.tuple #[]) [bk b0 #[Aay,Aaz,Aa0,slW Aa9 Aae Abb,slW A36 r34.2 k37,Ac5,slW Aa7 Aah Aa8,Aa3,Ac7,Ada,slW Abn Aal Abp,Acn] 66,h35] (Adq ⟨h35,A36,k37,o38,rfl,rfl⟩)
 ·refine Adl (Abi (ksr (kx 1 (knt ?_))))
  obtain ⟨J40,Btr,h⟩:=Ags h
  refine Agt (τ:=Int) (fun t=>[(0,pt b0),(3,pt b1),(5,iv t)]) (fun t=>bk b0 #[Aay,Aaz,Aa0,slW Aa9 Aae Abb,slW A13 r11 k14,Ac5,slW Aa7 Aah Aa8,Aa3,Ac7,Ada,slW Abn Aal Abp,Acn] 66 :: h12 :: bk b1 #[iv Aan,sv Aar,iv Aao,iv Aa5,slW Abu Aag Abx] 54 :: X) (fun t=>J40 t=some r) ?_ ?_
  ·rintro x39 h
   subst Btr
   refine ksr (kx 2 (Ag6 (K.mv2 (K.mv2 (bnd h fun r41 A7m h=>(kcl (Adi.ok A7m o15 (RdT.nil (encI .i64) 1 none_)) rfl ⟨(.head _),trivial⟩ ?_))))))
   rintro _ _ ⟨h42,A43,k44,o45,rfl,rfl⟩
   refine Ach (K.mv2 (K.drop (kx 1 (Abz (kx 2 (kld 2 4 rfl (K.mv2 (K.drop (bnd h fun x46 C2q h=>(Ail (T:=54) (kd:=.i64) (R:=(Abt 54)) rfl C2q Ado fun p47 u50 q51 e48 y49=>?_))))))))))
   obtain ⟨A52,k53,rfl,o54⟩:=Aig 54 q51
   refine keN rfl e48 (t2 Adg) (K.mv1 (K.mv1 (bnd h fun r55 Bf2 h=>(kcl (hR.Ag4 Bf2 Afd o45 Aev Aek o54 hG) rfl ⟨Agn,Af2,Ak2,Adg,Ad1,trivial⟩ ?_))))
   rintro _ _ ⟨h56,A57,k58,o59,rfl,rfl⟩
   refine Ach (knt (kpr [(0,0),(1,0),(2,0),(3,0),(4,3),(5,0),(6,0),(7,1)] [0] (kpx 4 (kpd 0 4 rfl (kpx 2 (kpt (bnd h fun r60 A7p h=>(oc1 (Akp.ok A7p (Aaf.rd o59)) rfl ⟨(.head _),trivial⟩ (kan [0] rfl (kpz ?_))))))))))
   refine bnd h fun x61 Cb6 h=>(Anq (T:=48) (kd:=.i64) Aj5 rfl Cb6 (Aaf.rd o59) fun p62 e63 y64=>?_)
   have e63:Elem _ p62 [iv x61.1,iv x61.2.1,iv x61.2.2.1,iv x61.2.2.2]:=e63
   refine Api (off:=1) rfl e63 y64 fun p65 e66 y67=>?_
   have e66:Elem _ p65 [iv x61.2.1,iv x61.2.2.1,iv x61.2.2.2]:=e66
   refine K.mv1 (bnd h fun l68 Cbp h=>(Aye (v:=iv r60) (off:=1) (x':=(x61.1,r60,x61.2.2.1,x61.2.2.2)) Aj5 rfl (by kernel_rfl) (by kernel_rfl) (by kernel_rfl) (by kernel_rfl) (by kernel_rfl) y67 o59 Cb6 (by kernel_rfl) (by kernel_rfl) Cbp fun h69 o70=>?_))
   have g71:=Ar0 Cbp
   refine K.weak (env':=[(48,iv r60)]) ?_ ⟨gr,trivial⟩
   refine K.eq (l':=h69 :: bk b0 #[Aay,Aaz,Aa0,slW Aa9 Aae Abb,slW A57 l68 k58,Ac5,slW Aa7 Aah Aa8,Aa3,Ac7,Ada,slW Abn Aal Abp,Acn] 66 :: X) rfl (by first | rfl | (unfold slW;rw [g71];first | done | rfl)) (knl (Afg ?_))
   obtain rfl:=Aam h
   exact kdv (.tuple #[]) [bk b0 #[Aay,Aaz,Aa0,slW Aa9 Aae Abb,slW A57 l68 k58,Ac5,slW Aa7 Aah Aa8,Aa3,Ac7,Ada,slW Abn Aal Abp,Acn] 66,h69] (K.mv1 (Adq ⟨h69,A57,k58,o70,rfl,rfl⟩))
  ·skip
   refine ksr (kx 1 (kld 2 1 rfl (kx 1 (knt ?_))))
   refine kcn h (fun h=>?_) fun h=>?_
   ·exact Ab6 (kx 1 (knt (Ac1 21 h sb rfl)))
   ·exact Adl (Abi (Ac1 20 h sb rfl))
def Amc.l0:Nat→(Rc:GE)→(Aae:TyB)→(Aah:TyC)→(Aal:TyC)→(a1:List Tree)→(q2:Bool)→(J19:Int→Int→Int→Int→TyA→Option TyA)→(x47:Int)→(x48:Int)→(x49:Int)→(x50:Int)→(x51:Int)→(l52:TyA)→Option TyA
 | 0,_,_,_,_,_,_,_,_,_,_,_,_,_=>none
 | m57+1,Rc,Aae,Aah,Aal,a1,q2,J19,x47,x48,x49,x50,x51,l52=>cond (decide (x49 < ((a1.length:Nat):Int))) (Adj (fun (x59:Int) (x60:Int) (x61:Int) (x62:Int) (l63:TyA)=>Amc.l0 m57 Rc Aae Aah Aal a1 q2 J19 x59 x60 (IntKind.i64.wrap (x49+1)) x61 x62 l63) (fun J68=>(Ack a1 x49).bind fun x69=>cond (x69.kind == 14) ((Rc.Ah3 Aae l52 Aah Aal x69.kids).bind fun r80=>(Adi.f m57 r80 27 ([x51])).bind fun r86=>J68 x47 (IntKind.i64.wrap (x48+1)) x50 x51 r86.2) ((cond q2 (some (x49 == (IntKind.i64.wrap (((a1.length:Nat):Int) - 1)))) (some false):Option Bool).bind fun q91=>cond q91 ((Awi.f m57 x51 l52 x50).bind fun r93=>(Adi.f m57 r93.2.1 22 ([])).bind fun r98=>(Ack x69.kids 0).bind fun x103=>(Rc.Ako Aae r98.2 Aah Aal x103.kind x103.text x103.n x103.at_ x103.kids (-1:Int)).bind fun Ci6=>(Adi.f m57 Ci6 29 ([r93.2.2])).bind fun B0o=>J68 x47 x48 r93.2.2 r93.1 B0o.2) ((Ack x69.kids 0).bind fun Bdl=>(Rc.Ag4 Aae l52 Aah Aal Bdl.kind Bdl.text Bdl.n Bdl.at_ Bdl.kids).bind fun Boq=>cond ((IntKind.i64.wrap (x51+1)) == 50) ((Awi.f m57 (IntKind.i64.wrap (x51+1)) Boq x50).bind fun Az1=>J68 (IntKind.i64.wrap (x47+1)) x48 Az1.2.2 Az1.1 Az1.2.1) (J68 (IntKind.i64.wrap (x47+1)) x48 x50 (IntKind.i64.wrap (x51+1)) Boq))))) (J19 x47 x48 x50 x51 l52)
def Amc.g (Rc:GE) (k:Nat) (Aae:TyB) (Aax:TyA) (Aah:TyC) (Aal:TyC) (a1:List Tree):Option TyA:=(cond (decide (((a1.length:Nat):Int) > 0)) ((Ack a1 (IntKind.i64.wrap (((a1.length:Nat):Int) - 1))).bind fun A3f=>cond (A3f.kind == 13) ((Ack a1 (IntKind.i64.wrap (((a1.length:Nat):Int) - 1))).bind fun x158=>(Ack x158.kids 0).bind fun A3h=>some (A3h.kind == 8)) (some false)) (some false):Option Bool).bind fun q2=>(Adi.f k Aax 26 ([])).bind fun r3=>Adj (fun (x10:Int) (x11:Int) (x12:Int) (x13:Int) (l14:TyA)=>(Awi.f k x13 l14 x12).bind fun r20=>(Ack r20.2.1 r3.1).bind fun x25=>(Akq r20.2.1 r3.1 (x25.1,x10,x25.2.2.1,x25.2.2.2)).bind fun l32=>(Ack l32 r3.1).bind fun x36=>(Akq l32 r3.1 (x36.1,x36.2.1,x11,x36.2.2.2)).bind fun l43=>some (l43)) (fun J19=>Amc.l0 k Rc Aae Aah Aal a1 q2 J19 0 0 0 1 0 r3.2)
theorem Amc.okg {Rc:GE} (hR:Rc.Good) {k:Nat}:Amc.C (Amc.g Rc k):=by
 intro Aae Aax r Aah Aal a1 b0 Abb Ac3 Aa8 Abp Ae6 Aay Aaz Aa0 Ac5 Aa3 Ac7 Ada Acn Afz Adk Afk Adz Ahz G Aa9 Ac2 Aa7 Abn Ae2 h Afd Aeo Aev Aek Ajh hG
 refine Afi (args:=[pt b0,slW Ae2 a1 Ae6]) Tryz.func111 rfl (Ac0 rfl) ?_
 intro A X hh_
 obtain ⟨Agn,Af2,Ak2,Ah4,Ad1,_⟩:=hh_
 unfold Amc.g at h
 refine K.eq (env':=[(0,pt b0),(1,slW Ae2 a1 Ae6)]) (l':=bk b0 #[Aay,Aaz,Aa0,slW Aa9 Aae Abb,slW Ac2 Aax Ac3,Ac5,slW Aa7 Aah Aa8,Aa3,Ac7,Ada,slW Abn Aal Abp,Acn] 66 :: Adk :: X) rfl rfl (ksr (knp #[pt b0] 61 fun b1=>(knt (bnd h fun q2 hq2 h=>?_))))
 refine Ak3 [(1,slW Ae2 a1 Ae6),(2,pt b1),(4,bv q2)] (bk b1 #[pt b0] 61 :: bk b0 #[Aay,Aaz,Aa0,slW Aa9 Aae Abb,slW Ac2 Aax Ac3,Ac5,slW Aa7 Aah Aa8,Aa3,Ac7,Ada,slW Abn Aal Abp,Acn] 66 :: Adk :: X) ?_ ?_
 ·clear hq2
  refine ksr (kld 0 0 rfl (Ag6 (K.mv3 (K.mv3 (bnd h fun r3 hr3 h=>(kcl (Adi.ok hr3 Aeo (RdT.nil (encI .i64) 1 none_)) rfl ⟨(.head _),trivial⟩ ?_))))))
  rintro _ _ ⟨h4,A5,k6,o7,rfl,rfl⟩
  refine Ach (K.mv2 (K.drop (kx 3 (Abz (knp #[iv 0] 3 fun b8=>(knp #[iv 0] 3 fun b9=>(K.mv1 (kst 0 1 #[iv 0] (K.mv1 (kst 0 1 #[iv 1] ?_))))))))))
  refine Abz (kx 2 (knt ?_))
  obtain ⟨J19,Btp,h⟩:=Ags h
  refine Agt (τ:=Int×Int×Int×Int×TyA×Aaa×TyO×Nat) (fun t=>[(2,pt b1),(5,iv r3.1),(6,iv t.1),(7,iv t.2.1),(10,.func (.func 127) #[] #[pt b8,pt b1,pt b9])]) (fun t=>bk b9 #[iv t.2.2.1] 3 :: bk b8 #[iv t.2.2.2.1] 3 :: bk b0 #[Aay,Aaz,Aa0,slW Aa9 Aae Abb,slW t.2.2.2.2.2.2.1 t.2.2.2.2.1 t.2.2.2.2.2.2.2,Ac5,slW Aa7 Aah Aa8,Aa3,Ac7,Ada,slW Abn Aal Abp,Acn] 66 :: bk b1 #[pt b0] 61 :: t.2.2.2.2.2.1 :: X) (fun t=>J19 t.1 t.2.1 t.2.2.1 t.2.2.2.1 t.2.2.2.2.1=some r∧Aaf e48 48 4 t.2.2.2.2.2.1 (slW t.2.2.2.2.2.2.1 t.2.2.2.2.1 t.2.2.2.2.2.2.2) t.2.2.2.2.1) ?_ ?_
  ·rintro ⟨x10,x11,x12,x13,l14,h15,A16,k17⟩ ⟨h,o18⟩
   subst Btp
   refine ksr (kx 1 (K.mv4 (K.mv3 (K.mv4 (K.mv4 (bnd h fun r20 A7c h=>(kcl (Awi.ok A7c o18) rfl trivial ?_)))))))
   rintro _ _ ⟨h21,A22,k23,o24,rfl,rfl⟩
   refine Ajr (K.drop (K.mv3 (K.drop (knt (kpr [(0,3),(1,0),(2,0),(3,0),(4,3),(5,0),(6,3),(7,0),(8,0),(9,0),(10,3),(11,0),(12,0),(13,0)] [0,1] (kpd 0 0 rfl (kpx 3 (kpd 1 4 rfl (kpx 1 (kpd 0 0 rfl ?_))))))))))
   refine kpx 3 (kpd 1 4 rfl (kpx 3 (kpz (bnd h fun x25 hx25 h=>(Anq (T:=48) (kd:=.i64) Aj5 rfl hx25 (Aaf.rd o24) fun p26 e27 y28=>?_)))))
   have e27:Elem _ p26 [iv x25.1,iv x25.2.1,iv x25.2.2.1,iv x25.2.2.2]:=e27
   refine K.drop (Api (off:=1) rfl e27 y28 fun p29 e30 y31=>?_)
   have e30:Elem _ p29 [iv x25.2.1,iv x25.2.2.1,iv x25.2.2.2]:=e30
   refine K.mv1 (bnd h fun l32 Bl4 h=>(Aye (v:=iv x10) (off:=1) (x':=(x25.1,x10,x25.2.2.1,x25.2.2.2)) Aj5 rfl (by kernel_rfl) (by kernel_rfl) (by kernel_rfl) (by kernel_rfl) (by kernel_rfl) y31 o24 hx25 (by kernel_rfl) (by kernel_rfl) Bl4 fun h33 o34=>?_))
   have g35:=Ar0 Bl4
   refine K.weak (env':=[(113,slW A22 l32 k23),(114,iv r3.1),(115,iv x10),(116,iv x11)]) ?_ ⟨(by first | rfl | (unfold slW;rw [g35];rfl)),gr,gr,gr,trivial⟩
   refine K.eq (l':=h33 :: bk b0 #[Aay,Aaz,Aa0,slW Aa9 Aae Abb,slW A22 l32 k23,Ac5,slW Aa7 Aah Aa8,Aa3,Ac7,Ada,slW Abn Aal Abp,Acn] 66 :: X) rfl (by first | rfl | (unfold slW;rw [g35];first | done | rfl)) (bnd h fun x36 Cb4 h=>(Anq (T:=48) (kd:=.i64) Aj5 rfl Cb4 (Aaf.rd o34) fun p37 e38 y39=>?_))
   have e38:Elem _ p37 [iv x36.1,iv x36.2.1,iv x36.2.2.1,iv x36.2.2.2]:=e38
   refine Api (off:=2) rfl e38 y39 fun p40 e41 y42=>?_
   have e41:Elem _ p40 [iv x36.2.2.1,iv x36.2.2.2]:=e41
   refine bnd h fun l43 Bfn h=>(Aye (v:=iv x11) (off:=2) (x':=(x36.1,x36.2.1,x11,x36.2.2.2)) Aj5 rfl (by kernel_rfl) (by kernel_rfl) (by kernel_rfl) (by kernel_rfl) (by kernel_rfl) y42 o34 Cb4 (by kernel_rfl) (by kernel_rfl) Bfn fun h44 o45=>?_)
   have g46:=Ar0 Bfn
   refine K.weak (env':=[(116,iv x11)]) ?_ ⟨gr,trivial⟩
   refine K.eq (l':=h44 :: bk b0 #[Aay,Aaz,Aa0,slW Aa9 Aae Abb,slW A22 l43 k23,Ac5,slW Aa7 Aah Aa8,Aa3,Ac7,Ada,slW Abn Aal Abp,Acn] 66 :: X) rfl (by first | rfl | (unfold slW;rw [g46];first | done | rfl)) (knl (Afg ?_))
   obtain rfl:=Aam h
   exact kdv (.tuple #[]) [bk b0 #[Aay,Aaz,Aa0,slW Aa9 Aae Abb,slW A22 l43 k23,Ac5,slW Aa7 Aah Aa8,Aa3,Ac7,Ada,slW Abn Aal Abp,Acn] 66,h44] (K.mv1 (Adq ⟨h44,A22,k23,o45,rfl,rfl⟩))
  ·skip
   refine ksr (kx 3 (knt (Aez (K.mv3 (K.mv4 (K.mv4 (K.mv4 (K.mv4 (Akb (τ:=Int×Int×Int×Int×Int×TyA×Aaa×TyO×Nat) (fun t=>[(1,slW Ae2 a1 Ae6),(2,pt b1),(4,bv q2),(5,iv r3.1),(6,iv t.1),(7,iv t.2.1),(8,pt b8),(9,pt b9),(10,.func (.func 127) #[] #[pt b8,pt b1,pt b9]),(42,slW Ae2 a1 Ae6),(43,iv ((a1.length:Nat):Int)),(44,iv t.2.2.1)]) (fun t=>bk b9 #[iv t.2.2.2.1] 3 :: bk b8 #[iv t.2.2.2.2.1] 3 :: bk b0 #[Aay,Aaz,Aa0,slW Aa9 Aae Abb,slW t.2.2.2.2.2.2.2.1 t.2.2.2.2.2.1 t.2.2.2.2.2.2.2.2,Ac5,slW Aa7 Aah Aa8,Aa3,Ac7,Ada,slW Abn Aal Abp,Acn] 66 :: bk b1 #[pt b0] 61 :: t.2.2.2.2.2.2.1 :: X) (fun m t=>Amc.l0 m Rc Aae Aah Aal a1 q2 J19 t.1 t.2.1 t.2.2.1 t.2.2.2.1 t.2.2.2.2.1 t.2.2.2.2.2.1=some r∧Aaf e48 48 4 t.2.2.2.2.2.2.1 (slW t.2.2.2.2.2.2.2.1 t.2.2.2.2.2.1 t.2.2.2.2.2.2.2.2) t.2.2.2.2.2.1) k (0,0,0,1,0,r3.2,h4,A5,k6) ⟨h,o7⟩ sb rfl ?_)))))))))
   clear h
   rintro m57 ⟨x47,x48,x49,x50,x51,l52,h53,A54,k55⟩ ⟨h,o56⟩
   cases m57 with
   | zero=>simp [Amc.l0] at h
   | succ m57 =>
    simp only [Amc.l0] at h
    refine ksr (kx 1 (knt (Acx ?_)))
    refine kcn h (fun h=>?_) fun h=>?_
    ·refine Adl (Abi ?_)
     obtain ⟨J68,Cvt,h⟩:=Ags h
     refine Agt (τ:=Int×Int×Int×Int×TyA×Aaa×TyO×Nat) (fun t=>[(1,slW Ae2 a1 Ae6),(2,pt b1),(4,bv q2),(5,iv r3.1),(6,iv t.1),(7,iv t.2.1),(8,pt b8),(9,pt b9),(10,.func (.func 127) #[] #[pt b8,pt b1,pt b9]),(42,slW Ae2 a1 Ae6),(43,iv ((a1.length:Nat):Int)),(44,iv x49)]) (fun t=>bk b9 #[iv t.2.2.1] 3 :: bk b8 #[iv t.2.2.2.1] 3 :: bk b0 #[Aay,Aaz,Aa0,slW Aa9 Aae Abb,slW t.2.2.2.2.2.2.1 t.2.2.2.2.1 t.2.2.2.2.2.2.2,Ac5,slW Aa7 Aah Aa8,Aa3,Ac7,Ada,slW Abn Aal Abp,Acn] 66 :: bk b1 #[pt b0] 61 :: t.2.2.2.2.2.1 :: X) (fun t=>J68 t.1 t.2.1 t.2.2.1 t.2.2.2.1 t.2.2.2.2.1=some r∧Aaf e48 48 4 t.2.2.2.2.2.1 (slW t.2.2.2.2.2.2.1 t.2.2.2.2.1 t.2.2.2.2.2.2.2) t.2.2.2.2.1) ?_ ?_
     ·rintro ⟨x59,x60,x61,x62,l63,h64,A65,k66⟩ ⟨h,o67⟩
      subst Cvt
      exact Ab6 (kx 2 (knt (Ai4 m57 (x59,x60,IntKind.i64.wrap (x49+1),x61,x62,l63,h64,A65,k66) (Nat.lt_succ_self _) ⟨h,o67⟩ sb rfl)))
     ·skip
      refine Aez (ksr (kx 1 (bnd h fun x69 hx69 h=>(Ail (T:=54) (kd:=.i64) (R:=(Abt 54)) rfl hx69 Ajh fun p70 u73 q74 e71 y72=>?_))))
      obtain ⟨A75,k76,rfl,o77⟩:=Aig 54 q74
      refine keN rfl e71 (t5 Ah4) (knp #[iv 0,sv noS,iv 0,iv 0,nS] 54 fun b78=>(kx 1 (kst 0 5 #[iv x69.kind,sv x69.text,iv x69.n,iv x69.at_,slW A75 x69.kids k76] (knt (Aez (ksr (kx 1 (kld 0 0 rfl (kx 2 (knt ?_))))))))))
      refine kcn h (fun h=>?_) fun h=>?_
      ·refine ksr (kx 3 (Abz (kld 4 0 rfl (kx 1 (kld 0 4 rfl (K.drop (K.mv4 (K.mv3 (bnd h fun r80 A7r h=>(kcl (hR.Ah3 A7r Afd o56 Aev Aek o77 hG) rfl ⟨(t3 Agn),(t3 Af2),(t3 Ak2),(t3 Ah4),(t3 Ad1),trivial⟩ ?_))))))))))
       rintro _ _ ⟨h81,A82,k83,o84,rfl,rfl⟩
       refine Ach (knr (kld 4 0 rfl (kld 3 0 rfl (kns #[iv x51] 3 1 fun b85=>(K.mv2 (K.mv2 (bnd h fun r86 C0k h=>(kcl (Adi.ok C0k o84 (Aaf.rd (Aaf.blk 3 (Ai1 .i64) b85 [x51] #[iv x51] 1 (by kernel_rfl) rfl (by decide)))) rfl ⟨(.head _),trivial⟩ ?_))))))))
       rintro _ _ ⟨h87,A88,k89,o90,rfl,rfl⟩
       refine Ach (K.mv2 (K.drop (knl (Ade (Ade (Abi (K.mv1 (K.mv4 (K.mv2 (K.mv4 ?_))))))))))
       exact K.mv4 (Ac1 (x47,IntKind.i64.wrap (x48+1),x50,x51,r86.2,h87,A88,k89) ⟨h,o90⟩ sb rfl)
      ·refine bnd h fun q91 Buv h=>?_
       refine Ak3 [(1,slW Ae2 a1 Ae6),(2,pt b1),(4,bv q2),(5,iv r3.1),(6,iv x47),(7,iv x48),(8,pt b8),(9,pt b9),(10,.func (.func 127) #[] #[pt b8,pt b1,pt b9]),(42,slW Ae2 a1 Ae6),(43,iv ((a1.length:Nat):Int)),(44,iv x49),(12,pt b78),(77,bv q91)] (bk b78 #[iv x69.kind,sv x69.text,iv x69.n,iv x69.at_,slW A75 x69.kids k76] 54 :: bk b9 #[iv x50] 3 :: bk b8 #[iv x51] 3 :: bk b0 #[Aay,Aaz,Aa0,slW Aa9 Aae Abb,slW A54 l52 k55,Ac5,slW Aa7 Aah Aa8,Aa3,Ac7,Ada,slW Abn Aal Abp,Acn] 66 :: bk b1 #[pt b0] 61 :: h53 :: X) ?_ ?_
       ·clear Buv
        refine kcn h (fun h=>?_) fun h=>?_
        ·refine ksr (kx 1 (K.mv1 (K.mv5 (K.mv4 (K.mv5 (K.mv5 (bnd h fun r93 Bf7 h=>(kcl (Awi.ok Bf7 o56) rfl trivial ?_))))))))
         rintro _ _ ⟨h94,A95,k96,o97,rfl,rfl⟩
         refine Ajr (Abz (kld 1 0 rfl (Ag6 (K.mv4 (K.mv4 (bnd h fun r98 C0s h=>(kcl (Adi.ok C0s o97 (RdT.nil (encI .i64) 1 none_)) rfl ⟨(.head _),trivial⟩ ?_)))))))
         rintro _ _ ⟨h99,Dgs,Dkn,C74,rfl,rfl⟩
         refine Ach (K.mv2 (K.drop (knt (Acx (Arz [(0,3),(1,0),(2,3),(3,0),(4,3)] [bk b1 #[pt b0] 61,bk b78 #[iv x69.kind,sv x69.text,iv x69.n,iv x69.at_,slW A75 x69.kids k76] 54,Ahz] (fun w h_=>⟨h_.sat.on _ (.tail _ (.tail _ (.tail _ (.head _)))),h_.sat.on _ (.tail _ (.tail _ (.tail _ (.tail _ (.tail _ (.head _)))))),h_.sat.on _ (t6 Ah4),trivial⟩) (kpd 0 0 rfl (kpx 1 (kpd 1 4 rfl (bnd h fun x103 C1j h=>(Ap9 (T:=54) (kd:=.i64) (R:=(Abt 54)) rfl C1j o77 fun Dl0 Dmr Dcd Crm Dnh=>?_))))))))))
         obtain ⟨Dgv,Dkq,rfl,o111⟩:=Aig 54 Dcd
         refine Aqy rfl Crm (fun w h_=>h_.mem _ (.tail _ (.tail _ (.head _)))) (kpz (K.mv1 (K.mv1 (bnd h fun Ci6 Cyg h=>(kcl (hR.Ako Cyg Afd C74 Aev Aek o111 hG) rfl ⟨(t4 Agn),(t4 Af2),(t4 Ak2),(t4 Ah4),(t4 Ad1),trivial⟩ ?_)))))
         rintro _ _ ⟨Dil,Dgy,Dku,Byl,rfl,rfl⟩
         refine Ach (K.mv5 (K.drop (knr (kld 3 0 rfl (kld 4 0 rfl (kns #[iv r93.2.2] 3 1 fun Cot=>(K.mv2 (K.mv2 (bnd h fun B0o Cyi h=>(kcl (Adi.ok Cyi Byl (Aaf.rd (Aaf.blk 3 (Ai1 .i64) Cot [r93.2.2] #[iv r93.2.2] 1 (by kernel_rfl) rfl (by decide)))) rfl ⟨(.head _),trivial⟩ ?_))))))))))
         rintro _ _ ⟨h119,Cm6,C3t,C8i,rfl,rfl⟩
         refine Ach (K.mv2 (K.drop (knl (Ade (Ade (Abi (K.mv1 (K.mv3 (K.mv2 (K.mv3 ?_))))))))))
         exact K.mv4 (Ac1 (x47,x48,r93.2.2,r93.1,B0o.2,h119,Cm6,C3t) ⟨h,C8i⟩ sb rfl)
        ·refine ksr (kx 3 (knt (Acx (Arz [(0,3),(1,0),(2,3),(3,0),(4,3)] [bk b78 #[iv x69.kind,sv x69.text,iv x69.n,iv x69.at_,slW A75 x69.kids k76] 54,bk b1 #[pt b0] 61,Ahz] (fun w h_=>⟨h_.sat.on _ (.head _),h_.sat.on _ (.tail _ (.tail _ (.tail _ (.tail _ (.head _))))),h_.sat.on _ (t6 Ah4),trivial⟩) (kpd 1 0 rfl (kpx 1 (kpd 0 4 rfl (bnd h fun Bdl C1q h=>(Ap9 (T:=54) (kd:=.i64) (R:=(Abt 54)) rfl C1q o77 fun Dl7 u127 Dcj e125 Dnq=>?_)))))))))
         obtain ⟨Bkg,Bmk,rfl,Byu⟩:=Aig 54 Dcj
         refine Aqy rfl e125 (fun w h_=>h_.mem _ (.tail _ (.tail _ (.head _)))) (kpz (K.mv5 (K.mv4 (bnd h fun Boq Cym h=>(kcl (hR.Ag4 Cym Afd o56 Aev Aek Byu hG) rfl ⟨(t4 Agn),(t4 Af2),(t4 Ak2),(t4 Ah4),(t4 Ad1),trivial⟩ ?_)))))
         rintro _ _ ⟨Bfa,Bdy,Bgj,A8u,rfl,rfl⟩
         refine Ach (K.mv2 (K.drop (Abz (kld 3 0 rfl (kx 1 (K.mv3 (kst 0 1 #[iv (IntKind.i64.wrap (x51+1))] (Abz (kld 0 0 rfl (kx 1 ?_))))))))))
         refine knt ?_
         refine kcn h (fun h=>?_) fun h=>?_
         ·refine Ab6 (kx 1 (K.mv3 (K.mv3 (K.mv3 (K.mv4 (K.mv4 (bnd h fun Az1 Bu0 h=>(kcl (Awi.ok Bu0 A8u) rfl trivial ?_))))))))
          rintro _ _ ⟨Cuj,Cnh,C3w,C8r,rfl,rfl⟩
          exact Ajr (knl (Ade (Ade (Abi (K.mv3 (K.mv2 (K.mv3 (K.mv3 (K.mv4 (Ac1 (IntKind.i64.wrap (x47+1),x48,Az1.2.2,Az1.1,Az1.2.1,Cuj,Cnh,C3w) ⟨h,C8r⟩ sb rfl))))))))))
         ·exact Adl (Ade (Ade (Abi (K.mv2 (K.mv4 (K.mv3 (K.mv3 (K.mv4 (Ac1 (IntKind.i64.wrap (x47+1),x48,x50,IntKind.i64.wrap (x51+1),Boq,Bfa,Bdy,Bgj) ⟨h,A8u⟩ sb rfl)))))))))
       ·have h:=Buv
        clear Buv
        refine Ab6 (kx 2 ?_)
        refine kcs 79 h (fun h=>?_) fun h=>?_
        ·exact kx 7 (knt (Afa ⟨gr,gr,gr,gr,gr,gr,gr,gr,gr,gr,gr,gr,gr,gb (Aam h),trivial⟩))
        ·exact kx 7 (knt (Afa ⟨gr,gr,gr,gr,gr,gr,gr,gr,gr,gr,gr,gr,gr,gb (Aam h),trivial⟩))
    ·exact Aj9 (Agh (Agh (Aka (Abi (Ac1 (x47,x48,x50,x51,l52,h53,A54,k55) ⟨h,o56⟩ sb rfl)))))
 ·have h:=hq2
  clear hq2
  refine Ab6 (kx 4 ?_)
  refine kcs 16 h (fun h=>?_) fun h=>?_
  ·refine kx 4 (bnd h fun A3f C1z h=>(Ail (T:=54) (kd:=.i64) (R:=(Abt 54)) rfl C1z Ajh fun Dmc Dm4 Dcr Cru Dgm=>?_))
   obtain ⟨Cni,C3y,rfl,Dlw⟩:=Aig 54 Dcr
   refine Api (off:=0) rfl Cru Dgm fun Dbh Br6 Dnv=>?_
   have Br6:Elem _ Dbh [iv A3f.kind,sv A3f.text,iv A3f.n,iv A3f.at_,slW Cni A3f.kids C3y]:=Br6
   refine Aqx rfl (by kernel_rfl) (by kernel_rfl) (by kernel_rfl) (by kernel_rfl) Br6 (t3 Ah4) (kx 3 ?_)
   refine kcs 26 h (fun h=>?_) fun h=>?_
   ·refine kx 4 (bnd h fun x158 hx158 h=>(Ail (T:=54) (kd:=.i64) (R:=(Abt 54)) rfl hx158 Ajh fun p159 u162 B0h e160 Cmx=>?_))
    obtain ⟨B4c,Cdb,rfl,By2⟩:=Aig 54 B0h
    refine Api (off:=4) rfl e160 Cmx fun Dbi e168 Dnw=>?_
    have e168:Elem _ Dbi [slW B4c x158.kids Cdb]:=e168
    refine Aqx rfl (by kernel_rfl) (by kernel_rfl) (by kernel_rfl) (by kernel_rfl) e168 (t3 Ah4) (bnd h fun A3h C12 h=>(Ail (T:=54) (kd:=.i64) (R:=(Abt 54)) rfl C12 By2 fun Dme Dm7 Dct Crw Dgn=>?_))
    obtain ⟨Cnk,C32,rfl,Dly⟩:=Aig 54 Dct
    refine Api (off:=0) rfl Crw Dgn fun Dbj Br9 Dn0=>?_
    have Br9:Elem _ Dbj [iv A3h.kind,sv A3h.text,iv A3h.n,iv A3h.at_,slW Cnk A3h.kids C32]:=Br9
    exact Aqx rfl (by kernel_rfl) (by kernel_rfl) (by kernel_rfl) (by kernel_rfl) Br9 (t3 Ah4) (kx 3 (knt (Afa ⟨gr,gr,gb (Aam h),trivial⟩)))
   ·exact kx 13 (knt (Afa ⟨gr,gr,gb (Aam h),trivial⟩))
  ·exact kx 23 (knt (Afa ⟨gr,gr,gb (Aam h),trivial⟩))
def GE.at:Nat→GE
 | 0=>⟨fun _ _ _ _ _ _ _ _ _=>none,fun _ _ _ _ _=>none,fun _ _ _ _ _=>none,fun _ _ _ _ _ _ _ _ _ _=>none,fun _ _ _ _ _ _ _ _ _=>none,fun _ _ _ _ _=>none⟩
 | k+1=>⟨Ag4.g (GE.at k) k,Ah3.g (GE.at k) k,Amb.g (GE.at k) k,Ako.g (GE.at k) k,Aqs.g (GE.at k) k,Amc.g (GE.at k) k⟩
theorem GE.good:∀ k,(GE.at k).Good
 | 0=>⟨(by unfold Ag4.C;intros;rename_i h _ _ _ _ _ _;cases (show (none:Option _)=some _ from h)),(by unfold Ah3.C;intros;rename_i h _ _ _ _ _ _;cases (show (none:Option _)=some _ from h)),(by unfold Amb.C;intros;rename_i h _ _ _ _ _ _;cases (show (none:Option _)=some _ from h)),(by unfold Ako.C;intros;rename_i h _ _ _ _ _ _;cases (show (none:Option _)=some _ from h)),(by unfold Aqs.C;intros;rename_i h _ _ _ _ _ _;cases (show (none:Option _)=some _ from h)),(by unfold Amc.C;intros;rename_i h _ _ _ _ _ _;cases (show (none:Option _)=some _ from h))⟩
 | k+1=>⟨Ag4.okg (k:=k) (GE.good k),Ah3.okg (k:=k) (GE.good k),Amb.okg (k:=k) (GE.good k),Ako.okg (k:=k) (GE.good k),Aqs.okg (k:=k) (GE.good k),Amc.okg (k:=k) (GE.good k)⟩
def Ag4.f (k:Nat):=Ag4.g (GE.at k) k
theorem Ag4.ok {k:Nat}:Ag4.C (Ag4.f k):=Ag4.okg (k:=k) (GE.good k)
def Ah3.f (k:Nat):=Ah3.g (GE.at k) k
theorem Ah3.ok {k:Nat}:Ah3.C (Ah3.f k):=Ah3.okg (k:=k) (GE.good k)
def Amb.f (k:Nat):=Amb.g (GE.at k) k
theorem Amb.ok {k b0 Abb Ac3 Aa8 Abp Ae6:Nat} {Aae:TyB} {Aax r:TyA} {Aah Aal:TyC} {a1:List Tree} {Aay Aaz Aa0 Ac5 Aa3 Ac7 Ada Acn:Value} {Afz Adk Afk Adz Ahz G:Aaa} {Aa9 Ac2 Aa7 Abn Ae2:TyO} (h:Amb.f k Aae Aax Aah Aal a1=some r) (Afd:RdT e78 3 Afz (slW Aa9 Aae Abb) Aae) (Aeo:Aaf e48 48 4 Adk (slW Ac2 Aax Ac3) Aax) (Aev:RdT encS 1 Afk (slW Aa7 Aah Aa8) Aah) (Aek:RdT encS 1 Adz (slW Abn Aal Abp) Aal) (Ajh:RdR (Abt 54) Ahz (slW Ae2 a1 Ae6) a1) (hG:GlP G): Ct Tryz.prog 85 #[pt b0,slW Ae2 a1 Ae6] [bk b0 #[Aay,Aaz,Aa0,slW Aa9 Aae Abb,slW Ac2 Aax Ac3,Ac5,slW Aa7 Aah Aa8,Aa3,Ac7,Ada,slW Abn Aal Abp,Acn] 66,Adk] [Afz,Afk,Adz,Ahz,G] (fun e l1=>∃ (H0_:Aaa) (A0_:TyO) (c0_:Nat),Aaf e48 48 4 H0_ (slW A0_ r c0_) r∧e=.returned (.tuple #[])∧l1=[bk b0 #[Aay,Aaz,Aa0,slW Aa9 Aae Abb,slW A0_ r c0_,Ac5,slW Aa7 Aah Aa8,Aa3,Ac7,Ada,slW Abn Aal Abp,Acn] 66,H0_]):=Amb.okg (k:=k) (GE.good k) h Afd Aeo Aev Aek Ajh hG
def Ako.f (k:Nat):=Ako.g (GE.at k) k
theorem Ako.ok {k:Nat}:Ako.C (Ako.f k):=Ako.okg (k:=k) (GE.good k)
def Apw.l0:Nat→(a2:Int)→(x8:Int)→(l9:List (Int×Int×Int×Int))→Option (List (Int×Int×Int×Int))
 | 0,_,_,_=>none
 | m14+1,a2,x8,l9=>cond (decide (x8 < a2)) ((Adi.f m14 l9 3 ([])).bind fun r16=>Apw.l0 m14 a2 (IntKind.i64.wrap (x8+1)) r16.2) (some (l9))
def Apw.f (k:Nat) (Aae:TyB) (Aax:TyA) (Aah:TyC) (Aal:TyC) (a1:List Tree) (a2:Int):Option TyA:=cond (((a1.length:Nat):Int) == a2) ((Ah3.f k Aae Aax Aah Aal a1).bind fun r2=>some (r2)) (cond (((a1.length:Nat):Int) == 0) (Apw.l0 k a2 0 Aax) ((Adi.f k Aax 22 ([])).bind fun r21=>(Amb.f k Aae r21.2 Aah Aal a1).bind fun r26=>(Adi.f k r26 23 ([a2])).bind fun r32=>some (r32.2)))
theorem Apw.ok {k b0 Abb Ac3 Aa8 Abp Ae6:Nat} {Aae:TyB} {Aax r:TyA} {Aah Aal:TyC} {a1:List Tree} {a2:Int} {Aay Aaz Aa0 Ac5 Aa3 Ac7 Ada Acn:Value} {Afz Adk Afk Adz Ahz G:Aaa} {Aa9 Ac2 Aa7 Abn Ae2:TyO} (h:Apw.f k Aae Aax Aah Aal a1 a2=some r) (Afd:RdT e78 3 Afz (slW Aa9 Aae Abb) Aae) (Aeo:Aaf e48 48 4 Adk (slW Ac2 Aax Ac3) Aax) (Aev:RdT encS 1 Afk (slW Aa7 Aah Aa8) Aah) (Aek:RdT encS 1 Adz (slW Abn Aal Abp) Aal) (Ajh:RdR (Abt 54) Ahz (slW Ae2 a1 Ae6) a1) (hG:GlP G): Ct Tryz.prog 71 #[pt b0,slW Ae2 a1 Ae6,iv a2] [bk b0 #[Aay,Aaz,Aa0,slW Aa9 Aae Abb,slW Ac2 Aax Ac3,Ac5,slW Aa7 Aah Aa8,Aa3,Ac7,Ada,slW Abn Aal Abp,Acn] 66,Adk] [Afz,Afk,Adz,Ahz,G] (fun e l1=>∃ (H0_:Aaa) (A0_:TyO) (c0_:Nat),Aaf e48 48 4 H0_ (slW A0_ r c0_) r∧e=.returned (.tuple #[])∧l1=[bk b0 #[Aay,Aaz,Aa0,slW Aa9 Aae Abb,slW A0_ r c0_,Ac5,slW Aa7 Aah Aa8,Aa3,Ac7,Ada,slW Abn Aal Abp,Acn] 66,H0_]):=by
 refine Afi (args:=[pt b0,slW Ae2 a1 Ae6,iv a2]) Tryz.func71 rfl (Ac0 rfl) ?_
 intro A X hh_
 obtain ⟨Agn,Af2,Ak2,Ah4,Ad1,_⟩:=hh_
 unfold Apw.f at h
 refine K.eq (env':=[(0,pt b0),(1,slW Ae2 a1 Ae6),(2,iv a2)]) (l':=bk b0 #[Aay,Aaz,Aa0,slW Aa9 Aae Abb,slW Ac2 Aax Ac3,Ac5,slW Aa7 Aah Aa8,Aa3,Ac7,Ada,slW Abn Aal Abp,Acn] 66 :: Adk :: X) rfl rfl (ksr (kx 2 (knt (Aez (ksr (kx 3 (knt ?_)))))))
 refine kcn h (fun h=>?_) fun h=>?_
 ·refine Ab6 (kx 2 (K.mv1 (K.mv1 (bnd h fun r2 hr2 h=>(kcl (Ah3.ok hr2 Afd Aeo Aev Aek Ajh hG) rfl ⟨Agn,Af2,Ak2,Ah4,Ad1,trivial⟩ ?_)))))
  rintro _ _ ⟨h3,A4,k5,o6,rfl,rfl⟩
  refine Ach (knl (Ade (Afg ?_)))
  obtain rfl:=Aam h
  exact kdv (.tuple #[]) [bk b0 #[Aay,Aaz,Aa0,slW Aa9 Aae Abb,slW A4 r2 k5,Ac5,slW Aa7 Aah Aa8,Aa3,Ac7,Ada,slW Abn Aal Abp,Acn] 66,h3] (Adq ⟨h3,A4,k5,o6,rfl,rfl⟩)
 ·refine ksr (kx 2 (knt ?_))
  refine kcn h (fun h=>?_) fun h=>?_
  ·refine ksr (kx 2 (knt (Aez (Akb (τ:=Int×TyA×Aaa×TyO×Nat) (fun t=>[(0,pt b0),(25,iv a2),(26,iv t.1)]) (fun t=>bk b0 #[Aay,Aaz,Aa0,slW Aa9 Aae Abb,slW t.2.2.2.1 t.2.1 t.2.2.2.2,Ac5,slW Aa7 Aah Aa8,Aa3,Ac7,Ada,slW Abn Aal Abp,Acn] 66 :: t.2.2.1 :: X) (fun m t=>Apw.l0 m a2 t.1 t.2.1=some r∧Aaf e48 48 4 t.2.2.1 (slW t.2.2.2.1 t.2.1 t.2.2.2.2) t.2.1) k (0,Aax,Adk,Ac2,Ac3) ⟨h,Aeo⟩ sb rfl ?_))))
   clear h
   rintro m14 ⟨x8,l9,h10,A11,k12⟩ ⟨h,o13⟩
   cases m14 with
   | zero=>simp [Apw.l0] at h
   | succ m14 =>
    simp only [Apw.l0] at h
    refine ksr (kx 1 (knt (Acx ?_)))
    refine kcn h (fun h=>?_) fun h=>?_
    ·refine Adl (Abi (Acx (Aez (Ab6 (kx 1 (Ag6 (K.mv2 (K.mv2 (bnd h fun r16 Avu h=>(kcl (Adi.ok Avu o13 (RdT.nil (encI .i64) 1 none_)) rfl ⟨(.head _),trivial⟩ ?_))))))))))
     rintro _ _ ⟨h17,A18,k19,o20,rfl,rfl⟩
     exact Ach (K.mv2 (K.drop (knl (Ade (Abi (Ab6 (kx 2 (knt (Ai4 m14 (IntKind.i64.wrap (x8+1),r16.2,h17,A18,k19) (Nat.lt_succ_self _) ⟨h,o20⟩ sb rfl)))))))))
    ·refine Aj9 (Agh (Agh (Aka (Ade (Afg ?_)))))
     obtain rfl:=Aam h
     exact kdv (.tuple #[]) [bk b0 #[Aay,Aaz,Aa0,slW Aa9 Aae Abb,slW A11 l9 k12,Ac5,slW Aa7 Aah Aa8,Aa3,Ac7,Ada,slW Abn Aal Abp,Acn] 66,h10] (Adq ⟨h10,A11,k12,o13,rfl,rfl⟩)
  ·refine ksr (kx 1 (Ag6 (K.mv2 (K.mv2 (bnd h fun r21 Avx h=>(kcl (Adi.ok Avx Aeo (RdT.nil (encI .i64) 1 none_)) rfl ⟨(.head _),trivial⟩ ?_))))))
   rintro _ _ ⟨h22,A23,k24,o25,rfl,rfl⟩
   refine Ach (K.mv2 (K.drop (Abz (kx 2 (K.mv1 (K.mv1 (bnd h fun r26 A1i h=>(kcl (Amb.ok A1i Afd o25 Aev Aek Ajh hG) rfl ⟨Agn,Af2,Ak2,Ah4,Ad1,trivial⟩ ?_))))))))
   rintro _ _ ⟨h27,A28,k29,o30,rfl,rfl⟩
   refine Ach (knr (kx 2 (kns #[iv a2] 3 1 fun b31=>(K.mv2 (K.mv2 (bnd h fun r32 A7i h=>(kcl (Adi.ok A7i o30 (Aaf.rd (Aaf.blk 3 (Ai1 .i64) b31 [a2] #[iv a2] 1 (by kernel_rfl) rfl (by decide)))) rfl ⟨(.head _),trivial⟩ ?_)))))))
   rintro _ _ ⟨h33,A34,k35,o36,rfl,rfl⟩
   refine Ach (K.mv2 (K.drop (knl (Ade (Afg ?_)))))
   obtain rfl:=Aam h
   exact kdv (.tuple #[]) [bk b0 #[Aay,Aaz,Aa0,slW Aa9 Aae Abb,slW A34 r32.2 k35,Ac5,slW Aa7 Aah Aa8,Aa3,Ac7,Ada,slW Abn Aal Abp,Acn] 66,h33] (Adq ⟨h33,A34,k35,o36,rfl,rfl⟩)
def Am3.l1:Nat→(Aae:TyB)→(Aah:TyC)→(Aal:TyC)→(a1:List Tree)→(J7:Int→TyA→Option TyA)→(x79:Int)→(x80:Int)→(l81:TyA)→Option TyA
 | 0,_,_,_,_,_,_,_,_=>none
 | m86+1,Aae,Aah,Aal,a1,J7,x79,x80,l81=>cond (decide (x80 < ((a1.length:Nat):Int))) (Adj (fun (x88:Int) (l89:TyA)=>Am3.l1 m86 Aae Aah Aal a1 J7 x88 (IntKind.i64.wrap (x80+1)) l89) (fun J94=>(Ack a1 x80).bind fun x95=>cond (x95.kind == 7) ((Ah3.f m86 Aae l81 Aah Aal x95.kids).bind fun B0j=>J94 (IntKind.i64.wrap (x79+2)) B0j) (J94 x79 l81))) (J7 x79 l81)
def Am3.l0:Nat→(Aah:TyC)→(Aal:TyC)→(a1:List Tree)→(J18:TyA→Option TyA)→(x25:Int)→(x26:Int)→(l27:TyA)→Option TyA
 | 0,_,_,_,_,_,_,_=>none
 | m32+1,Aah,Aal,a1,J18,x25,x26,l27=>cond (decide (x26 < ((a1.length:Nat):Int))) (Adj (fun (x34:Int) (l35:TyA)=>Am3.l0 m32 Aah Aal a1 J18 x34 (IntKind.i64.wrap (x26+1)) l35) (fun J40=>(Ack a1 x26).bind fun x41=>cond (x41.kind == 7) ((Adi.f m32 l27 13 ([IntKind.i64.wrap (((a1.length:Nat):Int)+(IntKind.i64.wrap (x25 - 2))),IntKind.i64.wrap ((IntKind.i64.wrap (((a1.length:Nat):Int) - 1)) - x26)])).bind fun r53=>J40 (IntKind.i64.wrap (x25 - 2)) r53.2) ((Adi.f m32 l27 14 ([IntKind.i64.wrap ((IntKind.i64.wrap (((a1.length:Nat):Int) - 1)) - x26)])).bind fun r59=>(A3y.f m32 Aal x41.text).bind fun r64=>cond (decide (r64 > 0)) ((Adi.f m32 r59.2 7 ([r64])).bind fun r67=>J40 x25 r67.2) ((Ax4.f m32 Aah x41.text).bind fun r72=>(Adi.f m32 r59.2 9 ([r72])).bind fun r74=>J40 x25 r74.2)))) (J18 l27)
def Am3.f (k:Nat) (Aae:TyB) (Aax:TyA) (Aah:TyC) (Aal:TyC) (a1:List Tree) (a2:List Tree):Option TyA:=Adj (fun (x1:Int) (l2:TyA)=>(Apw.f k Aae l2 Aah Aal a2 ((a1.length:Nat):Int)).bind fun r8=>Adj (fun (l13:TyA)=>(Adi.f k l13 15 ([IntKind.i64.wrap (((a1.length:Nat):Int)+x1)])).bind fun r20=>some (r20.2)) (fun J18=>Am3.l0 k Aah Aal a1 J18 x1 0 r8)) (fun J7=>Am3.l1 k Aae Aah Aal a1 J7 0 0 Aax)
theorem Am3.ok {k b0 Abb Ac3 Aa8 Abp Ae6 Anp:Nat} {Aae:TyB} {Aax r:TyA} {Aah Aal:TyC} {a1 a2:List Tree} {Aay Aaz Aa0 Ac5 Aa3 Ac7 Ada Acn:Value} {Afz Adk Afk Adz Ahz Au4 G:Aaa} {Aa9 Ac2 Aa7 Abn Ae2 Ano:TyO} (h:Am3.f k Aae Aax Aah Aal a1 a2=some r) (Afd:RdT e78 3 Afz (slW Aa9 Aae Abb) Aae) (Aeo:Aaf e48 48 4 Adk (slW Ac2 Aax Ac3) Aax) (Aev:RdT encS 1 Afk (slW Aa7 Aah Aa8) Aah) (Aek:RdT encS 1 Adz (slW Abn Aal Abp) Aal) (Ajh:RdR (Abt 54) Ahz (slW Ae2 a1 Ae6) a1) (A3o:RdR (Abt 54) Au4 (slW Ano a2 Anp) a2) (hG:GlP G): Ct Tryz.prog 73 #[pt b0,slW Ae2 a1 Ae6,slW Ano a2 Anp] [bk b0 #[Aay,Aaz,Aa0,slW Aa9 Aae Abb,slW Ac2 Aax Ac3,Ac5,slW Aa7 Aah Aa8,Aa3,Ac7,Ada,slW Abn Aal Abp,Acn] 66,Adk] [Afz,Afk,Adz,Ahz,Au4,G] (fun e l1=>∃ (H0_:Aaa) (A0_:TyO) (c0_:Nat),Aaf e48 48 4 H0_ (slW A0_ r c0_) r∧e=.returned (.tuple #[])∧l1=[bk b0 #[Aay,Aaz,Aa0,slW Aa9 Aae Abb,slW A0_ r c0_,Ac5,slW Aa7 Aah Aa8,Aa3,Ac7,Ada,slW Abn Aal Abp,Acn] 66,H0_]):=by
 refine Afi (args:=[pt b0,slW Ae2 a1 Ae6,slW Ano a2 Anp]) Tryz.func73 rfl (Ac0 rfl) ?_
 intro A X hh_
 obtain ⟨Agn,Af2,Ak2,Ah4,A1h,Ad1,_⟩:=hh_
 unfold Am3.f at h
 refine K.eq (env':=[(0,pt b0),(1,slW Ae2 a1 Ae6),(2,slW Ano a2 Anp)]) (l':=bk b0 #[Aay,Aaz,Aa0,slW Aa9 Aae Abb,slW Ac2 Aax Ac3,Ac5,slW Aa7 Aah Aa8,Aa3,Ac7,Ada,slW Abn Aal Abp,Acn] 66 :: Adk :: X) rfl rfl (ksr (kx 4 (knt ?_)))
 obtain ⟨J7,hJ7,h⟩:=Ags h
 refine Agt (τ:=Int×TyA×Aaa×TyO×Nat) (fun t=>[(0,pt b0),(1,slW Ae2 a1 Ae6),(2,slW Ano a2 Anp),(6,iv ((a1.length:Nat):Int)),(7,iv t.1)]) (fun t=>bk b0 #[Aay,Aaz,Aa0,slW Aa9 Aae Abb,slW t.2.2.2.1 t.2.1 t.2.2.2.2,Ac5,slW Aa7 Aah Aa8,Aa3,Ac7,Ada,slW Abn Aal Abp,Acn] 66 :: t.2.2.1 :: X) (fun t=>J7 t.1 t.2.1=some r∧Aaf e48 48 4 t.2.2.1 (slW t.2.2.2.1 t.2.1 t.2.2.2.2) t.2.1) ?_ ?_
 ·rintro ⟨x1,l2,h3,A4,k5⟩ ⟨h,o6⟩
  subst hJ7
  refine ksr (kx 4 (Abz (kx 3 (K.mv1 (K.mv1 (bnd h fun r8 hr8 h=>(kcl (Apw.ok hr8 Afd o6 Aev Aek A3o hG) rfl ⟨Agn,Af2,Ak2,A1h,Ad1,trivial⟩ ?_)))))))
  rintro _ _ ⟨h9,A10,k11,o12,rfl,rfl⟩
  refine Ach (knt ?_)
  obtain ⟨J18,Bto,h⟩:=Ags h
  refine Agt (τ:=TyA×Aaa×TyO×Nat) (fun t=>[(0,pt b0),(10,iv (IntKind.i64.wrap (((a1.length:Nat):Int)+x1)))]) (fun t=>bk b0 #[Aay,Aaz,Aa0,slW Aa9 Aae Abb,slW t.2.2.1 t.1 t.2.2.2,Ac5,slW Aa7 Aah Aa8,Aa3,Ac7,Ada,slW Abn Aal Abp,Acn] 66 :: t.2.1 :: X) (fun t=>J18 t.1=some r∧Aaf e48 48 4 t.2.1 (slW t.2.2.1 t.1 t.2.2.2) t.1) ?_ ?_
  ·rintro ⟨l13,h14,A15,k16⟩ ⟨h,o17⟩
   subst Bto
   refine Ab6 (kx 2 (kns #[iv (IntKind.i64.wrap (((a1.length:Nat):Int)+x1))] 3 1 fun b19=>(K.mv2 (K.mv2 (bnd h fun r20 A7c h=>(kcl (Adi.ok A7c o17 (Aaf.rd (Aaf.blk 3 (Ai1 .i64) b19 [IntKind.i64.wrap (((a1.length:Nat):Int)+x1)] #[iv (IntKind.i64.wrap (((a1.length:Nat):Int)+x1))] 1 (by kernel_rfl) rfl (by decide)))) rfl ⟨(.head _),trivial⟩ ?_))))))
   rintro _ _ ⟨h21,A22,k23,o24,rfl,rfl⟩
   refine Ach (K.mv2 (K.drop (knl (Afg ?_))))
   obtain rfl:=Aam h
   exact kdv (.tuple #[]) [bk b0 #[Aay,Aaz,Aa0,slW Aa9 Aae Abb,slW A22 r20.2 k23,Ac5,slW Aa7 Aah Aa8,Aa3,Ac7,Ada,slW Abn Aal Abp,Acn] 66,h21] (Adq ⟨h21,A22,k23,o24,rfl,rfl⟩)
  ·skip
   refine ksr (kx 3 (knt (Aez (Akb (τ:=Int×Int×TyA×Aaa×TyO×Nat) (fun t=>[(0,pt b0),(6,iv ((a1.length:Nat):Int)),(7,iv t.1),(10,iv (IntKind.i64.wrap (((a1.length:Nat):Int)+x1))),(39,slW Ae2 a1 Ae6),(40,iv ((a1.length:Nat):Int)),(41,iv t.2.1)]) (fun t=>bk b0 #[Aay,Aaz,Aa0,slW Aa9 Aae Abb,slW t.2.2.2.2.1 t.2.2.1 t.2.2.2.2.2,Ac5,slW Aa7 Aah Aa8,Aa3,Ac7,Ada,slW Abn Aal Abp,Acn] 66 :: t.2.2.2.1 :: X) (fun m t=>Am3.l0 m Aah Aal a1 J18 t.1 t.2.1 t.2.2.1=some r∧Aaf e48 48 4 t.2.2.2.1 (slW t.2.2.2.2.1 t.2.2.1 t.2.2.2.2.2) t.2.2.1) k (x1,0,r8,h9,A10,k11) ⟨h,o12⟩ sb rfl ?_))))
   clear h
   rintro m32 ⟨x25,x26,l27,h28,A29,k30⟩ ⟨h,o31⟩
   cases m32 with
   | zero=>simp [Am3.l0] at h
   | succ m32 =>
    simp only [Am3.l0] at h
    refine ksr (kx 1 (knt (Acx ?_)))
    refine kcn h (fun h=>?_) fun h=>?_
    ·refine Adl (Abi ?_)
     obtain ⟨J40,Btr,h⟩:=Ags h
     refine Agt (τ:=Int×TyA×Aaa×TyO×Nat) (fun t=>[(0,pt b0),(6,iv ((a1.length:Nat):Int)),(7,iv t.1),(10,iv (IntKind.i64.wrap (((a1.length:Nat):Int)+x1))),(39,slW Ae2 a1 Ae6),(40,iv ((a1.length:Nat):Int)),(41,iv x26)]) (fun t=>bk b0 #[Aay,Aaz,Aa0,slW Aa9 Aae Abb,slW t.2.2.2.1 t.2.1 t.2.2.2.2,Ac5,slW Aa7 Aah Aa8,Aa3,Ac7,Ada,slW Abn Aal Abp,Acn] 66 :: t.2.2.1 :: X) (fun t=>J40 t.1 t.2.1=some r∧Aaf e48 48 4 t.2.2.1 (slW t.2.2.2.1 t.2.1 t.2.2.2.2) t.2.1) ?_ ?_
     ·rintro ⟨x34,l35,h36,A37,k38⟩ ⟨h,o39⟩
      subst Btr
      exact Ab6 (kx 2 (knt (Ai4 m32 (x34,IntKind.i64.wrap (x26+1),l35,h36,A37,k38) (Nat.lt_succ_self _) ⟨h,o39⟩ sb rfl)))
     ·skip
      refine Aez (ksr (kx 1 (bnd h fun x41 A7t h=>(Ail (T:=54) (kd:=.i64) (R:=(Abt 54)) rfl A7t Ajh fun p42 u45 q46 e43 y44=>?_))))
      obtain ⟨A47,k48,rfl,o49⟩:=Aig 54 q46
      refine keN rfl e43 (t2 Ah4) (knp #[iv 0,sv noS,iv 0,iv 0,nS] 54 fun b50=>(kx 1 (kst 0 5 #[iv x41.kind,sv x41.text,iv x41.n,iv x41.at_,slW A47 x41.kids k48] (knt (Acx (ksr (kx 1 (kld 0 0 rfl (kx 1 (knt ?_))))))))))
      refine kcn h (fun h=>?_) fun h=>?_
      ·refine ksr (kx 3 (Abz (kx 8 (kns #[iv (IntKind.i64.wrap (((a1.length:Nat):Int)+(IntKind.i64.wrap (x25 - 2)))),iv (IntKind.i64.wrap ((IntKind.i64.wrap (((a1.length:Nat):Int) - 1)) - x26))] 3 2 fun b52=>(K.mv1 (K.drop (K.mv2 (K.mv2 (bnd h fun r53 Bvi h=>(kcl (Adi.ok Bvi o31 (Aaf.rd (Aaf.blk 3 (Ai1 .i64) b52 [IntKind.i64.wrap (((a1.length:Nat):Int)+(IntKind.i64.wrap (x25 - 2))),IntKind.i64.wrap ((IntKind.i64.wrap (((a1.length:Nat):Int) - 1)) - x26)] #[iv (IntKind.i64.wrap (((a1.length:Nat):Int)+(IntKind.i64.wrap (x25 - 2)))),iv (IntKind.i64.wrap ((IntKind.i64.wrap (((a1.length:Nat):Int) - 1)) - x26))] 2 (by kernel_rfl) rfl (by decide)))) rfl ⟨(.head _),trivial⟩ ?_))))))))))
       rintro _ _ ⟨h54,A55,k56,o57,rfl,rfl⟩
       exact Ach (K.mv2 (K.drop (knt (Aj9 (Agh (Aka (Abi (Ac1 (IntKind.i64.wrap (x25 - 2),r53.2,h54,A55,k56) ⟨h,o57⟩ sb rfl))))))))
      ·refine Adl (Abi (ksr (kx 5 (kns #[iv (IntKind.i64.wrap ((IntKind.i64.wrap (((a1.length:Nat):Int) - 1)) - x26))] 3 1 fun b58=>(K.mv3 (K.mv3 (bnd h fun r59 hr59 h=>(kcl (Adi.ok hr59 o31 (Aaf.rd (Aaf.blk 3 (Ai1 .i64) b58 [IntKind.i64.wrap ((IntKind.i64.wrap (((a1.length:Nat):Int) - 1)) - x26)] #[iv (IntKind.i64.wrap ((IntKind.i64.wrap (((a1.length:Nat):Int) - 1)) - x26))] 1 (by kernel_rfl) rfl (by decide)))) rfl ⟨(.head _),trivial⟩ ?_))))))))
       rintro _ _ ⟨h60,A61,k62,o63,rfl,rfl⟩
       refine Ach (K.mv2 (K.drop (Abz (kx 2 (kld 2 1 rfl (bnd h fun r64 Bvl h=>(kc1 (A3y.ok Bvl Aek) rfl ⟨(t2 Ak2),trivial⟩ (kx 1 (Abz (kx 2 ?_))))))))))
       refine knt ?_
       refine kcn h (fun h=>?_) fun h=>?_
       ·refine Ab6 (kx 2 (kns #[iv r64] 3 1 fun b66=>(K.mv3 (K.drop (K.mv2 (K.mv2 (bnd h fun r67 A1l h=>(kcl (Adi.ok A1l o63 (Aaf.rd (Aaf.blk 3 (Ai1 .i64) b66 [r64] #[iv r64] 1 (by kernel_rfl) rfl (by decide)))) rfl ⟨(.head _),trivial⟩ ?_))))))))
        rintro _ _ ⟨h68,A69,k70,o71,rfl,rfl⟩
        exact Ach (K.mv2 (K.drop (knl (Ade (Abi (Ac1 (x25,r67.2,h68,A69,k70) ⟨h,o71⟩ sb rfl))))))
       ·refine Ab6 (kx 3 (kld 2 1 rfl (K.mv2 (K.drop (bnd h fun r72 Bf5 h=>(kc1 (Ax4.ok Bf5 Aev) rfl ⟨(.tail _ Af2),trivial⟩ (kns #[iv r72] 3 1 fun b73=>(K.mv2 (K.mv2 (bnd h fun r74 Bvu h=>?_))))))))))
        refine kcl (Adi.ok Bvu o63 (Aaf.rd (Aaf.blk 3 (Ai1 .i64) b73 [r72] #[iv r72] 1 (by kernel_rfl) rfl (by decide)))) rfl ⟨(.head _),trivial⟩ ?_
        rintro _ _ ⟨h75,A76,k77,o78,rfl,rfl⟩
        exact Ach (K.mv2 (K.drop (knl (Ade (Abi (Ac1 (x25,r74.2,h75,A76,k77) ⟨h,o78⟩ sb rfl))))))
    ·exact Aj9 (Agh (Agh (Aka (Abi (Ac1 (l27,h28,A29,k30) ⟨h,o31⟩ sb rfl)))))
 ·skip
  refine ksr (kx 3 (knt (Aez (Akb (τ:=Int×Int×TyA×Aaa×TyO×Nat) (fun t=>[(0,pt b0),(1,slW Ae2 a1 Ae6),(2,slW Ano a2 Anp),(6,iv ((a1.length:Nat):Int)),(7,iv t.1),(16,slW Ae2 a1 Ae6),(17,iv ((a1.length:Nat):Int)),(18,iv t.2.1)]) (fun t=>bk b0 #[Aay,Aaz,Aa0,slW Aa9 Aae Abb,slW t.2.2.2.2.1 t.2.2.1 t.2.2.2.2.2,Ac5,slW Aa7 Aah Aa8,Aa3,Ac7,Ada,slW Abn Aal Abp,Acn] 66 :: t.2.2.2.1 :: X) (fun m t=>Am3.l1 m Aae Aah Aal a1 J7 t.1 t.2.1 t.2.2.1=some r∧Aaf e48 48 4 t.2.2.2.1 (slW t.2.2.2.2.1 t.2.2.1 t.2.2.2.2.2) t.2.2.1) k (0,0,Aax,Adk,Ac2,Ac3) ⟨h,Aeo⟩ sb rfl ?_))))
  clear h
  rintro m86 ⟨x79,x80,l81,h82,A83,k84⟩ ⟨h,o85⟩
  cases m86 with
  | zero=>simp [Am3.l1] at h
  | succ m86 =>
   simp only [Am3.l1] at h
   refine ksr (kx 1 (knt (Acx ?_)))
   refine kcn h (fun h=>?_) fun h=>?_
   ·refine Adl (Abi ?_)
    obtain ⟨J94,Cvz,h⟩:=Ags h
    refine Agt (τ:=Int×TyA×Aaa×TyO×Nat) (fun t=>[(0,pt b0),(1,slW Ae2 a1 Ae6),(2,slW Ano a2 Anp),(6,iv ((a1.length:Nat):Int)),(7,iv t.1),(16,slW Ae2 a1 Ae6),(17,iv ((a1.length:Nat):Int)),(18,iv x80)]) (fun t=>bk b0 #[Aay,Aaz,Aa0,slW Aa9 Aae Abb,slW t.2.2.2.1 t.2.1 t.2.2.2.2,Ac5,slW Aa7 Aah Aa8,Aa3,Ac7,Ada,slW Abn Aal Abp,Acn] 66 :: t.2.2.1 :: X) (fun t=>J94 t.1 t.2.1=some r∧Aaf e48 48 4 t.2.2.1 (slW t.2.2.2.1 t.2.1 t.2.2.2.2) t.2.1) ?_ ?_
    ·rintro ⟨x88,l89,h90,A91,k92⟩ ⟨h,o93⟩
     subst Cvz
     exact Ab6 (kx 2 (knt (Ai4 m86 (x88,IntKind.i64.wrap (x80+1),l89,h90,A91,k92) (Nat.lt_succ_self _) ⟨h,o93⟩ sb rfl)))
    ·skip
     refine Aez (ksr (bnd h fun x95 hx95 h=>(Ail (T:=54) (kd:=.i64) (R:=(Abt 54)) rfl hx95 Ajh fun p96 u99 Dca e97 y98=>?_)))
     obtain ⟨Cmz,C3k,rfl,C75⟩:=Aig 54 Dca
     refine keN rfl e97 (t2 Ah4) (knp #[iv 0,sv noS,iv 0,iv 0,nS] 54 fun Dh0=>(kst 0 5 #[iv x95.kind,sv x95.text,iv x95.n,iv x95.at_,slW Cmz x95.kids C3k] (Abz (kx 1 (kld 0 0 rfl (kx 1 (knt ?_)))))))
     refine kcn h (fun h=>?_) fun h=>?_
     ·refine ksr (kx 2 (kld 0 4 rfl (K.drop (K.mv1 (K.mv1 (bnd h fun B0j Cx5 h=>(kcl (Ah3.ok Cx5 Afd o85 Aev Aek C75 hG) rfl ⟨Agn,Af2,Ak2,Ah4,Ad1,trivial⟩ ?_)))))))
      rintro _ _ ⟨Ct8,Bpy,Bwq,Bb3,rfl,rfl⟩
      exact Ach (knr (kx 3 (knl (Ade (Abi (Ac1 (IntKind.i64.wrap (x79+2),B0j,Ct8,Bpy,Bwq) ⟨h,Bb3⟩ sb rfl))))))
     ·exact Adl (Ade (Abi (K.drop (Ac1 (x79,l81,h82,A83,k84) ⟨h,o85⟩ sb rfl))))
   ·exact Aj9 (Agh (Agh (Aka (Abi (Ac1 (x79,l81,h82,A83,k84) ⟨h,o85⟩ sb rfl)))))
theorem Aaa.or_comm {f g:Aaa} (h:f.Apart g):f.or g=g.or f:=by
 funext k
 rcases h k with e | e
 ·cases hg:g k <;> simp [Aaa.or,e,hg]
 ·cases hf:f k <;> simp [Aaa.or,e,hf]
theorem Aaa.Apart.orr {f g h:Aaa} (h1:f.Apart g) (h2:f.Apart h):f.Apart (g.or h):=(h1.symm.orl h2.symm).symm
theorem Aaa.Apart.Bb4 {f g h:Aaa} (hgh:g.Apart h) (h1:f.Apart (g.or h)):f.Apart g∧f.Apart h:=by
 obtain ⟨a,b⟩:=Aaa.Apart.Ayo hgh h1.symm
 exact ⟨a.symm,b.symm⟩
theorem Aaa.Bn2 {f g h:Aaa} (hg:g.Apart f):g.or (f.or h)=f.or (g.or h):=by
 rw [← Aaa.or_assoc,Aaa.or_comm hg,Aaa.or_assoc]
section
variable {α:Type} {R:Amy α}
theorem Ael.focus:∀ {l:List α} {H:Aaa} {cs:List Value} {k:Nat} {x:α},Ael R l H cs→l[k]? = some x →
  ∃ Hx Hr,H=Hx.or Hr∧Hx.Apart Hr∧R.own x Hx ((cs.drop (k * R.sz)).take R.sz) ∧
   ∀ x' Hx' cx',R.own x' Hx' cx'→Hx'.Apart Hr→Ael R (l.set k x') (Hx'.or Hr) (cs.take (k * R.sz)++cx'++cs.drop (k * R.sz+R.sz))
 | y :: l,_,_,0,x,⟨H1,H2,c1,c2,rfl,ha,rfl,h1,h2⟩,hx=>by
  simp only [List.getElem?_cons_zero,Option.some.injEq] at hx
  subst hx
  refine ⟨H1,H2,rfl,ha,?_,fun x' Hx' cx' h' ha'=>?_⟩
  ·rw [Nat.zero_mul,List.drop_zero,← (R.len h1).1,List.take_left]
   exact h1
  ·rw [Nat.zero_mul,List.take_zero,List.nil_append,Nat.zero_add,← (R.len h1).1,List.drop_left]
   exact ⟨Hx',H2,cx',c2,rfl,ha',rfl,h',h2⟩
 | y :: l,_,_,k+1,x,⟨H1,H2,c1,c2,rfl,ha,rfl,h1,h2⟩,hx=>by
  rw [List.getElem?_cons_succ] at hx
  obtain ⟨Hx,Hr,rfl,hxr,ho,hc⟩:=Ael.focus h2 hx
  obtain ⟨a1,a2⟩:=Aaa.Apart.Bb4 hxr ha
  have hl:c1.length=R.sz:=(R.len h1).1
  have e1:(k+1) * R.sz=c1.length+k * R.sz:=by rw [hl,Nat.add_mul,Nat.one_mul,Nat.add_comm]
  refine ⟨Hx,H1.or Hr,Aaa.Bn2 a1,Aaa.Apart.orr a1.symm hxr,?_,fun x' Hx' cx' h' ha'=>?_⟩
  ·rw [e1,← List.drop_drop,List.drop_left]
   exact ho
  ·obtain ⟨b1,b2⟩:=Aaa.Apart.Bb4 a2 ha'
   have h3:=hc x' Hx' cx' h' b2
   rw [List.set_cons_succ,← Aaa.Bn2 b1.symm]
   refine ⟨H1,Hx'.or Hr,c1,_,rfl,Aaa.Apart.orr b1.symm a2,?_,h1,h3⟩
   rw [e1,List.take_length_add_append,show c1.length+k * R.sz+R.sz=c1.length+(k * R.sz+R.sz) by omega,List.drop_length_add_append]
   simp only [Aep]
def Arl (R:Amy α) (T:TypeId) (Hr:Aaa) (A':Option Addr) (c:Nat) (xs:List α) (k:Nat) (cx:List Value):Prop :=
 ∃ Ho H0 cs,Hr=Ho.or H0∧Ho.Apart H0∧Own T R.sz Ho (.slice A' xs.length c) xs.length cs∧k < xs.length∧(cs.drop (k * R.sz)).take R.sz=cx∧cx.length=R.sz ∧
  ∀ x' Hx' cx',R.own x' Hx' cx'→Hx'.Apart H0→Ael R (xs.set k x') (Hx'.or H0) (cs.take (k * R.sz)++cx'++cs.drop (k * R.sz+R.sz))
theorem Abf.hole {T:TypeId} {h:Aaa} {A':Option Addr} {c k:Nat} {xs:List α} {x:α} (hO:Abf R T h (.slice A' xs.length c) xs) (hx:xs[k]? = some x) :
  ∃ Hx Hr cx,h=Hx.or Hr∧Hx.Apart Hr∧R.own x Hx cx∧Arl R T Hr A' c xs k cx:=by
 obtain ⟨Ho,Hi,cs,rfl,ha,h1,h2⟩:=hO
 obtain ⟨Hx,Hr,rfl,hxr,ho,hc⟩:=h2.focus hx
 obtain ⟨a1,a2⟩:=Aaa.Apart.Bb4 hxr ha
 exact ⟨Hx,Ho.or Hr,_,Aaa.Bn2 a1,Aaa.Apart.orr a1.symm hxr,ho,Ho,Hr,cs,rfl,a2,h1,(List.getElem?_eq_some_iff.1 hx).1,rfl,(R.len ho).1,hc⟩
theorem Arl.close {T:TypeId} {Hr:Aaa} {A':TyO} {c k:Nat} {xs:List α} {cx:List Value} (hh:Arl R T Hr A' c xs k cx) {x':α} {Hx':Aaa} (h':R.own x' Hx' cx) (ha':Hx'.Apart Hr):Abf R T (Hx'.or Hr) (.slice A' (xs.set k x').length c) (xs.set k x'):=by
 obtain ⟨Ho,H0,cs,rfl,a2,h1,hk,e,_,hc⟩:=hh
 obtain ⟨b1,b2⟩:=Aaa.Apart.Bb4 a2 ha'
 have h3:=hc x' Hx' _ h' b2
 have e:cs.take (k * R.sz)++cx++cs.drop (k * R.sz+R.sz)=cs:=by
  rw [← e,Aep,← List.drop_drop,List.take_append_drop,List.take_append_drop]
 rw [e] at h3
 rw [← Aaa.Bn2 b1.symm]
 exact ⟨Ho,Hx'.or H0,cs,rfl,Aaa.Apart.orr b1.symm a2,by rw [List.length_set];exact h1,h3⟩
theorem Arl.elem {T:TypeId} {Hr:Aaa} {A':Option Addr} {c k:Nat} {xs:List α} {cx:List Value} (hh:Arl R T Hr A' c xs k cx) {p:Value} (hp:Place A' (k * R.sz) p):Elem Hr p cx:=by
 obtain ⟨Ho,H0,cs,rfl,a2,h1,hk,e,_,hc⟩:=hh
 obtain ⟨b,off,rfl,rfl⟩:=hp
 rcases h1.2.2 with ⟨_,h0⟩ | ⟨g,cap,cur,he,rfl,h4,h5,h6,h7⟩
 ·omega
 ·cases he
  refine ⟨b,0+k * R.sz,cur,T,(0,0),rfl,Aaa.Bb7 (by simp [blk]),fun j u hj=>?_⟩
  rw [← e,List.getElem?_take] at hj
  split at hj
  ·rw [List.getElem?_drop,← h7,List.getElem?_take] at hj
   split at hj
   ·rw [Nat.zero_add];simpa using hj
   ·cases hj
  ·cases hj
end
section
variable {A:World} {ds:List Deferred} {n0:Nat} {env env':Env} {l l' X:List Aaa} {q:Act→World→Prop} {P:Program} {Q:Exit→Act→World→Prop} {ops:Array Oper} {os rest:List Oper} {o:Oper} {α:Type} {R:Amy α}
theorem Bbm {T:TypeId} {h:Aaa} {A':Option Addr} {c k:Nat} {xs:List α} {x:α} (hO:Abf R T h (.slice A' xs.length c) xs) (hx:xs[k]? = some x)
  (hk:∀ Hx Hr cx,Hx.Apart Hr→h=Hx.or Hr→R.own x Hx cx→Arl R T Hr A' c xs k cx→K ds A n0 env (Hx :: Hr :: l) q):K ds A n0 env (h :: l) q:=by
 obtain ⟨Hx,Hr,cx,rfl,ha,ho,hc⟩:=hO.hole hx
 exact A4e ha (hk Hx Hr cx ha rfl ho hc)
theorem C5k {xs:List α} {k off:Nat} {Hr:Aaa} {A':Option Addr} {c:Nat} {cx:List Value} {T T1:TypeId} {p v:Value} {s y:Operand} (ho:o.op=.store T1 s y) (hg:Afh ops env o=some true) (hd:inB n0 o.dst=true)
  (hs:Aeb env s=some p) (hy:Aeb env y=some v) (hsz:(P.info? T1).map (·.size)=some v.cells.size) (hp:Place A' (k * R.sz+off) p) (hH:Arl R T Hr A' c xs k cx) (hfit:off+v.cells.toList.length≤R.sz) (Cb1:∀ u ∈ v.cells.toList,u.oneCell'=true)
  (hk:∀ Hr',Arl R T Hr' A' c xs k (cx.take off++v.cells.toList++cx.drop (off+v.cells.toList.length))→K ds A n0 (Acz env o.dst undef) (Hr' :: l) (wpList P ops Q rest)):K ds A n0 env (Hr :: l) (wpList P ops Q (o :: rest)):=by
 obtain ⟨Ho,H0,cs,rfl,hab,Btt,hkl,hcx,hcl,hc⟩:=hH
 subst hcx
 refine A4e hab ?_
 refine Ami hg fun a w ha hw=>?_
 cases hif:P.info? T1 with
 | none=>rw [hif] at hsz;cases hsz
 | some i =>
  rw [hif] at hsz
  have hsize:i.size=v.cells.size:=Aam hsz
  obtain ⟨hlen,Atl,hcc⟩:=Btt
  rcases hcc with ⟨he,h0⟩ | ⟨g,cap,cur,he,rfl,h4,h5,h6,h7⟩
  ·omega
  ·cases he
   obtain ⟨b,of_,he,rfl⟩:=hp
   cases he
   have hgc:w.heap[g]? = some (.cells cur T (0,0)):=hw.sat.1 g _ (by simp [blk])
   have hle:k * R.sz+R.sz≤xs.length * R.sz:=by
    have:=Nat.mul_le_mul_right R.sz (show k+1≤xs.length by omega)
    rw [Nat.add_mul,Nat.one_mul] at this
    exact this
   have hcs:xs.length * R.sz≤cur.size:=by rw [h6];exact Nat.mul_le_mul_right _ h4
   have hst:=run_storeCells_at P g (k * R.sz+off) T v.cells.toList 0 cur w hgc (by omega) Cb1
   simp only [Nat.add_zero] at hst
   have hr:(Instr.storeAt T1 (.pointer (some ⟨g,0+(k * R.sz+off),none⟩)) v).run P w=.ok () (w.setRow g (cur.toList.take (k * R.sz+off)++v.cells.toList++cur.toList.drop (k * R.sz+off+v.cells.toList.length)).toArray):=by
    simp [Instr.storeAt,Instr.sureAddr,storeVar,sizeOf,typeInfo,hif,hsize]
    simpa using hst
   unfold Oper.wp execOp
   simp only [ho,ha.eval hs,ha.eval hy,Sem.run_bind,hr,Result.andThen_ok,Sem.run_pure]
   have hsp:=Ck2 cur.toList v.cells.toList (k * R.sz) off R.sz (xs.length * R.sz) hfit hle (by simpa using hcs)
   rw [h7] at hsp
   obtain ⟨cx',hcx'⟩:∃ y,y=((cs.drop (k * R.sz)).take R.sz).take off++v.cells.toList++((cs.drop (k * R.sz)).take R.sz).drop (off+v.cells.toList.length):=⟨_,rfl⟩
   rw [← hcx'] at hsp
   have hln:cx'.length=R.sz:=by
    rw [hcx',Abj,Abj,List.length_take,Afe,hcl]
    omega
   have hone':∀ u ∈ cx',u.oneCell'=true:=fun u hu=>by
    rw [hcx'] at hu
    rcases Agb.1 hu with hu | hu
    ·rcases Agb.1 hu with hu | hu
     ·exact Atl u (List.mem_of_mem_drop (List.mem_of_mem_take (List.mem_of_mem_take hu)))
     ·exact Cb1 u hu
    ·exact Atl u (List.mem_of_mem_drop (List.mem_of_mem_take (List.mem_of_mem_drop hu)))
   obtain ⟨cs',hcs'⟩:∃ y,y=cs.take (k * R.sz)++cx'++cs.drop (k * R.sz+R.sz):=⟨_,rfl⟩
   have hkt:(cs.take (k * R.sz)).length=k * R.sz:=by rw [List.length_take,hlen];omega
   have Btu:Own T R.sz (blk g (.cells (cur.toList.take (k * R.sz+off)++v.cells.toList++cur.toList.drop (k * R.sz+off+v.cells.toList.length)).toArray T (0,0))) (.slice (some ⟨g,0,none⟩) xs.length c) xs.length cs':=by
    refine ⟨?_,?_,.inr ⟨g,c,_,rfl,rfl,h4,h5,?_,?_⟩⟩
    ·rw [hcs',Abj,Abj,hln,hkt,Afe,hlen]
     omega
    ·intro u hu
     rw [hcs'] at hu
     rcases Agb.1 hu with hu | hu
     ·rcases Agb.1 hu with hu | hu
      ·exact Atl u (List.mem_of_mem_take hu)
      ·exact hone' u hu
     ·exact Atl u (List.mem_of_mem_drop hu)
    ·simp only [List.size_toArray,Abj,List.length_take,Afe,Array.length_toList]
     rw [Nat.min_eq_left (by omega)]
     have:v.cells.toList.length=v.cells.size:=Array.length_toList
     omega
    ·rw [hcs'];exact hsp
   have e1:(cs'.drop (k * R.sz)).take R.sz=cx':=by
    rw [hcs',Aep]
    have:(cs.take (k * R.sz)++(cx'++cs.drop (k * R.sz+R.sz))).drop (k * R.sz)=cx'++cs.drop (k * R.sz+R.sz):=by
     have:=List.drop_left (l₁:=cs.take (k * R.sz)) (l₂:=cx'++cs.drop (k * R.sz+R.sz))
     rw [hkt] at this
     exact this
    rw [this,← hln,List.take_left]
   have e2:cs'.take (k * R.sz)=cs.take (k * R.sz):=by
    rw [hcs',Aep]
    have:=List.take_left (l₁:=cs.take (k * R.sz)) (l₂:=cx'++cs.drop (k * R.sz+R.sz))
    rw [hkt] at this
    exact this
   have e3:cs'.drop (k * R.sz+R.sz)=cs.drop (k * R.sz+R.sz):=by
    rw [hcs']
    have:=List.drop_left (l₁:=cs.take (k * R.sz)++cx') (l₂:=cs.drop (k * R.sz+R.sz))
    rw [Abj,hkt,hln] at this
    exact this
   have hk':K ds A n0 (Acz env o.dst undef) (blk g (.cells (cur.toList.take (k * R.sz+off)++v.cells.toList++cur.toList.drop (k * R.sz+off+v.cells.toList.length)).toArray T (0,0)) :: H0 :: l) (wpList P ops Q rest) :=
    Av0 fun hap=>hk _ ⟨_,H0,cs',rfl,hap,Btu,hkl,by rw [e1,hcx'],by rw [← hcx'];exact hln,fun x' Hx' cx2 h' ha'=>by rw [e2,e3];exact hc x' Hx' cx2 h' ha'⟩
   exact hk' _ _ (ha.Acz _ hd) (hw.setRow _)
end
def Ahx {α:Type} (R:Amy α):Amy (Option α) where
 sz:=R.sz
 own x H cs:=match x with | some u=>R.own u H cs | none=>cs.length=R.sz∧∀ u ∈ cs,u.oneCell'=true
 rd x H cs:=match x with | some u=>R.rd u H cs | none=>cs.length=R.sz∧∀ u ∈ cs,u.oneCell'=true
 len:=by
  intro x H cs h
  cases x with
  | none=>exact h
  | some u=>exact R.len h
 lenr:=by
  intro x H cs h
  cases x with
  | none=>exact h
  | some u=>exact R.lenr h
 A4x:=by
  intro x H H' cs h hi
  cases x with
  | none=>exact h
  | some u=>exact R.A4x h hi
theorem Ael.opt {α:Type} {R:Amy α}:∀ {l:List α} {H:Aaa} {cs:List Value},Ael (Ahx R) (l.map some) H cs ↔ Ael R l H cs
 | [],H,cs=>Iff.rfl
 | x :: l,H,cs=>by
  constructor
  ·rintro ⟨H1,H2,c1,c2,h1,h2,h3,h4,h5⟩
   exact ⟨H1,H2,c1,c2,h1,h2,h3,h4,Ael.opt.1 h5⟩
  ·rintro ⟨H1,H2,c1,c2,h1,h2,h3,h4,h5⟩
   exact ⟨H1,H2,c1,c2,h1,h2,h3,h4,Ael.opt.2 h5⟩
theorem Abf.opt {α:Type} {R:Amy α} {T:TypeId} {h:Aaa} {v:Value} {l:List α}:Abf (Ahx R) T h v (l.map some) ↔ Abf R T h v l:=by
 constructor
 ·rintro ⟨Ho,Hi,cs,h1,h2,h3,h4⟩
  exact ⟨Ho,Hi,cs,h1,h2,by rw [List.length_map] at h3;exact h3,Ael.opt.1 h4⟩
 ·rintro ⟨Ho,Hi,cs,h1,h2,h3,h4⟩
  exact ⟨Ho,Hi,cs,h1,h2,by rw [List.length_map];exact h3,Ael.opt.2 h4⟩
theorem Ael.split {α:Type} {R:Amy α}:∀ {l:List α} {H:Aaa} {cs:List Value} (m:Nat),Ael R l H cs→∃ H1 H2,H=H1.or H2∧H1.Apart H2∧Ael R (l.take m) H1 (cs.take (m * R.sz))
 | l,H,cs,0,_=>⟨none_,H,(Aaa.none_or H).symm,Aaa.Bnt H,by simp [Ael]⟩
 | [],H,cs,m+1,h=>⟨none_,H,(Aaa.none_or H).symm,Aaa.Bnt H,by
  have h:cs=[]:=h
  subst h
  simp [Ael]⟩
 | x :: l,H,cs,m+1,h=>by
  obtain ⟨H1,H2,c1,c2,rfl,ha,rfl,h1,h2⟩:=h
  obtain ⟨H3,H4,rfl,hb,h3⟩:=Ael.split m h2
  obtain ⟨a1,a2⟩:=Aaa.Apart.Bb4 hb ha
  have hl:=(R.len h1).1
  refine ⟨H1.or H3,H4,(Aaa.or_assoc ..).symm,Aaa.Apart.orl a2 hb,?_⟩
  rw [List.take_succ_cons,Nat.add_mul,Nat.one_mul,Nat.add_comm,← hl,List.take_length_add_append]
  rw [hl]
  exact ⟨H1,H3,c1,_,rfl,a1,rfl,h1,h3⟩
theorem Abf.take {α:Type} {R:Amy α} {T:TypeId} {h:Aaa} {A':Option Addr} {c m:Nat} {l:List α} (ho:Abf R T h (.slice A' l.length c) l) (hm:m≤l.length) :
  ∃ h',h'.In h∧Abf R T h' (.slice A' (l.take m).length c) (l.take m):=by
 obtain ⟨Ho,Hi,cs,rfl,ha,h1,h2⟩:=ho
 obtain ⟨H1,H2,rfl,hb,h3⟩:=h2.split m
 obtain ⟨a1,a2⟩:=Aaa.Apart.Bb4 hb ha
 refine ⟨Ho.or H1,?_,Ho,H1,_,rfl,a1,?_,h3⟩
 ·intro k o e
  rw [← Aaa.or_assoc]
  exact Aaa.Bb7 e
 ·rw [List.length_take,Nat.min_eq_left hm]
  exact Own.take h1 hm
section
variable {A:World} {ds:List Deferred} {n0:Nat} {env env':Env} {l l' X:List Aaa} {q:Act→World→Prop} {P:Program} {Q:Exit→Act→World→Prop} {ops:Array Oper} {os rest:List Oper} {o:Oper} {α:Type} {R:Amy α}
theorem C4e {T:TypeId} {Hr:Aaa} {A':Option Addr} {c k:Nat} {xs:List α} {cx:List Value} {x':α} (hH:Arl R T Hr A' c xs k cx) (h':R.own x' none_ cx)
  (hk:Abf R T Hr (.slice A' (xs.set k x').length c) (xs.set k x')→K ds A n0 env (Hr :: l) q):K ds A n0 env (Hr :: l) q :=
 hk (hH.close h' (Aaa.Bnt _))
theorem C5l {xs:List α} {k:Nat} {Hr Hx:Aaa} {A':Option Addr} {c:Nat} {cx:List Value} {x':α} {T T1:TypeId} {p v:Value} {s y:Operand} (ho:o.op=.store T1 s y) (hg:Afh ops env o=some true) (hd:inB n0 o.dst=true)
  (hs:Aeb env s=some p) (hy:Aeb env y=some v) (hsz:(P.info? T1).map (·.size)=some v.cells.size) (hp:Place A' (k * R.sz) p) (hH:Arl R T Hr A' c xs k cx) (hown:R.own x' Hx v.cells.toList)
  (hk:∀ h',Abf R T h' (.slice A' (xs.set k x').length c) (xs.set k x')→K ds A n0 (Acz env o.dst undef) (h' :: l) (wpList P ops Q rest)):K ds A n0 env (Hr :: Hx :: l) (wpList P ops Q (o :: rest)):=by
 obtain ⟨hl,h1⟩:=R.len hown
 have hcl:cx.length=R.sz:=by obtain ⟨Ho,H0,cs,_,_,_,_,_,h,_⟩:=hH;exact h
 refine C5k (off:=0) ho hg hd hs hy hsz hp hH (by omega) h1 fun Hr' hH'=>?_
 rw [List.take_zero,List.nil_append,Nat.zero_add,hl,List.drop_eq_nil_of_le (by omega),List.append_nil] at hH'
 refine K.mv1 (Av0 fun ha=>hk _ (hH'.close hown ha))
theorem Brm {β γ:Type} {x:Option (Option β)} {g:β→Option γ} {r:γ} (h:(x.bind fun y=>y.bind g)=some r):∃ u,x=some (some u)∧g u=some r:=by
 cases x with
 | none=>cases h
 | some y =>
  cases y with
  | none=>cases h
  | some u=>exact ⟨u,rfl,h⟩
theorem Cf6 {xs xs':List α} {ix:Int} {x':α} (h:Akq xs ix x'=some xs'):xs'=xs.set ix.toNat x':=(Aam (Avi h).2).symm
theorem B1b {u:α} {H H':Aaa} {cs:List Value} (h:R.own u H cs):(Ahx R).own none H' cs:=R.len h
theorem Bxc {T:TypeId} {Hr:Aaa} {A':Option Addr} {c:Nat} {ix:Int} {xs xs':List α} {cx:List Value} {x':α} (hs:Akq xs ix x'=some xs') (hH:Arl R T Hr A' c xs ix.toNat cx) (h':R.own x' none_ cx)
  (hk:Abf R T Hr (.slice A' xs'.length c) xs'→K ds A n0 env (Hr :: l) q):K ds A n0 env (Hr :: l) q:=by
 have e:=Cf6 hs
 subst e
 exact C4e hH h' hk
theorem Bxg {xs xs':List α} {ix:Int} {Hr Hx:Aaa} {A':TyO} {c:Nat} {cx:List Value} {x':α} {T T1:TypeId} {p v:Value} {s y:Operand} (ho:o.op=.store T1 s y) (hg:Afh ops env o=some true) (hd:inB n0 o.dst=true)
  (hs:Aeb env s=some p) (hy:Aeb env y=some v) (hsz:(P.info? T1).map (·.size)=some v.cells.size) (hp:Place A' (ix.toNat * R.sz) p) (hset:Akq xs ix x'=some xs') (hH:Arl R T Hr A' c xs ix.toNat cx) (hown:R.own x' Hx v.cells.toList)
  (hk:∀ h',Abf R T h' (.slice A' xs'.length c) xs'→K ds A n0 (Acz env o.dst undef) (h' :: l) (wpList P ops Q rest)):K ds A n0 env (Hr :: Hx :: l) (wpList P ops Q (o :: rest)):=by
 have e:=Cf6 hset
 subst e
 exact C5l ho hg hd hs hy hsz hp hH hown hk
theorem Bxe {xs xs':List α} {h:Aaa} {A':TyO} {c:Nat} {T TS:TypeId} {x y:Operand} {k:IntKind} (H:Int) (ho:o.op=.slice TS x none (some y) none) (hg:Afh ops env o=some true) (hd:inB n0 o.dst=true) (hx:Aeb env x=some (.slice A' xs.length c))
  (hy:Aeb env y=some (.int k H)) (h1:P.underlying TS=some (.slice T)) (h2:(P.info? T).map (·.size)=some R.sz) (hs:Aiq xs 0 H=some xs') (hO:Abf R T h (.slice A' xs.length c) xs)
  (hk:∀ h',Abf R T h' (.slice A' xs'.length c) xs'→K ds A n0 (Acz env o.dst (.slice A' xs'.length c)) (h' :: l) (wpList P ops Q rest)):K ds A n0 env (h :: l) (wpList P ops Q (o :: rest)):=by
 obtain ⟨hb,hxs⟩:=Avi hs
 obtain ⟨hL,hLH,hH⟩:=of_decide_eq_true hb
 have hxs:xs.take H.toNat=xs':=by
  have:=Aam hxs
  rw [← this]
  simp
 subst hxs
 have hm:H.toNat≤xs.length:=by omega
 obtain ⟨h',hin,hT⟩:=hO.take hm
 obtain ⟨Ho,Hi,cs,rfl,ha0,hO,_⟩:=hO
 have hA:A'=none∨∃ g,A'=some ⟨g,0,none⟩:=by
  rcases hO.2.2 with ⟨h3,h4⟩ | ⟨g,cap,cur,h3,_⟩
  ·simp only [Value.slice.injEq] at h3;exact .inl h3.1
  ·simp only [Value.slice.injEq] at h3;exact .inr ⟨g,h3.1⟩
 have hcap:xs.length≤c:=by
  rcases hO.2.2 with ⟨h3,h4⟩ | ⟨g,cap,cur,h3,h4,h5,_⟩
  ·simp only [Value.slice.injEq] at h3;omega
  ·simp only [Value.slice.injEq] at h3
   obtain ⟨_,_,rfl⟩:=h3
   omega
 have hlen:(xs.take H.toNat).length=H.toNat:=by rw [List.length_take];omega
 refine C4c hin ?_
 refine Ami hg fun a w ha hw=>?_
 cases hif:P.info? T with
 | none=>rw [hif] at h2;cases h2
 | some i =>
  have h5:0≤H:=by omega
  have h6:H≤c:=by omega
  have hrun:(Instr.sliceAt TS (.slice A' xs.length c) none (some (.int k H)) none).run P w=.ok (.slice A' H.toNat c) w:=by
   simp [Instr.sliceAt,Instr.slice,Instr.sliceBounds,Instr.sliceBound,asIntOf,run_underlying h1,sizeOf,typeInfo,hif,h5,h6]
   all_goals (rcases hA with rfl | ⟨g,rfl⟩ <;> simp [Addr.add])
  unfold Oper.wp execOp
  simp only [ho,ha.eval hx,Option.map_none,Option.map_some,ha.eval hy,Sem.run_bind,hrun,Result.andThen_ok,Sem.run_pure]
  have hk:=hk h'
  rw [hlen] at hk hT
  exact hk hT _ _ (ha.Acz _ hd) hw
end
section
variable {P:Program} {Q:Exit→Act→World→Prop} {S:World→Prop} {E:List Nat}
def A4p (ops:Array Oper) (E:List Nat) (e:Array Bool→Bool):List (Nat×Nat)→Array Bool→Bool
 | [],listed=>e listed
 | (i,0) :: rest,listed=>decide (i < ops.size) && (Region.ready .any ops listed).contains i && Region.free .any ops listed i && A4p ops E e rest (listed.setIfInBounds i true)
 | (i,k+1) :: rest,listed=>decide (k=2) && E.contains i && decide (i < ops.size) && (Region.ready .any ops listed).contains i && Region.free .any ops listed i && A4p ops E e rest (listed.setIfInBounds i true)
theorem B3e (l:List Oper) (hsel:Region.noSelect l.toArray=true) (hQ:∀ c a d v w,Q (.panic c) (Act.put a d v) w→Q (.panic c) a w) (e:Array Bool→Bool) (T:Act→World→Prop) (g:Nat)
  (hT:∀ listed a w,Closed .any l.toArray listed→e listed=true→T a w→wpAnyS P .any l.toArray Q S E g listed a w) :
  ∀ (plan:List (Nat×Nat)) (listed:Array Bool) (a:Act) (w:World),Closed .any l.toArray listed→A4p l.toArray E e plan listed=true→(plan.any (·.2 == 3)=true→S w) →
   Aei P l.toArray Q S T (Akr l.toArray plan) a w→wpAnyS P .any l.toArray Q S E (plan.length+g) listed a w
 | [],listed,a,w,hcl,hB,_,h=>by
  simp only [A4p] at hB
  rw [Acg,Nat.zero_add]
  exact hT listed a w hcl hB h
 | (i,0) :: rest,listed,a,w,hcl,hB,hS,h=>by
  simp only [A4p,Bool.and_eq_true,decide_eq_true_eq] at hB
  obtain ⟨⟨⟨hi,hr⟩,hf⟩,hB'⟩:=hB
  have ho:l.toArray[i]? = some l.toArray[i]:=by simp
  simp only [Akr,List.filterMap_cons,ho,Option.map_some,Aei] at h
  obtain ⟨v,hy,h⟩:=h
  have hr':i ∈ Region.ready .any l.toArray listed:=by simpa using hr
  rw [show (((i,0) :: rest:List (Nat×Nat)).length+g)=(rest.length+g)+1 by simp only [Aa4];omega]
  exact wpAnyS_first ho (Region.noSelect_spec hsel) (fun c a w=>hQ c a _ v w) (.inl fun _=>trivial) _ listed a w hcl (Region.free_spec ho hf) hr' hy (.inl fun _=>trivial)
   (B3e l hsel hQ e T g hT rest _ _ w (hcl.set hr') hB' (fun h=>hS (by simpa using h)) h)
 | (i,k+1) :: rest,listed,a,w,hcl,hB,hS,h=>by
  simp only [A4p,Bool.and_eq_true,decide_eq_true_eq] at hB
  obtain ⟨⟨⟨⟨⟨hk,hE⟩,hi⟩,hr⟩,hf⟩,hB'⟩:=hB
  subst hk
  have ho:l.toArray[i]? = some l.toArray[i]:=by simp
  simp only [Akr,List.filterMap_cons,ho,Option.map_some,Aei] at h
  obtain ⟨v,hy,h⟩:=h
  have hr':i ∈ Region.ready .any l.toArray listed:=by simpa using hr
  have hSw:S w:=hS (by simp)
  rw [show (((i,2+1) :: rest:List (Nat×Nat)).length+g)=(rest.length+g)+1 by simp only [Aa4];omega]
  exact wpAnyS_first (T:=S) ho (Region.noSelect_spec hsel) (fun c a w=>hQ c a _ v w) (.inr ⟨by simpa using hE,fun _ h=>h⟩) _ listed a w hcl (Region.free_spec ho hf) hr' hy (.inr hSw)
   (B3e l hsel hQ e T g hT rest _ _ w (hcl.set hr') hB' (fun _=>hSw) h)
def Blp (ops:Array Oper) (E:List Nat) (i j m:Nat) (listed:Array Bool):Bool :=
 (decide (Region.ready .any ops listed=[i,j]) && !Azy .any ops E i && !(Nat.beq i j)) &&
 (decide (Region.ready .any ops (listed.setIfInBounds i true)=[j]) && (decide (Region.ready .any ops (listed.setIfInBounds j true)=[i]) &&
 (A3a .any ops E (ops.size - m) m ((listed.setIfInBounds i true).setIfInBounds j true))))
def Blr (P:Program) (os:List Oper) (Q:Exit→Act→World→Prop) (S:World→Prop) (i j m:Nat) (a:Act) (w:World):Prop :=
 wpOp P os.toArray Q i (fun a w=>wpOp P os.toArray Q j (fun a' w'=>(S w→S w')∧wpList P os.toArray Q (os.drop m) a' w') a w) a w ∧
 wpOp P os.toArray Q j (fun a' w'=>(S w→S w')∧wpOp P os.toArray Q i (wpList P os.toArray Q (os.drop m)) a' w') a w
theorem Df8 (l:List Oper) {i j m:Nat} (listed:Array Bool) (a:Act) (w:World) (hB:Blp l.toArray E i j m listed=true) (h:Blr P l Q S i j m a w):wpAnyS P .any l.toArray Q S E (l.toArray.size - m+2) listed a w:=by
 simp only [Blp,Bool.and_eq_true,decide_eq_true_eq,Bool.not_eq_true'] at hB
 obtain ⟨⟨⟨h0,hn⟩,hij⟩,h1,h2,h3⟩:=hB
 have hne:i≠j:=fun e=>by rw [e,Nat.beq_refl] at hij;cases hij
 have tail:∀ a w,wpList P l.toArray Q (l.drop m) a w→wpAnyS P .any l.toArray Q S E (l.toArray.size - m) ((listed.setIfInBounds i true).setIfInBounds j true) a w:=fun a w hl=>by
  have hd:(l.drop m).length=l.toArray.size - m:=by simp
  have:=B3f (S:=S) (E:=E) (l.drop m) m ((listed.setIfInBounds i true).setIfInBounds j true) a w (fun j=>by simp) (by rw [hd];exact h3) hl
  rw [hd] at this
  exact this
 refine ⟨fun hc=>(by rw [h0] at hc;cases hc),fun t ht=>?_⟩
 rw [h0] at ht
 have ht:t=i∨t=j:=by simpa using ht
 rcases ht with rfl | rfl
 ·refine wpOp_mono (fun a' w' h'=>⟨fun hc=>(by rw [hn] at hc;cases hc),?_⟩) h.1
  refine ⟨fun hc=>(by rw [h1] at hc;cases hc),fun t' ht'=>?_⟩
  rw [h1] at ht'
  have ht':t'=j:=by simpa using ht'
  subst ht'
  exact wpOp_mono (fun a'' w'' h''=>⟨fun _ hS=>h''.1 hS,tail _ _ h''.2⟩) h'
 ·refine wpOp_mono (fun a' w' h'=>⟨fun _ hS=>h'.1 hS,?_⟩) h.2
  refine ⟨fun hc=>(by rw [h2] at hc;cases hc),fun t' ht'=>?_⟩
  rw [h2] at ht'
  have ht':t'=i:=by simpa using ht'
  subst ht'
  refine wpOp_mono (fun a'' w'' h''=>⟨fun hc=>(by rw [hn] at hc;cases hc),?_⟩) h'.2
  rw [Array.setIfInBounds_comm _ _ (Ne.symm hne)]
  exact tail _ _ h''
theorem Dgg {id:Nat} {a:Act} {w:World} {l:List Oper} (plan:List (Nat×Nat)) (i j m:Nat) (S:World→Prop) (hm:P.follows .mixedOrders=true)
  (hB:(Region.noSelect l.toArray && Nat.beq (plan.length+2) m && decide (m≤l.length) && A4p l.toArray (A3q plan) (Blp l.toArray (A3q plan) i j m) plan (Array.replicate l.toArray.size false))=true)
  (hQ:∀ c a d v w,Q (.panic c) (Act.put a d v) w→Q (.panic c) a w) (hS:S w.drew)
  (h:Aei P l.toArray Q S (Blr P l Q S i j m) (Akr l.toArray plan) a w.drew):(Code.region id l.toArray true).wp P Q a w:=by
 simp only [Bool.and_eq_true,decide_eq_true_eq] at hB
 obtain ⟨⟨⟨hsel,hpm⟩,hlen⟩,hB⟩:=hB
 have hpm:=Nat.eq_of_beq_eq_true hpm
 refine wp_region_any hm ?_
 have hcl:Closed .any l.toArray (Array.replicate l.toArray.size false):=fun j oj _ hl=>by
  rw [show (Array.replicate l.toArray.size false).getD j false=false by
   rcases Nat.lt_or_ge j l.toArray.size with h' | h' <;> (simp [Array.getD_eq_getD_getElem?,Array.getElem?_replicate];try split <;> rfl)] at hl
  cases hl
 have:=B3e (P:=P) (Q:=Q) (S:=S) (E:=A3q plan) l hsel hQ _ _ (l.toArray.size - m+2) (fun listed a w _ he h=>Df8 l listed a w he h) plan _ a w.drew hcl hB (fun _=>hS) h
 have:=B3i _ _ _ _ this
 rw [show plan.length+(l.toArray.size - m+2)=l.toArray.size by simp only [List.size_toArray];omega] at this
 exact this
end
section
variable {A:World} {ds:List Deferred} {n:Nat} {env:Env} {l X:List Aaa} {q:Act→World→Prop} {P:Program} {Q:Exit→Act→World→Prop} {S:World→Prop} {o:Oper}
theorem C4b {id:Nat} {os:List Oper} (plan:List (Nat×Nat)) (i j m:Nat) (S:World→Prop) (hm:P.follows .mixedOrders=true)
  (hB:(Region.noSelect os.toArray && Nat.beq (plan.length+2) m && decide (m≤os.length) && A4p os.toArray (A3q plan) (Blp os.toArray (A3q plan) i j m) plan (Array.replicate os.toArray.size false))=true)
  (hQ:∀ c a d v w,Q (.panic c) (Act.put a d v) w→Q (.panic c) a w) (hS:∀ w,St A l w→S w)
  (h:K ds A n env l (Aei P os.toArray Q S (Blr P os Q S i j m) (Akr os.toArray plan))):K ds A n env l ((Code.region id os.toArray true).wp P Q):=fun a w ha hw =>
 Dgg plan i j m S hm hB hQ (hS _ hw.drew) (h a _ ha hw.drew)
theorem Cfj {ops:Array Oper} {i:Nat} {next:Act→World→Prop} (hi:ops[i]? = some o) (hg:Afh ops env o=some true) (h:K ds A n env l (fun a w=>o.wp P a w next Q)):K ds A n env l (wpOp P ops Q i next):=fun a w ha hw=>by
 unfold wpOp
 rw [hi]
 simp only
 rw [if_pos (Ari ha hg)]
 exact .inl (h a w ha hw)
theorem Cfi {ops:Array Oper} {i:Nat} {next:Act→World→Prop} (ob:Obj) (v:Nat→Value) (hi:ops[i]? = some o) (hSA:∀ w,S w→S (w.alloc ob)) (hg:Afh ops env o=some true) (hs:(Ai7 o.op && allB o.op.operands.toList env && inB n o.dst)=true) (hf:∀ b,follow P (execOp (rho env) o) [.num b]=some (.value (v b),[.nw ob b]))
  (h:∀ b,K ds A n (Acz env o.dst (v b)) (blk b ob :: l) next):K ds A n env l (fun a w=>wpOp P ops Q i (fun a' w'=>(S w→S w')∧next a' w') a w):=fun a w ha hw=>by
 simp only [Bool.and_eq_true] at hs
 unfold wpOp
 rw [hi]
 simp only
 rw [if_pos (Ari ha hg)]
 refine .inl ?_
 unfold Oper.wp
 rw [execOp_congr a.eval (rho env) o hs.1.1 (ha.rho hs.1.2),Aty (w':=w.alloc ob) (hf w.heap.size) ⟨rfl,rfl⟩]
 exact ⟨fun h=>hSA _ h,h _ _ _ (ha.Acz _ hs.2) (hw.new ob)⟩
theorem C4a {os:List Oper} {i j m:Nat} (h1:K ds A n env l (fun a w=>wpOp P os.toArray Q i (fun a w=>wpOp P os.toArray Q j (fun a' w'=>(S w→S w')∧wpList P os.toArray Q (os.drop m) a' w') a w) a w))
  (h2:K ds A n env l (fun a w=>wpOp P os.toArray Q j (fun a' w'=>(S w→S w')∧wpOp P os.toArray Q i (wpList P os.toArray Q (os.drop m)) a' w') a w)):K ds A n env l (Blr P os Q S i j m):=fun a w ha hw=>⟨h1 a w ha hw,h2 a w ha hw⟩
theorem Bg2 {tail:Act→World→Prop} {pl:List (Oper×Nat)} {ops:Array Oper} {v:Value} (vs:List Orc) (es:List Ev) (hg:Afh ops env o=some true) (hs:(Ai7 o.op && allB o.op.operands.toList env && inB n o.dst)=true) (hf:follow P (execOp (rho env) o) vs=some (.value v,es)) (hS:∀ w,S w→∃ s,Amx s w∧Au9 s es)
  (h:K ds A n (Acz env o.dst v) l (Aei P ops Q S tail pl)):K ds A n env l (Aei P ops Q S tail ((o,3) :: pl)):=Cfs vs es hg hs hf (fun w hw=>by obtain ⟨s,h1,h2⟩:=hS w hw;exact h1.evs h2) h
theorem Amx.alloc {ob:Obj}:∀ {l:List Aaa} {w:World},Amx l w→Amx l (w.alloc ob)
 | [],_,_=>trivial
 | f :: l,w,h=>⟨fun k o e=>by
  have:=h.1 k o e
  simp only [World.alloc]
  rw [Array.getElem?_push]
  split
  ·rename_i hk
   rw [hk,Array.getElem?_eq_none (Nat.le_refl _)] at this
   cases this
  ·exact this,Amx.alloc h.2⟩
end
end
end Go.Proofs.YtkdjiehclahliaaGreatDoor
