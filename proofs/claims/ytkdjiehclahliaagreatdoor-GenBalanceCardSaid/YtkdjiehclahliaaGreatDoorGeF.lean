/- Texts of mine for genBalance_card, part 6. -/
import Derived.RangeFuncNested
import Derived.RangeFuncBound
import Derived.RangeFuncBox
import Derived.RangeFuncCalls
import Derived.RangeFuncLeaves
import Derived.Shelf.Abstract
import Derived.Shelf.RegionOpen
import Derived.WalkKit
import Derived.OwnWalkIn
import Derived.TacticsInMore
import Derived.LoopNIn
import Derived.LoopIn
import Derived.Lib.OthersKept
import Derived.Lib.UnsafeStr
import Derived.Test.YtkdjiehclahliaaGreatDoorProg
import Derived.Test.YtkdjiehclahliaaGreatDoorGeE
set_option linter.unusedSimpArgs false
set_option linter.unusedVariables false
set_option linter.unusedSectionVars false
namespace Go.Proofs.YtkdjiehclahliaaGreatDoor
set_option maxRecDepth 100000
section
open Go Go.RowKit Go.Shelf Go.Proofs
attribute [local go_sem] Oper.semAt_some
def Me:List ByteArray→ByteArray→Nat
 | [],_=>0
 | y :: r,x=>if (y.toList == x.toList)=true then r.length+1 else Me r x
def NE.f (_k:Nat) (An:List ByteArray) (a1:ByteArray):Option Int:=some ((Me An.reverse a1:Nat):Int)
namespace Bw
def upto {α:Type} (f:Nat→α) (k:Nat):List α:=(List.range k).map f
theorem upto_succ {α:Type} (f:Nat→α) (k:Nat):upto f (k+1)=upto f k++[f k]:=by simp [upto,List.range_succ]
theorem upto_length {α:Type} (f:Nat→α) (k:Nat):(upto f k).length=k:=by simp [upto]
def dn (zs:List ByteArray) (j:Nat):Nat×ByteArray:=(zs.length - 1 - j,zs[zs.length - 1 - j]?.getD ⟨#[]⟩)
set_option maxHeartbeats 2000000 in
theorem A08 (F:Fence) (n:Nat) (h8:F.fn 135) (hro:F.round=none) (hn:1≤n) (l Bs n₀ b off cap:Nat) (zs:List ByteArray) (hreach:zs.length≤9223372036854775807) (hb:b < n₀) (J Jx:List (Nat×ByteArray)→World→Prop)
  (hY:∀ pre x W,J pre W→pre.length < zs.length→YieldAt F (n - 1) Tryz.prog l #[.int .i64 (x.1:Int),.string x.2] W fun e W' =>
   (e=.returned (.bool true)∧J (pre++[x]) W'∧Below n₀ W W')∨(e=.returned (.bool false)∧Jx (pre++[x]) W'))
  (W:World) (A8o:Bs < n₀) (hBs:W.cell? ⟨Bs,0,none⟩=some (.slice (some ⟨b,off,none⟩) zs.length cap)) (hc:∀ j,j < zs.length→W.cell? ⟨b,off+j,none⟩=some (.string (zs[j]?.getD ⟨#[]⟩))) (h0:J [] W) :
  CallsIn F n Tryz.prog 135 #[.func (.yield l) #[] #[],.pointer (some ⟨Bs,0,none⟩)] W fun e W'=>(∃ v,e=.returned v) ∧
   ((∃ ys,ys=upto (dn zs) zs.length∧J ys W')∨(∃ pre,(∃ k,k≤zs.length∧pre=upto (dn zs) k)∧Jx pre W')):=by
 refine callsIn_of_wp Tryz.func135 rfl h8 ?_ hro
 simp only [Tryz.ntmps135,List.size_toArray,AD,Be,Nat.reduceAdd,Nat.reduceSub,Array.replicate_succ,Array.replicate_zero,List.push_toArray,List.append_toArray,List.nil_append,List.cons_append]
 gi_wp2
 gi_loopw [3] (fun i wr=>∃ k:Nat,k≤zs.length∧i=.int .i64 ((zs.length:Int) - 1 - (k:Int))∧J (upto (dn zs) k) wr∧Below n₀ W wr)
  (fun i _=>(intOf i+1).toNat)
 case atStart=>exact ⟨0,Nat.zero_le _,by simp,h0,Below.refl _ _⟩
 case round =>
  obtain ⟨k,hk,rfl,hJs,hnx⟩:=hrel
  have hcs:wr.cell? ⟨Bs,0,none⟩=some (.slice (some ⟨b,off,none⟩) zs.length cap):=(hnx.cell (p:=⟨Bs,0,none⟩) A8o).trans hBs
  by_cases hlt:k < zs.length
  ·have hcx:wr.cell? ⟨b,off+(zs.length - 1 - k),none⟩=some (.string (zs[zs.length - 1 - k]?.getD ⟨#[]⟩)):=(hnx.cell (p:=⟨b,off+(zs.length - 1 - k),none⟩) hb).trans (hc _ (by omega))
   obtain ⟨fn,tmps,assign,body,hy,hR⟩:=hY _ (dn zs k) wr hJs (by rw [upto_length];exact hlt)
   dsimp only [dn] at hy
   rw [show ((zs.length:Int) - 1 - (k:Int))=((zs.length - 1 - k:Nat):Int) by omega]
   gi_wp2
   refine hR.mono ?_
   rintro e W3 (⟨rfl,hJ3,hk3⟩ | ⟨rfl,hJx3⟩)
   ·gi_wp2
    go_roundw
    case rel=>exact ⟨k+1,by omega,by first | (congr 1;done) | (congr 1;omega),by rw [upto_succ];exact hJ3,hnx.trans hk3⟩
    case measure=>first | (simp [intOf];done) | (simp [intOf];omega)
   ·gi_wp2
    refine bodyPost_ret (results_none rfl _ _ _) rfl ?_
    exact ⟨⟨_,rfl⟩,.inr ⟨_,⟨k+1,by omega,(upto_succ _ _).symm⟩,hJx3⟩⟩
  ·obtain rfl:k=zs.length:=by omega
   gi_wp2
   go_end0
   exact ⟨⟨_,rfl⟩,.inl ⟨_,rfl,hJs⟩⟩
def Strs (n₀:Nat) (W:World) (sv:Value) (zs:List ByteArray):Prop :=
 (sv=.slice none 0 0∧zs=[])∨∃ b off cap,sv=.slice (some ⟨b,off,none⟩) zs.length cap∧b < n₀∧∀ j,j < zs.length→W.cell? ⟨b,off+j,none⟩=some (.string (zs[j]?.getD ⟨#[]⟩))
theorem Strs.below {n₀:Nat} {A B:World} (h:Below n₀ A B) {sv:Value} {zs:List ByteArray}:Strs n₀ A sv zs→Strs n₀ B sv zs
 | .inl e=>.inl e
 | .inr ⟨b,off,cap,e,hb,hc⟩=>.inr ⟨b,off,cap,e,hb,fun j hj=>(h.cell (p:=⟨b,off+j,none⟩) hb).trans (hc j hj)⟩
theorem Strs.mono {n₀ n₁:Nat} {A:World} (h:n₀≤n₁) {sv:Value} {zs:List ByteArray}:Strs n₀ A sv zs→Strs n₁ A sv zs
 | .inl e=>.inl e
 | .inr ⟨b,off,cap,e,hb,hc⟩=>.inr ⟨b,off,cap,e,by omega,hc⟩
set_option maxHeartbeats 1000000 in
theorem A1a (F:Fence) (n:Nat) (h8:F.fn 135) (hro:F.round=none) (l Bs:Nat) (J:List (Nat×ByteArray)→World→Prop) (W:World) (hBs:W.cell? ⟨Bs,0,none⟩=some (.slice none 0 0)) (h0:J [] W) :
  CallsIn F n Tryz.prog 135 #[.func (.yield l) #[] #[],.pointer (some ⟨Bs,0,none⟩)] W fun e W'=>(∃ v,e=.returned v)∧J [] W':=by
 refine callsIn_of_wp Tryz.func135 rfl h8 ?_ hro
 simp only [Tryz.ntmps135,List.size_toArray,AD,Be,Nat.reduceAdd,Nat.reduceSub,Array.replicate_succ,Array.replicate_zero,List.push_toArray,List.append_toArray,List.nil_append,List.cons_append]
 gi_wp2
 gi_loopw [3] (fun i wr=>i=.int .i64 (-1)∧J [] wr) (fun _ _=>0)
 case atStart=>exact ⟨rfl,h0⟩
 case round =>
  obtain ⟨rfl,hJs⟩:=hrel
  gi_wp2
  go_end0
  exact ⟨⟨_,rfl⟩,hJs⟩
set_option maxHeartbeats 1000000 in
theorem A1d (F:Fence) (n:Nat) (h6:F.fn 126) (hro:F.round=none) (a:Option Addr) (len cap:Nat) (w:World) :
  CallsIn F n Tryz.prog 126 #[.slice a len cap] w fun e w'=>e=.returned (.func (.func 135) #[] #[.pointer (some ⟨w.heap.size,0,none⟩)])∧w'=w.alloc (.cells #[.slice a len cap] 23):=by
 refine callsIn_of_wp Tryz.func126 rfl h6 ?_ hro
 simp only [Tryz.ntmps126,List.size_toArray,AD,Be,Nat.reduceAdd,Nat.reduceSub,Array.replicate_succ,Array.replicate_zero,List.push_toArray,List.append_toArray,List.nil_append,List.cons_append]
 gi_wp2
 go_ret
 exact ⟨rfl,rfl⟩
theorem A1h (F:Fence) (n:Nat) (h8:F.fn 135) (hro:F.round=none) (hn:1≤n) (Bs n₀:Nat) (sv:Value) (zs:List ByteArray) (hreach:zs.length≤9223372036854775807) (w:World) (hBs:Bs < n₀) (hn₀:n₀≤w.heap.size)
  (hc:w.cell? ⟨Bs,0,none⟩=some sv) (hI:Strs n₀ w sv zs) :
  SeqStopsK F n Tryz.prog 135 #[.pointer (some ⟨Bs,0,none⟩)] (fun x:Nat×ByteArray=>#[Value.int .i64 (x.1:Int),Value.string x.2]) (Below n₀) (fun ys=>ys=upto (dn zs) zs.length)
   (fun pre=>∃ k,k≤zs.length∧pre=upto (dn zs) k) zs.length w:=fun l J Jx W hW _ _ hY h0=>by
 have hc':=(hW.cell (p:=⟨Bs,0,none⟩) (Nat.lt_of_lt_of_le hBs hn₀)).trans hc
 rcases hI.below (hW.mono hn₀) with ⟨rfl,rfl⟩ | ⟨b,off,cap,rfl,hb,hcs⟩
 ·exact (A1a F n h8 hro l Bs J W hc' h0).mono fun e W' ⟨he,hj⟩=>⟨he,.inl ⟨_,rfl,hj⟩⟩
 ·exact A08 F n h8 hro hn l Bs n₀ b off cap zs hreach hb J Jx hY W hBs hc' hcs h0
theorem Aau:∀ (l m:List ByteArray) (x:ByteArray),(∀ y ∈ l,¬ (y.toList == x.toList)=true)→Me (l++m) x=Me m x
 | [],m,x,_=>rfl
 | y :: l,m,x,h=>by
  rw [List.cons_append,Me,if_neg (h y (Cy ..)),Aau l m x fun z hz=>h z (CV _ hz)]
theorem Aj7 (zs:List ByteArray):(upto (dn zs) zs.length).map Prod.snd=zs.reverse:=by
 apply List.ext_getElem
 ·simp [upto]
 ·intro i h1 h2
  have:i < zs.length:=by simpa using h2
  simp only [upto,List.map_map,List.getElem_map,List.getElem_range,Function.comp,dn,List.getElem_reverse]
  rw [List.getElem?_eq_getElem (by omega)]
  rfl
theorem A3y (zs:List ByteArray) (k:Nat) (hk:k≤zs.length):(upto (dn zs) k).map Prod.snd=zs.reverse.take k:=by
 rw [← Aj7,← List.map_take]
 congr 1
 unfold upto
 rw [← List.map_take,List.take_range,Nat.min_eq_left hk]
set_option maxHeartbeats 2000000 in
theorem Bj3 (F:Fence) (n:Nat) (h4:F.fn 108) (h6:F.fn 126) (h8:F.fn 135) (hro:F.round=none) (hn:3≤n) (b0:Nat) (name:ByteArray) (a:Ar) (cap:Nat) (zs:Ag) (hreach:zs.length≤9223372036854775807) (w:World)
  (hb0:b0 < w.heap.size) (hc0:w.cell? ⟨b0,10,none⟩=some (Aa a zs cap)) (hI:Strs w.heap.size w (Aa a zs cap) zs) :
  CallsIn F n Tryz.prog 108 #[.pointer (some ⟨b0,0,none⟩),.string name] w fun e W'=>e=.returned (.int .i64 (Me zs.reverse name:Nat))∧Below w.heap.size w W':=by
 have h1:1≤n:=by omega
 refine callsIn_of_wp_marks Tryz.func108 rfl h4 ?_ hro
 simp only [Tryz.ntmps108,List.size_toArray,AD,Be,Nat.reduceAdd,Nat.reduceSub,Array.replicate_succ,Array.replicate_zero,List.push_toArray,List.append_toArray,List.nil_append,List.cons_append]
 gi_wp2_with (gi_at_call 126;refine (A1d F (n - 1) h6 hro _ _ _ _).mono ?_;rintro e w' ⟨rfl,rfl⟩)
 have bN:=Boxed.new w 9 (.string name)
 have bR:=Boxed.new (w.alloc (.cells #[.string name] 9)) 3 (.int .i64 0)
 have bS:=Boxed.new ((w.alloc (.cells #[.string name] 9)).alloc (.cells #[.int .i64 0] 3)) 23 (Aa a zs cap)
 rw [World.size_alloc] at bR
 rw [World.size_alloc,World.size_alloc] at bS
 have hB0:Below w.heap.size w (((w.alloc (.cells #[.string name] 9)).alloc (.cells #[.int .i64 0] 3)).alloc (.cells #[Aa a zs cap] 23)):=(((Below.refl _ w).alloc (Nat.le_refl _) _).alloc (by simp) _).alloc (by simp;omega) _
 refine wpIn_rangeFunc_ownG hro h1 (gf:=135) (lb:=#[.pointer (some ⟨w.heap.size+1+1,0,none⟩)]) rfl h8 (enters_of Tryz.func135 (by kernel_rfl) rfl)
  (A1h F (n - 1) h8 hro (by omega) (w.heap.size+1+1) (w.heap.size+3) _ zs hreach _ (by omega) (by simp) bS.cell ((hI.below hB0).mono (by omega))) belowK_t (belowK_b (by simp)) (Below.refl _ _) (fun _=>rfl)
  (fun pre W=>((∀ p ∈ pre,¬ (p.2.toList == name.toList)=true)∧(W.cell? ⟨w.heap.size+1,0,none⟩=some (.int .i64 0)∧W.frozen? ⟨w.heap.size+1,0,none⟩=false)∧W.cell? ⟨w.heap.size,0,none⟩=some (.string name))∧Below w.heap.size w W)
  (fun c pre W=>(c=.ret∧∃ ini last,pre=ini++[last]∧(∀ p ∈ ini,¬ (p.2.toList == name.toList)=true)∧(last.2.toList == name.toList)=true∧W.cell? ⟨w.heap.size+1,0,none⟩=some (.int .i64 (wrap64 ((last.1:Int)+1))))∧Below w.heap.size w W)
  (OwnFrom.and (Own.from (fun s A B row hs hg hr=>⟨hs.1,⟨cell_kept hs.2.1.1 hg hr,(frozen_kept hs.2.1.1 hg hr).trans hs.2.1.2⟩,cell_kept hs.2.2 hg hr⟩) _) (ownFrom_below (Nat.le_refl _) (by simp;omega)))
  (fun c=>OwnFrom.and (Own.from (fun s A B row hs hg hr=>by obtain ⟨hc,ini,last,e1,e2,e3,e4⟩:=hs;exact ⟨hc,ini,last,e1,e2,e3,cell_kept e4 hg hr⟩) _) (ownFrom_below (Nat.le_refl _) (by simp;omega)))
  ⟨⟨by simp,⟨(bR.alloc _).cell,(bR.alloc _).frozen⟩,((bN.alloc _).alloc _).cell⟩,hB0⟩
  (fun x=>{ tmps:=#[.pointer (some ⟨b0,0,none⟩),.string name,undef,.pointer (some ⟨w.heap.size,0,none⟩),.pointer (some ⟨w.heap.size+1,0,none⟩),.int .i64 (x.1:Int),.string x.2,.pointer (some ⟨b0,0,none⟩),.pointer (some ⟨b0,0,none⟩),.pointer (some ⟨b0,10,none⟩),Aa a zs cap,.func (.func 135) #[] #[.pointer (some ⟨w.heap.size+1+1,0,none⟩)],.int .i64 (x.1:Int),.string x.2,undef,undef,undef,undef,undef],defers:=[] }) ?assign ?body ?done ?stop
 case assign =>
  intro l x W K hK
  gi_wp2
  exact hK
 case body =>
  rintro l pre x W ⟨⟨hp,⟨hcr,hfr⟩,hcn⟩,hB⟩ _
  gi_wp2
  ·have hx:(x.2.toList == name.toList)=true:=by assumption
   exact ⟨(KeepsOthers.setCell _ _ _).from _,⟨rfl,pre,x,rfl,hp,hx,World.cell?_setCell_same' _ _ _ (by rw [hcr];rfl)⟩,hB.setCell (p:=⟨w.heap.size+1,0,none⟩) (by simp) _⟩
  ·have hx:(x.2.toList == name.toList)=false:=by assumption
   exact ⟨KeepsFrom.refl _ _,Below.refl _ _,⟨fun p hp'=>(EG.1 hp').elim (hp p) (fun e=>by simp only [DG] at e;subst e;rw [hx];exact Bool.false_ne_true),⟨hcr,hfr⟩,hcn⟩,hB⟩
 case done =>
  rintro D ys W hD rfl ⟨⟨hne,⟨hcr,hfr⟩,_⟩,hB⟩ hK
  gi_wp2
  have hK':=(KeepsOthers.setCell W ⟨w.heap.size+1,0,none⟩ (.int .i64 0)).same D _ hK rfl
  refine ⟨by simp,.inl ⟨_,_,rfl,run_takeDeferred hK',?_⟩⟩
  have hc5:=cell_kept (World.cell?_setCell_same' W ⟨w.heap.size+1,0,none⟩ (.int .i64 0) (by rw [hcr];rfl)) (grownBy_putObj' _ D (.deferred none)) (fun r e=>by cases e;exact ⟨_,hK',rfl⟩)
  refine ⟨.int .i64 0,?_,?_,(hB.setCell (p:=⟨w.heap.size+1,0,none⟩) (by simp) _).trans (belowK_b (w:=w) (Nat.le_refl _) _ D _ _ (by simp at hD;omega) hK' rfl rfl)⟩
  ·simp [results,Tryz.f108,go_sem,hc5]
  ·have h0:Me zs.reverse name=0:=by
    rw [← Aj7,← List.append_nil (List.map _ _),Aau _ _ _ (fun y hy=>by
     obtain ⟨p,hp,rfl⟩:=List.mem_map.1 hy
     exact hne p hp)]
    rfl
   rw [h0]
   rfl
 case stop =>
  rintro D c pre W hD ⟨k,hk,rfl⟩ ⟨⟨rfl,ini,last,e1,e2,e3,hcr⟩,hB⟩ hK
  gi_wp2
  refine ⟨by simp,.inl ⟨_,_,rfl,run_takeDeferred hK,?_⟩⟩
  have hc5:=cell_kept hcr (grownBy_putObj' _ D (.deferred none)) (fun r e=>by cases e;exact ⟨_,hK,rfl⟩)
  obtain ⟨k',rfl⟩:∃ k',k=k'+1:=by
   cases k with
   | zero=>simp [upto] at e1
   | succ k'=>exact ⟨k',rfl⟩
  rw [upto_succ] at e1
  obtain ⟨rfl,e5⟩:=List.append_inj' e1 rfl
  obtain rfl:dn zs k'=last:=by simpa using e5
  refine ⟨.int .i64 (wrap64 (((dn zs k').1:Int)+1)),?_,?_,hB.trans (belowK_b (w:=w) (Nat.le_refl _) W D _ _ (by simp at hD;omega) hK rfl rfl)⟩
  ·simp [results,Tryz.f108,go_sem,hc5]
  ·have hk':k' < zs.length:=by omega
   have hl:Me zs.reverse name=zs.length - 1 - k'+1:=by
    have hd:zs.reverse=zs.reverse.take k'++zs.reverse.drop k':=(List.take_append_drop _ _).symm
    rw [hd,Aau _ _ _ (fun y hy=>by
     rw [← A3y zs k' (by omega)] at hy
     obtain ⟨p,hp,rfl⟩:=List.mem_map.1 hy
     exact e2 p hp)]
    have hk2:k' < zs.reverse.length:=by rw [List.length_reverse];exact hk'
    rw [List.drop_eq_getElem_cons hk2,Me,if_pos]
    ·rw [Cv,List.length_reverse];omega
    ·rw [List.getElem_reverse]
     have:(dn zs k').2=zs[zs.length - 1 - k']:=by
      simp only [dn]
      rw [List.getElem?_eq_getElem (by omega)]
      rfl
     rw [← this]
     exact e3
   rw [hl]
   congr 2
   simp only [dn,wrap64]
   omega
end Bw
theorem Akh:∀ l:List ByteArray,l.flatMap encS=l.map Value.string
 | []=>rfl
 | x :: t=>by rw [List.flatMap_cons,List.map_cons,Akh t];rfl
theorem NE.ok {k b0 c_:Nat} {An:Ag} {a1:ByteArray} {Ay Az A2 DC EE B3 Ed AA B4 B5 Br:Value} {H_:Ab} {A_:Ar} {r:Int} (h:NE.f k An a1=some r) (R_:Bf encS 1 H_ (Aa A_ An c_) An):
  Ct Tryz.prog 108 #[.pointer (some ⟨b0,0,none⟩),.string a1] [blk b0 (.cells #[Ay,Az,A2,DC,EE,B3,Ed,AA,B4,B5,Aa A_ An c_,Br] 66 (0,0))] [H_]
   (fun e l1=>e=.returned (.int .i64 r)∧l1=[blk b0 (.cells #[Ay,Az,A2,DC,EE,B3,Ed,AA,B4,B5,Aa A_ An c_,Br] 66 (0,0))]):=by
 cases h
 intro A w X hh hw
 have hb:=hw.sat.on _ (Cy ..) b0 _ (if_pos rfl)
 have hH:=hw.sat.on H_ (CV _ hh.1)
 have hlt:b0 < w.heap.size:=(Array.getElem?_eq_some_iff.1 hb).1
 have hI:Bw.Strs w.heap.size w (Aa A_ An c_) An∧An.length≤9223372036854775807:=by
  obtain ⟨h1,h2,h3⟩:=R_
  rcases h3 with ⟨h3,h4⟩ | ⟨b,off,cap,cur,T,z,h3,h4,h5,h6,h7⟩
  ·refine ⟨.inl ⟨h3,List.eq_nil_of_length_eq_zero h4⟩,by rw [h4];decide⟩
  ·have hm:maxLen=9223372036854775807:=by decide
   have hg:=hH b _ h4
   refine ⟨.inr ⟨b,off,cap,h3,(Array.getElem?_eq_some_iff.1 hg).1,fun j hj=>?_⟩,by omega⟩
   have h8:=h7 j (.string (An[j]?.getD ⟨#[]⟩)) (by
    rw [Akh,List.getElem?_map,List.getElem?_eq_getElem hj]
    rfl)
   simp [World.cell?,hg,h8]
 refine (callsIn_wide (n:=3)).1 ((Bw.Bj3 Fence.wide 3 trivial trivial trivial rfl (Nat.le_refl _) b0 a1 A_ c_ An hI.2 w hlt (by simp [World.cell?,hb]) hI.1).mono ?_)
 rintro e w' ⟨rfl,h2⟩
 exact ⟨_,⟨rfl,rfl⟩,hw.below h2⟩
end
section
open Go Go.RowKit
def Aik (b:Nat) (v:Value):Prop:=v=.pointer none∨v=.pointer (some ⟨b,0,none⟩)
def WX (s:ByteArray) (pos:Nat):Int:=(Utf8.decode s pos).1
def PH (s:ByteArray) (pos:Nat):Nat:=pos+(Utf8.decode s pos).2
section
variable {A:World} {ds:List Deferred} {n0:Nat} {env env':Env} {l l' X:List Ab} {q:Act→World→Prop} {P:Program} {Q:Exit→Act→World→Prop} {ops:Array Oper} {os rest:List Oper} {o:Oper}
theorem St.iter {w:World} {b:Nat} {s:ByteArray} {pos:Nat} (h:St A (blk b (.stringIter s pos) :: l) w) (pos':Nat):St A (blk b (.stringIter s pos') :: l) (w.iterAt b s pos'):=by
 have hb:w.heap[b]? = some (.stringIter s pos):=h.sat.1 b _ (by simp [blk])
 refine ⟨⟨fun k o hk=>?_,fun f hf k=>?_,h.sat.2.2.keep fun f hf k o hk=>?_⟩,h.os,h.tape,h.output,by rw [Lib.iterAt_size];exact h.size⟩
 ·unfold blk at hk
  split at hk
  ·rename_i e;subst e;cases hk;exact Lib.iterAt_heap w k s pos pos' hb
  ·cases hk
 ·rcases h.sat.2.1 f hf k with h' | h'
  ·unfold blk at h' ⊢
   split at h'
   ·cases h'
   ·rename_i e';rw [if_neg e'];exact .inl rfl
  ·exact .inr h'
 ·refine Lib.iterAt_other w b k s pos' fun e'=>?_
  subst e'
  rcases h.sat.2.1 f hf k with h' | h'
  ·simp [blk] at h'
  ·rw [h'] at hk;cases hk
theorem Biy {s:ByteArray} {t:TypeId} {x:Operand} (ho:o.op=.range t x) (hg:Cn ops env o=some true) (hd:inB n0 o.dst=true) (hx:BV env x=some (.string s)) (ht:P.underlying t=some .string)
  (h:∀ b,K ds A n0 (Bp env o.dst (.pointer (some ⟨b,0,none⟩))) (blk b (.stringIter s 0) :: l) (wpList P ops Q rest)):K ds A n0 env l (wpList P ops Q (o :: rest)) :=
 Fv hg fun a w ha hw=>by
  unfold Oper.wp execOp
  simp only [ho,ha.eval hx,Sem.run_bind,run_range_string w t s ht,Result.andThen_ok,Sem.run_pure]
  exact h _ _ _ (ha.Bp _ hd) (hw.new _)
theorem Bix {b:Nat} {s:ByteArray} {pos:Nat} {x:Operand} (hlt:decide (pos < s.size)=true) (ho:o.op=.next x true) (hg:Cn ops env o=some true) (hd:inB n0 o.dst=true) (hx:BV env x=some (.pointer (some ⟨b,0,none⟩)))
  (h:K ds A n0 (Bp env o.dst (.tuple #[.bool true,.int .i64 (pos:Nat),.int .i32 (WX s pos)])) (blk b (.stringIter s (PH s pos)) :: l) (wpList P ops Q rest)):K ds A n0 env (blk b (.stringIter s pos) :: l) (wpList P ops Q (o :: rest)) :=
 Fv hg fun a w ha hw=>by
  have hb:w.heap[b]? = some (.stringIter s pos):=hw.sat.1 b _ (by simp [blk])
  unfold Oper.wp execOp
  simp only [ho,ha.eval hx,Sem.run_bind,Lib.run_next_any_at w b s pos _ hb (of_decide_eq_true hlt),Result.andThen_ok,Sem.run_pure]
  exact h _ _ (ha.Bp _ hd) (hw.iter _)
theorem Biw {b:Nat} {s:ByteArray} {pos:Nat} {x:Operand} (hlt:decide (pos < s.size)=false) (ho:o.op=.next x true) (hg:Cn ops env o=some true) (hd:inB n0 o.dst=true) (hx:BV env x=some (.pointer (some ⟨b,0,none⟩)))
  (h:K ds A n0 (Bp env o.dst (.tuple #[.bool false])) (blk b (.stringIter s pos) :: l) (wpList P ops Q rest)):K ds A n0 env (blk b (.stringIter s pos) :: l) (wpList P ops Q (o :: rest)) :=
 Fv hg fun a w ha hw=>by
  have hb:w.heap[b]? = some (.stringIter s pos):=hw.sat.1 b _ (by simp [blk])
  unfold Oper.wp execOp
  simp only [ho,ha.eval hx,Sem.run_bind,Lib.run_next_end_at w b s pos _ hb (of_decide_eq_false hlt),Result.andThen_ok,Sem.run_pure]
  exact h _ _ (ha.Bp _ hd) hw
theorem St.freeze {w:World} {g:Nat} {o:Obj} (h:St A (blk g o :: l) w) (n:Nat):St A l (w.freeze ⟨g,0,none⟩ n):=by
 have hks:∀ f ∈ l,∀ k o',f k=some o'→(w.freeze ⟨g,0,none⟩ n).heap[k]? = w.heap[k]?:=fun f hf k o' hk=>by
  have hne:k≠g:=fun e=>by
   subst e
   rcases h.sat.2.1 f hf k with h' | h'
   ·simp [blk] at h'
   ·rw [h'] at hk;cases hk
  unfold World.freeze
  split
  ·rfl
  ·simp only [Array.getElem?_modify]
   rw [if_neg (fun e=>hne e.symm)]
 have hsz:(w.freeze ⟨g,0,none⟩ n).heap.size=w.heap.size:=by unfold World.freeze;split <;> simp
 have ho:(w.freeze ⟨g,0,none⟩ n).os=w.os∧(w.freeze ⟨g,0,none⟩ n).tape=w.tape∧(w.freeze ⟨g,0,none⟩ n).output=w.output:=by unfold World.freeze;split <;> exact ⟨rfl,rfl,rfl⟩
 exact ⟨h.sat.2.2.keep hks,ho.1.trans h.os,ho.2.1.trans h.tape,ho.2.2.trans h.output,by rw [hsz];exact h.size⟩
end
def Aow (T:Nat):Prop:=liesAt Tryz.prog Tryz.prog.depth T (2 / Tryz.prog.cellsOf T) 0 139 1=true
theorem Aww:(Tryz.prog.info? 139).map (·.size)=some 2:=by kernel_rfl
set_option maxHeartbeats 1000000 in
theorem A2x (b:Nat) (w:World) (h0:w.cell? ⟨b,0,none⟩=some (.pointer (some ⟨b,0,none⟩))) :
  Calls Tryz.prog 124 #[.pointer (some ⟨b,0,none⟩)] w fun e w'=>e=.returned (.tuple #[])∧w=w':=by
 obtain ⟨j,hj,_⟩:=Option.map_eq_some_iff.1 Aww
 go_enter Tryz.func124,Tryz.ntmps124
 go_wp2
 rw [Lib.run_neq_ptr_same w _ Tryz.underlying136 hj]
 go_wp2
 go_end0
 exact ⟨rfl,rfl⟩
set_option maxHeartbeats 1000000 in
theorem A2v (b T:Nat) (w:World) (hT:Aow T) (h0:w.cell? ⟨b,0,none⟩=some (.pointer none)) (hsh:w.shape? b=some (T,2)) (hfz:w.frozen? ⟨b,0,none⟩=false) :
  Calls Tryz.prog 124 #[.pointer (some ⟨b,0,none⟩)] w fun e w'=>e=.returned (.tuple #[])∧w.setCell ⟨b,0,none⟩ (.pointer (some ⟨b,0,none⟩))=w':=by
 obtain ⟨j,hj,hjs⟩:=Option.map_eq_some_iff.1 Aww
 have hlies:liesAt Tryz.prog Tryz.prog.depth T (2 / Tryz.prog.cellsOf T) 0 139 1=true:=hT
 clear hT
 go_enter Tryz.func124,Tryz.ntmps124
 go_wp2
 rw [Lib.run_to_unsafe w ⟨b,0,none⟩ Tryz.underlying136 Tryz.underlying178 hj (by rw [hjs];decide) hsh (Nat.zero_lt_succ 1)]
 simp only [Result.andThen]
 rw [Oper.upon_value]
 go_wp2
 rw [run_callFunc_extern Tryz.func133 (by kernel_rfl) (by kernel_rfl) (by kernel_rfl) (e:=Extern.AbiNoEscape.same) (by kernel_rfl)]
 rw [Lib.run_noEscape]
 simp only [Result.andThen]
 rw [Oper.upon_value]
 go_wp2
 rw [Lib.run_from_unsafe w ⟨b,0,none⟩ Tryz.underlying178 Tryz.underlying136 hj hsh hlies]
 simp only [Result.andThen]
 rw [Oper.upon_value]
 go_wp2
 go_end0
 exact ⟨rfl,rfl⟩
def Axg.f (_k:Nat) (_l:List Int):Option Unit:=some ()
theorem Axg.ok {k b0 T0 c:Nat} {l:List Int} {v:Value} {H:Ab} {A':Ar} {r:Unit} (_h:Axg.f k l=some r) (hT:Aow T0) (hv:Aik b0 v) (_hR:Bf (encI .u8) 1 H (.slice A' l.length c) l):
  Ct Tryz.prog 124 #[.pointer (some ⟨b0,0,none⟩)] [blk b0 (.cells #[v,.slice A' l.length c] T0 (0,0))] [H] fun e l1=>∃ W0_:Value,Aik b0 W0_∧e=.returned (.tuple #[])∧l1=[blk b0 (.cells #[W0_,.slice A' l.length c] T0 (0,0))]:=by
 intro A w X _ hw
 have hw':St A (blk b0 (.cells #[v,.slice A' l.length c] T0 (0,0)) :: X) w:=hw
 have hc:=hw'.sat.cell (Cy ..) 0
 have hf:=hw'.sat.free (Cy ..) 0
 have hb:w.heap[b0]? = some (.cells #[v,.slice A' l.length c] T0 (0,0)):=hw'.sat.1 b0 _ (by simp [blk])
 rcases hv with rfl | rfl
 ·refine (A2v b0 T0 w hT hc (by simp [World.shape?,hb]) hf).mono ?_
  rintro e w2 ⟨rfl,rfl⟩
  exact ⟨_,⟨_,.inr rfl,rfl,rfl⟩,hw'.set 0 _⟩
 ·refine (A2x b0 w hc).mono ?_
  rintro e w2 ⟨rfl,rfl⟩
  exact ⟨_,⟨_,.inr rfl,rfl,rfl⟩,hw'⟩
def IW.l0:Nat→(a0:ByteArray)→(a1:Int)→(J5:Int→Int→Option (Int×Int×Int))→(x7:Int)→(x8:Int)→(p9:Nat)→Option (Int×Int×Int)
 | 0,_,_,_,_,_,_=>none
 | m10+1,a0,a1,J5,x7,x8,p9=>cond (decide (p9 < ByteArray.size a0)) (cond (decide (((p9:Nat):Int) ≥ a1)) (J5 x7 x8) (cond ((WX a0 p9) == 10) (IW.l0 m10 a0 a1 J5 (IntKind.i64.wrap (x7+1)) 1 (PH a0 p9)) (IW.l0 m10 a0 a1 J5 x7 (IntKind.i64.wrap (x8+1)) (PH a0 p9)))) (J5 x7 x8)
def IW.f (k:Nat) (a0:ByteArray) (a1:Int):Option (Int×Int×Int):=(cond (decide (a1 < 0)) (some true) (some (decide (a1 > (a0.size:Int)))):Option Bool).bind fun q1=>cond q1 (some (0,0,1)) (BA (fun (x3:Int) (x4:Int)=>some (x3,x4,0)) (fun J5=>IW.l0 k a0 a1 J5 1 1 0))
theorem IW.ok {k:Nat} {a0:ByteArray} {a1:Int} {r:Int×Int×Int} (h:IW.f k a0 a1=some r): Ct Tryz.prog 46 #[sv a0,iv a1] [] [] (fun e l1=>e=.returned (.tuple #[iv r.1,iv r.2.1,iv r.2.2])∧l1=[]):=by
 refine Cz (args:=[sv a0,iv a1]) Tryz.func46 rfl (B0 rfl) ?_
 intro A X hh_
 unfold IW.f at h
 refine ksr (kx 3 (Ad (Bz (bnd h fun q1 hq1 h=>?_))))
 refine Gr [(0,sv a0),(1,iv a1),(18,bv q1)] (X) ?_ ?_
 ·clear hq1
  refine AF h (fun h=>?_) fun h=>?_
  ·refine ksr (kx 3 (Ad (Cr (CZ ?_))))
   obtain rfl:=Ap h
   exact kdn rfl
  ·refine Bt (AB (ksr (kx 2 (Ad ?_))))
   obtain ⟨J5,hJ5,h⟩:=CG h
   refine CH (τ:=Int×Int) (fun t=>[(7,iv t.1),(8,iv t.2)]) (fun t=>X) (fun t=>J5 t.1 t.2=some r) ?_ ?_
   ·rintro ⟨x3,x4⟩ h
    subst hJ5
    refine ksr (kx 5 (Ad (Cr ?_)))
    obtain rfl:=Ap h
    exact kdn rfl
   ·skip
    refine ksr (kx 1 (Biy (s:=a0) rfl (by kernel_rfl) (by kernel_rfl) (by kernel_rfl) (by kernel_rfl) fun b6=>(Ad (Co (EL (τ:=Int×Int×Nat) (fun t=>[(1,iv a1),(7,iv t.1),(8,iv t.2.1),(20,pt b6)]) (fun t=>blk b6 (.stringIter a0 t.2.2) :: X) (fun m t=>IW.l0 m a0 a1 J5 t.1 t.2.1 t.2.2=some r) k (1,1,0) h sb rfl ?_)))))
    clear h
    rintro m10 ⟨x7,x8,p9⟩ h
    cases m10 with
    | zero=>simp [IW.l0] at h
    | succ m10 =>
     simp only [IW.l0] at h
     refine ksr ?_
     rcases Bool.eq_false_or_eq_true (decide (p9 < ByteArray.size a0)) with t11 | t11
     ·have h:=A3i h t11
      refine Bix t11 rfl (by kernel_rfl) (by kernel_rfl) (by kernel_rfl) (kx 1 (Ad (Bz (VX (by kernel_rfl) (Bt (AB (Co (ksr (kx 4 (Ad ?_))))))))))
      refine Bz (ksr (kx 3 (Ad ?_)))
      refine AF h (fun h=>?_) fun h=>?_
      ·exact E6 (CY (VZ rfl (CY (E7 (AB (K.drop (AV (x7,x8) h sb rfl)))))))
      ·refine Bt (AB (ksr (kx 3 (AY (kx 2 (Ad ?_))))))
       refine AF h (fun h=>?_) fun h=>?_
       ·exact Bc (kx 4 (knl (Bo (AB (Ea m10 (IntKind.i64.wrap (x7+1),1,(PH a0 p9)) (Nat.lt_succ_self _) h sb rfl)))))
       ·exact Bt (Bo (AB (Ea m10 (x7,IntKind.i64.wrap (x8+1),(PH a0 p9)) (Nat.lt_succ_self _) h sb rfl)))
     ·have h:=A3h h t11
      refine Biw t11 rfl (by kernel_rfl) (by kernel_rfl) (by kernel_rfl) (kx 1 (Ad (Bz (VW (by kernel_rfl) (E6 (CY (CY (E7 (AB (K.drop ?_))))))))))
      exact AV (x7,x8) h sb rfl
 ·have h:=hq1
  clear hq1
  refine Bc (kx 3 ?_)
  refine Dw 13 h (fun h=>?_) fun h=>?_
  ·exact kx 5 (Ad (C2 ⟨gr,gr,gb (Ap h),trivial⟩))
  ·exact kx 5 (Ad (C2 ⟨gr,gr,gb (Ap h),trivial⟩))
def K6.f (k:Nat) (Ac:Int) (M4:TyA) (Ef:Int):Option (Int×TyA×Int):=cond (decide (Ac > 0)) ((BC.f k M4 28 ([Ac,Ef])).bind fun r3=>some (0,r3.2,IntKind.i64.wrap (Ef+Ac))) (some (Ac,M4,Ef))
theorem K6.ok {k b0 EH LR Sr b2_:Nat} {Ac Ef:Int} {M4:TyA} {U4 U5 U8 U9 UA UB UC UD UE U6 U7:Value} {Sj:Ab} {Sg:Ar} {r:Int×TyA×Int} (h:K6.f k Ac M4 Ef=some r) (Aie:Ah e48 48 4 Sj (Aa Sg M4 Sr) M4): Ct Tryz.prog 127 #[pt b0,pt EH,pt b2_] [bk b0 #[iv Ac] 3,bk EH #[pt LR] 61,bk LR #[U4,U5,U8,U9,Aa Sg M4 Sr,UA,UB,UC,UD,UE,U6,U7] 66,Sj,bk b2_ #[iv Ef] 3] [] (fun e l1=>∃ (H0_:Ab) (A0_:Ar) (c0_:Nat),Ah e48 48 4 H0_ (Aa A0_ r.2.1 c0_) r.2.1∧e=.returned (.tuple #[])∧l1=[bk b0 #[iv r.1] 3,bk EH #[pt LR] 61,bk LR #[U4,U5,U8,U9,Aa A0_ r.2.1 c0_,UA,UB,UC,UD,UE,U6,U7] 66,H0_,bk b2_ #[iv r.2.2] 3]):=by
 refine Cz (args:=[pt b0,pt EH,pt b2_]) Tryz.func127 rfl (B0 rfl) ?_
 intro A X hh_
 unfold K6.f at h
 refine K.eq (env':=[(0,pt b0),(1,pt EH),(2,pt b2_)]) (l':=bk b0 #[iv Ac] 3 :: bk EH #[pt LR] 61 :: bk LR #[U4,U5,U8,U9,Aa Sg M4 Sr,UA,UB,UC,UD,UE,U6,U7] 66 :: Sj :: bk b2_ #[iv Ef] 3 :: X) rfl rfl (ksr (kld 0 0 rfl (kx 1 (Ad ?_))))
 refine AF h (fun h=>?_) fun h=>?_
 ·refine ksr (kld 1 0 rfl (kld 0 0 rfl (kld 4 0 rfl (De #[iv Ac,iv Ef] 3 2 fun b2=>(K.Bq (K.Bq (bnd h fun r3 hr3 h=>(B6 (BC.ok hr3 Aie (Ah.rd (Ah.blk 3 (D7 .i64) b2 [Ac,Ef] #[iv Ac,iv Ef] 2 (by kernel_rfl) rfl (by decide)))) rfl ⟨(.head _),trivial⟩ ?_))))))))
  rintro _ _ ⟨h4,A5,k6,o7,rfl,rfl⟩
  refine Bn (K.Ak (K.drop (Fw (kld 4 0 rfl (kld 2 0 rfl (kx 1 (K.Bq (AQ 0 1 #[iv (IntKind.i64.wrap (Ef+Ac))] (K.mv3 (AQ 0 1 #[iv 0] ?_))))))))))
  refine knl (Cw ?_)
  obtain rfl:=Ap h
  exact kdv (.tuple #[]) [bk b0 #[iv 0] 3,bk EH #[pt LR] 61,bk LR #[U4,U5,U8,U9,Aa A5 r3.2 k6,UA,UB,UC,UD,UE,U6,U7] 66,h4,bk b2_ #[iv (IntKind.i64.wrap (Ef+Ac))] 3] (K.Ao (K.mv3 (K.mv3 (K.Bq (K.Bq (BH ⟨h4,A5,k6,o7,rfl,rfl⟩))))))
 ·refine Bt (Cw ?_)
  obtain rfl:=Ap h
  exact kdv (.tuple #[]) [bk b0 #[iv Ac] 3,bk EH #[pt LR] 61,bk LR #[U4,U5,U8,U9,Aa Sg M4 Sr,UA,UB,UC,UD,UE,U6,U7] 66,Sj,bk b2_ #[iv Ef] 3] (BH ⟨Sj,Sg,Sr,Aie,rfl,rfl⟩)
def Qf.f (k:Nat) (Gz:List (Int×Int×Int×Int)) (Af:Int):Option (List (Int×Int×Int×Int)):=(BC.f k Gz 18 ([Af])).bind fun r2=>some (r2.2)
theorem Qf.ok {k b0 FI Lk EH:Nat} {Gz r:TyA} {Af:Int} {JO JP JS JT JU JV JW JX JY JQ JR:Value} {K_:Ab} {KV:Ar} (h:Qf.f k Gz Af=some r) (Sl:Ah e48 48 4 K_ (Aa KV Gz Lk) Gz): Ct Tryz.prog 79 #[pt b0,pt EH] [bk b0 #[pt FI] 61,bk FI #[JO,JP,JS,JT,Aa KV Gz Lk,JU,JV,JW,JX,JY,JQ,JR] 66,K_,bk EH #[iv Af] 3] [] (fun e l1=>∃ (H0_:Ab) (A0_:Ar) (c0_:Nat),Ah e48 48 4 H0_ (Aa A0_ r c0_) r∧e=.returned (.tuple #[])∧l1=[bk b0 #[pt FI] 61,bk FI #[JO,JP,JS,JT,Aa A0_ r c0_,JU,JV,JW,JX,JY,JQ,JR] 66,H0_,bk EH #[iv Af] 3]):=by
 refine Cz (args:=[pt b0,pt EH]) Tryz.func79 rfl (B0 rfl) ?_
 intro A X hh_
 unfold Qf.f at h
 refine K.eq (env':=[(0,pt b0),(1,pt EH)]) (l':=bk b0 #[pt FI] 61 :: bk FI #[JO,JP,JS,JT,Aa KV Gz Lk,JU,JV,JW,JX,JY,JQ,JR] 66 :: K_ :: bk EH #[iv Af] 3 :: X) rfl rfl (Bc (kld 0 0 rfl (kld 3 0 rfl (De #[iv Af] 3 1 fun b1=>(K.mv3 (K.mv3 (bnd h fun r2 hr2 h=>(B6 (BC.ok hr2 Sl (Ah.rd (Ah.blk 3 (D7 .i64) b1 [Af] #[iv Af] 1 (by kernel_rfl) rfl (by decide)))) rfl ⟨(.head _),trivial⟩ ?_))))))))
 rintro _ _ ⟨h3,A4,k5,o6,rfl,rfl⟩
 refine Bn (K.Ak (K.drop (knl (Cw ?_))))
 obtain rfl:=Ap h
 exact kdv (.tuple #[]) [bk b0 #[pt FI] 61,bk FI #[JO,JP,JS,JT,Aa A4 r2.2 k5,JU,JV,JW,JX,JY,JQ,JR] 66,h3,bk EH #[iv Af] 3] (K.mv3 (K.Ak (K.Ak (K.mv3 (BH ⟨h3,A4,k5,o6,rfl,rfl⟩)))))
def Qg.f (k:Nat) (Gz:List (Int×Int×Int×Int)) (Af:Int) (Ef:Int):Option (List (Int×Int×Int×Int)):=(BC.f k Gz 31 ([Af,IntKind.i64.wrap (Ef+1)])).bind fun r2=>some (r2.2)
theorem Qg.ok {k b0 FI Lk EH b2_:Nat} {Gz r:TyA} {Af Ef:Int} {JO JP JS JT JU JV JW JX JY JQ JR:Value} {K_:Ab} {KV:Ar} (h:Qg.f k Gz Af Ef=some r) (Sl:Ah e48 48 4 K_ (Aa KV Gz Lk) Gz): Ct Tryz.prog 82 #[pt b0,pt EH,pt b2_] [bk b0 #[pt FI] 61,bk FI #[JO,JP,JS,JT,Aa KV Gz Lk,JU,JV,JW,JX,JY,JQ,JR] 66,K_,bk EH #[iv Af] 3,bk b2_ #[iv Ef] 3] [] (fun e l1=>∃ (H0_:Ab) (A0_:Ar) (c0_:Nat),Ah e48 48 4 H0_ (Aa A0_ r c0_) r∧e=.returned (.tuple #[])∧l1=[bk b0 #[pt FI] 61,bk FI #[JO,JP,JS,JT,Aa A0_ r c0_,JU,JV,JW,JX,JY,JQ,JR] 66,H0_,bk EH #[iv Af] 3,bk b2_ #[iv Ef] 3]):=by
 refine Cz (args:=[pt b0,pt EH,pt b2_]) Tryz.func82 rfl (B0 rfl) ?_
 intro A X hh_
 unfold Qg.f at h
 refine K.eq (env':=[(0,pt b0),(1,pt EH),(2,pt b2_)]) (l':=bk b0 #[pt FI] 61 :: bk FI #[JO,JP,JS,JT,Aa KV Gz Lk,JU,JV,JW,JX,JY,JQ,JR] 66 :: K_ :: bk EH #[iv Af] 3 :: bk b2_ #[iv Ef] 3 :: X) rfl rfl (Bc (kld 0 0 rfl (kld 3 0 rfl (kld 4 0 rfl (kx 1 (De #[iv Af,iv (IntKind.i64.wrap (Ef+1))] 3 2 fun b1=>(K.mv3 (K.mv3 (bnd h fun r2 hr2 h=>(B6 (BC.ok hr2 Sl (Ah.rd (Ah.blk 3 (D7 .i64) b1 [Af,IntKind.i64.wrap (Ef+1)] #[iv Af,iv (IntKind.i64.wrap (Ef+1))] 2 (by kernel_rfl) rfl (by decide)))) rfl ⟨(.head _),trivial⟩ ?_))))))))))
 rintro _ _ ⟨h3,A4,k5,o6,rfl,rfl⟩
 refine Bn (K.Ak (K.drop (knl (Cw ?_))))
 obtain rfl:=Ap h
 exact kdv (.tuple #[]) [bk b0 #[pt FI] 61,bk FI #[JO,JP,JS,JT,Aa A4 r2.2 k5,JU,JV,JW,JX,JY,JQ,JR] 66,h3,bk EH #[iv Af] 3,bk b2_ #[iv Ef] 3] (K.Bq (K.Bq (K.mv3 (K.mv3 (K.Bq (BH ⟨h3,A4,k5,o6,rfl,rfl⟩))))))
def Qe.f (k:Nat) (Gz:List (Int×Int×Int×Int)) (Af:Int):Option (List (Int×Int×Int×Int)):=(BC.f k Gz 18 ([Af])).bind fun r2=>some (r2.2)
theorem Qe.ok {k b0 FI Lk EH:Nat} {Gz r:TyA} {Af:Int} {JO JP JS JT JU JV JW JX JY JQ JR:Value} {K_:Ab} {KV:Ar} (h:Qe.f k Gz Af=some r) (Sl:Ah e48 48 4 K_ (Aa KV Gz Lk) Gz): Ct Tryz.prog 112 #[pt b0,pt EH] [bk b0 #[pt FI] 61,bk FI #[JO,JP,JS,JT,Aa KV Gz Lk,JU,JV,JW,JX,JY,JQ,JR] 66,K_,bk EH #[iv Af] 3] [] (fun e l1=>∃ (H0_:Ab) (A0_:Ar) (c0_:Nat),Ah e48 48 4 H0_ (Aa A0_ r c0_) r∧e=.returned (.tuple #[])∧l1=[bk b0 #[pt FI] 61,bk FI #[JO,JP,JS,JT,Aa A0_ r c0_,JU,JV,JW,JX,JY,JQ,JR] 66,H0_,bk EH #[iv Af] 3]):=by
 refine Cz (args:=[pt b0,pt EH]) Tryz.func112 rfl (B0 rfl) ?_
 intro A X hh_
 unfold Qe.f at h
 refine K.eq (env':=[(0,pt b0),(1,pt EH)]) (l':=bk b0 #[pt FI] 61 :: bk FI #[JO,JP,JS,JT,Aa KV Gz Lk,JU,JV,JW,JX,JY,JQ,JR] 66 :: K_ :: bk EH #[iv Af] 3 :: X) rfl rfl (Bc (kld 0 0 rfl (kld 3 0 rfl (De #[iv Af] 3 1 fun b1=>(K.mv3 (K.mv3 (bnd h fun r2 hr2 h=>(B6 (BC.ok hr2 Sl (Ah.rd (Ah.blk 3 (D7 .i64) b1 [Af] #[iv Af] 1 (by kernel_rfl) rfl (by decide)))) rfl ⟨(.head _),trivial⟩ ?_))))))))
 rintro _ _ ⟨h3,A4,k5,o6,rfl,rfl⟩
 refine Bn (K.Ak (K.drop (knl (Cw ?_))))
 obtain rfl:=Ap h
 exact kdv (.tuple #[]) [bk b0 #[pt FI] 61,bk FI #[JO,JP,JS,JT,Aa A4 r2.2 k5,JU,JV,JW,JX,JY,JQ,JR] 66,h3,bk EH #[iv Af] 3] (K.mv3 (K.Ak (K.Ak (K.mv3 (BH ⟨h3,A4,k5,o6,rfl,rfl⟩)))))
structure GE where
 Dl:List (Int×Int×ByteArray)→List (Int×Int×Int×Int)→List ByteArray→List ByteArray→Int→ByteArray→Int→Int→List Tree→Option (List (Int×Int×Int×Int))
 DD:List (Int×Int×ByteArray)→List (Int×Int×Int×Int)→List ByteArray→List ByteArray→List Tree→Option (List (Int×Int×Int×Int))
 F5:List (Int×Int×ByteArray)→List (Int×Int×Int×Int)→List ByteArray→List ByteArray→List Tree→Option (List (Int×Int×Int×Int))
 EJ:List (Int×Int×ByteArray)→List (Int×Int×Int×Int)→List ByteArray→List ByteArray→Int→ByteArray→Int→Int→List Tree→Int→Option (List (Int×Int×Int×Int))
 HI:List (Int×Int×ByteArray)→List (Int×Int×Int×Int)→List ByteArray→List ByteArray→Int→ByteArray→Int→Int→List Tree→Option (List (Int×Int×Int×Int))
 F6:List (Int×Int×ByteArray)→List (Int×Int×Int×Int)→List ByteArray→List ByteArray→List Tree→Option (List (Int×Int×Int×Int))
def Dl.C (fC:Bl→TyA→Ag→Ag→Int→ByteArray→Int→Int→List Tree→Option TyA):Prop:=∀ {Ai:Bl} {Au r:TyA} {Al An:Ag} {Af Aq AC:Int} {As:ByteArray} {Am:List Tree} {b0 AJ B2 AH AT Bj:Nat} {Ay Az A2 B3 AA B4 B5 Br:Value} {CF BF C4 BS Cs G:Ab} {AI B1 AG AR Bi:Ar} (h:fC Ai Au Al An Af As Aq AC Am=some r) (Cu:Bf Dt 3 CF (Aa AI Ai AJ) Ai) (Ck:Ah e48 48 4 BF (Aa B1 Au B2) Au) (Cm:Bf encS 1 C4 (Aa AG Al AH) Al) (Cg:Bf encS 1 BS (Aa AR An AT) An) (BJ:RdR (Bb 54) Cs (Aa Bi Am Bj) Am) (hG:E2 G),Ct Tryz.prog 77 #[pt b0,.agg #[iv Af,sv As,iv Aq,iv AC,Aa Bi Am Bj]] [bk b0 #[Ay,Az,A2,Aa AI Ai AJ,Aa B1 Au B2,B3,Aa AG Al AH,AA,B4,B5,Aa AR An AT,Br] 66,BF] [CF,C4,BS,Cs,G] (fun e l1=>∃ (H0_:Ab) (A0_:Ar) (c0_:Nat),Ah e48 48 4 H0_ (Aa A0_ r c0_) r∧e=.returned (.tuple #[])∧l1=[bk b0 #[Ay,Az,A2,Aa AI Ai AJ,Aa A0_ r c0_,B3,Aa AG Al AH,AA,B4,B5,Aa AR An AT,Br] 66,H0_])
def DD.C (fC:Bl→TyA→Ag→Ag→List Tree→Option TyA):Prop:=∀ {Ai:Bl} {Au r:TyA} {Al An:Ag} {a1:List Tree} {b0 AJ B2 AH AT C5:Nat} {Ay Az A2 B3 AA B4 B5 Br:Value} {CF BF C4 BS DW G:Ab} {AI B1 AG AR C3:Ar} (h:fC Ai Au Al An a1=some r) (Cu:Bf Dt 3 CF (Aa AI Ai AJ) Ai) (Ck:Ah e48 48 4 BF (Aa B1 Au B2) Au) (Cm:Bf encS 1 C4 (Aa AG Al AH) Al) (Cg:Bf encS 1 BS (Aa AR An AT) An) (EW:RdR (Bb 54) DW (Aa C3 a1 C5) a1) (hG:E2 G),Ct Tryz.prog 80 #[pt b0,Aa C3 a1 C5] [bk b0 #[Ay,Az,A2,Aa AI Ai AJ,Aa B1 Au B2,B3,Aa AG Al AH,AA,B4,B5,Aa AR An AT,Br] 66,BF] [CF,C4,BS,DW,G] (fun e l1=>∃ (H0_:Ab) (A0_:Ar) (c0_:Nat),Ah e48 48 4 H0_ (Aa A0_ r c0_) r∧e=.returned (.tuple #[])∧l1=[bk b0 #[Ay,Az,A2,Aa AI Ai AJ,Aa A0_ r c0_,B3,Aa AG Al AH,AA,B4,B5,Aa AR An AT,Br] 66,H0_])
def F5.C (fC:Bl→TyA→Ag→Ag→List Tree→Option TyA):Prop:=∀ {Ai:Bl} {Au r:TyA} {Al An:Ag} {a1:List Tree} {b0 AJ B2 AH AT C5:Nat} {Ay Az A2 B3 AA B4 B5 Br:Value} {CF BF C4 BS DW G:Ab} {AI B1 AG AR C3:Ar} (h:fC Ai Au Al An a1=some r) (Cu:Bf Dt 3 CF (Aa AI Ai AJ) Ai) (Ck:Ah e48 48 4 BF (Aa B1 Au B2) Au) (Cm:Bf encS 1 C4 (Aa AG Al AH) Al) (Cg:Bf encS 1 BS (Aa AR An AT) An) (EW:RdR (Bb 54) DW (Aa C3 a1 C5) a1) (hG:E2 G),Ct Tryz.prog 85 #[pt b0,Aa C3 a1 C5] [bk b0 #[Ay,Az,A2,Aa AI Ai AJ,Aa B1 Au B2,B3,Aa AG Al AH,AA,B4,B5,Aa AR An AT,Br] 66,BF] [CF,C4,BS,DW,G] (fun e l1=>∃ (H0_:Ab) (A0_:Ar) (c0_:Nat),Ah e48 48 4 H0_ (Aa A0_ r c0_) r∧e=.returned (.tuple #[])∧l1=[bk b0 #[Ay,Az,A2,Aa AI Ai AJ,Aa A0_ r c0_,B3,Aa AG Al AH,AA,B4,B5,Aa AR An AT,Br] 66,H0_])
def EJ.C (fC:Bl→TyA→Ag→Ag→Int→ByteArray→Int→Int→List Tree→Int→Option TyA):Prop:=∀ {Ai:Bl} {Au r:TyA} {Al An:Ag} {Af Aq AC a2:Int} {As:ByteArray} {Am:List Tree} {b0 AJ B2 AH AT Bj:Nat} {Ay Az A2 B3 AA B4 B5 Br:Value} {CF BF C4 BS Cs G:Ab} {AI B1 AG AR Bi:Ar} (h:fC Ai Au Al An Af As Aq AC Am a2=some r) (Cu:Bf Dt 3 CF (Aa AI Ai AJ) Ai) (Ck:Ah e48 48 4 BF (Aa B1 Au B2) Au) (Cm:Bf encS 1 C4 (Aa AG Al AH) Al) (Cg:Bf encS 1 BS (Aa AR An AT) An) (BJ:RdR (Bb 54) Cs (Aa Bi Am Bj) Am) (hG:E2 G),Ct Tryz.prog 74 #[pt b0,.agg #[iv Af,sv As,iv Aq,iv AC,Aa Bi Am Bj],iv a2] [bk b0 #[Ay,Az,A2,Aa AI Ai AJ,Aa B1 Au B2,B3,Aa AG Al AH,AA,B4,B5,Aa AR An AT,Br] 66,BF] [CF,C4,BS,Cs,G] (fun e l1=>∃ (H0_:Ab) (A0_:Ar) (c0_:Nat),Ah e48 48 4 H0_ (Aa A0_ r c0_) r∧e=.returned (.tuple #[])∧l1=[bk b0 #[Ay,Az,A2,Aa AI Ai AJ,Aa A0_ r c0_,B3,Aa AG Al AH,AA,B4,B5,Aa AR An AT,Br] 66,H0_])
def HI.C (fC:Bl→TyA→Ag→Ag→Int→ByteArray→Int→Int→List Tree→Option TyA):Prop:=∀ {Ai:Bl} {Au r:TyA} {Al An:Ag} {Af Aq AC:Int} {As:ByteArray} {Am:List Tree} {b0 AJ B2 AH AT Bj:Nat} {Ay Az A2 B3 AA B4 B5 Br:Value} {CF BF C4 BS Cs G:Ab} {AI B1 AG AR Bi:Ar} (h:fC Ai Au Al An Af As Aq AC Am=some r) (Cu:Bf Dt 3 CF (Aa AI Ai AJ) Ai) (Ck:Ah e48 48 4 BF (Aa B1 Au B2) Au) (Cm:Bf encS 1 C4 (Aa AG Al AH) Al) (Cg:Bf encS 1 BS (Aa AR An AT) An) (BJ:RdR (Bb 54) Cs (Aa Bi Am Bj) Am) (hG:E2 G),Ct Tryz.prog 110 #[pt b0,.agg #[iv Af,sv As,iv Aq,iv AC,Aa Bi Am Bj]] [bk b0 #[Ay,Az,A2,Aa AI Ai AJ,Aa B1 Au B2,B3,Aa AG Al AH,AA,B4,B5,Aa AR An AT,Br] 66,BF] [CF,C4,BS,Cs,G] (fun e l1=>∃ (H0_:Ab) (A0_:Ar) (c0_:Nat),Ah e48 48 4 H0_ (Aa A0_ r c0_) r∧e=.returned (.tuple #[])∧l1=[bk b0 #[Ay,Az,A2,Aa AI Ai AJ,Aa A0_ r c0_,B3,Aa AG Al AH,AA,B4,B5,Aa AR An AT,Br] 66,H0_])
def F6.C (fC:Bl→TyA→Ag→Ag→List Tree→Option TyA):Prop:=∀ {Ai:Bl} {Au r:TyA} {Al An:Ag} {a1:List Tree} {b0 AJ B2 AH AT C5:Nat} {Ay Az A2 B3 AA B4 B5 Br:Value} {CF BF C4 BS DW G:Ab} {AI B1 AG AR C3:Ar} (h:fC Ai Au Al An a1=some r) (Cu:Bf Dt 3 CF (Aa AI Ai AJ) Ai) (Ck:Ah e48 48 4 BF (Aa B1 Au B2) Au) (Cm:Bf encS 1 C4 (Aa AG Al AH) Al) (Cg:Bf encS 1 BS (Aa AR An AT) An) (EW:RdR (Bb 54) DW (Aa C3 a1 C5) a1) (hG:E2 G),Ct Tryz.prog 111 #[pt b0,Aa C3 a1 C5] [bk b0 #[Ay,Az,A2,Aa AI Ai AJ,Aa B1 Au B2,B3,Aa AG Al AH,AA,B4,B5,Aa AR An AT,Br] 66,BF] [CF,C4,BS,DW,G] (fun e l1=>∃ (H0_:Ab) (A0_:Ar) (c0_:Nat),Ah e48 48 4 H0_ (Aa A0_ r c0_) r∧e=.returned (.tuple #[])∧l1=[bk b0 #[Ay,Az,A2,Aa AI Ai AJ,Aa A0_ r c0_,B3,Aa AG Al AH,AA,B4,B5,Aa AR An AT,Br] 66,H0_])
structure GE.Good (R:GE):Prop where
 Dl:Dl.C R.Dl
 DD:DD.C R.DD
 F5:F5.C R.F5
 EJ:EJ.C R.EJ
 HI:HI.C R.HI
 F6:F6.C R.F6
def Dl.g (Rc:GE) (k:Nat) (Ai:Bl) (Au:TyA) (Al:Ag) (An:Ag) (Af:Int) (As:ByteArray) (Aq:Int) (AC:Int) (Am:List Tree):Option TyA:=cond (Af == 1) ((BC.f k Au 3 ([])).bind fun r3=>some (r3.2)) (cond (Af == 2) ((BC.f k Au 4 ([])).bind fun r9=>some (r9.2)) (cond (Af == 3) ((BC.f k Au 5 ([])).bind fun BQ=>some (BQ.2)) (cond (Af == 4) ((Lo.f k Ai Au 2 Aq (⟨#[]⟩:ByteArray)).bind fun r21=>some (r21)) (cond (Af == 5) ((Lo.f k Ai Au 3 0 As).bind fun r27=>some (r27)) (cond (Af == 6) ((NE.f k An As).bind fun r33=>cond (decide (r33 > 0)) ((BC.f k Au 6 ([r33])).bind fun r36=>some (r36.2)) ((Lp.f k Al As).bind fun Gk=>(BC.f k Au 8 ([Gk])).bind fun Ug=>some (Ug.2))) (cond (Af == 7) ((AZ Am 0).bind fun x49=>(cond (x49.kind == 6) (cond (x49.text.toList == (⟨#[116,97,98,108,101]⟩:ByteArray).toList) (some true) (some (x49.text.toList == (⟨#[117,116,102,56]⟩:ByteArray).toList))) (some false):Option Bool).bind fun q59=>cond q59 ((Nl x49.text (⟨#[46]⟩:ByteArray)).bind fun s61:ByteArray=>(AZ Am 1).bind fun x62=>(Nl s61 x62.text).bind fun s74:ByteArray=>(ME.f k s74).bind fun Uh=>(BC.f k Au 10 ([Uh])).bind fun r77=>some (r77.2)) ((Rc.DD Ai Au Al An Am).bind fun I5=>(BC.f k I5 12 ([])).bind fun r87=>some (r87.2))) (cond (Af == 8) ((Rc.EJ Ai Au Al An Af As Aq AC Am 1).bind fun r95=>some (r95)) (cond (Af == 9) ((AZ Am 0).bind fun x101=>(Rc.Dl Ai Au Al An x101.kind x101.text x101.n x101.at_ x101.kids).bind fun Adq=>some (Adq)) (cond (Af == 10) ((AZ Am 0).bind fun RN=>(Rc.Dl Ai Au Al An RN.kind RN.text RN.n RN.at_ RN.kids).bind fun Avj=>(ER.f k ([(⟨#[]⟩:ByteArray),(⟨#[110,111,116]⟩:ByteArray),(⟨#[35]⟩:ByteArray),(⟨#[45]⟩:ByteArray)]) As).bind fun Uc=>(BC.f k Avj 16 ([Uc])).bind fun Adu=>some (Adu.2)) (cond (Af == 11) ((Rc.HI Ai Au Al An Af As Aq AC Am).bind fun Adv=>some (Adv)) (cond (Af == 12) ((Rc.F6 Ai Au Al An Am).bind fun Adx=>some (Adx)) (some (Au)))))))))))))
theorem Dl.C0 {Rc:GE} (hR:Rc.Good) {k:Nat}:Dl.C (Dl.g Rc k):=by
 intro Ai Au r Al An Af Aq AC As Am b0 AJ B2 AH AT Bj Ay Az A2 B3 AA B4 B5 Br CF BF C4 BS Cs G AI B1 AG AR Bi h Cu Ck Cm Cg BJ hG
 refine Cz (args:=[pt b0,.agg #[iv Af,sv As,iv Aq,iv AC,Aa Bi Am Bj]]) Tryz.func77 rfl (B0 rfl) ?_
 intro A X hh_
 obtain ⟨CX,CM,EZ,BD,BU,_⟩:=hh_
 unfold Dl.g at h
 refine K.eq (env':=[(0,pt b0),(1,.agg #[iv Af,sv As,iv Aq,iv AC,Aa Bi Am Bj])]) (l':=bk b0 #[Ay,Az,A2,Aa AI Ai AJ,Aa B1 Au B2,B3,Aa AG Al AH,AA,B4,B5,Aa AR An AT,Br] 66 :: BF :: X) rfl rfl (ksr (knp #[iv Af,sv As,iv Aq,iv AC,Aa Bi Am Bj] 54 fun b1=>(AY (kx 1 (kld 0 0 rfl (Ad (Co (ksr (kx 2 (Ad ?_))))))))))
 refine AF h (fun h=>?_) fun h=>?_
 ·refine Bc (kx 1 (Di (K.mv3 (K.mv3 (bnd h fun r3 hr3 h=>(B6 (BC.ok hr3 Ck (Bf.nil (encI .i64) 1 none_)) rfl ⟨(.head _),trivial⟩ ?_))))))
  rintro _ _ ⟨h4,A5,k6,o7,rfl,rfl⟩
  refine Bn (K.Ak (K.drop (K.Ak (K.drop (knl (Bo (Cw ?_)))))))
  obtain rfl:=Ap h
  exact kdv (.tuple #[]) [bk b0 #[Ay,Az,A2,Aa AI Ai AJ,Aa A5 r3.2 k6,B3,Aa AG Al AH,AA,B4,B5,Aa AR An AT,Br] 66,h4] (BH ⟨h4,A5,k6,o7,rfl,rfl⟩)
 ·refine ksr (kx 2 (Ad ?_))
  refine AF h (fun h=>?_) fun h=>?_
  ·refine Bc (kx 1 (Di (K.mv3 (K.mv3 (bnd h fun r9 hr9 h=>(B6 (BC.ok hr9 Ck (Bf.nil (encI .i64) 1 none_)) rfl ⟨(.head _),trivial⟩ ?_))))))
   rintro _ _ ⟨h10,Ok,k12,Rb,rfl,rfl⟩
   refine Bn (K.Ak (K.drop (K.Ak (K.drop (knl (Bo (Cw ?_)))))))
   obtain rfl:=Ap h
   exact kdv (.tuple #[]) [bk b0 #[Ay,Az,A2,Aa AI Ai AJ,Aa Ok r9.2 k12,B3,Aa AG Al AH,AA,B4,B5,Aa AR An AT,Br] 66,h10] (BH ⟨h10,Ok,k12,Rb,rfl,rfl⟩)
  ·refine ksr (kx 2 (Ad ?_))
   refine AF h (fun h=>?_) fun h=>?_
   ·refine Bc (kx 1 (Di (K.mv3 (K.mv3 (bnd h fun BQ Lr h=>(B6 (BC.ok Lr Ck (Bf.nil (encI .i64) 1 none_)) rfl ⟨(.head _),trivial⟩ ?_))))))
    rintro _ _ ⟨h16,IX,k18,o19,rfl,rfl⟩
    refine Bn (K.Ak (K.drop (K.Ak (K.drop (knl (Bo (Cw ?_)))))))
    obtain rfl:=Ap h
    exact kdv (.tuple #[]) [bk b0 #[Ay,Az,A2,Aa AI Ai AJ,Aa IX BQ.2 k18,B3,Aa AG Al AH,AA,B4,B5,Aa AR An AT,Br] 66,h16] (BH ⟨h16,IX,k18,o19,rfl,rfl⟩)
   ·refine ksr (kx 2 (Ad ?_))
    refine AF h (fun h=>?_) fun h=>?_
    ·refine Bc (kx 2 (kld 0 2 rfl (K.drop (kx 1 (K.Ao (K.Ao (bnd h fun r21 Kl h=>(B6 (Lo.ok Kl Cu Ck) rfl ⟨CX,trivial⟩ ?_))))))))
     rintro _ _ ⟨h22,A23,k24,F9,rfl,rfl⟩
     refine Bn (knl (Bo (Cw ?_)))
     obtain rfl:=Ap h
     exact kdv (.tuple #[]) [bk b0 #[Ay,Az,A2,Aa AI Ai AJ,Aa A23 r21 k24,B3,Aa AG Al AH,AA,B4,B5,Aa AR An AT,Br] 66,h22] (BH ⟨h22,A23,k24,F9,rfl,rfl⟩)
    ·refine ksr (kx 2 (Ad ?_))
     refine AF h (fun h=>?_) fun h=>?_
     ·refine Bc (kx 2 (kld 0 1 rfl (K.drop (kx 1 (K.Ao (K.Ao (bnd h fun r27 Km h=>(B6 (Lo.ok Km Cu Ck) rfl ⟨CX,trivial⟩ ?_))))))))
      rintro _ _ ⟨h28,A29,k30,GK,rfl,rfl⟩
      refine Bn (knl (Bo (Cw ?_)))
      obtain rfl:=Ap h
      exact kdv (.tuple #[]) [bk b0 #[Ay,Az,A2,Aa AI Ai AJ,Aa A29 r27 k30,B3,Aa AG Al AH,AA,B4,B5,Aa AR An AT,Br] 66,h28] (BH ⟨h28,A29,k30,GK,rfl,rfl⟩)
     ·refine ksr (kx 2 (Ad ?_))
      refine AF h (fun h=>?_) fun h=>?_
      ·refine ksr (kx 2 (kld 0 1 rfl (K.Ao (bnd h fun r33 Bdy h=>(CI (NE.ok Bdy Cg) rfl ⟨(t2 EZ),trivial⟩ (kx 1 (AY (kx 2 (Ad ?_)))))))))
       refine AF h (fun h=>?_) fun h=>?_
       ·refine Bc (kx 2 (De #[iv r33] 3 1 fun Ox=>(K.Ak (K.drop (K.Ak (K.Ak (bnd h fun r36 Ls h=>(B6 (BC.ok Ls Ck (Ah.rd (Ah.blk 3 (D7 .i64) Ox [r33] #[iv r33] 1 (by kernel_rfl) rfl (by decide)))) rfl ⟨(.head _),trivial⟩ ?_))))))))
        rintro _ _ ⟨h37,Jm,k39,Mh,rfl,rfl⟩
        refine Bn (K.Ak (K.drop (knl (Bo (Cw ?_)))))
        obtain rfl:=Ap h
        exact kdv (.tuple #[]) [bk b0 #[Ay,Az,A2,Aa AI Ai AJ,Aa Jm r36.2 k39,B3,Aa AG Al AH,AA,B4,B5,Aa AR An AT,Br] 66,h37] (BH ⟨h37,Jm,k39,Mh,rfl,rfl⟩)
       ·refine Bc (kx 3 (kld 1 1 rfl (K.Ao (K.drop (bnd h fun Gk ON h=>(CI (Lp.ok ON Cm) rfl ⟨(.tail _ CM),trivial⟩ (De #[iv Gk] 3 1 fun b42=>(K.Ak (K.Ak (bnd h fun Ug Zh h=>?_))))))))))
        refine B6 (BC.ok Zh Ck (Ah.rd (Ah.blk 3 (D7 .i64) b42 [Gk] #[iv Gk] 1 (by kernel_rfl) rfl (by decide)))) rfl ⟨(.head _),trivial⟩ ?_
        rintro _ _ ⟨h44,M0,MV,NT,rfl,rfl⟩
        refine Bn (K.Ak (K.drop (knl (Bo (Cw ?_)))))
        obtain rfl:=Ap h
        exact kdv (.tuple #[]) [bk b0 #[Ay,Az,A2,Aa AI Ai AJ,Aa M0 Ug.2 MV,B3,Aa AG Al AH,AA,B4,B5,Aa AR An AT,Br] 66,h44] (BH ⟨h44,M0,MV,NT,rfl,rfl⟩)
      ·refine ksr (kx 2 (Ad ?_))
       refine AF h (fun h=>?_) fun h=>?_
       ·refine Bz (ksr (kx 1 (kld 0 4 rfl (bnd h fun x49 hx49 h=>(DL (T:=54) (kd:=.i64) (R:=(Bb 54)) rfl hx49 BJ fun p50 u53 q54 e51 y52=>?_)))))
        obtain ⟨LL,L_,rfl,W2⟩:=DI 54 q54
        refine E8 rfl e51 (t3 BD) (knp #[iv 0,sv noS,iv 0,iv 0,nS] 54 fun b58=>(AQ 0 5 #[iv x49.kind,sv x49.text,iv x49.n,iv x49.at_,Aa LL x49.kids L_] (Ad (bnd h fun q59 hq59 h=>?_))))
        refine Gr [(0,pt b0),(3,pt b1),(5,pt b58),(71,bv q59)] (bk b58 #[iv x49.kind,sv x49.text,iv x49.n,iv x49.at_,Aa LL x49.kids L_] 54 :: bk b1 #[iv Af,sv As,iv Aq,iv AC,Aa Bi Am Bj] 54 :: bk b0 #[Ay,Az,A2,Aa AI Ai AJ,Aa B1 Au B2,B3,Aa AG Al AH,AA,B4,B5,Aa AR An AT,Br] 66 :: BF :: X) ?_ ?_
        ·clear hq59
         refine AF h (fun h=>?_) fun h=>?_
         ·refine Bz (IN [(0,0),(1,0),(2,3),(3,0),(4,0),(5,3),(6,0),(7,0),(8,3)] [bk b58 #[iv x49.kind,sv x49.text,iv x49.n,iv x49.at_,Aa LL x49.kids L_] 54,bk b1 #[iv Af,sv As,iv Aq,iv AC,Aa Bi Am Bj] 54,Cs] (fun w h_=>⟨h_.sat.on _ (.head _),h_.sat.on _ (.tail _ (.head _)),h_.sat.on _ (t4 BD),trivial⟩) (Ax 2 (AU 0 1 rfl (bnd h fun s61 Bex h=>(Bi6 rfl (by kernel_rfl) (by kernel_rfl) (by kernel_rfl) (by kernel_rfl) Bex (Ax 1 (AU 1 4 rfl (bnd h fun x62 Z6 h=>(Jd (T:=54) (kd:=.i64) (R:=(Bb 54)) rfl Z6 BJ fun p63 u66 q67 e64 y65=>?_)))))))))
          obtain ⟨GP,k69,rfl,Kr⟩:=DI 54 q67
          refine Ar5 (off:=1) rfl e64 y65 fun p71 e72 y73=>?_
          have e72:Elem _ p71 [sv x62.text,iv x62.n,iv x62.at_,Aa GP x62.kids k69]:=e72
          refine Pk rfl (by kernel_rfl) (by kernel_rfl) (by kernel_rfl) (by kernel_rfl) e72 (fun w h_=>h_.mem _ (.tail _ (.tail _ (.head _)))) (BY (bnd h fun s74 Bey h=>(Z_ rfl (by kernel_rfl) (by kernel_rfl) (by kernel_rfl) (by kernel_rfl) Bey (K.drop (K.drop (bnd h fun Uh Bei h=>(FN (ME.ok Bei hG) ⟨(t2 BU),trivial⟩ (De #[iv Uh] 3 1 fun b76=>(K.Ak (K.Ak ?_))))))))))
          refine bnd h fun r77 Bel h=>(B6 (BC.ok Bel Ck (Ah.rd (Ah.blk 3 (D7 .i64) b76 [Uh] #[iv Uh] 1 (by kernel_rfl) rfl (by decide)))) rfl ⟨(.head _),trivial⟩ ?_)
          rintro _ _ ⟨h78,A79,k80,TN,rfl,rfl⟩
          refine Bn (K.Ak (K.drop (Ad (Cr (CZ (DK ?_))))))
          obtain rfl:=Ap h
          exact kdv (.tuple #[]) [bk b0 #[Ay,Az,A2,Aa AI Ai AJ,Aa A79 r77.2 k80,B3,Aa AG Al AH,AA,B4,B5,Aa AR An AT,Br] 66,h78] (BH ⟨h78,A79,k80,TN,rfl,rfl⟩)
         ·refine Bt (AB (ksr (kx 2 (kld 1 4 rfl (K.drop (K.drop (K.Ao (K.Ao (bnd h fun I5 MP h=>(B6 (hR.DD MP Cu Ck Cm Cg BJ hG) rfl ⟨CX,CM,EZ,BD,BU,trivial⟩ ?_))))))))))
          rintro _ _ ⟨OC,A84,VU,o86,rfl,rfl⟩
          refine Bn (Fw (kx 1 (Di (K.Ak (K.Ak (bnd h fun r87 Zx h=>(B6 (BC.ok Zx o86 (Bf.nil (encI .i64) 1 none_)) rfl ⟨(.head _),trivial⟩ ?_)))))))
          rintro _ _ ⟨h88,A89,k90,o91,rfl,rfl⟩
          refine Bn (K.Ak (K.drop (knl (Bo (Cw ?_)))))
          obtain rfl:=Ap h
          exact kdv (.tuple #[]) [bk b0 #[Ay,Az,A2,Aa AI Ai AJ,Aa A89 r87.2 k90,B3,Aa AG Al AH,AA,B4,B5,Aa AR An AT,Br] 66,h88] (BH ⟨h88,A89,k90,o91,rfl,rfl⟩)
        ·have h:=hq59
         clear hq59
         refine Bc (kx 1 (kld 0 0 rfl (kx 2 ?_)))
         refine Dw 62 h (fun h=>?_) fun h=>?_
         ·refine kx 1 (kld 0 1 rfl (kx 2 ?_))
          refine Dw 66 h (fun h=>?_) fun h=>?_
          ·exact kx 5 (Ad (C2 ⟨gr,gr,gr,gb (Ap h),trivial⟩))
          ·exact kx 1 (kld 0 1 rfl (kx 3 (Ad (C2 ⟨gr,gr,gr,gb (Ap h),trivial⟩))))
         ·exact kx 9 (Ad (C2 ⟨gr,gr,gr,gb (Ap h),trivial⟩))
       ·refine ksr (kx 2 (Ad ?_))
        refine AF h (fun h=>?_) fun h=>?_
        ·refine Bc (kx 1 (CE 0 0 5 rfl (K.drop (K.Ao (K.Ao (bnd h fun r95 MQ h=>(B6 (hR.EJ MQ Cu Ck Cm Cg BJ hG) rfl ⟨CX,CM,EZ,BD,BU,trivial⟩ ?_)))))))
         rintro _ _ ⟨h96,K3,KF,KN,rfl,rfl⟩
         refine Bn (knl (Bo (Cw ?_)))
         obtain rfl:=Ap h
         exact kdv (.tuple #[]) [bk b0 #[Ay,Az,A2,Aa AI Ai AJ,Aa K3 r95 KF,B3,Aa AG Al AH,AA,B4,B5,Aa AR An AT,Br] 66,h96] (BH ⟨h96,K3,KF,KN,rfl,rfl⟩)
        ·refine ksr (kx 2 (Ad ?_))
         refine AF h (fun h=>?_) fun h=>?_
         ·refine Bc (kx 2 (kld 0 4 rfl (K.drop (bnd h fun x101 hx101 h=>(DL (T:=54) (kd:=.i64) (R:=(Bb 54)) rfl hx101 BJ fun Byo u105 Bo7 A4c y104=>?_)))))
          obtain ⟨Ay7,Bha,rfl,Abe⟩:=DI 54 Bo7
          refine E8 rfl A4c (t2 BD) (K.Ao (K.Ao (bnd h fun Adq Bb6 h=>(B6 (hR.Dl Bb6 Cu Ck Cm Cg Abe hG) rfl ⟨CX,CM,EZ,BD,BU,trivial⟩ ?_))))
          rintro _ _ ⟨Alv,Ags,Ao3,Bk3,rfl,rfl⟩
          refine Bn (knl (Bo (Cw ?_)))
          obtain rfl:=Ap h
          exact kdv (.tuple #[]) [bk b0 #[Ay,Az,A2,Aa AI Ai AJ,Aa Ags Adq Ao3,B3,Aa AG Al AH,AA,B4,B5,Aa AR An AT,Br] 66,Alv] (BH ⟨Alv,Ags,Ao3,Bk3,rfl,rfl⟩)
         ·refine ksr (kx 2 (Ad ?_))
          refine AF h (fun h=>?_) fun h=>?_
          ·refine ksr (kx 2 (kld 0 4 rfl (bnd h fun RN Bfd h=>(DL (T:=54) (kd:=.i64) (R:=(Bb 54)) rfl Bfd BJ fun Byw Bzk Bpd e118 Bz2=>?_))))
           obtain ⟨Agw,Ao8,rfl,Abk⟩:=DI 54 Bpd
           refine E8 rfl e118 (t3 BD) (K.Ak (K.Ak (bnd h fun Avj Bca h=>(B6 (hR.Dl Bca Cu Ck Cm Cg Abk hG) rfl ⟨(.tail _ CX),(.tail _ CM),(.tail _ EZ),(.tail _ BD),(.tail _ BU),trivial⟩ ?_))))
           rintro _ _ ⟨Bv3,Buj,Bxl,Bk8,rfl,rfl⟩
           refine Bn (Fw (kx 1 (De #[sv noS,sv (⟨#[110,111,116]⟩:ByteArray),sv (⟨#[35]⟩:ByteArray),sv (⟨#[45]⟩:ByteArray)] 9 4 fun A0q=>(kx 1 (kld 3 1 rfl (K.mv3 (K.drop (bnd h fun Uc Bcb h=>(FN (ER.ok Bcb (Ah.rd (Ah.blk 9 IZ A0q [(⟨#[]⟩:ByteArray),(⟨#[110,111,116]⟩:ByteArray),(⟨#[35]⟩:ByteArray),(⟨#[45]⟩:ByteArray)] #[sv noS,sv (⟨#[110,111,116]⟩:ByteArray),sv (⟨#[35]⟩:ByteArray),sv (⟨#[45]⟩:ByteArray)] 4 (by kernel_rfl) rfl (by decide)))) ⟨(.head _),trivial⟩ (K.drop ?_))))))))))
           refine De #[iv Uc] 3 1 fun A0s=>(K.Ak (K.Ak (bnd h fun Adu Bcd h=>(B6 (BC.ok Bcd Bk8 (Ah.rd (Ah.blk 3 (D7 .i64) A0s [Uc] #[iv Uc] 1 (by kernel_rfl) rfl (by decide)))) rfl ⟨(.head _),trivial⟩ ?_))))
           rintro _ _ ⟨Qv,Ag1,Apa,Ble,rfl,rfl⟩
           refine Bn (K.Ak (K.drop (knl (Bo (Cw ?_)))))
           obtain rfl:=Ap h
           exact kdv (.tuple #[]) [bk b0 #[Ay,Az,A2,Aa AI Ai AJ,Aa Ag1 Adu.2 Apa,B3,Aa AG Al AH,AA,B4,B5,Aa AR An AT,Br] 66,Qv] (BH ⟨Qv,Ag1,Apa,Ble,rfl,rfl⟩)
          ·refine ksr (kx 2 (Ad ?_))
           refine AF h (fun h=>?_) fun h=>?_
           ·refine Bc (kx 1 (CE 0 0 5 rfl (K.drop (K.Ao (K.Ao (bnd h fun Adv Bcg h=>(B6 (hR.HI Bcg Cu Ck Cm Cg BJ hG) rfl ⟨CX,CM,EZ,BD,BU,trivial⟩ ?_)))))))
            rintro _ _ ⟨Alz,Ag2,Apb,Abr,rfl,rfl⟩
            refine Bn (knl (Bo (Cw ?_)))
            obtain rfl:=Ap h
            exact kdv (.tuple #[]) [bk b0 #[Ay,Az,A2,Aa AI Ai AJ,Aa Ag2 Adv Apb,B3,Aa AG Al AH,AA,B4,B5,Aa AR An AT,Br] 66,Alz] (BH ⟨Alz,Ag2,Apb,Abr,rfl,rfl⟩)
           ·refine ksr (kx 2 (Ad ?_))
            refine AF h (fun h=>?_) fun h=>?_
            ·refine Bc (kx 2 (kld 0 4 rfl (K.drop (K.Ao (K.Ao (bnd h fun Adx Bci h=>(B6 (hR.F6 Bci Cu Ck Cm Cg BJ hG) rfl ⟨CX,CM,EZ,BD,BU,trivial⟩ ?_)))))))
             rintro _ _ ⟨Al5,Ag4,Apc,Bll,rfl,rfl⟩
             refine Bn (knl (Bo (Cw ?_)))
             obtain rfl:=Ap h
             exact kdv (.tuple #[]) [bk b0 #[Ay,Az,A2,Aa AI Ai AJ,Aa Ag4 Adx Apc,B3,Aa AG Al AH,AA,B4,B5,Aa AR An AT,Br] 66,Al5] (BH ⟨Al5,Ag4,Apc,Bll,rfl,rfl⟩)
            ·refine Bt (Bo (Cw ?_))
             obtain rfl:=Ap h
             exact kdv (.tuple #[]) [bk b0 #[Ay,Az,A2,Aa AI Ai AJ,Aa B1 Au B2,B3,Aa AG Al AH,AA,B4,B5,Aa AR An AT,Br] 66,BF] (K.drop (BH ⟨BF,B1,B2,Ck,rfl,rfl⟩))
def DD.l0:Nat→(Rc:GE)→(Ai:List (Int×Int×ByteArray))→(Al:List ByteArray)→(An:List ByteArray)→(a1:List Tree)→(x1:Int)→(l2:List (Int×Int×Int×Int))→Option (List (Int×Int×Int×Int))
 | 0,_,_,_,_,_,_,_=>none
 | m7+1,Rc,Ai,Al,An,a1,x1,l2=>cond (decide (x1 < ((a1.length:Nat):Int))) ((AZ a1 x1).bind fun x9=>(Rc.Dl Ai l2 Al An x9.kind x9.text x9.n x9.at_ x9.kids).bind fun r19=>DD.l0 m7 Rc Ai Al An a1 (IntKind.i64.wrap (x1+1)) r19) (some (l2))
def DD.g (Rc:GE) (k:Nat) (Ai:Bl) (Au:TyA) (Al:Ag) (An:Ag) (a1:List Tree):Option TyA:=DD.l0 k Rc Ai Al An a1 0 Au
theorem DD.C0 {Rc:GE} (hR:Rc.Good) {k:Nat}:DD.C (DD.g Rc k):=by
 intro Ai Au r Al An a1 b0 AJ B2 AH AT C5 Ay Az A2 B3 AA B4 B5 Br CF BF C4 BS DW G AI B1 AG AR C3 h Cu Ck Cm Cg EW hG
 refine Cz (args:=[pt b0,Aa C3 a1 C5]) Tryz.func80 rfl (B0 rfl) ?_
 intro A X hh_
 obtain ⟨CX,CM,EZ,DS,BU,_⟩:=hh_
 unfold DD.g at h
 refine K.eq (env':=[(0,pt b0),(1,Aa C3 a1 C5)]) (l':=bk b0 #[Ay,Az,A2,Aa AI Ai AJ,Aa B1 Au B2,B3,Aa AG Al AH,AA,B4,B5,Aa AR An AT,Br] 66 :: BF :: X) rfl rfl (ksr (kx 3 (Ad (Co (EL (τ:=Int×TyA×Ab×Ar×Nat) (fun t=>[(0,pt b0),(6,Aa C3 a1 C5),(7,iv ((a1.length:Nat):Int)),(8,iv t.1)]) (fun t=>bk b0 #[Ay,Az,A2,Aa AI Ai AJ,Aa t.2.2.2.1 t.2.1 t.2.2.2.2,B3,Aa AG Al AH,AA,B4,B5,Aa AR An AT,Br] 66 :: t.2.2.1 :: X) (fun m t=>DD.l0 m Rc Ai Al An a1 t.1 t.2.1=some r∧Ah e48 48 4 t.2.2.1 (Aa t.2.2.2.1 t.2.1 t.2.2.2.2) t.2.1) k (0,Au,BF,B1,B2) ⟨h,Ck⟩ sb rfl ?_)))))
 clear h
 rintro m7 ⟨x1,l2,h3,A4,k5⟩ ⟨h,o6⟩
 cases m7 with
 | zero=>simp [DD.l0] at h
 | succ m7 =>
  simp only [DD.l0] at h
  refine ksr (kx 1 (Ad (Bz ?_)))
  refine AF h (fun h=>?_) fun h=>?_
  ·refine Bt (AB (Bz (Co (ksr (bnd h fun x9 hx9 h=>(DL (T:=54) (kd:=.i64) (R:=(Bb 54)) rfl hx9 EW fun p10 u13 q14 e11 y12=>?_))))))
   obtain ⟨Mx,k16,rfl,o17⟩:=DI 54 q14
   refine E8 rfl e11 (t2 DS) (knp #[iv 0,sv noS,iv 0,iv 0,nS] 54 fun b18=>(AQ 0 5 #[iv x9.kind,sv x9.text,iv x9.n,iv x9.at_,Aa Mx x9.kids k16] (Fw (kx 1 (CE 0 0 5 rfl (K.drop (K.Ao (K.Ao (bnd h fun r19 hr19 h=>(B6 (hR.Dl hr19 Cu o6 Cm Cg o17 hG) rfl ⟨CX,CM,EZ,DS,BU,trivial⟩ ?_))))))))))
   rintro _ _ ⟨h20,A21,k22,Hp,rfl,rfl⟩
   exact Bn (knl (Bo (AB (Bc (kx 2 (Ad (Ea m7 (IntKind.i64.wrap (x1+1),r19,h20,A21,k22) (Nat.lt_succ_self _) ⟨h,Hp⟩ sb rfl)))))))
  ·refine E6 (CY (CY (E7 (Cw ?_))))
   obtain rfl:=Ap h
   exact kdv (.tuple #[]) [bk b0 #[Ay,Az,A2,Aa AI Ai AJ,Aa A4 l2 k5,B3,Aa AG Al AH,AA,B4,B5,Aa AR An AT,Br] 66,h3] (BH ⟨h3,A4,k5,o6,rfl,rfl⟩)
def F5.g (Rc:GE) (_k:Nat) (Ai:Bl) (Au:TyA) (Al:Ag) (An:Ag) (a1:List Tree):Option TyA:=(cond (decide ((IntKind.i64.wrap (((a1.length:Nat):Int) - 1)) ≥ 0)) ((AZ a1 (IntKind.i64.wrap (((a1.length:Nat):Int) - 1))).bind fun x32=>some (x32.kind == 8)) (some false):Option Bool).bind fun q1=>cond q1 ((D8 a1 0 (IntKind.i64.wrap (((a1.length:Nat):Int) - 1))).bind fun l3=>(Rc.DD Ai Au Al An l3).bind fun r7=>(AZ a1 (IntKind.i64.wrap (((a1.length:Nat):Int) - 1))).bind fun x12=>(Rc.EJ Ai r7 Al An x12.kind x12.text x12.n x12.at_ x12.kids (-1:Int)).bind fun r21=>some (r21)) ((Rc.DD Ai Au Al An a1).bind fun Dk=>some (Dk))
theorem F5.C0 {Rc:GE} (hR:Rc.Good) {k:Nat}:F5.C (F5.g Rc k):=by
 intro Ai Au r Al An a1 b0 AJ B2 AH AT C5 Ay Az A2 B3 AA B4 B5 Br CF BF C4 BS DW G AI B1 AG AR C3 h Cu Ck Cm Cg EW hG
 refine Cz (args:=[pt b0,Aa C3 a1 C5]) Tryz.func85 rfl (B0 rfl) ?_
 intro A X hh_
 obtain ⟨CX,CM,EZ,DS,BU,_⟩:=hh_
 unfold F5.g at h
 refine K.eq (env':=[(0,pt b0),(1,Aa C3 a1 C5)]) (l':=bk b0 #[Ay,Az,A2,Aa AI Ai AJ,Aa B1 Au B2,B3,Aa AG Al AH,AA,B4,B5,Aa AR An AT,Br] 66 :: BF :: X) rfl rfl (Bz (ksr (kx 4 (Ad (bnd h fun q1 hq1 h=>?_)))))
 refine Gr [(0,pt b0),(1,Aa C3 a1 C5),(4,iv (IntKind.i64.wrap (((a1.length:Nat):Int) - 1))),(17,bv q1)] (bk b0 #[Ay,Az,A2,Aa AI Ai AJ,Aa B1 Au B2,B3,Aa AG Al AH,AA,B4,B5,Aa AR An AT,Br] 66 :: BF :: X) ?_ ?_
 ·clear hq1
  refine AF h (fun h=>?_) fun h=>?_
  ·refine ksr (kx 3 (bnd h fun l3 hl3 h=>(Pj (T:=54) (R:=(Bb 54)) (xs:=a1) 0 (IntKind.i64.wrap (((a1.length:Nat):Int) - 1)) rfl (by kernel_rfl) (by kernel_rfl) (by kernel_rfl) (.inl ⟨rfl,rfl⟩) (.inr ⟨_,.i64,rfl,(by kernel_rfl)⟩) (by kernel_rfl) (by kernel_rfl) hl3 EW fun A4 k5 o6=>(K.Ao (K.Ao (bnd h fun r7 hr7 h=>(B6 (hR.DD hr7 Cu Ck Cm Cg o6 hG) rfl ⟨CX,CM,EZ,DS,BU,trivial⟩ ?_)))))))
   rintro _ _ ⟨h8,A9,k10,GJ,rfl,rfl⟩
   refine Bn (AY (kx 3 (bnd h fun x12 Bfe h=>(DL (T:=54) (kd:=.i64) (R:=(Bb 54)) rfl Bfe EW fun p13 u16 q17 e14 y15=>?_))))
   obtain ⟨Fh,k19,rfl,o20⟩:=DI 54 q17
   refine E8 rfl e14 (t2 DS) (K.Ao (K.Ao (bnd h fun r21 Kl h=>(B6 (hR.EJ Kl Cu GJ Cm Cg o20 hG) rfl ⟨CX,CM,EZ,DS,BU,trivial⟩ ?_))))
   rintro _ _ ⟨h22,A23,k24,F9,rfl,rfl⟩
   refine Bn (Ad (Cr (CZ ?_)))
   obtain rfl:=Ap h
   exact kdv (.tuple #[]) [bk b0 #[Ay,Az,A2,Aa AI Ai AJ,Aa A23 r21 k24,B3,Aa AG Al AH,AA,B4,B5,Aa AR An AT,Br] 66,h22] (BH ⟨h22,A23,k24,F9,rfl,rfl⟩)
  ·refine Bt (AB (Bc (kx 2 (K.Ao (K.Ao (bnd h fun Dk MM h=>(B6 (hR.DD MM Cu Ck Cm Cg EW hG) rfl ⟨CX,CM,EZ,DS,BU,trivial⟩ ?_)))))))
   rintro _ _ ⟨h27,A28,k29,L4,rfl,rfl⟩
   refine Bn (knl (Cw ?_))
   obtain rfl:=Ap h
   exact kdv (.tuple #[]) [bk b0 #[Ay,Az,A2,Aa AI Ai AJ,Aa A28 Dk k29,B3,Aa AG Al AH,AA,B4,B5,Aa AR An AT,Br] 66,h27] (BH ⟨h27,A28,k29,L4,rfl,rfl⟩)
 ·have h:=hq1
  clear hq1
  refine Bc (kx 3 ?_)
  refine Dw 10 h (fun h=>?_) fun h=>?_
  ·refine kx 2 (bnd h fun x32 hx32 h=>(DL (T:=54) (kd:=.i64) (R:=(Bb 54)) rfl hx32 EW fun p33 u36 q37 e34 y35=>?_))
   obtain ⟨Jm,k39,rfl,Mh⟩:=DI 54 q37
   refine GV (off:=0) rfl e34 y35 fun p41 e42 y43=>?_
   have e42:Elem _ p41 [iv x32.kind,sv x32.text,iv x32.n,iv x32.at_,Aa Jm x32.kids k39]:=e42
   exact Hk rfl (by kernel_rfl) (by kernel_rfl) (by kernel_rfl) (by kernel_rfl) e42 (t2 DS) (kx 2 (Ad (C2 ⟨gr,gr,gr,gb (Ap h),trivial⟩)))
  ·exact kx 7 (Ad (C2 ⟨gr,gr,gr,gb (Ap h),trivial⟩))
def EJ.g (Rc:GE) (k:Nat) (Ai:Bl) (Au:TyA) (Al:Ag) (An:Ag) (Af:Int) (As:ByteArray) (Aq:Int) (AC:Int) (Am:List Tree) (a2:Int):Option TyA:=(AZ Am 0).bind fun x2=>(Rc.Dl Ai Au Al An x2.kind x2.text x2.n x2.at_ x2.kids).bind fun r11=>(BC.f k r11 22 ([])).bind fun r16=>(D8 Am 1 ((Am.length:Nat):Int)).bind fun l21=>(Rc.F5 Ai r16.2 Al An l21).bind fun r25=>(BC.f k r25 24 ([a2])).bind fun r31=>some (r31.2)
theorem EJ.C0 {Rc:GE} (hR:Rc.Good) {k:Nat}:EJ.C (EJ.g Rc k):=by
 intro Ai Au r Al An Af Aq AC a2 As Am b0 AJ B2 AH AT Bj Ay Az A2 B3 AA B4 B5 Br CF BF C4 BS Cs G AI B1 AG AR Bi h Cu Ck Cm Cg BJ hG
 refine Cz (args:=[pt b0,.agg #[iv Af,sv As,iv Aq,iv AC,Aa Bi Am Bj],iv a2]) Tryz.func74 rfl (B0 rfl) ?_
 intro A X hh_
 obtain ⟨CX,CM,EZ,BD,BU,_⟩:=hh_
 unfold EJ.g at h
 refine K.eq (env':=[(0,pt b0),(1,.agg #[iv Af,sv As,iv Aq,iv AC,Aa Bi Am Bj]),(2,iv a2)]) (l':=bk b0 #[Ay,Az,A2,Aa AI Ai AJ,Aa B1 Au B2,B3,Aa AG Al AH,AA,B4,B5,Aa AR An AT,Br] 66 :: BF :: X) rfl rfl (ksr (knp #[iv Af,sv As,iv Aq,iv AC,Aa Bi Am Bj] 54 fun b1=>(AY (kx 2 (kld 0 4 rfl (bnd h fun x2 hx2 h=>(DL (T:=54) (kd:=.i64) (R:=(Bb 54)) rfl hx2 BJ fun p3 u6 q7 e4 y5=>?_)))))))
 obtain ⟨A8,k9,rfl,o10⟩:=DI 54 q7
 refine E8 rfl e4 (t3 BD) (K.Ak (K.Ak (bnd h fun r11 OF h=>(B6 (hR.Dl OF Cu Ck Cm Cg o10 hG) rfl ⟨(.tail _ CX),(.tail _ CM),(.tail _ EZ),(.tail _ BD),(.tail _ BU),trivial⟩ ?_))))
 rintro _ _ ⟨h12,K0,k14,o15,rfl,rfl⟩
 refine Bn (AY (kx 1 (Di (K.Ak (K.Ak (bnd h fun r16 Kj h=>(B6 (BC.ok Kj o15 (Bf.nil (encI .i64) 1 none_)) rfl ⟨(.head _),trivial⟩ ?_)))))))
 rintro _ _ ⟨h17,Fh,k19,o20,rfl,rfl⟩
 refine Bn (K.Ak (K.drop (AY (kx 2 (kld 2 4 rfl (K.Ak (K.drop (bnd h fun l21 YE h=>(Pj (T:=54) (R:=(Bb 54)) (xs:=Am) 1 ((Am.length:Nat):Int) rfl (by kernel_rfl) (by kernel_rfl) (by kernel_rfl) (.inr ⟨_,.i64,rfl,(by kernel_rfl)⟩) (.inl ⟨rfl,rfl⟩) (by kernel_rfl) (by kernel_rfl) YE BJ fun Im k23 IU=>(K.Ao ?_))))))))))
 refine K.Ao (bnd h fun r25 SO h=>(B6 (hR.F5 SO Cu o20 Cm Cg IU hG) rfl ⟨CX,CM,EZ,BD,BU,trivial⟩ ?_))
 rintro _ _ ⟨h26,A27,k28,o29,rfl,rfl⟩
 refine Bn (Fw (kx 2 (De #[iv a2] 3 1 fun XI=>(K.Ak (K.Ak (bnd h fun r31 Zf h=>(B6 (BC.ok Zf o29 (Ah.rd (Ah.blk 3 (D7 .i64) XI [a2] #[iv a2] 1 (by kernel_rfl) rfl (by decide)))) rfl ⟨(.head _),trivial⟩ ?_)))))))
 rintro _ _ ⟨h32,A33,k34,o35,rfl,rfl⟩
 refine Bn (K.Ak (K.drop (knl (Cw ?_))))
 obtain rfl:=Ap h
 exact kdv (.tuple #[]) [bk b0 #[Ay,Az,A2,Aa AI Ai AJ,Aa A33 r31.2 k34,B3,Aa AG Al AH,AA,B4,B5,Aa AR An AT,Br] 66,h32] (BH ⟨h32,A33,k34,o35,rfl,rfl⟩)
def HI.g (Rc:GE) (k:Nat) (Ai:Bl) (Au:TyA) (Al:Ag) (An:Ag) (Af:Int) (As:ByteArray) (Aq:Int) (AC:Int) (Am:List Tree):Option TyA:=(AZ Am 0).bind fun x2=>(Rc.Dl Ai Au Al An x2.kind x2.text x2.n x2.at_ x2.kids).bind fun r11=>(ER.f k ([(⟨#[]⟩:ByteArray),(⟨#[43]⟩:ByteArray),(⟨#[45]⟩:ByteArray),(⟨#[42]⟩:ByteArray),(⟨#[47,47]⟩:ByteArray),(⟨#[37]⟩:ByteArray),(⟨#[46,46]⟩:ByteArray),(⟨#[61,61]⟩:ByteArray),(⟨#[126,61]⟩:ByteArray),(⟨#[60]⟩:ByteArray),(⟨#[60,61]⟩:ByteArray),(⟨#[62]⟩:ByteArray),(⟨#[62,61]⟩:ByteArray)]) As).bind fun E0=>cond (decide (E0 > 0)) ((AZ Am 1).bind fun x19=>(Rc.Dl Ai r11 Al An x19.kind x19.text x19.n x19.at_ x19.kids).bind fun r28=>(BC.f k r28 17 ([E0])).bind fun r34=>some (r34.2)) (BA (fun (x39:Int)=>(BC.f k r11 x39 ([])).bind fun Gk=>(AZ Am 1).bind fun x46=>(Rc.Dl Ai Gk.2 Al An x46.kind x46.text x46.n x46.at_ x46.kids).bind fun r55=>(EK.f k r55).bind fun r60=>(AZ r55 Gk.1).bind fun x61=>(Du r55 Gk.1 (x61.1,r60,x61.2.2.1,x61.2.2.2)).bind fun QR=>some (QR)) (fun LO=>cond (As.toList == (⟨#[111,114]⟩:ByteArray).toList) (LO 21) (LO 20)))
theorem HI.C0 {Rc:GE} (hR:Rc.Good) {k:Nat}:HI.C (HI.g Rc k):=by
 intro Ai Au r Al An Af Aq AC As Am b0 AJ B2 AH AT Bj Ay Az A2 B3 AA B4 B5 Br CF BF C4 BS Cs G AI B1 AG AR Bi h Cu Ck Cm Cg BJ hG
 refine Cz (args:=[pt b0,.agg #[iv Af,sv As,iv Aq,iv AC,Aa Bi Am Bj]]) Tryz.func110 rfl (B0 rfl) ?_
 intro A X hh_
 obtain ⟨CX,CM,EZ,BD,BU,_⟩:=hh_
 unfold HI.g at h
 refine K.eq (env':=[(0,pt b0),(1,.agg #[iv Af,sv As,iv Aq,iv AC,Aa Bi Am Bj])]) (l':=bk b0 #[Ay,Az,A2,Aa AI Ai AJ,Aa B1 Au B2,B3,Aa AG Al AH,AA,B4,B5,Aa AR An AT,Br] 66 :: BF :: X) rfl rfl (ksr (knp #[iv Af,sv As,iv Aq,iv AC,Aa Bi Am Bj] 54 fun b1=>(AY (kx 2 (kld 0 4 rfl (bnd h fun x2 hx2 h=>(DL (T:=54) (kd:=.i64) (R:=(Bb 54)) rfl hx2 BJ fun p3 u6 q7 e4 y5=>?_)))))))
 obtain ⟨A8,k9,rfl,o10⟩:=DI 54 q7
 refine E8 rfl e4 (t3 BD) (K.Ak (K.Ak (bnd h fun r11 OF h=>(B6 (hR.Dl OF Cu Ck Cm Cg o10 hG) rfl ⟨(.tail _ CX),(.tail _ CM),(.tail _ EZ),(.tail _ BD),(.tail _ BU),trivial⟩ ?_))))
 rintro _ _ ⟨h12,K0,k14,o15,rfl,rfl⟩
 refine Bn (AY (De #[sv noS,sv (⟨#[43]⟩:ByteArray),sv (⟨#[45]⟩:ByteArray),sv (⟨#[42]⟩:ByteArray),sv (⟨#[47,47]⟩:ByteArray),sv (⟨#[37]⟩:ByteArray),sv (⟨#[46,46]⟩:ByteArray),sv (⟨#[61,61]⟩:ByteArray),sv (⟨#[126,61]⟩:ByteArray),sv (⟨#[60]⟩:ByteArray),sv (⟨#[60,61]⟩:ByteArray),sv (⟨#[62]⟩:ByteArray),sv (⟨#[62,61]⟩:ByteArray)] 9 13 fun b16=>(kx 1 (kld 3 1 rfl (bnd h fun E0 Kk h=>(FN (ER.ok Kk (Ah.rd (Ah.blk 9 IZ b16 [(⟨#[]⟩:ByteArray),(⟨#[43]⟩:ByteArray),(⟨#[45]⟩:ByteArray),(⟨#[42]⟩:ByteArray),(⟨#[47,47]⟩:ByteArray),(⟨#[37]⟩:ByteArray),(⟨#[46,46]⟩:ByteArray),(⟨#[61,61]⟩:ByteArray),(⟨#[126,61]⟩:ByteArray),(⟨#[60]⟩:ByteArray),(⟨#[60,61]⟩:ByteArray),(⟨#[62]⟩:ByteArray),(⟨#[62,61]⟩:ByteArray)] #[sv noS,sv (⟨#[43]⟩:ByteArray),sv (⟨#[45]⟩:ByteArray),sv (⟨#[42]⟩:ByteArray),sv (⟨#[47,47]⟩:ByteArray),sv (⟨#[37]⟩:ByteArray),sv (⟨#[46,46]⟩:ByteArray),sv (⟨#[61,61]⟩:ByteArray),sv (⟨#[126,61]⟩:ByteArray),sv (⟨#[60]⟩:ByteArray),sv (⟨#[60,61]⟩:ByteArray),sv (⟨#[62]⟩:ByteArray),sv (⟨#[62,61]⟩:ByteArray)] 13 (by kernel_rfl) rfl (by decide)))) ⟨(.head _),trivial⟩ (K.drop (kx 1 (Ad (Bz ?_))))))))))
 refine ksr (kx 2 (Ad ?_))
 refine AF h (fun h=>?_) fun h=>?_
 ·refine ksr (kx 2 (kld 2 4 rfl (K.Ak (K.drop (bnd h fun x19 Z4 h=>(DL (T:=54) (kd:=.i64) (R:=(Bb 54)) rfl Z4 BJ fun p20 u23 q24 e21 y22=>?_))))))
  obtain ⟨A25,k26,rfl,JF⟩:=DI 54 q24
  refine E8 rfl e21 (t2 BD) (K.Ao (K.Ao (bnd h fun r28 SP h=>(B6 (hR.Dl SP Cu o15 Cm Cg JF hG) rfl ⟨CX,CM,EZ,BD,BU,trivial⟩ ?_))))
  rintro _ _ ⟨h29,Jl,k31,o32,rfl,rfl⟩
  refine Bn (AY (kx 2 (De #[iv E0] 3 1 fun b33=>(K.Ak (K.Ak (bnd h fun r34 SR h=>(B6 (BC.ok SR o32 (Ah.rd (Ah.blk 3 (D7 .i64) b33 [E0] #[iv E0] 1 (by kernel_rfl) rfl (by decide)))) rfl ⟨(.head _),trivial⟩ ?_)))))))
  rintro _ _ ⟨h35,A36,k37,o38,rfl,rfl⟩
  refine Bn (K.Ak (K.drop (Ad (Cr (CZ ?_)))))
  obtain rfl:=Ap h
  exact kdv (.tuple #[]) [bk b0 #[Ay,Az,A2,Aa AI Ai AJ,Aa A36 r34.2 k37,B3,Aa AG Al AH,AA,B4,B5,Aa AR An AT,Br] 66,h35] (BH ⟨h35,A36,k37,o38,rfl,rfl⟩)
 ·refine Bt (AB (ksr (kx 1 (Ad ?_))))
  obtain ⟨LO,Y7,h⟩:=CG h
  refine CH (τ:=Int) (fun t=>[(0,pt b0),(3,pt b1),(5,iv t)]) (fun t=>bk b0 #[Ay,Az,A2,Aa AI Ai AJ,Aa K0 r11 k14,B3,Aa AG Al AH,AA,B4,B5,Aa AR An AT,Br] 66 :: h12 :: bk b1 #[iv Af,sv As,iv Aq,iv AC,Aa Bi Am Bj] 54 :: X) (fun t=>LO t=some r) ?_ ?_
  ·rintro x39 h
   subst Y7
   refine ksr (kx 2 (Di (K.Ak (K.Ak (bnd h fun Gk ON h=>(B6 (BC.ok ON o15 (Bf.nil (encI .i64) 1 none_)) rfl ⟨(.head _),trivial⟩ ?_))))))
   rintro _ _ ⟨h42,Ol,Pe,L5,rfl,rfl⟩
   refine Bn (K.Ak (K.drop (kx 1 (AY (kx 2 (kld 2 4 rfl (K.Ak (K.drop (bnd h fun x46 Bf7 h=>(DL (T:=54) (kd:=.i64) (R:=(Bb 54)) rfl Bf7 BJ fun p47 u50 q51 e48 y49=>?_))))))))))
   obtain ⟨A52,k53,rfl,o54⟩:=DI 54 q51
   refine E8 rfl e48 (t2 BD) (K.Ao (K.Ao (bnd h fun r55 SV h=>(B6 (hR.Dl SV Cu L5 Cm Cg o54 hG) rfl ⟨CX,CM,EZ,BD,BU,trivial⟩ ?_))))
   rintro _ _ ⟨h56,US,k58,o59,rfl,rfl⟩
   refine Bn (Ad (kpr [(0,0),(1,0),(2,0),(3,0),(4,3),(5,0),(6,0),(7,1)] [0] (Ax 4 (AU 0 4 rfl (Ax 2 (kpt (bnd h fun r60 OQ h=>(Mj (EK.ok OQ (Ah.rd o59)) rfl ⟨(.head _),trivial⟩ (Dp [0] rfl (BY ?_))))))))))
   refine bnd h fun x61 Aob h=>(F8 (T:=48) (kd:=.i64) Fi rfl Aob (Ah.rd o59) fun p62 e63 y64=>?_)
   have e63:Elem _ p62 [iv x61.1,iv x61.2.1,iv x61.2.2.1,iv x61.2.2.2]:=e63
   refine GV (off:=1) rfl e63 y64 fun p65 e66 y67=>?_
   have e66:Elem _ p65 [iv x61.2.1,iv x61.2.2.1,iv x61.2.2.2]:=e66
   refine K.Ao (bnd h fun QR Anx h=>(JA (v:=iv r60) (off:=1) (x':=(x61.1,r60,x61.2.2.1,x61.2.2.2)) Fi rfl (by kernel_rfl) (by kernel_rfl) (by kernel_rfl) (by kernel_rfl) (by kernel_rfl) y67 o59 Aob (by kernel_rfl) (by kernel_rfl) Anx fun h69 Kr=>?_))
   have g71:=GH Anx
   refine K.weak (env':=[(48,iv r60)]) ?_ ⟨gr,trivial⟩
   refine K.eq (l':=h69 :: bk b0 #[Ay,Az,A2,Aa AI Ai AJ,Aa US QR k58,B3,Aa AG Al AH,AA,B4,B5,Aa AR An AT,Br] 66 :: X) rfl (by first | rfl | (unfold Aa;rw [g71];first | done | rfl)) (knl (Cw ?_))
   obtain rfl:=Ap h
   exact kdv (.tuple #[]) [bk b0 #[Ay,Az,A2,Aa AI Ai AJ,Aa US QR k58,B3,Aa AG Al AH,AA,B4,B5,Aa AR An AT,Br] 66,h69] (K.Ao (BH ⟨h69,US,k58,Kr,rfl,rfl⟩))
  ·skip
   refine ksr (kx 1 (kld 2 1 rfl (kx 1 (Ad ?_))))
   refine AF h (fun h=>?_) fun h=>?_
   ·exact Bc (kx 1 (Ad (AV 21 h sb rfl)))
   ·exact Bt (AB (AV 20 h sb rfl))
def F6.l0:Nat→(Rc:GE)→(Ai:Bl)→(Al:Ag)→(An:Ag)→(a1:List Tree)→(q2:Bool)→(J19:Int→Int→Int→Int→TyA→Option TyA)→(x47:Int)→(x48:Int)→(x49:Int)→(x50:Int)→(x51:Int)→(NN:TyA)→Option TyA
 | 0,_,_,_,_,_,_,_,_,_,_,_,_,_=>none
 | G_+1,Rc,Ai,Al,An,a1,q2,J19,x47,x48,x49,x50,x51,NN=>cond (decide (x49 < ((a1.length:Nat):Int))) (BA (fun (x59:Int) (x60:Int) (x61:Int) (x62:Int) (l63:TyA)=>F6.l0 G_ Rc Ai Al An a1 q2 J19 x59 x60 (IntKind.i64.wrap (x49+1)) x61 x62 l63) (fun Qd=>(AZ a1 x49).bind fun x69=>cond (x69.kind == 14) ((Rc.DD Ai NN Al An x69.kids).bind fun r80=>(BC.f G_ r80 27 ([x51])).bind fun r86=>Qd x47 (IntKind.i64.wrap (x48+1)) x50 x51 r86.2) ((cond q2 (some (x49 == (IntKind.i64.wrap (((a1.length:Nat):Int) - 1)))) (some false):Option Bool).bind fun Ua=>cond Ua ((K6.f G_ x51 NN x50).bind fun r93=>(BC.f G_ r93.2.1 22 ([])).bind fun r98=>(AZ x69.kids 0).bind fun x103=>(Rc.EJ Ai r98.2 Al An x103.kind x103.text x103.n x103.at_ x103.kids (-1:Int)).bind fun Avi=>(BC.f G_ Avi 29 ([r93.2.2])).bind fun Ads=>Qd x47 x48 r93.2.2 r93.1 Ads.2) ((AZ x69.kids 0).bind fun RP=>(Rc.Dl Ai NN Al An RP.kind RP.text RP.n RP.at_ RP.kids).bind fun WR=>cond ((IntKind.i64.wrap (x51+1)) == 50) ((K6.f G_ (IntKind.i64.wrap (x51+1)) WR x50).bind fun P7=>Qd (IntKind.i64.wrap (x47+1)) x48 P7.2.2 P7.1 P7.2.1) (Qd (IntKind.i64.wrap (x47+1)) x48 x50 (IntKind.i64.wrap (x51+1)) WR))))) (J19 x47 x48 x50 x51 NN)
def F6.g (Rc:GE) (k:Nat) (Ai:Bl) (Au:TyA) (Al:Ag) (An:Ag) (a1:List Tree):Option TyA:=(cond (decide (((a1.length:Nat):Int) > 0)) ((AZ a1 (IntKind.i64.wrap (((a1.length:Nat):Int) - 1))).bind fun Nt=>cond (Nt.kind == 13) ((AZ a1 (IntKind.i64.wrap (((a1.length:Nat):Int) - 1))).bind fun x158=>(AZ x158.kids 0).bind fun Nv=>some (Nv.kind == 8)) (some false)) (some false):Option Bool).bind fun q2=>(BC.f k Au 26 ([])).bind fun r3=>BA (fun (x10:Int) (x11:Int) (x12:Int) (FW:Int) (Wm:TyA)=>(K6.f k FW Wm x12).bind fun r20=>(AZ r20.2.1 r3.1).bind fun x25=>(Du r20.2.1 r3.1 (x25.1,x10,x25.2.2.1,x25.2.2.2)).bind fun l32=>(AZ l32 r3.1).bind fun x36=>(Du l32 r3.1 (x36.1,x36.2.1,x11,x36.2.2.2)).bind fun E9=>some (E9)) (fun J19=>F6.l0 k Rc Ai Al An a1 q2 J19 0 0 0 1 0 r3.2)
theorem F6.C0 {Rc:GE} (hR:Rc.Good) {k:Nat}:F6.C (F6.g Rc k):=by
 intro Ai Au r Al An a1 b0 AJ B2 AH AT C5 Ay Az A2 B3 AA B4 B5 Br CF BF C4 BS DW G AI B1 AG AR C3 h Cu Ck Cm Cg EW hG
 refine Cz (args:=[pt b0,Aa C3 a1 C5]) Tryz.func111 rfl (B0 rfl) ?_
 intro A X hh_
 obtain ⟨CX,CM,EZ,DS,BU,_⟩:=hh_
 unfold F6.g at h
 refine K.eq (env':=[(0,pt b0),(1,Aa C3 a1 C5)]) (l':=bk b0 #[Ay,Az,A2,Aa AI Ai AJ,Aa B1 Au B2,B3,Aa AG Al AH,AA,B4,B5,Aa AR An AT,Br] 66 :: BF :: X) rfl rfl (ksr (knp #[pt b0] 61 fun b1=>(Ad (bnd h fun q2 hq2 h=>?_))))
 refine Gr [(1,Aa C3 a1 C5),(2,pt b1),(4,bv q2)] (bk b1 #[pt b0] 61 :: bk b0 #[Ay,Az,A2,Aa AI Ai AJ,Aa B1 Au B2,B3,Aa AG Al AH,AA,B4,B5,Aa AR An AT,Br] 66 :: BF :: X) ?_ ?_
 ·clear hq2
  refine ksr (kld 0 0 rfl (Di (K.mv3 (K.mv3 (bnd h fun r3 hr3 h=>(B6 (BC.ok hr3 Ck (Bf.nil (encI .i64) 1 none_)) rfl ⟨(.head _),trivial⟩ ?_))))))
  rintro _ _ ⟨h4,A5,k6,o7,rfl,rfl⟩
  refine Bn (K.Ak (K.drop (kx 3 (AY (knp #[iv 0] 3 fun b8=>(knp #[iv 0] 3 fun b9=>(K.Ao (AQ 0 1 #[iv 0] (K.Ao (AQ 0 1 #[iv 1] ?_))))))))))
  refine AY (kx 2 (Ad ?_))
  obtain ⟨J19,Y2,h⟩:=CG h
  refine CH (τ:=Int×Int×Int×Int×TyA×Ab×Ar×Nat) (fun t=>[(2,pt b1),(5,iv r3.1),(6,iv t.1),(7,iv t.2.1),(10,.func (.func 127) #[] #[pt b8,pt b1,pt b9])]) (fun t=>bk b9 #[iv t.2.2.1] 3 :: bk b8 #[iv t.2.2.2.1] 3 :: bk b0 #[Ay,Az,A2,Aa AI Ai AJ,Aa t.2.2.2.2.2.2.1 t.2.2.2.2.1 t.2.2.2.2.2.2.2,B3,Aa AG Al AH,AA,B4,B5,Aa AR An AT,Br] 66 :: bk b1 #[pt b0] 61 :: t.2.2.2.2.2.1 :: X) (fun t=>J19 t.1 t.2.1 t.2.2.1 t.2.2.2.1 t.2.2.2.2.1=some r∧Ah e48 48 4 t.2.2.2.2.2.1 (Aa t.2.2.2.2.2.2.1 t.2.2.2.2.1 t.2.2.2.2.2.2.2) t.2.2.2.2.1) ?_ ?_
  ·rintro ⟨x10,x11,x12,FW,Wm,h15,F0,k17⟩ ⟨h,L3⟩
   subst Y2
   refine ksr (kx 1 (K.Bq (K.mv3 (K.Bq (K.Bq (bnd h fun r20 OH h=>(B6 (K6.ok OH L3) rfl trivial ?_)))))))
   rintro _ _ ⟨h21,Im,k23,IU,rfl,rfl⟩
   refine Er (K.drop (K.mv3 (K.drop (Ad (kpr [(0,3),(1,0),(2,0),(3,0),(4,3),(5,0),(6,3),(7,0),(8,0),(9,0),(10,3),(11,0),(12,0),(13,0)] [0,1] (AU 0 0 rfl (Ax 3 (AU 1 4 rfl (Ax 1 (AU 0 0 rfl ?_))))))))))
   refine Ax 3 (AU 1 4 rfl (Ax 3 (BY (bnd h fun x25 hx25 h=>(F8 (T:=48) (kd:=.i64) Fi rfl hx25 (Ah.rd IU) fun p26 e27 y28=>?_)))))
   have e27:Elem _ p26 [iv x25.1,iv x25.2.1,iv x25.2.2.1,iv x25.2.2.2]:=e27
   refine K.drop (GV (off:=1) rfl e27 y28 fun p29 e30 y31=>?_)
   have e30:Elem _ p29 [iv x25.2.1,iv x25.2.2.1,iv x25.2.2.2]:=e30
   refine K.Ao (bnd h fun l32 VG h=>(JA (v:=iv x10) (off:=1) (x':=(x25.1,x10,x25.2.2.1,x25.2.2.2)) Fi rfl (by kernel_rfl) (by kernel_rfl) (by kernel_rfl) (by kernel_rfl) (by kernel_rfl) y31 IU hx25 (by kernel_rfl) (by kernel_rfl) VG fun h33 Ic=>?_))
   have g35:=GH VG
   refine K.weak (env':=[(113,Aa Im l32 k23),(114,iv r3.1),(115,iv x10),(116,iv x11)]) ?_ ⟨(by first | rfl | (unfold Aa;rw [g35];rfl)),gr,gr,gr,trivial⟩
   refine K.eq (l':=h33 :: bk b0 #[Ay,Az,A2,Aa AI Ai AJ,Aa Im l32 k23,B3,Aa AG Al AH,AA,B4,B5,Aa AR An AT,Br] 66 :: X) rfl (by first | rfl | (unfold Aa;rw [g35];first | done | rfl)) (bnd h fun x36 An8 h=>(F8 (T:=48) (kd:=.i64) Fi rfl An8 (Ah.rd Ic) fun p37 e38 y39=>?_))
   have e38:Elem _ p37 [iv x36.1,iv x36.2.1,iv x36.2.2.1,iv x36.2.2.2]:=e38
   refine GV (off:=2) rfl e38 y39 fun p40 e41 y42=>?_
   have e41:Elem _ p40 [iv x36.2.2.1,iv x36.2.2.2]:=e41
   refine bnd h fun E9 SJ h=>(JA (v:=iv x11) (off:=2) (x':=(x36.1,x36.2.1,x11,x36.2.2.2)) Fi rfl (by kernel_rfl) (by kernel_rfl) (by kernel_rfl) (by kernel_rfl) (by kernel_rfl) y42 Ic An8 (by kernel_rfl) (by kernel_rfl) SJ fun h44 L5=>?_)
   have g46:=GH SJ
   refine K.weak (env':=[(116,iv x11)]) ?_ ⟨gr,trivial⟩
   refine K.eq (l':=h44 :: bk b0 #[Ay,Az,A2,Aa AI Ai AJ,Aa Im E9 k23,B3,Aa AG Al AH,AA,B4,B5,Aa AR An AT,Br] 66 :: X) rfl (by first | rfl | (unfold Aa;rw [g46];first | done | rfl)) (knl (Cw ?_))
   obtain rfl:=Ap h
   exact kdv (.tuple #[]) [bk b0 #[Ay,Az,A2,Aa AI Ai AJ,Aa Im E9 k23,B3,Aa AG Al AH,AA,B4,B5,Aa AR An AT,Br] 66,h44] (K.Ao (BH ⟨h44,Im,k23,L5,rfl,rfl⟩))
  ·skip
   refine ksr (kx 3 (Ad (Co (K.mv3 (K.Bq (K.Bq (K.Bq (K.Bq (EL (τ:=Int×Int×Int×Int×Int×TyA×Ab×Ar×Nat) (fun t=>[(1,Aa C3 a1 C5),(2,pt b1),(4,bv q2),(5,iv r3.1),(6,iv t.1),(7,iv t.2.1),(8,pt b8),(9,pt b9),(10,.func (.func 127) #[] #[pt b8,pt b1,pt b9]),(42,Aa C3 a1 C5),(43,iv ((a1.length:Nat):Int)),(44,iv t.2.2.1)]) (fun t=>bk b9 #[iv t.2.2.2.1] 3 :: bk b8 #[iv t.2.2.2.2.1] 3 :: bk b0 #[Ay,Az,A2,Aa AI Ai AJ,Aa t.2.2.2.2.2.2.2.1 t.2.2.2.2.2.1 t.2.2.2.2.2.2.2.2,B3,Aa AG Al AH,AA,B4,B5,Aa AR An AT,Br] 66 :: bk b1 #[pt b0] 61 :: t.2.2.2.2.2.2.1 :: X) (fun m t=>F6.l0 m Rc Ai Al An a1 q2 J19 t.1 t.2.1 t.2.2.1 t.2.2.2.1 t.2.2.2.2.1 t.2.2.2.2.2.1=some r∧Ah e48 48 4 t.2.2.2.2.2.2.1 (Aa t.2.2.2.2.2.2.2.1 t.2.2.2.2.2.1 t.2.2.2.2.2.2.2.2) t.2.2.2.2.2.1) k (0,0,0,1,0,r3.2,h4,A5,k6) ⟨h,o7⟩ sb rfl ?_)))))))))
   clear h
   rintro G_ ⟨x47,x48,x49,x50,x51,NN,h53,Om,Pf⟩ ⟨h,Mi⟩
   cases G_ with
   | zero=>simp [F6.l0] at h
   | succ G_ =>
    simp only [F6.l0] at h
    refine ksr (kx 1 (Ad (Bz ?_)))
    refine AF h (fun h=>?_) fun h=>?_
    ·refine Bt (AB ?_)
     obtain ⟨Qd,A9q,h⟩:=CG h
     refine CH (τ:=Int×Int×Int×Int×TyA×Ab×Ar×Nat) (fun t=>[(1,Aa C3 a1 C5),(2,pt b1),(4,bv q2),(5,iv r3.1),(6,iv t.1),(7,iv t.2.1),(8,pt b8),(9,pt b9),(10,.func (.func 127) #[] #[pt b8,pt b1,pt b9]),(42,Aa C3 a1 C5),(43,iv ((a1.length:Nat):Int)),(44,iv x49)]) (fun t=>bk b9 #[iv t.2.2.1] 3 :: bk b8 #[iv t.2.2.2.1] 3 :: bk b0 #[Ay,Az,A2,Aa AI Ai AJ,Aa t.2.2.2.2.2.2.1 t.2.2.2.2.1 t.2.2.2.2.2.2.2,B3,Aa AG Al AH,AA,B4,B5,Aa AR An AT,Br] 66 :: bk b1 #[pt b0] 61 :: t.2.2.2.2.2.1 :: X) (fun t=>Qd t.1 t.2.1 t.2.2.1 t.2.2.2.1 t.2.2.2.2.1=some r∧Ah e48 48 4 t.2.2.2.2.2.1 (Aa t.2.2.2.2.2.2.1 t.2.2.2.2.1 t.2.2.2.2.2.2.2) t.2.2.2.2.1) ?_ ?_
     ·rintro ⟨x59,x60,x61,x62,l63,h64,X3,ZU⟩ ⟨h,o67⟩
      subst A9q
      exact Bc (kx 2 (Ad (Ea G_ (x59,x60,IntKind.i64.wrap (x49+1),x61,x62,l63,h64,X3,ZU) (Nat.lt_succ_self _) ⟨h,o67⟩ sb rfl)))
     ·skip
      refine Co (ksr (kx 1 (bnd h fun x69 hx69 h=>(DL (T:=54) (kd:=.i64) (R:=(Bb 54)) rfl hx69 EW fun p70 u73 q74 e71 y72=>?_))))
      obtain ⟨A75,Pg,rfl,NU⟩:=DI 54 q74
      refine E8 rfl e71 (t5 DS) (knp #[iv 0,sv noS,iv 0,iv 0,nS] 54 fun Vm=>(kx 1 (AQ 0 5 #[iv x69.kind,sv x69.text,iv x69.n,iv x69.at_,Aa A75 x69.kids Pg] (Ad (Co (ksr (kx 1 (kld 0 0 rfl (kx 2 (Ad ?_))))))))))
      refine AF h (fun h=>?_) fun h=>?_
      ·refine ksr (kx 3 (AY (kld 4 0 rfl (kx 1 (kld 0 4 rfl (K.drop (K.Bq (K.mv3 (bnd h fun r80 OT h=>(B6 (hR.DD OT Cu Mi Cm Cg NU hG) rfl ⟨(t3 CX),(t3 CM),(t3 EZ),(t3 DS),(t3 BU),trivial⟩ ?_))))))))))
       rintro _ _ ⟨h81,A82,VT,TO,rfl,rfl⟩
       refine Bn (Fw (kld 4 0 rfl (kld 3 0 rfl (De #[iv x51] 3 1 fun b85=>(K.Ak (K.Ak (bnd h fun r86 Bem h=>(B6 (BC.ok Bem TO (Ah.rd (Ah.blk 3 (D7 .i64) b85 [x51] #[iv x51] 1 (by kernel_rfl) rfl (by decide)))) rfl ⟨(.head _),trivial⟩ ?_))))))))
       rintro _ _ ⟨h87,A88,k89,o90,rfl,rfl⟩
       refine Bn (K.Ak (K.drop (knl (Bo (Bo (AB (K.Ao (K.Bq (K.Ak (K.Bq ?_))))))))))
       exact K.Bq (AV (x47,IntKind.i64.wrap (x48+1),x50,x51,r86.2,h87,A88,k89) ⟨h,o90⟩ sb rfl)
      ·refine bnd h fun Ua YX h=>?_
       refine Gr [(1,Aa C3 a1 C5),(2,pt b1),(4,bv q2),(5,iv r3.1),(6,iv x47),(7,iv x48),(8,pt b8),(9,pt b9),(10,.func (.func 127) #[] #[pt b8,pt b1,pt b9]),(42,Aa C3 a1 C5),(43,iv ((a1.length:Nat):Int)),(44,iv x49),(12,pt Vm),(77,bv Ua)] (bk Vm #[iv x69.kind,sv x69.text,iv x69.n,iv x69.at_,Aa A75 x69.kids Pg] 54 :: bk b9 #[iv x50] 3 :: bk b8 #[iv x51] 3 :: bk b0 #[Ay,Az,A2,Aa AI Ai AJ,Aa Om NN Pf,B3,Aa AG Al AH,AA,B4,B5,Aa AR An AT,Br] 66 :: bk b1 #[pt b0] 61 :: h53 :: X) ?_ ?_
       ·clear YX
        refine AF h (fun h=>?_) fun h=>?_
        ·refine ksr (kx 1 (K.Ao (K.mv5 (K.Bq (K.mv5 (K.mv5 (bnd h fun r93 SY h=>(B6 (K6.ok SY Mi) rfl trivial ?_))))))))
         rintro _ _ ⟨h94,A95,k96,NV,rfl,rfl⟩
         refine Er (AY (kld 1 0 rfl (Di (K.Bq (K.Bq (bnd h fun r98 Bes h=>(B6 (BC.ok Bes NV (Bf.nil (encI .i64) 1 none_)) rfl ⟨(.head _),trivial⟩ ?_)))))))
         rintro _ _ ⟨h99,Bt9,Bxc,Bku,rfl,rfl⟩
         refine Bn (K.Ak (K.drop (Ad (Bz (IN [(0,3),(1,0),(2,3),(3,0),(4,3)] [bk b1 #[pt b0] 61,bk Vm #[iv x69.kind,sv x69.text,iv x69.n,iv x69.at_,Aa A75 x69.kids Pg] 54,DW] (fun w h_=>⟨h_.sat.on _ (.tail _ (.tail _ (.tail _ (.head _)))),h_.sat.on _ (.tail _ (.tail _ (.tail _ (.tail _ (.tail _ (.head _)))))),h_.sat.on _ (t6 DS),trivial⟩) (AU 0 0 rfl (Ax 1 (AU 1 4 rfl (bnd h fun x103 Be8 h=>(Jd (T:=54) (kd:=.i64) (R:=(Bb 54)) rfl Be8 NU fun Byq Bzd Bo9 A4d Bz1=>?_))))))))))
         obtain ⟨Xr,ZH,rfl,o111⟩:=DI 54 Bo9
         refine IM rfl A4d (fun w h_=>h_.mem _ (.tail _ (.tail _ (.head _)))) (BY (K.Ao (K.Ao (bnd h fun Avi Bb7 h=>(B6 (hR.EJ Bb7 Cu Bku Cm Cg o111 hG) rfl ⟨(t4 CX),(t4 CM),(t4 EZ),(t4 DS),(t4 BU),trivial⟩ ?_)))))
         rintro _ _ ⟨Bvz,Buh,Bxg,Abi,rfl,rfl⟩
         refine Bn (K.mv5 (K.drop (Fw (kld 3 0 rfl (kld 4 0 rfl (De #[iv r93.2.2] 3 1 fun A0p=>(K.Ak (K.Ak (bnd h fun Ads Bb8 h=>(B6 (BC.ok Bb8 Abi (Ah.rd (Ah.blk 3 (D7 .i64) A0p [r93.2.2] #[iv r93.2.2] 1 (by kernel_rfl) rfl (by decide)))) rfl ⟨(.head _),trivial⟩ ?_))))))))))
         rintro _ _ ⟨h119,RW,Tg,W1,rfl,rfl⟩
         refine Bn (K.Ak (K.drop (knl (Bo (Bo (AB (K.Ao (K.mv3 (K.Ak (K.mv3 ?_))))))))))
         exact K.Bq (AV (x47,x48,r93.2.2,r93.1,Ads.2,h119,RW,Tg) ⟨h,W1⟩ sb rfl)
        ·refine ksr (kx 3 (Ad (Bz (IN [(0,3),(1,0),(2,3),(3,0),(4,3)] [bk Vm #[iv x69.kind,sv x69.text,iv x69.n,iv x69.at_,Aa A75 x69.kids Pg] 54,bk b1 #[pt b0] 61,DW] (fun w h_=>⟨h_.sat.on _ (.head _),h_.sat.on _ (.tail _ (.tail _ (.tail _ (.tail _ (.head _))))),h_.sat.on _ (t6 DS),trivial⟩) (AU 1 0 rfl (Ax 1 (AU 0 4 rfl (bnd h fun RP Bfg h=>(Jd (T:=54) (kd:=.i64) (R:=(Bb 54)) rfl Bfg NU fun Byx u127 Bpe e125 Bz3=>?_)))))))))
         obtain ⟨UQ,VQ,rfl,Abp⟩:=DI 54 Bpe
         refine IM rfl e125 (fun w h_=>h_.mem _ (.tail _ (.tail _ (.head _)))) (BY (K.mv5 (K.Bq (bnd h fun WR Bcc h=>(B6 (hR.Dl Bcc Cu Mi Cm Cg Abp hG) rfl ⟨(t4 CX),(t4 CM),(t4 EZ),(t4 DS),(t4 BU),trivial⟩ ?_)))))
         rintro _ _ ⟨S8,RX,Th,Pu,rfl,rfl⟩
         refine Bn (K.Ak (K.drop (AY (kld 3 0 rfl (kx 1 (K.mv3 (AQ 0 1 #[iv (IntKind.i64.wrap (x51+1))] (AY (kld 0 0 rfl (kx 1 ?_))))))))))
         refine Ad ?_
         refine AF h (fun h=>?_) fun h=>?_
         ·refine Bc (kx 1 (K.mv3 (K.mv3 (K.mv3 (K.Bq (K.Bq (bnd h fun P7 Bcf h=>(B6 (K6.ok Bcf Pu) rfl trivial ?_))))))))
          rintro _ _ ⟨A8c,Azh,Bhl,Blj,rfl,rfl⟩
          exact Er (knl (Bo (Bo (AB (K.mv3 (K.Ak (K.mv3 (K.mv3 (K.Bq (AV (IntKind.i64.wrap (x47+1),x48,P7.2.2,P7.1,P7.2.1,A8c,Azh,Bhl) ⟨h,Blj⟩ sb rfl))))))))))
         ·exact Bt (Bo (Bo (AB (K.Ak (K.Bq (K.mv3 (K.mv3 (K.Bq (AV (IntKind.i64.wrap (x47+1),x48,x50,IntKind.i64.wrap (x51+1),WR,S8,RX,Th) ⟨h,Pu⟩ sb rfl)))))))))
       ·have h:=YX
        clear YX
        refine Bc (kx 2 ?_)
        refine Dw 79 h (fun h=>?_) fun h=>?_
        ·exact kx 7 (Ad (C2 ⟨gr,gr,gr,gr,gr,gr,gr,gr,gr,gr,gr,gr,gr,gb (Ap h),trivial⟩))
        ·exact kx 7 (Ad (C2 ⟨gr,gr,gr,gr,gr,gr,gr,gr,gr,gr,gr,gr,gr,gb (Ap h),trivial⟩))
    ·exact E6 (CY (CY (E7 (AB (AV (x47,x48,x50,x51,NN,h53,Om,Pf) ⟨h,Mi⟩ sb rfl)))))
 ·have h:=hq2
  clear hq2
  refine Bc (kx 4 ?_)
  refine Dw 16 h (fun h=>?_) fun h=>?_
  ·refine kx 4 (bnd h fun Nt Bfn h=>(DL (T:=54) (kd:=.i64) (R:=(Bb 54)) rfl Bfn EW fun By3 Bzr Bpl A4l Bt1=>?_))
   obtain ⟨Azi,Bhm,rfl,Byl⟩:=DI 54 Bpl
   refine GV (off:=0) rfl A4l Bt1 fun Bn9 Ya Bz7=>?_
   have Ya:Elem _ Bn9 [iv Nt.kind,sv Nt.text,iv Nt.n,iv Nt.at_,Aa Azi Nt.kids Bhm]:=Ya
   refine Hk rfl (by kernel_rfl) (by kernel_rfl) (by kernel_rfl) (by kernel_rfl) Ya (t3 DS) (kx 3 ?_)
   refine Dw 26 h (fun h=>?_) fun h=>?_
   ·refine kx 4 (bnd h fun x158 hx158 h=>(DL (T:=54) (kd:=.i64) (R:=(Bb 54)) rfl hx158 EW fun p159 u162 P6 e160 Ay3=>?_))
    obtain ⟨Ahb,Api,rfl,Aby⟩:=DI 54 P6
    refine GV (off:=4) rfl e160 Ay3 fun Boc e168 B0b=>?_
    have e168:Elem _ Boc [Aa Ahb x158.kids Api]:=e168
    refine Hk rfl (by kernel_rfl) (by kernel_rfl) (by kernel_rfl) (by kernel_rfl) e168 (t3 DS) (bnd h fun Nv Bfq h=>(DL (T:=54) (kd:=.i64) (R:=(Bb 54)) rfl Bfq Aby fun By5 Bzu Bpo A4o Bt3=>?_))
    obtain ⟨Azk,Bho,rfl,Bym⟩:=DI 54 Bpo
    refine GV (off:=0) rfl A4o Bt3 fun Ac2 O3 Bt5=>?_
    have O3:Elem _ Ac2 [iv Nv.kind,sv Nv.text,iv Nv.n,iv Nv.at_,Aa Azk Nv.kids Bho]:=O3
    exact Hk rfl (by kernel_rfl) (by kernel_rfl) (by kernel_rfl) (by kernel_rfl) O3 (t3 DS) (kx 3 (Ad (C2 ⟨gr,gr,gb (Ap h),trivial⟩)))
   ·exact kx 13 (Ad (C2 ⟨gr,gr,gb (Ap h),trivial⟩))
  ·exact kx 23 (Ad (C2 ⟨gr,gr,gb (Ap h),trivial⟩))
def GE.at:Nat→GE
 | 0=>⟨fun _ _ _ _ _ _ _ _ _=>none,fun _ _ _ _ _=>none,fun _ _ _ _ _=>none,fun _ _ _ _ _ _ _ _ _ _=>none,fun _ _ _ _ _ _ _ _ _=>none,fun _ _ _ _ _=>none⟩
 | k+1=>⟨Dl.g (GE.at k) k,DD.g (GE.at k) k,F5.g (GE.at k) k,EJ.g (GE.at k) k,HI.g (GE.at k) k,F6.g (GE.at k) k⟩
theorem GE.good:∀ k,(GE.at k).Good
 | 0=>⟨(by unfold Dl.C;intros;rename_i h _ _ _ _ _ _;cases (show (none:Option _)=some _ from h)),(by unfold DD.C;intros;rename_i h _ _ _ _ _ _;cases (show (none:Option _)=some _ from h)),(by unfold F5.C;intros;rename_i h _ _ _ _ _ _;cases (show (none:Option _)=some _ from h)),(by unfold EJ.C;intros;rename_i h _ _ _ _ _ _;cases (show (none:Option _)=some _ from h)),(by unfold HI.C;intros;rename_i h _ _ _ _ _ _;cases (show (none:Option _)=some _ from h)),(by unfold F6.C;intros;rename_i h _ _ _ _ _ _;cases (show (none:Option _)=some _ from h))⟩
 | k+1=>⟨Dl.C0 (k:=k) (GE.good k),DD.C0 (k:=k) (GE.good k),F5.C0 (k:=k) (GE.good k),EJ.C0 (k:=k) (GE.good k),HI.C0 (k:=k) (GE.good k),F6.C0 (k:=k) (GE.good k)⟩
def Dl.f (k:Nat):=Dl.g (GE.at k) k
theorem Dl.ok {k:Nat}:Dl.C (Dl.f k):=Dl.C0 (k:=k) (GE.good k)
def DD.f (k:Nat):=DD.g (GE.at k) k
theorem DD.ok {k:Nat}:DD.C (DD.f k):=DD.C0 (k:=k) (GE.good k)
def F5.f (k:Nat):=F5.g (GE.at k) k
theorem F5.ok {k b0 AJ B2 AH AT C5:Nat} {Ai:Bl} {Au r:TyA} {Al An:Ag} {a1:List Tree} {Ay Az A2 B3 AA B4 B5 Br:Value} {CF BF C4 BS DW G:Ab} {AI B1 AG AR C3:Ar} (h:F5.f k Ai Au Al An a1=some r) (Cu:Bf Dt 3 CF (Aa AI Ai AJ) Ai) (Ck:Ah e48 48 4 BF (Aa B1 Au B2) Au) (Cm:Bf encS 1 C4 (Aa AG Al AH) Al) (Cg:Bf encS 1 BS (Aa AR An AT) An) (EW:RdR (Bb 54) DW (Aa C3 a1 C5) a1) (hG:E2 G): Ct Tryz.prog 85 #[pt b0,Aa C3 a1 C5] [bk b0 #[Ay,Az,A2,Aa AI Ai AJ,Aa B1 Au B2,B3,Aa AG Al AH,AA,B4,B5,Aa AR An AT,Br] 66,BF] [CF,C4,BS,DW,G] (fun e l1=>∃ (H0_:Ab) (A0_:Ar) (c0_:Nat),Ah e48 48 4 H0_ (Aa A0_ r c0_) r∧e=.returned (.tuple #[])∧l1=[bk b0 #[Ay,Az,A2,Aa AI Ai AJ,Aa A0_ r c0_,B3,Aa AG Al AH,AA,B4,B5,Aa AR An AT,Br] 66,H0_]):=F5.C0 (k:=k) (GE.good k) h Cu Ck Cm Cg EW hG
def EJ.f (k:Nat):=EJ.g (GE.at k) k
theorem EJ.ok {k:Nat}:EJ.C (EJ.f k):=EJ.C0 (k:=k) (GE.good k)
def GT.l0:Nat→(a2:Int)→(x8:Int)→(l9:List (Int×Int×Int×Int))→Option (List (Int×Int×Int×Int))
 | 0,_,_,_=>none
 | m14+1,a2,x8,l9=>cond (decide (x8 < a2)) ((BC.f m14 l9 3 ([])).bind fun r16=>GT.l0 m14 a2 (IntKind.i64.wrap (x8+1)) r16.2) (some (l9))
def GT.f (k:Nat) (Ai:Bl) (Au:TyA) (Al:Ag) (An:Ag) (a1:List Tree) (a2:Int):Option TyA:=cond (((a1.length:Nat):Int) == a2) ((DD.f k Ai Au Al An a1).bind fun r2=>some (r2)) (cond (((a1.length:Nat):Int) == 0) (GT.l0 k a2 0 Au) ((BC.f k Au 22 ([])).bind fun r21=>(F5.f k Ai r21.2 Al An a1).bind fun Dk=>(BC.f k Dk 23 ([a2])).bind fun r32=>some (r32.2)))
theorem GT.ok {k b0 AJ B2 AH AT C5:Nat} {Ai:Bl} {Au r:TyA} {Al An:Ag} {a1:List Tree} {a2:Int} {Ay Az A2 B3 AA B4 B5 Br:Value} {CF BF C4 BS DW G:Ab} {AI B1 AG AR C3:Ar} (h:GT.f k Ai Au Al An a1 a2=some r) (Cu:Bf Dt 3 CF (Aa AI Ai AJ) Ai) (Ck:Ah e48 48 4 BF (Aa B1 Au B2) Au) (Cm:Bf encS 1 C4 (Aa AG Al AH) Al) (Cg:Bf encS 1 BS (Aa AR An AT) An) (EW:RdR (Bb 54) DW (Aa C3 a1 C5) a1) (hG:E2 G): Ct Tryz.prog 71 #[pt b0,Aa C3 a1 C5,iv a2] [bk b0 #[Ay,Az,A2,Aa AI Ai AJ,Aa B1 Au B2,B3,Aa AG Al AH,AA,B4,B5,Aa AR An AT,Br] 66,BF] [CF,C4,BS,DW,G] (fun e l1=>∃ (H0_:Ab) (A0_:Ar) (c0_:Nat),Ah e48 48 4 H0_ (Aa A0_ r c0_) r∧e=.returned (.tuple #[])∧l1=[bk b0 #[Ay,Az,A2,Aa AI Ai AJ,Aa A0_ r c0_,B3,Aa AG Al AH,AA,B4,B5,Aa AR An AT,Br] 66,H0_]):=by
 refine Cz (args:=[pt b0,Aa C3 a1 C5,iv a2]) Tryz.func71 rfl (B0 rfl) ?_
 intro A X hh_
 obtain ⟨CX,CM,EZ,DS,BU,_⟩:=hh_
 unfold GT.f at h
 refine K.eq (env':=[(0,pt b0),(1,Aa C3 a1 C5),(2,iv a2)]) (l':=bk b0 #[Ay,Az,A2,Aa AI Ai AJ,Aa B1 Au B2,B3,Aa AG Al AH,AA,B4,B5,Aa AR An AT,Br] 66 :: BF :: X) rfl rfl (ksr (kx 2 (Ad (Co (ksr (kx 3 (Ad ?_)))))))
 refine AF h (fun h=>?_) fun h=>?_
 ·refine Bc (kx 2 (K.Ao (K.Ao (bnd h fun r2 hr2 h=>(B6 (DD.ok hr2 Cu Ck Cm Cg EW hG) rfl ⟨CX,CM,EZ,DS,BU,trivial⟩ ?_)))))
  rintro _ _ ⟨h3,A4,k5,o6,rfl,rfl⟩
  refine Bn (knl (Bo (Cw ?_)))
  obtain rfl:=Ap h
  exact kdv (.tuple #[]) [bk b0 #[Ay,Az,A2,Aa AI Ai AJ,Aa A4 r2 k5,B3,Aa AG Al AH,AA,B4,B5,Aa AR An AT,Br] 66,h3] (BH ⟨h3,A4,k5,o6,rfl,rfl⟩)
 ·refine ksr (kx 2 (Ad ?_))
  refine AF h (fun h=>?_) fun h=>?_
  ·refine ksr (kx 2 (Ad (Co (EL (τ:=Int×TyA×Ab×Ar×Nat) (fun t=>[(0,pt b0),(25,iv a2),(26,iv t.1)]) (fun t=>bk b0 #[Ay,Az,A2,Aa AI Ai AJ,Aa t.2.2.2.1 t.2.1 t.2.2.2.2,B3,Aa AG Al AH,AA,B4,B5,Aa AR An AT,Br] 66 :: t.2.2.1 :: X) (fun m t=>GT.l0 m a2 t.1 t.2.1=some r∧Ah e48 48 4 t.2.2.1 (Aa t.2.2.2.1 t.2.1 t.2.2.2.2) t.2.1) k (0,Au,BF,B1,B2) ⟨h,Ck⟩ sb rfl ?_))))
   clear h
   rintro m14 ⟨x8,l9,h10,Ok,k12⟩ ⟨h,Rb⟩
   cases m14 with
   | zero=>simp [GT.l0] at h
   | succ m14 =>
    simp only [GT.l0] at h
    refine ksr (kx 1 (Ad (Bz ?_)))
    refine AF h (fun h=>?_) fun h=>?_
    ·refine Bt (AB (Bz (Co (Bc (kx 1 (Di (K.Ak (K.Ak (bnd h fun r16 Kj h=>(B6 (BC.ok Kj Rb (Bf.nil (encI .i64) 1 none_)) rfl ⟨(.head _),trivial⟩ ?_))))))))))
     rintro _ _ ⟨h17,Fh,k19,o20,rfl,rfl⟩
     exact Bn (K.Ak (K.drop (knl (Bo (AB (Bc (kx 2 (Ad (Ea m14 (IntKind.i64.wrap (x8+1),r16.2,h17,Fh,k19) (Nat.lt_succ_self _) ⟨h,o20⟩ sb rfl)))))))))
    ·refine E6 (CY (CY (E7 (Bo (Cw ?_)))))
     obtain rfl:=Ap h
     exact kdv (.tuple #[]) [bk b0 #[Ay,Az,A2,Aa AI Ai AJ,Aa Ok l9 k12,B3,Aa AG Al AH,AA,B4,B5,Aa AR An AT,Br] 66,h10] (BH ⟨h10,Ok,k12,Rb,rfl,rfl⟩)
  ·refine ksr (kx 1 (Di (K.Ak (K.Ak (bnd h fun r21 Kl h=>(B6 (BC.ok Kl Ck (Bf.nil (encI .i64) 1 none_)) rfl ⟨(.head _),trivial⟩ ?_))))))
   rintro _ _ ⟨h22,A23,k24,F9,rfl,rfl⟩
   refine Bn (K.Ak (K.drop (AY (kx 2 (K.Ao (K.Ao (bnd h fun Dk MM h=>(B6 (F5.ok MM Cu F9 Cm Cg EW hG) rfl ⟨CX,CM,EZ,DS,BU,trivial⟩ ?_))))))))
   rintro _ _ ⟨h27,A28,k29,L4,rfl,rfl⟩
   refine Bn (Fw (kx 2 (De #[iv a2] 3 1 fun b31=>(K.Ak (K.Ak (bnd h fun r32 OJ h=>(B6 (BC.ok OJ L4 (Ah.rd (Ah.blk 3 (D7 .i64) b31 [a2] #[iv a2] 1 (by kernel_rfl) rfl (by decide)))) rfl ⟨(.head _),trivial⟩ ?_)))))))
   rintro _ _ ⟨h33,A34,G4,IV,rfl,rfl⟩
   refine Bn (K.Ak (K.drop (knl (Bo (Cw ?_)))))
   obtain rfl:=Ap h
   exact kdv (.tuple #[]) [bk b0 #[Ay,Az,A2,Aa AI Ai AJ,Aa A34 r32.2 G4,B3,Aa AG Al AH,AA,B4,B5,Aa AR An AT,Br] 66,h33] (BH ⟨h33,A34,G4,IV,rfl,rfl⟩)
def FK.l1:Nat→(Ai:Bl)→(Al:Ag)→(An:Ag)→(a1:List Tree)→(J7:Int→TyA→Option TyA)→(x79:Int)→(x80:Int)→(l81:TyA)→Option TyA
 | 0,_,_,_,_,_,_,_,_=>none
 | QZ+1,Ai,Al,An,a1,J7,x79,x80,l81=>cond (decide (x80 < ((a1.length:Nat):Int))) (BA (fun (x88:Int) (l89:TyA)=>FK.l1 QZ Ai Al An a1 J7 x88 (IntKind.i64.wrap (x80+1)) l89) (fun Vg=>(AZ a1 x80).bind fun x95=>cond (x95.kind == 7) ((DD.f QZ Ai l81 Al An x95.kids).bind fun Adp=>Vg (IntKind.i64.wrap (x79+2)) Adp) (Vg x79 l81))) (J7 x79 l81)
def FK.l0:Nat→(Al:Ag)→(An:Ag)→(a1:List Tree)→(EV:TyA→Option TyA)→(x25:Int)→(x26:Int)→(l27:TyA)→Option TyA
 | 0,_,_,_,_,_,_,_=>none
 | m32+1,Al,An,a1,EV,x25,x26,l27=>cond (decide (x26 < ((a1.length:Nat):Int))) (BA (fun (x34:Int) (IQ:TyA)=>FK.l0 m32 Al An a1 EV x34 (IntKind.i64.wrap (x26+1)) IQ) (fun LO=>(AZ a1 x26).bind fun x41=>cond (x41.kind == 7) ((BC.f m32 l27 13 ([IntKind.i64.wrap (((a1.length:Nat):Int)+(IntKind.i64.wrap (x25 - 2))),IntKind.i64.wrap ((IntKind.i64.wrap (((a1.length:Nat):Int) - 1)) - x26)])).bind fun r53=>LO (IntKind.i64.wrap (x25 - 2)) r53.2) ((BC.f m32 l27 14 ([IntKind.i64.wrap ((IntKind.i64.wrap (((a1.length:Nat):Int) - 1)) - x26)])).bind fun r59=>(NE.f m32 An x41.text).bind fun r64=>cond (decide (r64 > 0)) ((BC.f m32 r59.2 7 ([r64])).bind fun EQ=>LO x25 EQ.2) ((Lp.f m32 Al x41.text).bind fun FU=>(BC.f m32 r59.2 9 ([FU])).bind fun I4=>LO x25 I4.2)))) (EV l27)
def FK.f (k:Nat) (Ai:Bl) (Au:TyA) (Al:Ag) (An:Ag) (a1:List Tree) (a2:List Tree):Option TyA:=BA (fun (x1:Int) (l2:TyA)=>(GT.f k Ai l2 Al An a2 ((a1.length:Nat):Int)).bind fun r8=>BA (fun (l13:TyA)=>(BC.f k l13 15 ([IntKind.i64.wrap (((a1.length:Nat):Int)+x1)])).bind fun r20=>some (r20.2)) (fun EV=>FK.l0 k Al An a1 EV x1 0 r8)) (fun J7=>FK.l1 k Ai Al An a1 J7 0 0 Au)
theorem FK.ok {k b0 AJ B2 AH AT C5 FY:Nat} {Ai:Bl} {Au r:TyA} {Al An:Ag} {a1 a2:List Tree} {Ay Az A2 B3 AA B4 B5 Br:Value} {CF BF C4 BS DW Kb G:Ab} {AI B1 AG AR C3 FX:Ar} (h:FK.f k Ai Au Al An a1 a2=some r) (Cu:Bf Dt 3 CF (Aa AI Ai AJ) Ai) (Ck:Ah e48 48 4 BF (Aa B1 Au B2) Au) (Cm:Bf encS 1 C4 (Aa AG Al AH) Al) (Cg:Bf encS 1 BS (Aa AR An AT) An) (EW:RdR (Bb 54) DW (Aa C3 a1 C5) a1) (N3:RdR (Bb 54) Kb (Aa FX a2 FY) a2) (hG:E2 G): Ct Tryz.prog 73 #[pt b0,Aa C3 a1 C5,Aa FX a2 FY] [bk b0 #[Ay,Az,A2,Aa AI Ai AJ,Aa B1 Au B2,B3,Aa AG Al AH,AA,B4,B5,Aa AR An AT,Br] 66,BF] [CF,C4,BS,DW,Kb,G] (fun e l1=>∃ (H0_:Ab) (A0_:Ar) (c0_:Nat),Ah e48 48 4 H0_ (Aa A0_ r c0_) r∧e=.returned (.tuple #[])∧l1=[bk b0 #[Ay,Az,A2,Aa AI Ai AJ,Aa A0_ r c0_,B3,Aa AG Al AH,AA,B4,B5,Aa AR An AT,Br] 66,H0_]):=by
 refine Cz (args:=[pt b0,Aa C3 a1 C5,Aa FX a2 FY]) Tryz.func73 rfl (B0 rfl) ?_
 intro A X hh_
 obtain ⟨CX,CM,EZ,DS,ML,BU,_⟩:=hh_
 unfold FK.f at h
 refine K.eq (env':=[(0,pt b0),(1,Aa C3 a1 C5),(2,Aa FX a2 FY)]) (l':=bk b0 #[Ay,Az,A2,Aa AI Ai AJ,Aa B1 Au B2,B3,Aa AG Al AH,AA,B4,B5,Aa AR An AT,Br] 66 :: BF :: X) rfl rfl (ksr (kx 4 (Ad ?_)))
 obtain ⟨J7,hJ7,h⟩:=CG h
 refine CH (τ:=Int×TyA×Ab×Ar×Nat) (fun t=>[(0,pt b0),(1,Aa C3 a1 C5),(2,Aa FX a2 FY),(6,iv ((a1.length:Nat):Int)),(7,iv t.1)]) (fun t=>bk b0 #[Ay,Az,A2,Aa AI Ai AJ,Aa t.2.2.2.1 t.2.1 t.2.2.2.2,B3,Aa AG Al AH,AA,B4,B5,Aa AR An AT,Br] 66 :: t.2.2.1 :: X) (fun t=>J7 t.1 t.2.1=some r∧Ah e48 48 4 t.2.2.1 (Aa t.2.2.2.1 t.2.1 t.2.2.2.2) t.2.1) ?_ ?_
 ·rintro ⟨x1,l2,h3,A4,k5⟩ ⟨h,o6⟩
  subst hJ7
  refine ksr (kx 4 (AY (kx 3 (K.Ao (K.Ao (bnd h fun r8 hr8 h=>(B6 (GT.ok hr8 Cu o6 Cm Cg N3 hG) rfl ⟨CX,CM,EZ,ML,BU,trivial⟩ ?_)))))))
  rintro _ _ ⟨h9,Fz,k11,Hm,rfl,rfl⟩
  refine Bn (Ad ?_)
  obtain ⟨EV,SC,h⟩:=CG h
  refine CH (τ:=TyA×Ab×Ar×Nat) (fun t=>[(0,pt b0),(10,iv (IntKind.i64.wrap (((a1.length:Nat):Int)+x1)))]) (fun t=>bk b0 #[Ay,Az,A2,Aa AI Ai AJ,Aa t.2.2.1 t.1 t.2.2.2,B3,Aa AG Al AH,AA,B4,B5,Aa AR An AT,Br] 66 :: t.2.1 :: X) (fun t=>EV t.1=some r∧Ah e48 48 4 t.2.1 (Aa t.2.2.1 t.1 t.2.2.2) t.1) ?_ ?_
  ·rintro ⟨l13,h14,Mx,k16⟩ ⟨h,o17⟩
   subst SC
   refine Bc (kx 2 (De #[iv (IntKind.i64.wrap (((a1.length:Nat):Int)+x1))] 3 1 fun b19=>(K.Ak (K.Ak (bnd h fun r20 OH h=>(B6 (BC.ok OH o17 (Ah.rd (Ah.blk 3 (D7 .i64) b19 [IntKind.i64.wrap (((a1.length:Nat):Int)+x1)] #[iv (IntKind.i64.wrap (((a1.length:Nat):Int)+x1))] 1 (by kernel_rfl) rfl (by decide)))) rfl ⟨(.head _),trivial⟩ ?_))))))
   rintro _ _ ⟨h21,Im,k23,IU,rfl,rfl⟩
   refine Bn (K.Ak (K.drop (knl (Cw ?_))))
   obtain rfl:=Ap h
   exact kdv (.tuple #[]) [bk b0 #[Ay,Az,A2,Aa AI Ai AJ,Aa Im r20.2 k23,B3,Aa AG Al AH,AA,B4,B5,Aa AR An AT,Br] 66,h21] (BH ⟨h21,Im,k23,IU,rfl,rfl⟩)
  ·skip
   refine ksr (kx 3 (Ad (Co (EL (τ:=Int×Int×TyA×Ab×Ar×Nat) (fun t=>[(0,pt b0),(6,iv ((a1.length:Nat):Int)),(7,iv t.1),(10,iv (IntKind.i64.wrap (((a1.length:Nat):Int)+x1))),(39,Aa C3 a1 C5),(40,iv ((a1.length:Nat):Int)),(41,iv t.2.1)]) (fun t=>bk b0 #[Ay,Az,A2,Aa AI Ai AJ,Aa t.2.2.2.2.1 t.2.2.1 t.2.2.2.2.2,B3,Aa AG Al AH,AA,B4,B5,Aa AR An AT,Br] 66 :: t.2.2.2.1 :: X) (fun m t=>FK.l0 m Al An a1 EV t.1 t.2.1 t.2.2.1=some r∧Ah e48 48 4 t.2.2.2.1 (Aa t.2.2.2.2.1 t.2.2.1 t.2.2.2.2.2) t.2.2.1) k (x1,0,r8,h9,Fz,k11) ⟨h,Hm⟩ sb rfl ?_))))
   clear h
   rintro m32 ⟨x25,x26,l27,h28,A29,k30⟩ ⟨h,GK⟩
   cases m32 with
   | zero=>simp [FK.l0] at h
   | succ m32 =>
    simp only [FK.l0] at h
    refine ksr (kx 1 (Ad (Bz ?_)))
    refine AF h (fun h=>?_) fun h=>?_
    ·refine Bt (AB ?_)
     obtain ⟨LO,Y7,h⟩:=CG h
     refine CH (τ:=Int×TyA×Ab×Ar×Nat) (fun t=>[(0,pt b0),(6,iv ((a1.length:Nat):Int)),(7,iv t.1),(10,iv (IntKind.i64.wrap (((a1.length:Nat):Int)+x1))),(39,Aa C3 a1 C5),(40,iv ((a1.length:Nat):Int)),(41,iv x26)]) (fun t=>bk b0 #[Ay,Az,A2,Aa AI Ai AJ,Aa t.2.2.2.1 t.2.1 t.2.2.2.2,B3,Aa AG Al AH,AA,B4,B5,Aa AR An AT,Br] 66 :: t.2.2.1 :: X) (fun t=>LO t.1 t.2.1=some r∧Ah e48 48 4 t.2.2.1 (Aa t.2.2.2.1 t.2.1 t.2.2.2.2) t.2.1) ?_ ?_
     ·rintro ⟨x34,IQ,h36,A37,k38⟩ ⟨h,o39⟩
      subst Y7
      exact Bc (kx 2 (Ad (Ea m32 (x34,IntKind.i64.wrap (x26+1),IQ,h36,A37,k38) (Nat.lt_succ_self _) ⟨h,o39⟩ sb rfl)))
     ·skip
      refine Co (ksr (kx 1 (bnd h fun x41 OX h=>(DL (T:=54) (kd:=.i64) (R:=(Bb 54)) rfl OX EW fun p42 u45 q46 e43 y44=>?_))))
      obtain ⟨A47,k48,rfl,o49⟩:=DI 54 q46
      refine E8 rfl e43 (t2 DS) (knp #[iv 0,sv noS,iv 0,iv 0,nS] 54 fun b50=>(kx 1 (AQ 0 5 #[iv x41.kind,sv x41.text,iv x41.n,iv x41.at_,Aa A47 x41.kids k48] (Ad (Bz (ksr (kx 1 (kld 0 0 rfl (kx 1 (Ad ?_))))))))))
      refine AF h (fun h=>?_) fun h=>?_
      ·refine ksr (kx 3 (AY (kx 8 (De #[iv (IntKind.i64.wrap (((a1.length:Nat):Int)+(IntKind.i64.wrap (x25 - 2)))),iv (IntKind.i64.wrap ((IntKind.i64.wrap (((a1.length:Nat):Int) - 1)) - x26))] 3 2 fun b52=>(K.Ao (K.drop (K.Ak (K.Ak (bnd h fun r53 Zn h=>(B6 (BC.ok Zn GK (Ah.rd (Ah.blk 3 (D7 .i64) b52 [IntKind.i64.wrap (((a1.length:Nat):Int)+(IntKind.i64.wrap (x25 - 2))),IntKind.i64.wrap ((IntKind.i64.wrap (((a1.length:Nat):Int) - 1)) - x26)] #[iv (IntKind.i64.wrap (((a1.length:Nat):Int)+(IntKind.i64.wrap (x25 - 2)))),iv (IntKind.i64.wrap ((IntKind.i64.wrap (((a1.length:Nat):Int) - 1)) - x26))] 2 (by kernel_rfl) rfl (by decide)))) rfl ⟨(.head _),trivial⟩ ?_))))))))))
       rintro _ _ ⟨h54,LL,L_,W2,rfl,rfl⟩
       exact Bn (K.Ak (K.drop (Ad (E6 (CY (E7 (AB (AV (IntKind.i64.wrap (x25 - 2),r53.2,h54,LL,L_) ⟨h,W2⟩ sb rfl))))))))
      ·refine Bt (AB (ksr (kx 5 (De #[iv (IntKind.i64.wrap ((IntKind.i64.wrap (((a1.length:Nat):Int) - 1)) - x26))] 3 1 fun b58=>(K.mv3 (K.mv3 (bnd h fun r59 hr59 h=>(B6 (BC.ok hr59 GK (Ah.rd (Ah.blk 3 (D7 .i64) b58 [IntKind.i64.wrap ((IntKind.i64.wrap (((a1.length:Nat):Int) - 1)) - x26)] #[iv (IntKind.i64.wrap ((IntKind.i64.wrap (((a1.length:Nat):Int) - 1)) - x26))] 1 (by kernel_rfl) rfl (by decide)))) rfl ⟨(.head _),trivial⟩ ?_))))))))
       rintro _ _ ⟨h60,A61,k62,o63,rfl,rfl⟩
       refine Bn (K.Ak (K.drop (AY (kx 2 (kld 2 1 rfl (bnd h fun r64 Zq h=>(CI (NE.ok Zq Cg) rfl ⟨(t2 EZ),trivial⟩ (kx 1 (AY (kx 2 ?_))))))))))
       refine Ad ?_
       refine AF h (fun h=>?_) fun h=>?_
       ·refine Bc (kx 2 (De #[iv r64] 3 1 fun b66=>(K.mv3 (K.drop (K.Ak (K.Ak (bnd h fun EQ MO h=>(B6 (BC.ok MO o63 (Ah.rd (Ah.blk 3 (D7 .i64) b66 [r64] #[iv r64] 1 (by kernel_rfl) rfl (by decide)))) rfl ⟨(.head _),trivial⟩ ?_))))))))
        rintro _ _ ⟨h68,A69,k70,Nc,rfl,rfl⟩
        exact Bn (K.Ak (K.drop (knl (Bo (AB (AV (x25,EQ.2,h68,A69,k70) ⟨h,Nc⟩ sb rfl))))))
       ·refine Bc (kx 3 (kld 2 1 rfl (K.Ak (K.drop (bnd h fun FU SX h=>(CI (Lp.ok SX Cm) rfl ⟨(.tail _ CM),trivial⟩ (De #[iv FU] 3 1 fun b73=>(K.Ak (K.Ak (bnd h fun I4 Zu h=>?_))))))))))
        refine B6 (BC.ok Zu o63 (Ah.rd (Ah.blk 3 (D7 .i64) b73 [FU] #[iv FU] 1 (by kernel_rfl) rfl (by decide)))) rfl ⟨(.head _),trivial⟩ ?_
        rintro _ _ ⟨h75,KU,Lu,o78,rfl,rfl⟩
        exact Bn (K.Ak (K.drop (knl (Bo (AB (AV (x25,I4.2,h75,KU,Lu) ⟨h,o78⟩ sb rfl))))))
    ·exact E6 (CY (CY (E7 (AB (AV (l27,h28,A29,k30) ⟨h,GK⟩ sb rfl)))))
 ·skip
  refine ksr (kx 3 (Ad (Co (EL (τ:=Int×Int×TyA×Ab×Ar×Nat) (fun t=>[(0,pt b0),(1,Aa C3 a1 C5),(2,Aa FX a2 FY),(6,iv ((a1.length:Nat):Int)),(7,iv t.1),(16,Aa C3 a1 C5),(17,iv ((a1.length:Nat):Int)),(18,iv t.2.1)]) (fun t=>bk b0 #[Ay,Az,A2,Aa AI Ai AJ,Aa t.2.2.2.2.1 t.2.2.1 t.2.2.2.2.2,B3,Aa AG Al AH,AA,B4,B5,Aa AR An AT,Br] 66 :: t.2.2.2.1 :: X) (fun m t=>FK.l1 m Ai Al An a1 J7 t.1 t.2.1 t.2.2.1=some r∧Ah e48 48 4 t.2.2.2.1 (Aa t.2.2.2.2.1 t.2.2.1 t.2.2.2.2.2) t.2.2.1) k (0,0,Au,BF,B1,B2) ⟨h,Ck⟩ sb rfl ?_))))
  clear h
  rintro QZ ⟨x79,x80,l81,h82,A83,k84⟩ ⟨h,o85⟩
  cases QZ with
  | zero=>simp [FK.l1] at h
  | succ QZ =>
   simp only [FK.l1] at h
   refine ksr (kx 1 (Ad (Bz ?_)))
   refine AF h (fun h=>?_) fun h=>?_
   ·refine Bt (AB ?_)
    obtain ⟨Vg,Bac,h⟩:=CG h
    refine CH (τ:=Int×TyA×Ab×Ar×Nat) (fun t=>[(0,pt b0),(1,Aa C3 a1 C5),(2,Aa FX a2 FY),(6,iv ((a1.length:Nat):Int)),(7,iv t.1),(16,Aa C3 a1 C5),(17,iv ((a1.length:Nat):Int)),(18,iv x80)]) (fun t=>bk b0 #[Ay,Az,A2,Aa AI Ai AJ,Aa t.2.2.2.1 t.2.1 t.2.2.2.2,B3,Aa AG Al AH,AA,B4,B5,Aa AR An AT,Br] 66 :: t.2.2.1 :: X) (fun t=>Vg t.1 t.2.1=some r∧Ah e48 48 4 t.2.2.1 (Aa t.2.2.2.1 t.2.1 t.2.2.2.2) t.2.1) ?_ ?_
    ·rintro ⟨x88,l89,h90,PY,QF⟩ ⟨h,Ro⟩
     subst Bac
     exact Bc (kx 2 (Ad (Ea QZ (x88,IntKind.i64.wrap (x80+1),l89,h90,PY,QF) (Nat.lt_succ_self _) ⟨h,Ro⟩ sb rfl)))
    ·skip
     refine Co (ksr (bnd h fun x95 hx95 h=>(DL (T:=54) (kd:=.i64) (R:=(Bb 54)) rfl hx95 EW fun p96 u99 Bo6 e97 y98=>?_)))
     obtain ⟨Ay5,Bg8,rfl,Bkw⟩:=DI 54 Bo6
     refine E8 rfl e97 (t2 DS) (knp #[iv 0,sv noS,iv 0,iv 0,nS] 54 fun Bvi=>(AQ 0 5 #[iv x95.kind,sv x95.text,iv x95.n,iv x95.at_,Aa Ay5 x95.kids Bg8] (AY (kx 1 (kld 0 0 rfl (kx 1 (Ad ?_)))))))
     refine AF h (fun h=>?_) fun h=>?_
     ·refine ksr (kx 2 (kld 0 4 rfl (K.drop (K.Ao (K.Ao (bnd h fun Adp Bb3 h=>(B6 (DD.ok Bb3 Cu o85 Cm Cg Bkw hG) rfl ⟨CX,CM,EZ,DS,BU,trivial⟩ ?_)))))))
      rintro _ _ ⟨A7w,Xq,ZG,Ra,rfl,rfl⟩
      exact Bn (Fw (kx 3 (knl (Bo (AB (AV (IntKind.i64.wrap (x79+2),Adp,A7w,Xq,ZG) ⟨h,Ra⟩ sb rfl))))))
     ·exact Bt (Bo (AB (K.drop (AV (x79,l81,h82,A83,k84) ⟨h,o85⟩ sb rfl))))
   ·exact E6 (CY (CY (E7 (AB (AV (x79,l81,h82,A83,k84) ⟨h,o85⟩ sb rfl)))))
theorem Ab.or_comm {f g:Ab} (h:f.Apart g):f.or g=g.or f:=by
 funext k
 rcases h k with e | e
 ·cases hg:g k <;> simp [Ab.or,e,hg]
 ·cases hf:f k <;> simp [Ab.or,e,hf]
theorem Ab.Apart.WB {f g h:Ab} (h1:f.Apart g) (h2:f.Apart h):f.Apart (g.or h):=(h1.symm.Nd h2.symm).symm
theorem Ab.Apart.Rq {f g h:Ab} (hgh:g.Apart h) (h1:f.Apart (g.or h)):f.Apart g∧f.Apart h:=by
 obtain ⟨a,b⟩:=Ab.Apart.L7 hgh h1.symm
 exact ⟨a.symm,b.symm⟩
theorem Ab.W8 {f g h:Ab} (hg:g.Apart f):g.or (f.or h)=f.or (g.or h):=by
 rw [← Ab.or_assoc,Ab.or_comm hg,Ab.or_assoc]
section
variable {α:Type} {R:FH α}
theorem Ci.focus:∀ {l:List α} {H:Ab} {cs:List Value} {k:Nat} {x:α},Ci R l H cs→l[k]? = some x →
  ∃ Hx Hr,H=Hx.or Hr∧Hx.Apart Hr∧R.own x Hx ((cs.drop (k * R.sz)).take R.sz) ∧
   ∀ x' Hx' cx',R.own x' Hx' cx'→Hx'.Apart Hr→Ci R (l.set k x') (Hx'.or Hr) (cs.take (k * R.sz)++cx'++cs.drop (k * R.sz+R.sz))
 | y :: l,_,_,0,x,⟨H1,H2,c1,c2,rfl,ha,rfl,h1,h2⟩,hx=>by
  simp only [List.getElem?_cons_zero,Option.some.injEq] at hx
  subst hx
  refine ⟨H1,H2,rfl,ha,?_,fun x' Hx' cx' h' ha'=>?_⟩
  ·rw [Nat.zero_mul,List.drop_zero,← (R.len h1).1,List.take_left]
   exact h1
  ·rw [Nat.zero_mul,List.take_zero,List.nil_append,Nat.zero_add,← (R.len h1).1,List.drop_left]
   exact ⟨Hx',H2,cx',c2,rfl,ha',rfl,h',h2⟩
 | y :: l,_,_,k+1,x,⟨H1,H2,c1,c2,rfl,ha,rfl,h1,h2⟩,hx=>by
  rw [List.getElem?_cons_succ] at hx
  obtain ⟨Hx,Hr,rfl,hxr,ho,hc⟩:=Ci.focus h2 hx
  obtain ⟨a1,a2⟩:=Ab.Apart.Rq hxr ha
  have hl:c1.length=R.sz:=(R.len h1).1
  have e1:(k+1) * R.sz=c1.length+k * R.sz:=by rw [hl,Nat.add_mul,Nat.one_mul,Nat.add_comm]
  refine ⟨Hx,H1.or Hr,Ab.W8 a1,Ab.Apart.WB a1.symm hxr,?_,fun x' Hx' cx' h' ha'=>?_⟩
  ·rw [e1,← List.drop_drop,List.drop_left]
   exact ho
  ·obtain ⟨b1,b2⟩:=Ab.Apart.Rq a2 ha'
   have h3:=hc x' Hx' cx' h' b2
   rw [List.set_cons_succ,← Ab.W8 b1.symm]
   refine ⟨H1,Hx'.or Hr,c1,_,rfl,Ab.Apart.WB b1.symm a2,?_,h1,h3⟩
   rw [e1,List.take_length_add_append,show c1.length+k * R.sz+R.sz=c1.length+(k * R.sz+R.sz) by omega,List.drop_length_add_append]
   simp only [Cj]
def Ip (R:FH α) (T:TypeId) (Hr:Ab) (A':Option Addr) (c:Nat) (xs:List α) (k:Nat) (cx:List Value):Prop :=
 ∃ Ho H0 cs,Hr=Ho.or H0∧Ho.Apart H0∧Own T R.sz Ho (.slice A' xs.length c) xs.length cs∧k < xs.length∧(cs.drop (k * R.sz)).take R.sz=cx∧cx.length=R.sz ∧
  ∀ x' Hx' cx',R.own x' Hx' cx'→Hx'.Apart H0→Ci R (xs.set k x') (Hx'.or H0) (cs.take (k * R.sz)++cx'++cs.drop (k * R.sz+R.sz))
theorem AL.hole {T:TypeId} {h:Ab} {A':Option Addr} {c k:Nat} {xs:List α} {x:α} (hO:AL R T h (.slice A' xs.length c) xs) (hx:xs[k]? = some x) :
  ∃ Hx Hr cx,h=Hx.or Hr∧Hx.Apart Hr∧R.own x Hx cx∧Ip R T Hr A' c xs k cx:=by
 obtain ⟨Ho,Hi,cs,rfl,ha,h1,h2⟩:=hO
 obtain ⟨Hx,Hr,rfl,hxr,ho,hc⟩:=h2.focus hx
 obtain ⟨a1,a2⟩:=Ab.Apart.Rq hxr ha
 exact ⟨Hx,Ho.or Hr,_,Ab.W8 a1,Ab.Apart.WB a1.symm hxr,ho,Ho,Hr,cs,rfl,a2,h1,(List.getElem?_eq_some_iff.1 hx).1,rfl,(R.len ho).1,hc⟩
theorem Ip.close {T:TypeId} {Hr:Ab} {A':Ar} {c k:Nat} {xs:List α} {cx:List Value} (hh:Ip R T Hr A' c xs k cx) {x':α} {Hx':Ab} (h':R.own x' Hx' cx) (ha':Hx'.Apart Hr):AL R T (Hx'.or Hr) (.slice A' (xs.set k x').length c) (xs.set k x'):=by
 obtain ⟨Ho,H0,cs,rfl,a2,h1,hk,e,_,hc⟩:=hh
 obtain ⟨b1,b2⟩:=Ab.Apart.Rq a2 ha'
 have h3:=hc x' Hx' _ h' b2
 have e:cs.take (k * R.sz)++cx++cs.drop (k * R.sz+R.sz)=cs:=by
  rw [← e,Cj,← List.drop_drop,List.take_append_drop,List.take_append_drop]
 rw [e] at h3
 rw [← Ab.W8 b1.symm]
 exact ⟨Ho,Hx'.or H0,cs,rfl,Ab.Apart.WB b1.symm a2,by rw [List.length_set];exact h1,h3⟩
theorem Ip.elem {T:TypeId} {Hr:Ab} {A':Option Addr} {c k:Nat} {xs:List α} {cx:List Value} (hh:Ip R T Hr A' c xs k cx) {p:Value} (hp:Place A' (k * R.sz) p):Elem Hr p cx:=by
 obtain ⟨Ho,H0,cs,rfl,a2,h1,hk,e,_,hc⟩:=hh
 obtain ⟨b,off,rfl,rfl⟩:=hp
 rcases h1.2.2 with ⟨_,h0⟩ | ⟨g,cap,cur,he,rfl,h4,h5,h6,h7⟩
 ·omega
 ·cases he
  refine ⟨b,0+k * R.sz,cur,T,(0,0),rfl,Ab.Rs (by simp [blk]),fun j u hj=>?_⟩
  rw [← e,List.getElem?_take] at hj
  split at hj
  ·rw [List.getElem?_drop,← h7,List.getElem?_take] at hj
   split at hj
   ·rw [Nat.zero_add];simpa using hj
   ·cases hj
  ·cases hj
end
section
variable {A:World} {ds:List Deferred} {n0:Nat} {env env':Env} {l l' X:List Ab} {q:Act→World→Prop} {P:Program} {Q:Exit→Act→World→Prop} {ops:Array Oper} {os rest:List Oper} {o:Oper} {α:Type} {R:FH α}
theorem QI {T:TypeId} {h:Ab} {A':Option Addr} {c k:Nat} {xs:List α} {x:α} (hO:AL R T h (.slice A' xs.length c) xs) (hx:xs[k]? = some x)
  (hk:∀ Hx Hr cx,Hx.Apart Hr→h=Hx.or Hr→R.own x Hx cx→Ip R T Hr A' c xs k cx→K ds A n0 env (Hx :: Hr :: l) q):K ds A n0 env (h :: l) q:=by
 obtain ⟨Hx,Hr,cx,rfl,ha,ho,hc⟩:=hO.hole hx
 exact NM ha (hk Hx Hr cx ha rfl ho hc)
theorem Bi3 {xs:List α} {k off:Nat} {Hr:Ab} {A':Option Addr} {c:Nat} {cx:List Value} {T T1:TypeId} {p v:Value} {s y:Operand} (ho:o.op=.store T1 s y) (hg:Cn ops env o=some true) (hd:inB n0 o.dst=true)
  (hs:BV env s=some p) (hy:BV env y=some v) (hsz:(P.info? T1).map (·.size)=some v.cells.size) (hp:Place A' (k * R.sz+off) p) (hH:Ip R T Hr A' c xs k cx) (hfit:off+v.cells.toList.length≤R.sz) (An7:∀ u ∈ v.cells.toList,u.oneCell'=true)
  (hk:∀ Hr',Ip R T Hr' A' c xs k (cx.take off++v.cells.toList++cx.drop (off+v.cells.toList.length))→K ds A n0 (Bp env o.dst undef) (Hr' :: l) (wpList P ops Q rest)):K ds A n0 env (Hr :: l) (wpList P ops Q (o :: rest)):=by
 obtain ⟨Ho,H0,cs,rfl,hab,Y9,hkl,hcx,hcl,hc⟩:=hH
 subst hcx
 refine NM hab ?_
 refine Fv hg fun a w ha hw=>?_
 cases hif:P.info? T1 with
 | none=>rw [hif] at hsz;cases hsz
 | some i =>
  rw [hif] at hsz
  have hsize:i.size=v.cells.size:=Ap hsz
  obtain ⟨hlen,Jb,hcc⟩:=Y9
  rcases hcc with ⟨he,h0⟩ | ⟨g,cap,cur,he,rfl,h4,h5,h6,h7⟩
  ·omega
  ·cases he
   obtain ⟨b,of_,he,rfl⟩:=hp
   cases he
   have hgc:w.heap[g]? = some (.cells cur T (0,0)):=hw.sat.1 g _ (by simp [blk])
   have hle:k * R.sz+R.sz≤xs.length * R.sz:=by
    have:=Nat.mul_le_mul_right R.sz (show k+1≤xs.length by omega)
    rw [Nat.add_mul,Nat.one_mul] at this
    exact this
   have hcs:xs.length * R.sz≤cur.size:=by rw [h6];exact Nat.mul_le_mul_right _ h4
   have hst:=run_storeCells_at P g (k * R.sz+off) T v.cells.toList 0 cur w hgc (by omega) An7
   simp only [Nat.add_zero] at hst
   have hr:(Instr.storeAt T1 (.pointer (some ⟨g,0+(k * R.sz+off),none⟩)) v).run P w=.ok () (w.setRow g (cur.toList.take (k * R.sz+off)++v.cells.toList++cur.toList.drop (k * R.sz+off+v.cells.toList.length)).toArray):=by
    simp [Instr.storeAt,Instr.sureAddr,storeVar,sizeOf,typeInfo,hif,hsize]
    simpa using hst
   unfold Oper.wp execOp
   simp only [ho,ha.eval hs,ha.eval hy,Sem.run_bind,hr,Result.andThen_ok,Sem.run_pure]
   have hsp:=Aw1 cur.toList v.cells.toList (k * R.sz) off R.sz (xs.length * R.sz) hfit hle (by simpa using hcs)
   rw [h7] at hsp
   obtain ⟨cx',hcx'⟩:∃ y,y=((cs.drop (k * R.sz)).take R.sz).take off++v.cells.toList++((cs.drop (k * R.sz)).take R.sz).drop (off+v.cells.toList.length):=⟨_,rfl⟩
   rw [← hcx'] at hsp
   have hln:cx'.length=R.sz:=by
    rw [hcx',AM,AM,List.length_take,Cv,hcl]
    omega
   have hone':∀ u ∈ cx',u.oneCell'=true:=fun u hu=>by
    rw [hcx'] at hu
    rcases EG.1 hu with hu | hu
    ·rcases EG.1 hu with hu | hu
     ·exact Jb u (List.mem_of_mem_drop (List.mem_of_mem_take (List.mem_of_mem_take hu)))
     ·exact An7 u hu
    ·exact Jb u (List.mem_of_mem_drop (List.mem_of_mem_take (List.mem_of_mem_drop hu)))
   obtain ⟨cs',hcs'⟩:∃ y,y=cs.take (k * R.sz)++cx'++cs.drop (k * R.sz+R.sz):=⟨_,rfl⟩
   have hkt:(cs.take (k * R.sz)).length=k * R.sz:=by rw [List.length_take,hlen];omega
   have YA:Own T R.sz (blk g (.cells (cur.toList.take (k * R.sz+off)++v.cells.toList++cur.toList.drop (k * R.sz+off+v.cells.toList.length)).toArray T (0,0))) (.slice (some ⟨g,0,none⟩) xs.length c) xs.length cs':=by
    refine ⟨?_,?_,.inr ⟨g,c,_,rfl,rfl,h4,h5,?_,?_⟩⟩
    ·rw [hcs',AM,AM,hln,hkt,Cv,hlen]
     omega
    ·intro u hu
     rw [hcs'] at hu
     rcases EG.1 hu with hu | hu
     ·rcases EG.1 hu with hu | hu
      ·exact Jb u (List.mem_of_mem_take hu)
      ·exact hone' u hu
     ·exact Jb u (List.mem_of_mem_drop hu)
    ·simp only [List.size_toArray,AM,List.length_take,Cv,Array.length_toList]
     rw [Nat.min_eq_left (by omega)]
     have:v.cells.toList.length=v.cells.size:=Array.length_toList
     omega
    ·rw [hcs'];exact hsp
   have e1:(cs'.drop (k * R.sz)).take R.sz=cx':=by
    rw [hcs',Cj]
    have:(cs.take (k * R.sz)++(cx'++cs.drop (k * R.sz+R.sz))).drop (k * R.sz)=cx'++cs.drop (k * R.sz+R.sz):=by
     have:=List.drop_left (l₁:=cs.take (k * R.sz)) (l₂:=cx'++cs.drop (k * R.sz+R.sz))
     rw [hkt] at this
     exact this
    rw [this,← hln,List.take_left]
   have e2:cs'.take (k * R.sz)=cs.take (k * R.sz):=by
    rw [hcs',Cj]
    have:=List.take_left (l₁:=cs.take (k * R.sz)) (l₂:=cx'++cs.drop (k * R.sz+R.sz))
    rw [hkt] at this
    exact this
   have e3:cs'.drop (k * R.sz+R.sz)=cs.drop (k * R.sz+R.sz):=by
    rw [hcs']
    have:=List.drop_left (l₁:=cs.take (k * R.sz)++cx') (l₂:=cs.drop (k * R.sz+R.sz))
    rw [AM,hkt,hln] at this
    exact this
   have hk':K ds A n0 (Bp env o.dst undef) (blk g (.cells (cur.toList.take (k * R.sz+off)++v.cells.toList++cur.toList.drop (k * R.sz+off+v.cells.toList.length)).toArray T (0,0)) :: H0 :: l) (wpList P ops Q rest) :=
    J9 fun hap=>hk _ ⟨_,H0,cs',rfl,hap,YA,hkl,by rw [e1,hcx'],by rw [← hcx'];exact hln,fun x' Hx' cx2 h' ha'=>by rw [e2,e3];exact hc x' Hx' cx2 h' ha'⟩
   exact hk' _ _ (ha.Bp _ hd) (hw.setRow _)
end
def D3 {α:Type} (R:FH α):FH (Option α) where
 sz:=R.sz
 own x H cs:=match x with | some u=>R.own u H cs | none=>cs.length=R.sz∧∀ u ∈ cs,u.oneCell'=true
 rd x H cs:=match x with | some u=>R.rd u H cs | none=>cs.length=R.sz∧∀ u ∈ cs,u.oneCell'=true
 len:=by
  intro x H cs h
  cases x with
  | none=>exact h
  | some u=>exact R.len h
 lenr:=by
  intro x H cs h
  cases x with
  | none=>exact h
  | some u=>exact R.lenr h
 Oa:=by
  intro x H H' cs h hi
  cases x with
  | none=>exact h
  | some u=>exact R.Oa h hi
theorem Ci.opt {α:Type} {R:FH α}:∀ {l:List α} {H:Ab} {cs:List Value},Ci (D3 R) (l.map some) H cs ↔ Ci R l H cs
 | [],H,cs=>Iff.rfl
 | x :: l,H,cs=>by
  constructor
  ·rintro ⟨H1,H2,c1,c2,h1,h2,h3,h4,h5⟩
   exact ⟨H1,H2,c1,c2,h1,h2,h3,h4,Ci.opt.1 h5⟩
  ·rintro ⟨H1,H2,c1,c2,h1,h2,h3,h4,h5⟩
   exact ⟨H1,H2,c1,c2,h1,h2,h3,h4,Ci.opt.2 h5⟩
theorem AL.opt {α:Type} {R:FH α} {T:TypeId} {h:Ab} {v:Value} {l:List α}:AL (D3 R) T h v (l.map some) ↔ AL R T h v l:=by
 constructor
 ·rintro ⟨Ho,Hi,cs,h1,h2,h3,h4⟩
  exact ⟨Ho,Hi,cs,h1,h2,by rw [List.length_map] at h3;exact h3,Ci.opt.1 h4⟩
 ·rintro ⟨Ho,Hi,cs,h1,h2,h3,h4⟩
  exact ⟨Ho,Hi,cs,h1,h2,by rw [List.length_map];exact h3,Ci.opt.2 h4⟩
theorem Ci.split {α:Type} {R:FH α}:∀ {l:List α} {H:Ab} {cs:List Value} (m:Nat),Ci R l H cs→∃ H1 H2,H=H1.or H2∧H1.Apart H2∧Ci R (l.take m) H1 (cs.take (m * R.sz))
 | l,H,cs,0,_=>⟨none_,H,(Ab.none_or H).symm,Ab.Wy H,by simp [Ci]⟩
 | [],H,cs,m+1,h=>⟨none_,H,(Ab.none_or H).symm,Ab.Wy H,by
  have h:cs=[]:=h
  subst h
  simp [Ci]⟩
 | x :: l,H,cs,m+1,h=>by
  obtain ⟨H1,H2,c1,c2,rfl,ha,rfl,h1,h2⟩:=h
  obtain ⟨H3,H4,rfl,hb,h3⟩:=Ci.split m h2
  obtain ⟨a1,a2⟩:=Ab.Apart.Rq hb ha
  have hl:=(R.len h1).1
  refine ⟨H1.or H3,H4,(Ab.or_assoc ..).symm,Ab.Apart.Nd a2 hb,?_⟩
  rw [List.take_succ_cons,Nat.add_mul,Nat.one_mul,Nat.add_comm,← hl,List.take_length_add_append]
  rw [hl]
  exact ⟨H1,H3,c1,_,rfl,a1,rfl,h1,h3⟩
theorem AL.take {α:Type} {R:FH α} {T:TypeId} {h:Ab} {A':Option Addr} {c m:Nat} {l:List α} (ho:AL R T h (.slice A' l.length c) l) (hm:m≤l.length) :
  ∃ h',h'.In h∧AL R T h' (.slice A' (l.take m).length c) (l.take m):=by
 obtain ⟨Ho,Hi,cs,rfl,ha,h1,h2⟩:=ho
 obtain ⟨H1,H2,rfl,hb,h3⟩:=h2.split m
 obtain ⟨a1,a2⟩:=Ab.Apart.Rq hb ha
 refine ⟨Ho.or H1,?_,Ho,H1,_,rfl,a1,?_,h3⟩
 ·intro k o e
  rw [← Ab.or_assoc]
  exact Ab.Rs e
 ·rw [List.length_take,Nat.min_eq_left hm]
  exact Own.take h1 hm
section
variable {A:World} {ds:List Deferred} {n0:Nat} {env env':Env} {l l' X:List Ab} {q:Act→World→Prop} {P:Program} {Q:Exit→Act→World→Prop} {ops:Array Oper} {os rest:List Oper} {o:Oper} {α:Type} {R:FH α}
theorem Bh8 {T:TypeId} {Hr:Ab} {A':Option Addr} {c k:Nat} {xs:List α} {cx:List Value} {x':α} (hH:Ip R T Hr A' c xs k cx) (h':R.own x' none_ cx)
  (hk:AL R T Hr (.slice A' (xs.set k x').length c) (xs.set k x')→K ds A n0 env (Hr :: l) q):K ds A n0 env (Hr :: l) q :=
 hk (hH.close h' (Ab.Wy _))
theorem Bi4 {xs:List α} {k:Nat} {Hr Hx:Ab} {A':Option Addr} {c:Nat} {cx:List Value} {x':α} {T T1:TypeId} {p v:Value} {s y:Operand} (ho:o.op=.store T1 s y) (hg:Cn ops env o=some true) (hd:inB n0 o.dst=true)
  (hs:BV env s=some p) (hy:BV env y=some v) (hsz:(P.info? T1).map (·.size)=some v.cells.size) (hp:Place A' (k * R.sz) p) (hH:Ip R T Hr A' c xs k cx) (hown:R.own x' Hx v.cells.toList)
  (hk:∀ h',AL R T h' (.slice A' (xs.set k x').length c) (xs.set k x')→K ds A n0 (Bp env o.dst undef) (h' :: l) (wpList P ops Q rest)):K ds A n0 env (Hr :: Hx :: l) (wpList P ops Q (o :: rest)):=by
 obtain ⟨hl,h1⟩:=R.len hown
 have hcl:cx.length=R.sz:=by obtain ⟨Ho,H0,cs,_,_,_,_,_,h,_⟩:=hH;exact h
 refine Bi3 (off:=0) ho hg hd hs hy hsz hp hH (by omega) h1 fun Hr' hH'=>?_
 rw [List.take_zero,List.nil_append,Nat.zero_add,hl,List.drop_eq_nil_of_le (by omega),List.append_nil] at hH'
 refine K.Ao (J9 fun ha=>hk _ (hH'.close hown ha))
theorem XL {β γ:Type} {x:Option (Option β)} {g:β→Option γ} {r:γ} (h:(x.bind fun y=>y.bind g)=some r):∃ u,x=some (some u)∧g u=some r:=by
 cases x with
 | none=>cases h
 | some y =>
  cases y with
  | none=>cases h
  | some u=>exact ⟨u,rfl,h⟩
theorem Asj {xs xs':List α} {ix:Int} {x':α} (h:Du xs ix x'=some xs'):xs'=xs.set ix.toNat x':=(Ap (IH h).2).symm
theorem Ad7 {u:α} {H H':Ab} {cs:List Value} (h:R.own u H cs):(D3 R).own none H' cs:=R.len h
theorem ZZ {T:TypeId} {Hr:Ab} {A':Option Addr} {c:Nat} {ix:Int} {xs xs':List α} {cx:List Value} {x':α} (hs:Du xs ix x'=some xs') (hH:Ip R T Hr A' c xs ix.toNat cx) (h':R.own x' none_ cx)
  (hk:AL R T Hr (.slice A' xs'.length c) xs'→K ds A n0 env (Hr :: l) q):K ds A n0 env (Hr :: l) q:=by
 have e:=Asj hs
 subst e
 exact Bh8 hH h' hk
theorem Aae {xs xs':List α} {ix:Int} {Hr Hx:Ab} {A':Ar} {c:Nat} {cx:List Value} {x':α} {T T1:TypeId} {p v:Value} {s y:Operand} (ho:o.op=.store T1 s y) (hg:Cn ops env o=some true) (hd:inB n0 o.dst=true)
  (hs:BV env s=some p) (hy:BV env y=some v) (hsz:(P.info? T1).map (·.size)=some v.cells.size) (hp:Place A' (ix.toNat * R.sz) p) (hset:Du xs ix x'=some xs') (hH:Ip R T Hr A' c xs ix.toNat cx) (hown:R.own x' Hx v.cells.toList)
  (hk:∀ h',AL R T h' (.slice A' xs'.length c) xs'→K ds A n0 (Bp env o.dst undef) (h' :: l) (wpList P ops Q rest)):K ds A n0 env (Hr :: Hx :: l) (wpList P ops Q (o :: rest)):=by
 have e:=Asj hset
 subst e
 exact Bi4 ho hg hd hs hy hsz hp hH hown hk
theorem Aac {xs xs':List α} {h:Ab} {A':Ar} {c:Nat} {T TS:TypeId} {x y:Operand} {k:IntKind} (H:Int) (ho:o.op=.slice TS x none (some y) none) (hg:Cn ops env o=some true) (hd:inB n0 o.dst=true) (hx:BV env x=some (.slice A' xs.length c))
  (hy:BV env y=some (.int k H)) (h1:P.underlying TS=some (.slice T)) (h2:(P.info? T).map (·.size)=some R.sz) (hs:D8 xs 0 H=some xs') (hO:AL R T h (.slice A' xs.length c) xs)
  (hk:∀ h',AL R T h' (.slice A' xs'.length c) xs'→K ds A n0 (Bp env o.dst (.slice A' xs'.length c)) (h' :: l) (wpList P ops Q rest)):K ds A n0 env (h :: l) (wpList P ops Q (o :: rest)):=by
 obtain ⟨hb,hxs⟩:=IH hs
 obtain ⟨hL,hLH,hH⟩:=of_decide_eq_true hb
 have hxs:xs.take H.toNat=xs':=by
  have:=Ap hxs
  rw [← this]
  simp
 subst hxs
 have hm:H.toNat≤xs.length:=by omega
 obtain ⟨h',hin,hT⟩:=hO.take hm
 obtain ⟨Ho,Hi,cs,rfl,ha0,hO,_⟩:=hO
 have hA:A'=none∨∃ g,A'=some ⟨g,0,none⟩:=by
  rcases hO.2.2 with ⟨h3,h4⟩ | ⟨g,cap,cur,h3,_⟩
  ·simp only [Value.slice.injEq] at h3;exact .inl h3.1
  ·simp only [Value.slice.injEq] at h3;exact .inr ⟨g,h3.1⟩
 have hcap:xs.length≤c:=by
  rcases hO.2.2 with ⟨h3,h4⟩ | ⟨g,cap,cur,h3,h4,h5,_⟩
  ·simp only [Value.slice.injEq] at h3;omega
  ·simp only [Value.slice.injEq] at h3
   obtain ⟨_,_,rfl⟩:=h3
   omega
 have hlen:(xs.take H.toNat).length=H.toNat:=by rw [List.length_take];omega
 refine Bh7 hin ?_
 refine Fv hg fun a w ha hw=>?_
 cases hif:P.info? T with
 | none=>rw [hif] at h2;cases h2
 | some i =>
  have h5:0≤H:=by omega
  have h6:H≤c:=by omega
  have hrun:(Instr.sliceAt TS (.slice A' xs.length c) none (some (.int k H)) none).run P w=.ok (.slice A' H.toNat c) w:=by
   simp [Instr.sliceAt,Instr.slice,Instr.sliceBounds,Instr.sliceBound,asIntOf,run_underlying h1,sizeOf,typeInfo,hif,h5,h6]
   all_goals (rcases hA with rfl | ⟨g,rfl⟩ <;> simp [Addr.add])
  unfold Oper.wp execOp
  simp only [ho,ha.eval hx,Option.map_none,Option.map_some,ha.eval hy,Sem.run_bind,hrun,Result.andThen_ok,Sem.run_pure]
  have hk:=hk h'
  rw [hlen] at hk hT
  exact hk hT _ _ (ha.Bp _ hd) hw
end
section
variable {P:Program} {Q:Exit→Act→World→Prop} {S:World→Prop} {E:List Nat}
def NW (ops:Array Oper) (E:List Nat) (e:Array Bool→Bool):List (Nat×Nat)→Array Bool→Bool
 | [],listed=>e listed
 | (i,0) :: rest,listed=>decide (i < ops.size) && (Region.ready .any ops listed).contains i && Region.free .any ops listed i && NW ops E e rest (listed.setIfInBounds i true)
 | (i,k+1) :: rest,listed=>decide (k=2) && E.contains i && decide (i < ops.size) && (Region.ready .any ops listed).contains i && Region.free .any ops listed i && NW ops E e rest (listed.setIfInBounds i true)
theorem Agc (l:List Oper) (hsel:Region.noSelect l.toArray=true) (hQ:∀ c a d v w,Q (.panic c) (Act.put a d v) w→Q (.panic c) a w) (e:Array Bool→Bool) (T:Act→World→Prop) (g:Nat)
  (hT:∀ listed a w,Closed .any l.toArray listed→e listed=true→T a w→wpAnyS P .any l.toArray Q S E g listed a w) :
  ∀ (plan:List (Nat×Nat)) (listed:Array Bool) (a:Act) (w:World),Closed .any l.toArray listed→NW l.toArray E e plan listed=true→(plan.any (·.2 == 3)=true→S w) →
   Ce P l.toArray Q S T (EN l.toArray plan) a w→wpAnyS P .any l.toArray Q S E (plan.length+g) listed a w
 | [],listed,a,w,hcl,hB,_,h=>by
  simp only [NW] at hB
  rw [Be,Nat.zero_add]
  exact hT listed a w hcl hB h
 | (i,0) :: rest,listed,a,w,hcl,hB,hS,h=>by
  simp only [NW,Bool.and_eq_true,decide_eq_true_eq] at hB
  obtain ⟨⟨⟨hi,hr⟩,hf⟩,hB'⟩:=hB
  have ho:l.toArray[i]? = some l.toArray[i]:=by simp
  simp only [EN,List.filterMap_cons,ho,Option.map_some,Ce] at h
  obtain ⟨v,hy,h⟩:=h
  have hr':i ∈ Region.ready .any l.toArray listed:=by simpa using hr
  rw [show (((i,0) :: rest:List (Nat×Nat)).length+g)=(rest.length+g)+1 by simp only [AD];omega]
  exact wpAnyS_first ho (Region.noSelect_spec hsel) (fun c a w=>hQ c a _ v w) (.inl fun _=>trivial) _ listed a w hcl (Region.free_spec ho hf) hr' hy (.inl fun _=>trivial)
   (Agc l hsel hQ e T g hT rest _ _ w (hcl.set hr') hB' (fun h=>hS (by simpa using h)) h)
 | (i,k+1) :: rest,listed,a,w,hcl,hB,hS,h=>by
  simp only [NW,Bool.and_eq_true,decide_eq_true_eq] at hB
  obtain ⟨⟨⟨⟨⟨hk,hE⟩,hi⟩,hr⟩,hf⟩,hB'⟩:=hB
  subst hk
  have ho:l.toArray[i]? = some l.toArray[i]:=by simp
  simp only [EN,List.filterMap_cons,ho,Option.map_some,Ce] at h
  obtain ⟨v,hy,h⟩:=h
  have hr':i ∈ Region.ready .any l.toArray listed:=by simpa using hr
  have hSw:S w:=hS (by simp)
  rw [show (((i,2+1) :: rest:List (Nat×Nat)).length+g)=(rest.length+g)+1 by simp only [AD];omega]
  exact wpAnyS_first (T:=S) ho (Region.noSelect_spec hsel) (fun c a w=>hQ c a _ v w) (.inr ⟨by simpa using hE,fun _ h=>h⟩) _ listed a w hcl (Region.free_spec ho hf) hr' hy (.inr hSw)
   (Agc l hsel hQ e T g hT rest _ _ w (hcl.set hr') hB' (fun _=>hSw) h)
def V2 (ops:Array Oper) (E:List Nat) (i j m:Nat) (listed:Array Bool):Bool :=
 (decide (Region.ready .any ops listed=[i,j]) && !Mg .any ops E i && !(Nat.beq i j)) &&
 (decide (Region.ready .any ops (listed.setIfInBounds i true)=[j]) && (decide (Region.ready .any ops (listed.setIfInBounds j true)=[i]) &&
 (Np .any ops E (ops.size - m) m ((listed.setIfInBounds i true).setIfInBounds j true))))
def V4 (P:Program) (os:List Oper) (Q:Exit→Act→World→Prop) (S:World→Prop) (i j m:Nat) (a:Act) (w:World):Prop :=
 wpOp P os.toArray Q i (fun a w=>wpOp P os.toArray Q j (fun a' w'=>(S w→S w')∧wpList P os.toArray Q (os.drop m) a' w') a w) a w ∧
 wpOp P os.toArray Q j (fun a' w'=>(S w→S w')∧wpOp P os.toArray Q i (wpList P os.toArray Q (os.drop m)) a' w') a w
theorem Btr (l:List Oper) {i j m:Nat} (listed:Array Bool) (a:Act) (w:World) (hB:V2 l.toArray E i j m listed=true) (h:V4 P l Q S i j m a w):wpAnyS P .any l.toArray Q S E (l.toArray.size - m+2) listed a w:=by
 simp only [V2,Bool.and_eq_true,decide_eq_true_eq,Bool.not_eq_true'] at hB
 obtain ⟨⟨⟨h0,hn⟩,hij⟩,h1,h2,h3⟩:=hB
 have hne:i≠j:=fun e=>by rw [e,Nat.beq_refl] at hij;cases hij
 have tail:∀ a w,wpList P l.toArray Q (l.drop m) a w→wpAnyS P .any l.toArray Q S E (l.toArray.size - m) ((listed.setIfInBounds i true).setIfInBounds j true) a w:=fun a w hl=>by
  have hd:(l.drop m).length=l.toArray.size - m:=by simp
  have:=Agd (S:=S) (E:=E) (l.drop m) m ((listed.setIfInBounds i true).setIfInBounds j true) a w (fun j=>by simp) (by rw [hd];exact h3) hl
  rw [hd] at this
  exact this
 refine ⟨fun hc=>(by rw [h0] at hc;cases hc),fun t ht=>?_⟩
 rw [h0] at ht
 have ht:t=i∨t=j:=by simpa using ht
 rcases ht with rfl | rfl
 ·refine wpOp_mono (fun a' w' h'=>⟨fun hc=>(by rw [hn] at hc;cases hc),?_⟩) h.1
  refine ⟨fun hc=>(by rw [h1] at hc;cases hc),fun t' ht'=>?_⟩
  rw [h1] at ht'
  have ht':t'=j:=by simpa using ht'
  subst ht'
  exact wpOp_mono (fun a'' w'' h''=>⟨fun _ hS=>h''.1 hS,tail _ _ h''.2⟩) h'
 ·refine wpOp_mono (fun a' w' h'=>⟨fun _ hS=>h'.1 hS,?_⟩) h.2
  refine ⟨fun hc=>(by rw [h2] at hc;cases hc),fun t' ht'=>?_⟩
  rw [h2] at ht'
  have ht':t'=i:=by simpa using ht'
  subst ht'
  refine wpOp_mono (fun a'' w'' h''=>⟨fun hc=>(by rw [hn] at hc;cases hc),?_⟩) h'.2
  rw [Array.setIfInBounds_comm _ _ (Ne.symm hne)]
  exact tail _ _ h''
theorem Btu {id:Nat} {a:Act} {w:World} {l:List Oper} (plan:List (Nat×Nat)) (i j m:Nat) (S:World→Prop) (hm:P.follows .mixedOrders=true)
  (hB:(Region.noSelect l.toArray && Nat.beq (plan.length+2) m && decide (m≤l.length) && NW l.toArray (N6 plan) (V2 l.toArray (N6 plan) i j m) plan (Array.replicate l.toArray.size false))=true)
  (hQ:∀ c a d v w,Q (.panic c) (Act.put a d v) w→Q (.panic c) a w) (hS:S w.drew)
  (h:Ce P l.toArray Q S (V4 P l Q S i j m) (EN l.toArray plan) a w.drew):(Code.region id l.toArray true).wp P Q a w:=by
 simp only [Bool.and_eq_true,decide_eq_true_eq] at hB
 obtain ⟨⟨⟨hsel,hpm⟩,hlen⟩,hB⟩:=hB
 have hpm:=Nat.eq_of_beq_eq_true hpm
 refine wp_region_any hm ?_
 have hcl:Closed .any l.toArray (Array.replicate l.toArray.size false):=fun j oj _ hl=>by
  rw [show (Array.replicate l.toArray.size false).getD j false=false by
   rcases Nat.lt_or_ge j l.toArray.size with h' | h' <;> (simp [Array.getD_eq_getD_getElem?,Array.getElem?_replicate];try split <;> rfl)] at hl
  cases hl
 have:=Agc (P:=P) (Q:=Q) (S:=S) (E:=N6 plan) l hsel hQ _ _ (l.toArray.size - m+2) (fun listed a w _ he h=>Btr l listed a w he h) plan _ a w.drew hcl hB (fun _=>hS) h
 have:=Agg _ _ _ _ this
 rw [show plan.length+(l.toArray.size - m+2)=l.toArray.size by simp only [List.size_toArray];omega] at this
 exact this
end
section
variable {A:World} {ds:List Deferred} {n:Nat} {env:Env} {l X:List Ab} {q:Act→World→Prop} {P:Program} {Q:Exit→Act→World→Prop} {S:World→Prop} {o:Oper}
theorem Bh6 {id:Nat} {os:List Oper} (plan:List (Nat×Nat)) (i j m:Nat) (S:World→Prop) (hm:P.follows .mixedOrders=true)
  (hB:(Region.noSelect os.toArray && Nat.beq (plan.length+2) m && decide (m≤os.length) && NW os.toArray (N6 plan) (V2 os.toArray (N6 plan) i j m) plan (Array.replicate os.toArray.size false))=true)
  (hQ:∀ c a d v w,Q (.panic c) (Act.put a d v) w→Q (.panic c) a w) (hS:∀ w,St A l w→S w)
  (h:K ds A n env l (Ce P os.toArray Q S (V4 P os Q S i j m) (EN os.toArray plan))):K ds A n env l ((Code.region id os.toArray true).wp P Q):=fun a w ha hw =>
 Btu plan i j m S hm hB hQ (hS _ hw.drew) (h a _ ha hw.drew)
theorem Arl {ops:Array Oper} {i:Nat} {next:Act→World→Prop} (hi:ops[i]? = some o) (hg:Cn ops env o=some true) (h:K ds A n env l (fun a w=>o.wp P a w next Q)):K ds A n env l (wpOp P ops Q i next):=fun a w ha hw=>by
 unfold wpOp
 rw [hi]
 simp only
 rw [if_pos (Il ha hg)]
 exact .inl (h a w ha hw)
theorem Arj {ops:Array Oper} {i:Nat} {next:Act→World→Prop} (ob:Obj) (v:Nat→Value) (hi:ops[i]? = some o) (hSA:∀ w,S w→S (w.alloc ob)) (hg:Cn ops env o=some true) (hs:(Eb o.op && allB o.op.operands.toList env && inB n o.dst)=true) (hf:∀ b,follow P (execOp (rho env) o) [.num b]=some (.value (v b),[.nw ob b]))
  (h:∀ b,K ds A n (Bp env o.dst (v b)) (blk b ob :: l) next):K ds A n env l (fun a w=>wpOp P ops Q i (fun a' w'=>(S w→S w')∧next a' w') a w):=fun a w ha hw=>by
 simp only [Bool.and_eq_true] at hs
 unfold wpOp
 rw [hi]
 simp only
 rw [if_pos (Il ha hg)]
 refine .inl ?_
 unfold Oper.wp
 rw [execOp_congr a.eval (rho env) o hs.1.1 (ha.rho hs.1.2),Ju (w':=w.alloc ob) (hf w.heap.size) ⟨rfl,rfl⟩]
 exact ⟨fun h=>hSA _ h,h _ _ _ (ha.Bp _ hs.2) (hw.new ob)⟩
theorem Bh1 {os:List Oper} {i j m:Nat} (h1:K ds A n env l (fun a w=>wpOp P os.toArray Q i (fun a w=>wpOp P os.toArray Q j (fun a' w'=>(S w→S w')∧wpList P os.toArray Q (os.drop m) a' w') a w) a w))
  (h2:K ds A n env l (fun a w=>wpOp P os.toArray Q j (fun a' w'=>(S w→S w')∧wpOp P os.toArray Q i (wpList P os.toArray Q (os.drop m)) a' w') a w)):K ds A n env l (V4 P os Q S i j m):=fun a w ha hw=>⟨h1 a w ha hw,h2 a w ha hw⟩
theorem Tx {tail:Act→World→Prop} {pl:List (Oper×Nat)} {ops:Array Oper} {v:Value} (vs:List Orc) (es:List Ev) (hg:Cn ops env o=some true) (hs:(Eb o.op && allB o.op.operands.toList env && inB n o.dst)=true) (hf:follow P (execOp (rho env) o) vs=some (.value v,es)) (hS:∀ w,S w→∃ s,FG s w∧Kd s es)
  (h:K ds A n (Bp env o.dst v) l (Ce P ops Q S tail pl)):K ds A n env l (Ce P ops Q S tail ((o,3) :: pl)):=Ar1 vs es hg hs hf (fun w hw=>by obtain ⟨s,h1,h2⟩:=hS w hw;exact h1.evs h2) h
theorem FG.alloc {ob:Obj}:∀ {l:List Ab} {w:World},FG l w→FG l (w.alloc ob)
 | [],_,_=>trivial
 | f :: l,w,h=>⟨fun k o e=>by
  have:=h.1 k o e
  simp only [World.alloc]
  rw [Array.getElem?_push]
  split
  ·rename_i hk
   rw [hk,Array.getElem?_eq_none (Nat.le_refl _)] at this
   cases this
  ·exact this,FG.alloc h.2⟩
end
end
end Go.Proofs.YtkdjiehclahliaaGreatDoor
