/- Texts of mine for genBatches_card, part 6. -/
import Derived.RangeFuncNested
import Derived.RangeFuncBound
import Derived.RangeFuncBox
import Derived.RangeFuncCalls
import Derived.RangeFuncLeaves
import Derived.Shelf.Abstract
import Derived.Shelf.RegionOpen
import Derived.WalkKit
import Derived.OwnWalkIn
import Derived.TacticsInMore
import Derived.LoopNIn
import Derived.LoopIn
import Derived.Lib.OthersKept
import Derived.Lib.UnsafeStr
import Derived.Test.YtkdjiehclahliaaGreatDoorProg
import Derived.Test.YtkdjiehclahliaaGreatDoorGbE
set_option linter.unusedSimpArgs false
set_option linter.unusedVariables false
set_option linter.unusedSectionVars false
namespace Go.Proofs.YtkdjiehclahliaaGreatDoor
set_option maxRecDepth 100000
section
open Go Go.RowKit Go.Shelf Go.Proofs
attribute [local go_sem] Oper.semAt_some
def Ayk:List ByteArray→ByteArray→Nat
 | [],_=>0
 | y :: r,x=>if (y.toList == x.toList)=true then r.length+1 else Ayk r x
def A2t.f (_k:Nat) (Aal:List ByteArray) (a1:ByteArray):Option Int:=some ((Ayk Aal.reverse a1:Nat):Int)
namespace Bw
def upto {α:Type} (f:Nat→α) (k:Nat):List α:=(List.range k).map f
theorem upto_succ {α:Type} (f:Nat→α) (k:Nat):upto f (k+1)=upto f k++[f k]:=by simp [upto,List.range_succ]
theorem upto_length {α:Type} (f:Nat→α) (k:Nat):(upto f k).length=k:=by simp [upto]
def dn (zs:List ByteArray) (j:Nat):Nat×ByteArray:=(zs.length - 1 - j,zs[zs.length - 1 - j]?.getD ⟨#[]⟩)
set_option maxHeartbeats 2000000 in
theorem Cl3 (F:Fence) (n:Nat) (h8:F.fn 135) (hro:F.round=none) (hn:1≤n) (l Bs n₀ b off cap:Nat) (zs:List ByteArray) (hreach:zs.length≤9223372036854775807) (hb:b < n₀) (J Jx:List (Nat×ByteArray)→World→Prop)
  (hY:∀ pre x W,J pre W→pre.length < zs.length→YieldAt F (n - 1) Tryz.prog l #[.int .i64 (x.1:Int),.string x.2] W fun e W' =>
   (e=.returned (.bool true)∧J (pre++[x]) W'∧Below n₀ W W')∨(e=.returned (.bool false)∧Jx (pre++[x]) W'))
  (W:World) (Csk:Bs < n₀) (hBs:W.cell? ⟨Bs,0,none⟩=some (.slice (some ⟨b,off,none⟩) zs.length cap)) (hc:∀ j,j < zs.length→W.cell? ⟨b,off+j,none⟩=some (.string (zs[j]?.getD ⟨#[]⟩))) (h0:J [] W) :
  CallsIn F n Tryz.prog 135 #[.func (.yield l) #[] #[],.pointer (some ⟨Bs,0,none⟩)] W fun e W'=>(∃ v,e=.returned v) ∧
   ((∃ ys,ys=upto (dn zs) zs.length∧J ys W')∨(∃ pre,(∃ k,k≤zs.length∧pre=upto (dn zs) k)∧Jx pre W')):=by
 refine callsIn_of_wp Tryz.func135 rfl h8 ?_ hro
 simp only [Tryz.ntmps135,List.size_toArray,List.length_cons,List.length_nil,Nat.reduceAdd,Nat.reduceSub,Array.replicate_succ,Array.replicate_zero,List.push_toArray,List.append_toArray,List.nil_append,List.cons_append]
 gi_wp2
 gi_loopw [3] (fun i wr=>∃ k:Nat,k≤zs.length∧i=.int .i64 ((zs.length:Int) - 1 - (k:Int))∧J (upto (dn zs) k) wr∧Below n₀ W wr)
  (fun i _=>(intOf i+1).toNat)
 case atStart=>exact ⟨0,Nat.zero_le _,by simp,h0,Below.refl _ _⟩
 case round =>
  obtain ⟨k,hk,rfl,hJs,hnx⟩:=hrel
  have hcs:wr.cell? ⟨Bs,0,none⟩=some (.slice (some ⟨b,off,none⟩) zs.length cap):=(hnx.cell (p:=⟨Bs,0,none⟩) Csk).trans hBs
  by_cases hlt:k < zs.length
  ·have hcx:wr.cell? ⟨b,off+(zs.length - 1 - k),none⟩=some (.string (zs[zs.length - 1 - k]?.getD ⟨#[]⟩)):=(hnx.cell (p:=⟨b,off+(zs.length - 1 - k),none⟩) hb).trans (hc _ (by omega))
   obtain ⟨fn,tmps,assign,body,hy,hR⟩:=hY _ (dn zs k) wr hJs (by rw [upto_length];exact hlt)
   dsimp only [dn] at hy
   rw [show ((zs.length:Int) - 1 - (k:Int))=((zs.length - 1 - k:Nat):Int) by omega]
   gi_wp2
   refine hR.mono ?_
   rintro e W3 (⟨rfl,hJ3,hk3⟩ | ⟨rfl,hJx3⟩)
   ·gi_wp2
    go_roundw
    case rel=>exact ⟨k+1,by omega,by first | (congr 1;done) | (congr 1;omega),by rw [upto_succ];exact hJ3,hnx.trans hk3⟩
    case measure=>first | (simp [intOf];done) | (simp [intOf];omega)
   ·gi_wp2
    refine bodyPost_ret (results_none rfl _ _ _) rfl ?_
    exact ⟨⟨_,rfl⟩,.inr ⟨_,⟨k+1,by omega,(upto_succ _ _).symm⟩,hJx3⟩⟩
  ·obtain rfl:k=zs.length:=by omega
   gi_wp2
   go_end0
   exact ⟨⟨_,rfl⟩,.inl ⟨_,rfl,hJs⟩⟩
def Strs (n₀:Nat) (W:World) (sv:Value) (zs:List ByteArray):Prop :=
 (sv=.slice none 0 0∧zs=[])∨∃ b off cap,sv=.slice (some ⟨b,off,none⟩) zs.length cap∧b < n₀∧∀ j,j < zs.length→W.cell? ⟨b,off+j,none⟩=some (.string (zs[j]?.getD ⟨#[]⟩))
theorem Strs.below {n₀:Nat} {A B:World} (h:Below n₀ A B) {sv:Value} {zs:List ByteArray}:Strs n₀ A sv zs→Strs n₀ B sv zs
 | .inl e=>.inl e
 | .inr ⟨b,off,cap,e,hb,hc⟩=>.inr ⟨b,off,cap,e,hb,fun j hj=>(h.cell (p:=⟨b,off+j,none⟩) hb).trans (hc j hj)⟩
theorem Strs.mono {n₀ n₁:Nat} {A:World} (h:n₀≤n₁) {sv:Value} {zs:List ByteArray}:Strs n₀ A sv zs→Strs n₁ A sv zs
 | .inl e=>.inl e
 | .inr ⟨b,off,cap,e,hb,hc⟩=>.inr ⟨b,off,cap,e,by omega,hc⟩
set_option maxHeartbeats 1000000 in
theorem Cl5 (F:Fence) (n:Nat) (h8:F.fn 135) (hro:F.round=none) (l Bs:Nat) (J:List (Nat×ByteArray)→World→Prop) (W:World) (hBs:W.cell? ⟨Bs,0,none⟩=some (.slice none 0 0)) (h0:J [] W) :
  CallsIn F n Tryz.prog 135 #[.func (.yield l) #[] #[],.pointer (some ⟨Bs,0,none⟩)] W fun e W'=>(∃ v,e=.returned v)∧J [] W':=by
 refine callsIn_of_wp Tryz.func135 rfl h8 ?_ hro
 simp only [Tryz.ntmps135,List.size_toArray,List.length_cons,List.length_nil,Nat.reduceAdd,Nat.reduceSub,Array.replicate_succ,Array.replicate_zero,List.push_toArray,List.append_toArray,List.nil_append,List.cons_append]
 gi_wp2
 gi_loopw [3] (fun i wr=>i=.int .i64 (-1)∧J [] wr) (fun _ _=>0)
 case atStart=>exact ⟨rfl,h0⟩
 case round =>
  obtain ⟨rfl,hJs⟩:=hrel
  gi_wp2
  go_end0
  exact ⟨⟨_,rfl⟩,hJs⟩
set_option maxHeartbeats 1000000 in
theorem Cl8 (F:Fence) (n:Nat) (h6:F.fn 126) (hro:F.round=none) (a:Option Addr) (len cap:Nat) (w:World) :
  CallsIn F n Tryz.prog 126 #[.slice a len cap] w fun e w'=>e=.returned (.func (.func 135) #[] #[.pointer (some ⟨w.heap.size,0,none⟩)])∧w'=w.alloc (.cells #[.slice a len cap] 23):=by
 refine callsIn_of_wp Tryz.func126 rfl h6 ?_ hro
 simp only [Tryz.ntmps126,List.size_toArray,List.length_cons,List.length_nil,Nat.reduceAdd,Nat.reduceSub,Array.replicate_succ,Array.replicate_zero,List.push_toArray,List.append_toArray,List.nil_append,List.cons_append]
 gi_wp2
 go_ret
 exact ⟨rfl,rfl⟩
theorem Cl9 (F:Fence) (n:Nat) (h8:F.fn 135) (hro:F.round=none) (hn:1≤n) (Bs n₀:Nat) (sv:Value) (zs:List ByteArray) (hreach:zs.length≤9223372036854775807) (w:World) (hBs:Bs < n₀) (hn₀:n₀≤w.heap.size)
  (hc:w.cell? ⟨Bs,0,none⟩=some sv) (hI:Strs n₀ w sv zs) :
  SeqStopsK F n Tryz.prog 135 #[.pointer (some ⟨Bs,0,none⟩)] (fun x:Nat×ByteArray=>#[Value.int .i64 (x.1:Int),Value.string x.2]) (Below n₀) (fun ys=>ys=upto (dn zs) zs.length)
   (fun pre=>∃ k,k≤zs.length∧pre=upto (dn zs) k) zs.length w:=fun l J Jx W hW _ _ hY h0=>by
 have hc':=(hW.cell (p:=⟨Bs,0,none⟩) (Nat.lt_of_lt_of_le hBs hn₀)).trans hc
 rcases hI.below (hW.mono hn₀) with ⟨rfl,rfl⟩ | ⟨b,off,cap,rfl,hb,hcs⟩
 ·exact (Cl5 F n h8 hro l Bs J W hc' h0).mono fun e W' ⟨he,hj⟩=>⟨he,.inl ⟨_,rfl,hj⟩⟩
 ·exact Cl3 F n h8 hro hn l Bs n₀ b off cap zs hreach hb J Jx hY W hBs hc' hcs h0
theorem Bvl:∀ (l m:List ByteArray) (x:ByteArray),(∀ y ∈ l,¬ (y.toList == x.toList)=true)→Ayk (l++m) x=Ayk m x
 | [],m,x,_=>rfl
 | y :: l,m,x,h=>by
  rw [List.cons_append,Ayk,if_neg (h y (List.mem_cons_self ..)),Bvl l m x fun z hz=>h z (List.mem_cons_of_mem _ hz)]
theorem B4y (zs:List ByteArray):(upto (dn zs) zs.length).map Prod.snd=zs.reverse:=by
 apply List.ext_getElem
 ·simp [upto]
 ·intro i h1 h2
  have:i < zs.length:=by simpa using h2
  simp only [upto,List.map_map,List.getElem_map,List.getElem_range,Function.comp,dn,List.getElem_reverse]
  rw [List.getElem?_eq_getElem (by omega)]
  rfl
theorem Coh (zs:List ByteArray) (k:Nat) (hk:k≤zs.length):(upto (dn zs) k).map Prod.snd=zs.reverse.take k:=by
 rw [← B4y,← List.map_take]
 congr 1
 unfold upto
 rw [← List.map_take,List.take_range,Nat.min_eq_left hk]
set_option maxHeartbeats 2000000 in
theorem C34 (F:Fence) (n:Nat) (h4:F.fn 108) (h6:F.fn 126) (h8:F.fn 135) (hro:F.round=none) (hn:3≤n) (b0:Nat) (name:ByteArray) (a:TyO) (cap:Nat) (zs:TyC) (hreach:zs.length≤9223372036854775807) (w:World)
  (hb0:b0 < w.heap.size) (hc0:w.cell? ⟨b0,10,none⟩=some (.slice a zs.length cap)) (hI:Strs w.heap.size w (.slice a zs.length cap) zs) :
  CallsIn F n Tryz.prog 108 #[.pointer (some ⟨b0,0,none⟩),.string name] w fun e W'=>e=.returned (.int .i64 (Ayk zs.reverse name:Nat))∧Below w.heap.size w W':=by
 have h1:1≤n:=by omega
 refine callsIn_of_wp_marks Tryz.func108 rfl h4 ?_ hro
 simp only [Tryz.ntmps108,List.size_toArray,List.length_cons,List.length_nil,Nat.reduceAdd,Nat.reduceSub,Array.replicate_succ,Array.replicate_zero,List.push_toArray,List.append_toArray,List.nil_append,List.cons_append]
 gi_wp2_with (gi_at_call 126;refine (Cl8 F (n - 1) h6 hro _ _ _ _).mono ?_;rintro e w' ⟨rfl,rfl⟩)
 have bN:=Boxed.new w 9 (.string name)
 have bR:=Boxed.new (w.alloc (.cells #[.string name] 9)) 3 (.int .i64 0)
 have bS:=Boxed.new ((w.alloc (.cells #[.string name] 9)).alloc (.cells #[.int .i64 0] 3)) 23 (.slice a zs.length cap)
 rw [World.size_alloc] at bR
 rw [World.size_alloc,World.size_alloc] at bS
 have hB0:Below w.heap.size w (((w.alloc (.cells #[.string name] 9)).alloc (.cells #[.int .i64 0] 3)).alloc (.cells #[.slice a zs.length cap] 23)):=(((Below.refl _ w).alloc (Nat.le_refl _) _).alloc (by simp) _).alloc (by simp;omega) _
 refine wpIn_rangeFunc_ownG hro h1 (gf:=135) (lb:=#[.pointer (some ⟨w.heap.size+1+1,0,none⟩)]) rfl h8 (enters_of Tryz.func135 (by kernel_rfl) rfl)
  (Cl9 F (n - 1) h8 hro (by omega) (w.heap.size+1+1) (w.heap.size+3) _ zs hreach _ (by omega) (by simp) bS.cell ((hI.below hB0).mono (by omega))) belowK_t (belowK_b (by simp)) (Below.refl _ _) (fun _=>rfl)
  (fun pre W=>((∀ p ∈ pre,¬ (p.2.toList == name.toList)=true)∧(W.cell? ⟨w.heap.size+1,0,none⟩=some (.int .i64 0)∧W.frozen? ⟨w.heap.size+1,0,none⟩=false)∧W.cell? ⟨w.heap.size,0,none⟩=some (.string name))∧Below w.heap.size w W)
  (fun c pre W=>(c=.ret∧∃ ini last,pre=ini++[last]∧(∀ p ∈ ini,¬ (p.2.toList == name.toList)=true)∧(last.2.toList == name.toList)=true∧W.cell? ⟨w.heap.size+1,0,none⟩=some (.int .i64 (wrap64 ((last.1:Int)+1))))∧Below w.heap.size w W)
  (OwnFrom.and (Own.from (fun s A B row hs hg hr=>⟨hs.1,⟨cell_kept hs.2.1.1 hg hr,(frozen_kept hs.2.1.1 hg hr).trans hs.2.1.2⟩,cell_kept hs.2.2 hg hr⟩) _) (ownFrom_below (Nat.le_refl _) (by simp;omega)))
  (fun c=>OwnFrom.and (Own.from (fun s A B row hs hg hr=>by obtain ⟨hc,ini,last,e1,e2,e3,e4⟩:=hs;exact ⟨hc,ini,last,e1,e2,e3,cell_kept e4 hg hr⟩) _) (ownFrom_below (Nat.le_refl _) (by simp;omega)))
  ⟨⟨by simp,⟨(bR.alloc _).cell,(bR.alloc _).frozen⟩,((bN.alloc _).alloc _).cell⟩,hB0⟩
  (fun x=>{ tmps:=#[.pointer (some ⟨b0,0,none⟩),.string name,undef,.pointer (some ⟨w.heap.size,0,none⟩),.pointer (some ⟨w.heap.size+1,0,none⟩),.int .i64 (x.1:Int),.string x.2,.pointer (some ⟨b0,0,none⟩),.pointer (some ⟨b0,0,none⟩),.pointer (some ⟨b0,10,none⟩),.slice a zs.length cap,.func (.func 135) #[] #[.pointer (some ⟨w.heap.size+1+1,0,none⟩)],.int .i64 (x.1:Int),.string x.2,undef,undef,undef,undef,undef],defers:=[] }) ?assign ?body ?done ?stop
 case assign =>
  intro l x W K hK
  gi_wp2
  exact hK
 case body =>
  rintro l pre x W ⟨⟨hp,⟨hcr,hfr⟩,hcn⟩,hB⟩ _
  gi_wp2
  ·have hx:(x.2.toList == name.toList)=true:=by assumption
   exact ⟨(KeepsOthers.setCell _ _ _).from _,⟨rfl,pre,x,rfl,hp,hx,World.cell?_setCell_same' _ _ _ (by rw [hcr];rfl)⟩,hB.setCell (p:=⟨w.heap.size+1,0,none⟩) (by simp) _⟩
  ·have hx:(x.2.toList == name.toList)=false:=by assumption
   exact ⟨KeepsFrom.refl _ _,Below.refl _ _,⟨fun p hp'=>(List.mem_append.1 hp').elim (hp p) (fun e=>by simp only [List.mem_singleton] at e;subst e;rw [hx];exact Bool.false_ne_true),⟨hcr,hfr⟩,hcn⟩,hB⟩
 case done =>
  rintro D ys W hD rfl ⟨⟨hne,⟨hcr,hfr⟩,_⟩,hB⟩ hK
  gi_wp2
  have hK':=(KeepsOthers.setCell W ⟨w.heap.size+1,0,none⟩ (.int .i64 0)).same D _ hK rfl
  refine ⟨by simp,.inl ⟨_,_,rfl,run_takeDeferred hK',?_⟩⟩
  have hc5:=cell_kept (World.cell?_setCell_same' W ⟨w.heap.size+1,0,none⟩ (.int .i64 0) (by rw [hcr];rfl)) (grownBy_putObj' _ D (.deferred none)) (fun r e=>by cases e;exact ⟨_,hK',rfl⟩)
  refine ⟨.int .i64 0,?_,?_,(hB.setCell (p:=⟨w.heap.size+1,0,none⟩) (by simp) _).trans (belowK_b (w:=w) (Nat.le_refl _) _ D _ _ (by simp at hD;omega) hK' rfl rfl)⟩
  ·simp [results,Tryz.f108,go_sem,hc5]
  ·have h0:Ayk zs.reverse name=0:=by
    rw [← B4y,← List.append_nil (List.map _ _),Bvl _ _ _ (fun y hy=>by
     obtain ⟨p,hp,rfl⟩:=List.mem_map.1 hy
     exact hne p hp)]
    rfl
   rw [h0]
   rfl
 case stop =>
  rintro D c pre W hD ⟨k,hk,rfl⟩ ⟨⟨rfl,ini,last,e1,e2,e3,hcr⟩,hB⟩ hK
  gi_wp2
  refine ⟨by simp,.inl ⟨_,_,rfl,run_takeDeferred hK,?_⟩⟩
  have hc5:=cell_kept hcr (grownBy_putObj' _ D (.deferred none)) (fun r e=>by cases e;exact ⟨_,hK,rfl⟩)
  obtain ⟨k',rfl⟩:∃ k',k=k'+1:=by
   cases k with
   | zero=>simp [upto] at e1
   | succ k'=>exact ⟨k',rfl⟩
  rw [upto_succ] at e1
  obtain ⟨rfl,e5⟩:=List.append_inj' e1 rfl
  obtain rfl:dn zs k'=last:=by simpa using e5
  refine ⟨.int .i64 (wrap64 (((dn zs k').1:Int)+1)),?_,?_,hB.trans (belowK_b (w:=w) (Nat.le_refl _) W D _ _ (by simp at hD;omega) hK rfl rfl)⟩
  ·simp [results,Tryz.f108,go_sem,hc5]
  ·have hk':k' < zs.length:=by omega
   have hl:Ayk zs.reverse name=zs.length - 1 - k'+1:=by
    have hd:zs.reverse=zs.reverse.take k'++zs.reverse.drop k':=(List.take_append_drop _ _).symm
    rw [hd,Bvl _ _ _ (fun y hy=>by
     rw [← Coh zs k' (by omega)] at hy
     obtain ⟨p,hp,rfl⟩:=List.mem_map.1 hy
     exact e2 p hp)]
    have hk2:k' < zs.reverse.length:=by rw [List.length_reverse];exact hk'
    rw [List.drop_eq_getElem_cons hk2,Ayk,if_pos]
    ·rw [List.length_drop,List.length_reverse];omega
    ·rw [List.getElem_reverse]
     have:(dn zs k').2=zs[zs.length - 1 - k']:=by
      simp only [dn]
      rw [List.getElem?_eq_getElem (by omega)]
      rfl
     rw [← this]
     exact e3
   rw [hl]
   congr 2
   simp only [dn,wrap64]
   omega
end Bw
theorem B45:∀ l:List ByteArray,l.flatMap encS=l.map Value.string
 | []=>rfl
 | x :: t=>by rw [List.flatMap_cons,List.map_cons,B45 t];rfl
theorem A2t.ok {k b0 c_:Nat} {Aal:TyC} {a1:ByteArray} {Aad Aae Aaf Ac5 Ag6 Aau Adi Aag Aax Aay Aar:Value} {H_:Aaa} {A_:TyO} {r:Int} (h:A2t.f k Aal a1=some r) (R_:RdT encS 1 H_ (.slice A_ Aal.length c_) Aal):
  Ct Tryz.prog 108 #[.pointer (some ⟨b0,0,none⟩),.string a1] [blk b0 (.cells #[Aad,Aae,Aaf,Ac5,Ag6,Aau,Adi,Aag,Aax,Aay,.slice A_ Aal.length c_,Aar] 66 (0,0))] [H_]
   (fun e l1=>e=.returned (.int .i64 r)∧l1=[blk b0 (.cells #[Aad,Aae,Aaf,Ac5,Ag6,Aau,Adi,Aag,Aax,Aay,.slice A_ Aal.length c_,Aar] 66 (0,0))]):=by
 cases h
 intro A w X hh hw
 have hb:=hw.sat.on _ (List.mem_cons_self ..) b0 _ (if_pos rfl)
 have hH:=hw.sat.on H_ (List.mem_cons_of_mem _ hh.1)
 have hlt:b0 < w.heap.size:=(Array.getElem?_eq_some_iff.1 hb).1
 have hI:Bw.Strs w.heap.size w (.slice A_ Aal.length c_) Aal∧Aal.length≤9223372036854775807:=by
  obtain ⟨h1,h2,h3⟩:=R_
  rcases h3 with ⟨h3,h4⟩ | ⟨b,off,cap,cur,T,z,h3,h4,h5,h6,h7⟩
  ·refine ⟨.inl ⟨h3,List.eq_nil_of_length_eq_zero h4⟩,by rw [h4];decide⟩
  ·have hm:maxLen=9223372036854775807:=by decide
   have hg:=hH b _ h4
   refine ⟨.inr ⟨b,off,cap,h3,(Array.getElem?_eq_some_iff.1 hg).1,fun j hj=>?_⟩,by omega⟩
   have h8:=h7 j (.string (Aal[j]?.getD ⟨#[]⟩)) (by
    rw [B45,List.getElem?_map,List.getElem?_eq_getElem hj]
    rfl)
   simp [World.cell?,hg,h8]
 refine (callsIn_wide (n:=3)).1 ((Bw.C34 Fence.wide 3 trivial trivial trivial rfl (Nat.le_refl _) b0 a1 A_ c_ Aal hI.2 w hlt (by simp [World.cell?,hb]) hI.1).mono ?_)
 rintro e w' ⟨rfl,h2⟩
 exact ⟨_,⟨rfl,rfl⟩,hw.below h2⟩
end
section
open Go Go.RowKit
def B2y (b:Nat) (v:Value):Prop:=v=.pointer none∨v=.pointer (some ⟨b,0,none⟩)
def rAt (s:ByteArray) (pos:Nat):Int:=(Utf8.decode s pos).1
def rNx (s:ByteArray) (pos:Nat):Nat:=pos+(Utf8.decode s pos).2
section
variable {A:World} {ds:List Deferred} {n0:Nat} {env env':Env} {l l' X:List Aaa} {q:Act→World→Prop} {P:Program} {Q:Exit→Act→World→Prop} {ops:Array Oper} {os rest:List Oper} {o:Oper}
theorem St.iter {w:World} {b:Nat} {s:ByteArray} {pos:Nat} (h:St A (blk b (.stringIter s pos) :: l) w) (pos':Nat):St A (blk b (.stringIter s pos') :: l) (w.iterAt b s pos'):=by
 have hb:w.heap[b]? = some (.stringIter s pos):=h.sat.1 b _ (by simp [blk])
 refine ⟨⟨fun k o hk=>?_,fun f hf k=>?_,h.sat.2.2.keep fun f hf k o hk=>?_⟩,h.os,h.tape,h.output,by rw [Lib.iterAt_size];exact h.size⟩
 ·unfold blk at hk
  split at hk
  ·rename_i e;subst e;cases hk;exact Lib.iterAt_heap w k s pos pos' hb
  ·cases hk
 ·rcases h.sat.2.1 f hf k with h' | h'
  ·unfold blk at h' ⊢
   split at h'
   ·cases h'
   ·rename_i e';rw [if_neg e'];exact .inl rfl
  ·exact .inr h'
 ·refine Lib.iterAt_other w b k s pos' fun e'=>?_
  subst e'
  rcases h.sat.2.1 f hf k with h' | h'
  ·simp [blk] at h'
  ·rw [h'] at hk;cases hk
theorem C2w {s:ByteArray} {t:TypeId} {x:Operand} (ho:o.op=.range t x) (hg:Ae4 ops env o=some true) (hd:inB n0 o.dst=true) (hx:Ad5 env x=some (.string s)) (ht:P.underlying t=some .string)
  (h:∀ b,K ds A n0 (Acs env o.dst (.pointer (some ⟨b,0,none⟩))) (blk b (.stringIter s 0) :: l) (wpList P ops Q rest)):K ds A n0 env l (wpList P ops Q (o :: rest)) :=
 Als hg fun a w ha hw=>by
  unfold Oper.wp execOp
  simp only [ho,ha.eval hx,Sem.run_bind,run_range_string w t s ht,Result.andThen_ok,Sem.run_pure]
  exact h _ _ _ (ha.Acs _ hd) (hw.new _)
theorem C2u {b:Nat} {s:ByteArray} {pos:Nat} {x:Operand} (hlt:decide (pos < s.size)=true) (ho:o.op=.next x true) (hg:Ae4 ops env o=some true) (hd:inB n0 o.dst=true) (hx:Ad5 env x=some (.pointer (some ⟨b,0,none⟩)))
  (h:K ds A n0 (Acs env o.dst (.tuple #[.bool true,.int .i64 (pos:Nat),.int .i32 (rAt s pos)])) (blk b (.stringIter s (rNx s pos)) :: l) (wpList P ops Q rest)):K ds A n0 env (blk b (.stringIter s pos) :: l) (wpList P ops Q (o :: rest)) :=
 Als hg fun a w ha hw=>by
  have hb:w.heap[b]? = some (.stringIter s pos):=hw.sat.1 b _ (by simp [blk])
  unfold Oper.wp execOp
  simp only [ho,ha.eval hx,Sem.run_bind,Lib.run_next_any_at w b s pos _ hb (of_decide_eq_true hlt),Result.andThen_ok,Sem.run_pure]
  exact h _ _ (ha.Acs _ hd) (hw.iter _)
theorem C2t {b:Nat} {s:ByteArray} {pos:Nat} {x:Operand} (hlt:decide (pos < s.size)=false) (ho:o.op=.next x true) (hg:Ae4 ops env o=some true) (hd:inB n0 o.dst=true) (hx:Ad5 env x=some (.pointer (some ⟨b,0,none⟩)))
  (h:K ds A n0 (Acs env o.dst (.tuple #[.bool false])) (blk b (.stringIter s pos) :: l) (wpList P ops Q rest)):K ds A n0 env (blk b (.stringIter s pos) :: l) (wpList P ops Q (o :: rest)) :=
 Als hg fun a w ha hw=>by
  have hb:w.heap[b]? = some (.stringIter s pos):=hw.sat.1 b _ (by simp [blk])
  unfold Oper.wp execOp
  simp only [ho,ha.eval hx,Sem.run_bind,Lib.run_next_end_at w b s pos _ hb (of_decide_eq_false hlt),Result.andThen_ok,Sem.run_pure]
  exact h _ _ (ha.Acs _ hd) hw
theorem St.freeze {w:World} {g:Nat} {o:Obj} (h:St A (blk g o :: l) w) (n:Nat):St A l (w.freeze ⟨g,0,none⟩ n):=by
 have hks:∀ f ∈ l,∀ k o',f k=some o'→(w.freeze ⟨g,0,none⟩ n).heap[k]? = w.heap[k]?:=fun f hf k o' hk=>by
  have hne:k≠g:=fun e=>by
   subst e
   rcases h.sat.2.1 f hf k with h' | h'
   ·simp [blk] at h'
   ·rw [h'] at hk;cases hk
  unfold World.freeze
  split
  ·rfl
  ·simp only [Array.getElem?_modify]
   rw [if_neg (fun e=>hne e.symm)]
 have hsz:(w.freeze ⟨g,0,none⟩ n).heap.size=w.heap.size:=by unfold World.freeze;split <;> simp
 have ho:(w.freeze ⟨g,0,none⟩ n).os=w.os∧(w.freeze ⟨g,0,none⟩ n).tape=w.tape∧(w.freeze ⟨g,0,none⟩ n).output=w.output:=by unfold World.freeze;split <;> exact ⟨rfl,rfl,rfl⟩
 exact ⟨h.sat.2.2.keep hks,ho.1.trans h.os,ho.2.1.trans h.tape,ho.2.2.trans h.output,by rw [hsz];exact h.size⟩
end
def B80 (T:Nat):Prop:=liesAt Tryz.prog Tryz.prog.depth T (2 / Tryz.prog.cellsOf T) 0 139 1=true
theorem Cgu:(Tryz.prog.info? 139).map (·.size)=some 2:=by kernel_rfl
set_option maxHeartbeats 1000000 in
theorem Cnh (b:Nat) (w:World) (h0:w.cell? ⟨b,0,none⟩=some (.pointer (some ⟨b,0,none⟩))) :
  Calls Tryz.prog 124 #[.pointer (some ⟨b,0,none⟩)] w fun e w'=>e=.returned (.tuple #[])∧w=w':=by
 obtain ⟨j,hj,_⟩:=Option.map_eq_some_iff.1 Cgu
 go_enter Tryz.func124,Tryz.ntmps124
 go_wp2
 rw [Lib.run_neq_ptr_same w _ Tryz.underlying136 hj]
 go_wp2
 go_end0
 exact ⟨rfl,rfl⟩
set_option maxHeartbeats 1000000 in
theorem Cnd (b T:Nat) (w:World) (hT:B80 T) (h0:w.cell? ⟨b,0,none⟩=some (.pointer none)) (hsh:w.shape? b=some (T,2)) (hfz:w.frozen? ⟨b,0,none⟩=false) :
  Calls Tryz.prog 124 #[.pointer (some ⟨b,0,none⟩)] w fun e w'=>e=.returned (.tuple #[])∧w.setCell ⟨b,0,none⟩ (.pointer (some ⟨b,0,none⟩))=w':=by
 obtain ⟨j,hj,hjs⟩:=Option.map_eq_some_iff.1 Cgu
 have hlies:liesAt Tryz.prog Tryz.prog.depth T (2 / Tryz.prog.cellsOf T) 0 139 1=true:=hT
 clear hT
 go_enter Tryz.func124,Tryz.ntmps124
 go_wp2
 rw [Lib.run_to_unsafe w ⟨b,0,none⟩ Tryz.underlying136 Tryz.underlying178 hj (by rw [hjs];decide) hsh (Nat.zero_lt_succ 1)]
 simp only [Result.andThen]
 rw [Oper.upon_value]
 go_wp2
 rw [run_callFunc_extern Tryz.func133 (by kernel_rfl) (by kernel_rfl) (by kernel_rfl) (e:=Extern.AbiNoEscape.same) (by kernel_rfl)]
 rw [Lib.run_noEscape]
 simp only [Result.andThen]
 rw [Oper.upon_value]
 go_wp2
 rw [Lib.run_from_unsafe w ⟨b,0,none⟩ Tryz.underlying178 Tryz.underlying136 hj hsh hlies]
 simp only [Result.andThen]
 rw [Oper.upon_value]
 go_wp2
 go_end0
 exact ⟨rfl,rfl⟩
def Chh.f (_k:Nat) (_l:List Int):Option Unit:=some ()
theorem Chh.ok {k b0 T0 c:Nat} {l:List Int} {v:Value} {H:Aaa} {A':TyO} {r:Unit} (_h:Chh.f k l=some r) (hT:B80 T0) (hv:B2y b0 v) (_hR:RdT (encI .u8) 1 H (.slice A' l.length c) l):
  Ct Tryz.prog 124 #[.pointer (some ⟨b0,0,none⟩)] [blk b0 (.cells #[v,.slice A' l.length c] T0 (0,0))] [H] fun e l1=>∃ W0_:Value,B2y b0 W0_∧e=.returned (.tuple #[])∧l1=[blk b0 (.cells #[W0_,.slice A' l.length c] T0 (0,0))]:=by
 intro A w X _ hw
 have hw':St A (blk b0 (.cells #[v,.slice A' l.length c] T0 (0,0)) :: X) w:=hw
 have hc:=hw'.sat.cell (List.mem_cons_self ..) 0
 have hf:=hw'.sat.free (List.mem_cons_self ..) 0
 have hb:w.heap[b0]? = some (.cells #[v,.slice A' l.length c] T0 (0,0)):=hw'.sat.1 b0 _ (by simp [blk])
 rcases hv with rfl | rfl
 ·refine (Cnd b0 T0 w hT hc (by simp [World.shape?,hb]) hf).mono ?_
  rintro e w2 ⟨rfl,rfl⟩
  exact ⟨_,⟨_,.inr rfl,rfl,rfl⟩,hw'.set 0 _⟩
 ·refine (Cnh b0 w hc).mono ?_
  rintro e w2 ⟨rfl,rfl⟩
  exact ⟨_,⟨_,.inr rfl,rfl,rfl⟩,hw'⟩
def Asb.l0:Nat→(a0:ByteArray)→(a1:Int)→(J5:Int→Int→Option (Int×Int×Int))→(x7:Int)→(x8:Int)→(p9:Nat)→Option (Int×Int×Int)
 | 0,_,_,_,_,_,_=>none
 | m10+1,a0,a1,J5,x7,x8,p9=>cond (decide (p9 < ByteArray.size a0)) (cond (decide (((p9:Nat):Int) ≥ a1)) (J5 x7 x8) (cond ((rAt a0 p9) == 10) (Asb.l0 m10 a0 a1 J5 (IntKind.i64.wrap (x7+1)) 1 (rNx a0 p9)) (Asb.l0 m10 a0 a1 J5 x7 (IntKind.i64.wrap (x8+1)) (rNx a0 p9)))) (J5 x7 x8)
def Asb.f (k:Nat) (a0:ByteArray) (a1:Int):Option (Int×Int×Int):=(cond (decide (a1 < 0)) (some true) (some (decide (a1 > (a0.size:Int)))):Option Bool).bind fun q1=>cond q1 (some (0,0,1)) (Adg (fun (x3:Int) (x4:Int)=>some (x3,x4,0)) (fun J5=>Asb.l0 k a0 a1 J5 1 1 0))
theorem Asb.ok {k:Nat} {a0:ByteArray} {a1:Int} {r:Int×Int×Int} (h:Asb.f k a0 a1=some r): Ct Tryz.prog 46 #[sv a0,iv a1] [] [] (fun e l1=>e=.returned (.tuple #[iv r.1,iv r.2.1,iv r.2.2])∧l1=[]):=by
 refine Afb (args:=[sv a0,iv a1]) Tryz.func46 rfl (Nat.le_of_ble_eq_true rfl) ?_
 intro A X hh_
 unfold Asb.f at h
 refine ksr (kx 3 (knt (Ac1 (bnd h fun q1 hq1 h=>?_))))
 refine An7 [(0,sv a0),(1,iv a1),(18,bv q1)] (X) ?_ ?_
 ·clear hq1
  refine kcn h (fun h=>?_) fun h=>?_
  ·refine ksr (kx 3 (knt (Afj (Ahj ?_))))
   obtain rfl:=Option.some.inj h
   exact kdn rfl
  ·refine Adv (Abr (ksr (kx 2 (knt ?_))))
   obtain ⟨J5,hJ5,h⟩:=Agm h
   refine Agn (τ:=Int×Int) (fun t=>[(7,iv t.1),(8,iv t.2)]) (fun t=>X) (fun t=>J5 t.1 t.2=some r) ?_ ?_
   ·rintro ⟨x3,x4⟩ h
    subst hJ5
    refine ksr (kx 5 (knt (Afj ?_)))
    obtain rfl:=Option.some.inj h
    exact kdn rfl
   ·skip
    refine ksr (kx 1 (C2w (s:=a0) rfl (by kernel_rfl) (by kernel_rfl) (by kernel_rfl) (by kernel_rfl) fun b6=>(knt (Aez (Akr (τ:=Int×Int×Nat) (fun t=>[(1,iv a1),(7,iv t.1),(8,iv t.2.1),(20,pt b6)]) (fun t=>blk b6 (.stringIter a0 t.2.2) :: X) (fun m t=>Asb.l0 m a0 a1 J5 t.1 t.2.1 t.2.2=some r) k (1,1,0) h sb rfl ?_)))))
    clear h
    rintro m10 ⟨x7,x8,p9⟩ h
    cases m10 with
    | zero=>simp [Asb.l0] at h
    | succ m10 =>
     simp only [Asb.l0] at h
     refine ksr ?_
     rcases Bool.eq_false_or_eq_true (decide (p9 < ByteArray.size a0)) with t11 | t11
     ·have h:=Cnr h t11
      refine C2u t11 rfl (by kernel_rfl) (by kernel_rfl) (by kernel_rfl) (kx 1 (knt (Ac1 (Bku (by kernel_rfl) (Adv (Abr (Aez (ksr (kx 4 (knt ?_))))))))))
      refine Ac1 (ksr (kx 3 (knt ?_)))
      refine kcn h (fun h=>?_) fun h=>?_
      ·exact Akp (Af5 (Bkx rfl (Af5 (Akq (Abr (K.drop (Adb (x7,x8) h sb rfl)))))))
      ·refine Adv (Abr (ksr (kx 3 (Aby (kx 2 (knt ?_))))))
       refine kcn h (fun h=>?_) fun h=>?_
       ·exact Ach (kx 4 (knl (Acx (Abr (Aiw m10 (IntKind.i64.wrap (x7+1),1,(rNx a0 p9)) (Nat.lt_succ_self _) h sb rfl)))))
       ·exact Adv (Acx (Abr (Aiw m10 (x7,IntKind.i64.wrap (x8+1),(rNx a0 p9)) (Nat.lt_succ_self _) h sb rfl)))
     ·have h:=Cnp h t11
      refine C2t t11 rfl (by kernel_rfl) (by kernel_rfl) (by kernel_rfl) (kx 1 (knt (Ac1 (Bkt (by kernel_rfl) (Akp (Af5 (Af5 (Akq (Abr (K.drop ?_))))))))))
      exact Adb (x7,x8) h sb rfl
 ·have h:=hq1
  clear hq1
  refine Ach (kx 3 ?_)
  refine kcs 13 h (fun h=>?_) fun h=>?_
  ·exact kx 5 (knt (Agb ⟨gr,gr,gb (Option.some.inj h),trivial⟩))
  ·exact kx 5 (knt (Agb ⟨gr,gr,gb (Option.some.inj h),trivial⟩))
def Au9.f (k:Nat) (Aac:Int) (Ay9:TyA) (Aiv:Int):Option (Int×TyA×Int):=cond (decide (Aac > 0)) ((Ac7.f k Ay9 28 ([Aac,Aiv])).bind fun r3=>some (0,r3.2,IntKind.i64.wrap (Aiv+Aac))) (some (Aac,Ay9,Aiv))
theorem Au9.ok {k b0 b1_ Atb Bdn b2_:Nat} {Aac Aiv:Int} {Ay9:TyA} {A0s A0t A0y A01 A06 A08 A1a A1d A1h A0u A0v:Value} {Bdf:Aaa} {Bdc:TyO} {r:Int×TyA×Int} (h:Au9.f k Aac Ay9 Aiv=some r) (B2v:Aan e48 48 4 Bdf (.slice Bdc Ay9.length Bdn) Ay9): Ct Tryz.prog 127 #[pt b0,pt b1_,pt b2_] [bk b0 #[iv Aac] 3,bk b1_ #[pt Atb] 61,bk Atb #[A0s,A0t,A0y,A01,.slice Bdc Ay9.length Bdn,A06,A08,A1a,A1d,A1h,A0u,A0v] 66,Bdf,bk b2_ #[iv Aiv] 3] [] (fun e l1=>∃ (H0_:Aaa) (A0_:TyO) (c0_:Nat),Aan e48 48 4 H0_ (.slice A0_ r.2.1.length c0_) r.2.1∧e=.returned (.tuple #[])∧l1=[bk b0 #[iv r.1] 3,bk b1_ #[pt Atb] 61,bk Atb #[A0s,A0t,A0y,A01,.slice A0_ r.2.1.length c0_,A06,A08,A1a,A1d,A1h,A0u,A0v] 66,H0_,bk b2_ #[iv r.2.2] 3]):=by
 refine Afb (args:=[pt b0,pt b1_,pt b2_]) Tryz.func127 rfl (Nat.le_of_ble_eq_true rfl) ?_
 intro A X hh_
 unfold Au9.f at h
 refine K.eq (env':=[(0,pt b0),(1,pt b1_),(2,pt b2_)]) (l':=bk b0 #[iv Aac] 3 :: bk b1_ #[pt Atb] 61 :: bk Atb #[A0s,A0t,A0y,A01,.slice Bdc Ay9.length Bdn,A06,A08,A1a,A1d,A1h,A0u,A0v] 66 :: Bdf :: bk b2_ #[iv Aiv] 3 :: X) rfl rfl (ksr (kld 0 0 rfl (kx 1 (knt ?_))))
 refine kcn h (fun h=>?_) fun h=>?_
 ·refine ksr (kld 1 0 rfl (kld 0 0 rfl (kld 4 0 rfl (kns #[iv Aac,iv Aiv] 3 2 fun b2=>(K.mv4 (K.mv4 (bnd h fun r3 hr3 h=>(kcl (Ac7.ok (b0:=Atb) (Aad:=A0s) (Aae:=A0t) (Aaf:=A0y) (Ac5:=A01) (Aau:=A06) (Adi:=A08) (Aag:=A1a) (Aax:=A1d) (Aay:=A1h) (Ad1:=A0u) (Aar:=A0v) hr3 B2v (Aan.rd (Aan.blk 3 (Aio .i64) b2 [Aac,Aiv] #[iv Aac,iv Aiv] 2 (by kernel_rfl) rfl (by decide)))) rfl ⟨(.head _),trivial⟩ ?_))))))))
  rintro _ _ ⟨h4,A5,k6,o7,rfl,rfl⟩
  refine Acg (K.mv2 (K.drop (knr (kld 4 0 rfl (kld 2 0 rfl (kx 1 (K.mv4 (kst 0 1 #[iv (IntKind.i64.wrap (Aiv+Aac))] (K.mv3 (kst 0 1 #[iv 0] ?_))))))))))
  refine knl (Ae2 ?_)
  obtain rfl:=Option.some.inj h
  exact kdv (.tuple #[]) [bk b0 #[iv 0] 3,bk b1_ #[pt Atb] 61,bk Atb #[A0s,A0t,A0y,A01,.slice A5 r3.2.length k6,A06,A08,A1a,A1d,A1h,A0u,A0v] 66,h4,bk b2_ #[iv (IntKind.i64.wrap (Aiv+Aac))] 3] (K.mv1 (K.mv3 (K.mv3 (K.mv4 (K.mv4 (Adj ⟨h4,A5,k6,o7,rfl,rfl⟩))))))
 ·refine Adv (Ae2 ?_)
  obtain rfl:=Option.some.inj h
  exact kdv (.tuple #[]) [bk b0 #[iv Aac] 3,bk b1_ #[pt Atb] 61,bk Atb #[A0s,A0t,A0y,A01,.slice Bdc Ay9.length Bdn,A06,A08,A1a,A1d,A1h,A0u,A0v] 66,Bdf,bk b2_ #[iv Aiv] 3] (Adj ⟨Bdf,Bdc,Bdn,B2v,rfl,rfl⟩)
def A9l.f (k:Nat) (Ana:List (Int×Int×Int×Int)) (Aas:Int):Option (List (Int×Int×Int×Int)):=(Ac7.f k Ana 18 ([Aas])).bind fun r2=>some (r2.2)
theorem A9l.ok {k b0 Ajv Awr b1_:Nat} {Ana r:TyA} {Aas:Int} {Ao1 Ao2 Ao6 Ao8 Ao9 Apa Apb Apc Apd Ao3 Ao5:Value} {Awa:Aaa} {Av4:TyO} (h:A9l.f k Ana Aas=some r) (Bdi:Aan e48 48 4 Awa (.slice Av4 Ana.length Awr) Ana): Ct Tryz.prog 79 #[pt b0,pt b1_] [bk b0 #[pt Ajv] 61,bk Ajv #[Ao1,Ao2,Ao6,Ao8,.slice Av4 Ana.length Awr,Ao9,Apa,Apb,Apc,Apd,Ao3,Ao5] 66,Awa,bk b1_ #[iv Aas] 3] [] (fun e l1=>∃ (H0_:Aaa) (A0_:TyO) (c0_:Nat),Aan e48 48 4 H0_ (.slice A0_ r.length c0_) r∧e=.returned (.tuple #[])∧l1=[bk b0 #[pt Ajv] 61,bk Ajv #[Ao1,Ao2,Ao6,Ao8,.slice A0_ r.length c0_,Ao9,Apa,Apb,Apc,Apd,Ao3,Ao5] 66,H0_,bk b1_ #[iv Aas] 3]):=by
 refine Afb (args:=[pt b0,pt b1_]) Tryz.func79 rfl (Nat.le_of_ble_eq_true rfl) ?_
 intro A X hh_
 unfold A9l.f at h
 refine K.eq (env':=[(0,pt b0),(1,pt b1_)]) (l':=bk b0 #[pt Ajv] 61 :: bk Ajv #[Ao1,Ao2,Ao6,Ao8,.slice Av4 Ana.length Awr,Ao9,Apa,Apb,Apc,Apd,Ao3,Ao5] 66 :: Awa :: bk b1_ #[iv Aas] 3 :: X) rfl rfl (Ach (kld 0 0 rfl (kld 3 0 rfl (kns #[iv Aas] 3 1 fun b1=>(K.mv3 (K.mv3 (bnd h fun r2 hr2 h=>(kcl (Ac7.ok (b0:=Ajv) (Aad:=Ao1) (Aae:=Ao2) (Aaf:=Ao6) (Ac5:=Ao8) (Aau:=Ao9) (Adi:=Apa) (Aag:=Apb) (Aax:=Apc) (Aay:=Apd) (Ad1:=Ao3) (Aar:=Ao5) hr2 Bdi (Aan.rd (Aan.blk 3 (Aio .i64) b1 [Aas] #[iv Aas] 1 (by kernel_rfl) rfl (by decide)))) rfl ⟨(.head _),trivial⟩ ?_))))))))
 rintro _ _ ⟨h3,A4,k5,o6,rfl,rfl⟩
 refine Acg (K.mv2 (K.drop (knl (Ae2 ?_))))
 obtain rfl:=Option.some.inj h
 exact kdv (.tuple #[]) [bk b0 #[pt Ajv] 61,bk Ajv #[Ao1,Ao2,Ao6,Ao8,.slice A4 r2.2.length k5,Ao9,Apa,Apb,Apc,Apd,Ao3,Ao5] 66,h3,bk b1_ #[iv Aas] 3] (K.mv3 (K.mv2 (K.mv2 (K.mv3 (Adj ⟨h3,A4,k5,o6,rfl,rfl⟩)))))
def A9m.f (k:Nat) (Ana:List (Int×Int×Int×Int)) (Aas:Int) (Aiv:Int):Option (List (Int×Int×Int×Int)):=(Ac7.f k Ana 31 ([Aas,IntKind.i64.wrap (Aiv+1)])).bind fun r2=>some (r2.2)
theorem A9m.ok {k b0 Ajv Awr b1_ b2_:Nat} {Ana r:TyA} {Aas Aiv:Int} {Ao1 Ao2 Ao6 Ao8 Ao9 Apa Apb Apc Apd Ao3 Ao5:Value} {Awa:Aaa} {Av4:TyO} (h:A9m.f k Ana Aas Aiv=some r) (Bdi:Aan e48 48 4 Awa (.slice Av4 Ana.length Awr) Ana): Ct Tryz.prog 82 #[pt b0,pt b1_,pt b2_] [bk b0 #[pt Ajv] 61,bk Ajv #[Ao1,Ao2,Ao6,Ao8,.slice Av4 Ana.length Awr,Ao9,Apa,Apb,Apc,Apd,Ao3,Ao5] 66,Awa,bk b1_ #[iv Aas] 3,bk b2_ #[iv Aiv] 3] [] (fun e l1=>∃ (H0_:Aaa) (A0_:TyO) (c0_:Nat),Aan e48 48 4 H0_ (.slice A0_ r.length c0_) r∧e=.returned (.tuple #[])∧l1=[bk b0 #[pt Ajv] 61,bk Ajv #[Ao1,Ao2,Ao6,Ao8,.slice A0_ r.length c0_,Ao9,Apa,Apb,Apc,Apd,Ao3,Ao5] 66,H0_,bk b1_ #[iv Aas] 3,bk b2_ #[iv Aiv] 3]):=by
 refine Afb (args:=[pt b0,pt b1_,pt b2_]) Tryz.func82 rfl (Nat.le_of_ble_eq_true rfl) ?_
 intro A X hh_
 unfold A9m.f at h
 refine K.eq (env':=[(0,pt b0),(1,pt b1_),(2,pt b2_)]) (l':=bk b0 #[pt Ajv] 61 :: bk Ajv #[Ao1,Ao2,Ao6,Ao8,.slice Av4 Ana.length Awr,Ao9,Apa,Apb,Apc,Apd,Ao3,Ao5] 66 :: Awa :: bk b1_ #[iv Aas] 3 :: bk b2_ #[iv Aiv] 3 :: X) rfl rfl (Ach (kld 0 0 rfl (kld 3 0 rfl (kld 4 0 rfl (kx 1 (kns #[iv Aas,iv (IntKind.i64.wrap (Aiv+1))] 3 2 fun b1=>(K.mv3 (K.mv3 (bnd h fun r2 hr2 h=>(kcl (Ac7.ok (b0:=Ajv) (Aad:=Ao1) (Aae:=Ao2) (Aaf:=Ao6) (Ac5:=Ao8) (Aau:=Ao9) (Adi:=Apa) (Aag:=Apb) (Aax:=Apc) (Aay:=Apd) (Ad1:=Ao3) (Aar:=Ao5) hr2 Bdi (Aan.rd (Aan.blk 3 (Aio .i64) b1 [Aas,IntKind.i64.wrap (Aiv+1)] #[iv Aas,iv (IntKind.i64.wrap (Aiv+1))] 2 (by kernel_rfl) rfl (by decide)))) rfl ⟨(.head _),trivial⟩ ?_))))))))))
 rintro _ _ ⟨h3,A4,k5,o6,rfl,rfl⟩
 refine Acg (K.mv2 (K.drop (knl (Ae2 ?_))))
 obtain rfl:=Option.some.inj h
 exact kdv (.tuple #[]) [bk b0 #[pt Ajv] 61,bk Ajv #[Ao1,Ao2,Ao6,Ao8,.slice A4 r2.2.length k5,Ao9,Apa,Apb,Apc,Apd,Ao3,Ao5] 66,h3,bk b1_ #[iv Aas] 3,bk b2_ #[iv Aiv] 3] (K.mv4 (K.mv4 (K.mv3 (K.mv3 (K.mv4 (Adj ⟨h3,A4,k5,o6,rfl,rfl⟩))))))
def A9f.f (k:Nat) (Ana:List (Int×Int×Int×Int)) (Aas:Int):Option (List (Int×Int×Int×Int)):=(Ac7.f k Ana 18 ([Aas])).bind fun r2=>some (r2.2)
theorem A9f.ok {k b0 Ajv Awr b1_:Nat} {Ana r:TyA} {Aas:Int} {Ao1 Ao2 Ao6 Ao8 Ao9 Apa Apb Apc Apd Ao3 Ao5:Value} {Awa:Aaa} {Av4:TyO} (h:A9f.f k Ana Aas=some r) (Bdi:Aan e48 48 4 Awa (.slice Av4 Ana.length Awr) Ana): Ct Tryz.prog 112 #[pt b0,pt b1_] [bk b0 #[pt Ajv] 61,bk Ajv #[Ao1,Ao2,Ao6,Ao8,.slice Av4 Ana.length Awr,Ao9,Apa,Apb,Apc,Apd,Ao3,Ao5] 66,Awa,bk b1_ #[iv Aas] 3] [] (fun e l1=>∃ (H0_:Aaa) (A0_:TyO) (c0_:Nat),Aan e48 48 4 H0_ (.slice A0_ r.length c0_) r∧e=.returned (.tuple #[])∧l1=[bk b0 #[pt Ajv] 61,bk Ajv #[Ao1,Ao2,Ao6,Ao8,.slice A0_ r.length c0_,Ao9,Apa,Apb,Apc,Apd,Ao3,Ao5] 66,H0_,bk b1_ #[iv Aas] 3]):=by
 refine Afb (args:=[pt b0,pt b1_]) Tryz.func112 rfl (Nat.le_of_ble_eq_true rfl) ?_
 intro A X hh_
 unfold A9f.f at h
 refine K.eq (env':=[(0,pt b0),(1,pt b1_)]) (l':=bk b0 #[pt Ajv] 61 :: bk Ajv #[Ao1,Ao2,Ao6,Ao8,.slice Av4 Ana.length Awr,Ao9,Apa,Apb,Apc,Apd,Ao3,Ao5] 66 :: Awa :: bk b1_ #[iv Aas] 3 :: X) rfl rfl (Ach (kld 0 0 rfl (kld 3 0 rfl (kns #[iv Aas] 3 1 fun b1=>(K.mv3 (K.mv3 (bnd h fun r2 hr2 h=>(kcl (Ac7.ok (b0:=Ajv) (Aad:=Ao1) (Aae:=Ao2) (Aaf:=Ao6) (Ac5:=Ao8) (Aau:=Ao9) (Adi:=Apa) (Aag:=Apb) (Aax:=Apc) (Aay:=Apd) (Ad1:=Ao3) (Aar:=Ao5) hr2 Bdi (Aan.rd (Aan.blk 3 (Aio .i64) b1 [Aas] #[iv Aas] 1 (by kernel_rfl) rfl (by decide)))) rfl ⟨(.head _),trivial⟩ ?_))))))))
 rintro _ _ ⟨h3,A4,k5,o6,rfl,rfl⟩
 refine Acg (K.mv2 (K.drop (knl (Ae2 ?_))))
 obtain rfl:=Option.some.inj h
 exact kdv (.tuple #[]) [bk b0 #[pt Ajv] 61,bk Ajv #[Ao1,Ao2,Ao6,Ao8,.slice A4 r2.2.length k5,Ao9,Apa,Apb,Apc,Apd,Ao3,Ao5] 66,h3,bk b1_ #[iv Aas] 3] (K.mv3 (K.mv2 (K.mv2 (K.mv3 (Adj ⟨h3,A4,k5,o6,rfl,rfl⟩)))))
structure GE where
 Agg:List (Int×Int×ByteArray)→List (Int×Int×Int×Int)→List ByteArray→List ByteArray→Int→ByteArray→Int→Int→List Tree→Option (List (Int×Int×Int×Int))
 Ahn:List (Int×Int×ByteArray)→List (Int×Int×Int×Int)→List ByteArray→List ByteArray→List Tree→Option (List (Int×Int×Int×Int))
 Alm:List (Int×Int×ByteArray)→List (Int×Int×Int×Int)→List ByteArray→List ByteArray→List Tree→Option (List (Int×Int×Int×Int))
 Ajz:List (Int×Int×ByteArray)→List (Int×Int×Int×Int)→List ByteArray→List ByteArray→Int→ByteArray→Int→Int→List Tree→Int→Option (List (Int×Int×Int×Int))
 Ap3:List (Int×Int×ByteArray)→List (Int×Int×Int×Int)→List ByteArray→List ByteArray→Int→ByteArray→Int→Int→List Tree→Option (List (Int×Int×Int×Int))
 Alp:List (Int×Int×ByteArray)→List (Int×Int×Int×Int)→List ByteArray→List ByteArray→List Tree→Option (List (Int×Int×Int×Int))
def Agg.C (fC:TyB→TyA→TyC→TyC→Int→ByteArray→Int→Int→List Tree→Option TyA):Prop:=∀ {Aah:TyB} {Aa9 r:TyA} {Aai Aal:TyC} {Aas Aa3 Abk:Int} {Abb:ByteArray} {Aao:List Tree} {b0 Aa5 Acv Aa0 Abj Ab4:Nat} {Aad Aae Aaf Aau Aag Aax Aay Aar:Value} {Afk Ade Afd Ado Aev G:Aaa} {Aa4 Acu Aaz Abi Ab1:TyO} (h:fC Aah Aa9 Aai Aal Aas Abb Aa3 Abk Aao=some r) (Aew:RdT e78 3 Afk (.slice Aa4 Aah.length Aa5) Aah) (Aei:Aan e48 48 4 Ade (.slice Acu Aa9.length Acv) Aa9) (Aek:RdT encS 1 Afd (.slice Aaz Aai.length Aa0) Aai) (Ad8:RdT encS 1 Ado (.slice Abi Aal.length Abj) Aal) (Adf:RdR (Abx 54) Aev (.slice Ab1 Aao.length Ab4) Aao) (hG:GlP G),Ct Tryz.prog 77 #[pt b0,.agg #[iv Aas,sv Abb,iv Aa3,iv Abk,.slice Ab1 Aao.length Ab4]] [bk b0 #[Aad,Aae,Aaf,.slice Aa4 Aah.length Aa5,.slice Acu Aa9.length Acv,Aau,.slice Aaz Aai.length Aa0,Aag,Aax,Aay,.slice Abi Aal.length Abj,Aar] 66,Ade] [Afk,Afd,Ado,Aev,G] (fun e l1=>∃ (H0_:Aaa) (A0_:TyO) (c0_:Nat),Aan e48 48 4 H0_ (.slice A0_ r.length c0_) r∧e=.returned (.tuple #[])∧l1=[bk b0 #[Aad,Aae,Aaf,.slice Aa4 Aah.length Aa5,.slice A0_ r.length c0_,Aau,.slice Aaz Aai.length Aa0,Aag,Aax,Aay,.slice Abi Aal.length Abj,Aar] 66,H0_])
def Ahn.C (fC:TyB→TyA→TyC→TyC→List Tree→Option TyA):Prop:=∀ {Aah:TyB} {Aa9 r:TyA} {Aai Aal:TyC} {a1:List Tree} {b0 Aa5 Acv Aa0 Abj Afe:Nat} {Aad Aae Aaf Aau Aag Aax Aay Aar:Value} {Afk Ade Afd Ado Ail G:Aaa} {Aa4 Acu Aaz Abi Afc:TyO} (h:fC Aah Aa9 Aai Aal a1=some r) (Aew:RdT e78 3 Afk (.slice Aa4 Aah.length Aa5) Aah) (Aei:Aan e48 48 4 Ade (.slice Acu Aa9.length Acv) Aa9) (Aek:RdT encS 1 Afd (.slice Aaz Aai.length Aa0) Aai) (Ad8:RdT encS 1 Ado (.slice Abi Aal.length Abj) Aal) (Akm:RdR (Abx 54) Ail (.slice Afc a1.length Afe) a1) (hG:GlP G),Ct Tryz.prog 80 #[pt b0,.slice Afc a1.length Afe] [bk b0 #[Aad,Aae,Aaf,.slice Aa4 Aah.length Aa5,.slice Acu Aa9.length Acv,Aau,.slice Aaz Aai.length Aa0,Aag,Aax,Aay,.slice Abi Aal.length Abj,Aar] 66,Ade] [Afk,Afd,Ado,Ail,G] (fun e l1=>∃ (H0_:Aaa) (A0_:TyO) (c0_:Nat),Aan e48 48 4 H0_ (.slice A0_ r.length c0_) r∧e=.returned (.tuple #[])∧l1=[bk b0 #[Aad,Aae,Aaf,.slice Aa4 Aah.length Aa5,.slice A0_ r.length c0_,Aau,.slice Aaz Aai.length Aa0,Aag,Aax,Aay,.slice Abi Aal.length Abj,Aar] 66,H0_])
def Alm.C (fC:TyB→TyA→TyC→TyC→List Tree→Option TyA):Prop:=∀ {Aah:TyB} {Aa9 r:TyA} {Aai Aal:TyC} {a1:List Tree} {b0 Aa5 Acv Aa0 Abj Afe:Nat} {Aad Aae Aaf Aau Aag Aax Aay Aar:Value} {Afk Ade Afd Ado Ail G:Aaa} {Aa4 Acu Aaz Abi Afc:TyO} (h:fC Aah Aa9 Aai Aal a1=some r) (Aew:RdT e78 3 Afk (.slice Aa4 Aah.length Aa5) Aah) (Aei:Aan e48 48 4 Ade (.slice Acu Aa9.length Acv) Aa9) (Aek:RdT encS 1 Afd (.slice Aaz Aai.length Aa0) Aai) (Ad8:RdT encS 1 Ado (.slice Abi Aal.length Abj) Aal) (Akm:RdR (Abx 54) Ail (.slice Afc a1.length Afe) a1) (hG:GlP G),Ct Tryz.prog 85 #[pt b0,.slice Afc a1.length Afe] [bk b0 #[Aad,Aae,Aaf,.slice Aa4 Aah.length Aa5,.slice Acu Aa9.length Acv,Aau,.slice Aaz Aai.length Aa0,Aag,Aax,Aay,.slice Abi Aal.length Abj,Aar] 66,Ade] [Afk,Afd,Ado,Ail,G] (fun e l1=>∃ (H0_:Aaa) (A0_:TyO) (c0_:Nat),Aan e48 48 4 H0_ (.slice A0_ r.length c0_) r∧e=.returned (.tuple #[])∧l1=[bk b0 #[Aad,Aae,Aaf,.slice Aa4 Aah.length Aa5,.slice A0_ r.length c0_,Aau,.slice Aaz Aai.length Aa0,Aag,Aax,Aay,.slice Abi Aal.length Abj,Aar] 66,H0_])
def Ajz.C (fC:TyB→TyA→TyC→TyC→Int→ByteArray→Int→Int→List Tree→Int→Option TyA):Prop:=∀ {Aah:TyB} {Aa9 r:TyA} {Aai Aal:TyC} {Aas Aa3 Abk a2:Int} {Abb:ByteArray} {Aao:List Tree} {b0 Aa5 Acv Aa0 Abj Ab4:Nat} {Aad Aae Aaf Aau Aag Aax Aay Aar:Value} {Afk Ade Afd Ado Aev G:Aaa} {Aa4 Acu Aaz Abi Ab1:TyO} (h:fC Aah Aa9 Aai Aal Aas Abb Aa3 Abk Aao a2=some r) (Aew:RdT e78 3 Afk (.slice Aa4 Aah.length Aa5) Aah) (Aei:Aan e48 48 4 Ade (.slice Acu Aa9.length Acv) Aa9) (Aek:RdT encS 1 Afd (.slice Aaz Aai.length Aa0) Aai) (Ad8:RdT encS 1 Ado (.slice Abi Aal.length Abj) Aal) (Adf:RdR (Abx 54) Aev (.slice Ab1 Aao.length Ab4) Aao) (hG:GlP G),Ct Tryz.prog 74 #[pt b0,.agg #[iv Aas,sv Abb,iv Aa3,iv Abk,.slice Ab1 Aao.length Ab4],iv a2] [bk b0 #[Aad,Aae,Aaf,.slice Aa4 Aah.length Aa5,.slice Acu Aa9.length Acv,Aau,.slice Aaz Aai.length Aa0,Aag,Aax,Aay,.slice Abi Aal.length Abj,Aar] 66,Ade] [Afk,Afd,Ado,Aev,G] (fun e l1=>∃ (H0_:Aaa) (A0_:TyO) (c0_:Nat),Aan e48 48 4 H0_ (.slice A0_ r.length c0_) r∧e=.returned (.tuple #[])∧l1=[bk b0 #[Aad,Aae,Aaf,.slice Aa4 Aah.length Aa5,.slice A0_ r.length c0_,Aau,.slice Aaz Aai.length Aa0,Aag,Aax,Aay,.slice Abi Aal.length Abj,Aar] 66,H0_])
def Ap3.C (fC:TyB→TyA→TyC→TyC→Int→ByteArray→Int→Int→List Tree→Option TyA):Prop:=∀ {Aah:TyB} {Aa9 r:TyA} {Aai Aal:TyC} {Aas Aa3 Abk:Int} {Abb:ByteArray} {Aao:List Tree} {b0 Aa5 Acv Aa0 Abj Ab4:Nat} {Aad Aae Aaf Aau Aag Aax Aay Aar:Value} {Afk Ade Afd Ado Aev G:Aaa} {Aa4 Acu Aaz Abi Ab1:TyO} (h:fC Aah Aa9 Aai Aal Aas Abb Aa3 Abk Aao=some r) (Aew:RdT e78 3 Afk (.slice Aa4 Aah.length Aa5) Aah) (Aei:Aan e48 48 4 Ade (.slice Acu Aa9.length Acv) Aa9) (Aek:RdT encS 1 Afd (.slice Aaz Aai.length Aa0) Aai) (Ad8:RdT encS 1 Ado (.slice Abi Aal.length Abj) Aal) (Adf:RdR (Abx 54) Aev (.slice Ab1 Aao.length Ab4) Aao) (hG:GlP G),Ct Tryz.prog 110 #[pt b0,.agg #[iv Aas,sv Abb,iv Aa3,iv Abk,.slice Ab1 Aao.length Ab4]] [bk b0 #[Aad,Aae,Aaf,.slice Aa4 Aah.length Aa5,.slice Acu Aa9.length Acv,Aau,.slice Aaz Aai.length Aa0,Aag,Aax,Aay,.slice Abi Aal.length Abj,Aar] 66,Ade] [Afk,Afd,Ado,Aev,G] (fun e l1=>∃ (H0_:Aaa) (A0_:TyO) (c0_:Nat),Aan e48 48 4 H0_ (.slice A0_ r.length c0_) r∧e=.returned (.tuple #[])∧l1=[bk b0 #[Aad,Aae,Aaf,.slice Aa4 Aah.length Aa5,.slice A0_ r.length c0_,Aau,.slice Aaz Aai.length Aa0,Aag,Aax,Aay,.slice Abi Aal.length Abj,Aar] 66,H0_])
def Alp.C (fC:TyB→TyA→TyC→TyC→List Tree→Option TyA):Prop:=∀ {Aah:TyB} {Aa9 r:TyA} {Aai Aal:TyC} {a1:List Tree} {b0 Aa5 Acv Aa0 Abj Afe:Nat} {Aad Aae Aaf Aau Aag Aax Aay Aar:Value} {Afk Ade Afd Ado Ail G:Aaa} {Aa4 Acu Aaz Abi Afc:TyO} (h:fC Aah Aa9 Aai Aal a1=some r) (Aew:RdT e78 3 Afk (.slice Aa4 Aah.length Aa5) Aah) (Aei:Aan e48 48 4 Ade (.slice Acu Aa9.length Acv) Aa9) (Aek:RdT encS 1 Afd (.slice Aaz Aai.length Aa0) Aai) (Ad8:RdT encS 1 Ado (.slice Abi Aal.length Abj) Aal) (Akm:RdR (Abx 54) Ail (.slice Afc a1.length Afe) a1) (hG:GlP G),Ct Tryz.prog 111 #[pt b0,.slice Afc a1.length Afe] [bk b0 #[Aad,Aae,Aaf,.slice Aa4 Aah.length Aa5,.slice Acu Aa9.length Acv,Aau,.slice Aaz Aai.length Aa0,Aag,Aax,Aay,.slice Abi Aal.length Abj,Aar] 66,Ade] [Afk,Afd,Ado,Ail,G] (fun e l1=>∃ (H0_:Aaa) (A0_:TyO) (c0_:Nat),Aan e48 48 4 H0_ (.slice A0_ r.length c0_) r∧e=.returned (.tuple #[])∧l1=[bk b0 #[Aad,Aae,Aaf,.slice Aa4 Aah.length Aa5,.slice A0_ r.length c0_,Aau,.slice Aaz Aai.length Aa0,Aag,Aax,Aay,.slice Abi Aal.length Abj,Aar] 66,H0_])
structure GE.Good (R:GE):Prop where
 Agg:Agg.C R.Agg
 Ahn:Ahn.C R.Ahn
 Alm:Alm.C R.Alm
 Ajz:Ajz.C R.Ajz
 Ap3:Ap3.C R.Ap3
 Alp:Alp.C R.Alp
def Agg.g (Rc:GE) (k:Nat) (Aah:TyB) (Aa9:TyA) (Aai:TyC) (Aal:TyC) (Aas:Int) (Abb:ByteArray) (Aa3:Int) (Abk:Int) (Aao:List Tree):Option TyA:=cond (Aas == 1) ((Ac7.f k Aa9 3 ([])).bind fun r3=>some (r3.2)) (cond (Aas == 2) ((Ac7.f k Aa9 4 ([])).bind fun r9=>some (r9.2)) (cond (Aas == 3) ((Ac7.f k Aa9 5 ([])).bind fun r15=>some (r15.2)) (cond (Aas == 4) ((Awy.f k Aah Aa9 2 Aa3 (⟨#[]⟩:ByteArray)).bind fun r21=>some (r21)) (cond (Aas == 5) ((Awy.f k Aah Aa9 3 0 Abb).bind fun r27=>some (r27)) (cond (Aas == 6) ((A2t.f k Aal Abb).bind fun r33=>cond (decide (r33 > 0)) ((Ac7.f k Aa9 6 ([r33])).bind fun r36=>some (r36.2)) ((Awz.f k Aai Abb).bind fun r41=>(Ac7.f k Aa9 8 ([r41])).bind fun r43=>some (r43.2))) (cond (Aas == 7) ((Acz Aao 0).bind fun x49=>(cond (x49.kind == 6) (cond (x49.text.toList == (⟨#[116,97,98,108,101]⟩:ByteArray).toList) (some true) (some (x49.text.toList == (⟨#[117,116,102,56]⟩:ByteArray).toList))) (some false):Option Bool).bind fun q59=>cond q59 ((Auy x49.text (⟨#[46]⟩:ByteArray)).bind fun s61:ByteArray=>(Acz Aao 1).bind fun x62=>(Auy s61 x62.text).bind fun s74:ByteArray=>(Azm.f k s74).bind fun r75=>(Ac7.f k Aa9 10 ([r75])).bind fun r77=>some (r77.2)) ((Rc.Ahn Aah Aa9 Aai Aal Aao).bind fun r82=>(Ac7.f k r82 12 ([])).bind fun r87=>some (r87.2))) (cond (Aas == 8) ((Rc.Ajz Aah Aa9 Aai Aal Aas Abb Aa3 Abk Aao 1).bind fun r95=>some (r95)) (cond (Aas == 9) ((Acz Aao 0).bind fun x101=>(Rc.Agg Aah Aa9 Aai Aal x101.kind x101.text x101.n x101.at_ x101.kids).bind fun Bx0=>some (Bx0)) (cond (Aas == 10) ((Acz Aao 0).bind fun Bcg=>(Rc.Agg Aah Aa9 Aai Aal Bcg.kind Bcg.text Bcg.n Bcg.at_ Bcg.kids).bind fun Cfq=>(Akc.f k ([(⟨#[]⟩:ByteArray),(⟨#[110,111,116]⟩:ByteArray),(⟨#[35]⟩:ByteArray),(⟨#[45]⟩:ByteArray)]) Abb).bind fun Bgv=>(Ac7.f k Cfq 16 ([Bgv])).bind fun Bx4=>some (Bx4.2)) (cond (Aas == 11) ((Rc.Ap3 Aah Aa9 Aai Aal Aas Abb Aa3 Abk Aao).bind fun Bx6=>some (Bx6)) (cond (Aas == 12) ((Rc.Alp Aah Aa9 Aai Aal Aao).bind fun Bx7=>some (Bx7)) (some (Aa9)))))))))))))
theorem Agg.okg {Rc:GE} (hR:Rc.Good) {k:Nat}:Agg.C (Agg.g Rc k):=by
 intro Aah Aa9 r Aai Aal Aas Aa3 Abk Abb Aao b0 Aa5 Acv Aa0 Abj Ab4 Aad Aae Aaf Aau Aag Aax Aay Aar Afk Ade Afd Ado Aev G Aa4 Acu Aaz Abi Ab1 h Aew Aei Aek Ad8 Adf hG
 refine Afb (args:=[pt b0,.agg #[iv Aas,sv Abb,iv Aa3,iv Abk,.slice Ab1 Aao.length Ab4]]) Tryz.func77 rfl (Nat.le_of_ble_eq_true rfl) ?_
 intro A X hh_
 obtain ⟨Af0,Afn,Ako,Ada,Adu,_⟩:=hh_
 unfold Agg.g at h
 refine K.eq (env':=[(0,pt b0),(1,.agg #[iv Aas,sv Abb,iv Aa3,iv Abk,.slice Ab1 Aao.length Ab4])]) (l':=bk b0 #[Aad,Aae,Aaf,.slice Aa4 Aah.length Aa5,.slice Acu Aa9.length Acv,Aau,.slice Aaz Aai.length Aa0,Aag,Aax,Aay,.slice Abi Aal.length Abj,Aar] 66 :: Ade :: X) rfl rfl (ksr (knp #[iv Aas,sv Abb,iv Aa3,iv Abk,.slice Ab1 Aao.length Ab4] 54 fun b1=>(Aby (kx 1 (kld 0 0 rfl (knt (Aez (ksr (kx 2 (knt ?_))))))))))
 refine kcn h (fun h=>?_) fun h=>?_
 ·refine Ach (kx 1 (Agh (K.mv3 (K.mv3 (bnd h fun r3 hr3 h=>(kcl (Ac7.ok (b0:=b0) (Aad:=Aad) (Aae:=Aae) (Aaf:=Aaf) (Ac5:=.slice Aa4 Aah.length Aa5) (Aau:=Aau) (Adi:=.slice Aaz Aai.length Aa0) (Aag:=Aag) (Aax:=Aax) (Aay:=Aay) (Ad1:=.slice Abi Aal.length Abj) (Aar:=Aar) hr3 Aei (RdT.nil (encI .i64) 1 none_)) rfl ⟨(.head _),trivial⟩ ?_))))))
  rintro _ _ ⟨h4,A5,k6,o7,rfl,rfl⟩
  refine Acg (K.mv2 (K.drop (K.mv2 (K.drop (knl (Acx (Ae2 ?_)))))))
  obtain rfl:=Option.some.inj h
  exact kdv (.tuple #[]) [bk b0 #[Aad,Aae,Aaf,.slice Aa4 Aah.length Aa5,.slice A5 r3.2.length k6,Aau,.slice Aaz Aai.length Aa0,Aag,Aax,Aay,.slice Abi Aal.length Abj,Aar] 66,h4] (Adj ⟨h4,A5,k6,o7,rfl,rfl⟩)
 ·refine ksr (kx 2 (knt ?_))
  refine kcn h (fun h=>?_) fun h=>?_
  ·refine Ach (kx 1 (Agh (K.mv3 (K.mv3 (bnd h fun r9 hr9 h=>(kcl (Ac7.ok (b0:=b0) (Aad:=Aad) (Aae:=Aae) (Aaf:=Aaf) (Ac5:=.slice Aa4 Aah.length Aa5) (Aau:=Aau) (Adi:=.slice Aaz Aai.length Aa0) (Aag:=Aag) (Aax:=Aax) (Aay:=Aay) (Ad1:=.slice Abi Aal.length Abj) (Aar:=Aar) hr9 Aei (RdT.nil (encI .i64) 1 none_)) rfl ⟨(.head _),trivial⟩ ?_))))))
   rintro _ _ ⟨h10,A11,k12,o13,rfl,rfl⟩
   refine Acg (K.mv2 (K.drop (K.mv2 (K.drop (knl (Acx (Ae2 ?_)))))))
   obtain rfl:=Option.some.inj h
   exact kdv (.tuple #[]) [bk b0 #[Aad,Aae,Aaf,.slice Aa4 Aah.length Aa5,.slice A11 r9.2.length k12,Aau,.slice Aaz Aai.length Aa0,Aag,Aax,Aay,.slice Abi Aal.length Abj,Aar] 66,h10] (Adj ⟨h10,A11,k12,o13,rfl,rfl⟩)
  ·refine ksr (kx 2 (knt ?_))
   refine kcn h (fun h=>?_) fun h=>?_
   ·refine Ach (kx 1 (Agh (K.mv3 (K.mv3 (bnd h fun r15 Aw2 h=>(kcl (Ac7.ok (b0:=b0) (Aad:=Aad) (Aae:=Aae) (Aaf:=Aaf) (Ac5:=.slice Aa4 Aah.length Aa5) (Aau:=Aau) (Adi:=.slice Aaz Aai.length Aa0) (Aag:=Aag) (Aax:=Aax) (Aay:=Aay) (Ad1:=.slice Abi Aal.length Abj) (Aar:=Aar) Aw2 Aei (RdT.nil (encI .i64) 1 none_)) rfl ⟨(.head _),trivial⟩ ?_))))))
    rintro _ _ ⟨h16,A17,k18,o19,rfl,rfl⟩
    refine Acg (K.mv2 (K.drop (K.mv2 (K.drop (knl (Acx (Ae2 ?_)))))))
    obtain rfl:=Option.some.inj h
    exact kdv (.tuple #[]) [bk b0 #[Aad,Aae,Aaf,.slice Aa4 Aah.length Aa5,.slice A17 r15.2.length k18,Aau,.slice Aaz Aai.length Aa0,Aag,Aax,Aay,.slice Abi Aal.length Abj,Aar] 66,h16] (Adj ⟨h16,A17,k18,o19,rfl,rfl⟩)
   ·refine ksr (kx 2 (knt ?_))
    refine kcn h (fun h=>?_) fun h=>?_
    ·refine Ach (kx 2 (kld 0 2 rfl (K.drop (kx 1 (K.mv1 (K.mv1 (bnd h fun r21 Aun h=>(kcl (Awy.ok (b0:=b0) (Aad:=Aad) (Aae:=Aae) (Aaf:=Aaf) (Aau:=Aau) (Adi:=.slice Aaz Aai.length Aa0) (Aag:=Aag) (Aax:=Aax) (Aay:=Aay) (Ad1:=.slice Abi Aal.length Abj) (Aar:=Aar) Aun Aew Aei) rfl ⟨Af0,trivial⟩ ?_))))))))
     rintro _ _ ⟨h22,A23,k24,o25,rfl,rfl⟩
     refine Acg (knl (Acx (Ae2 ?_)))
     obtain rfl:=Option.some.inj h
     exact kdv (.tuple #[]) [bk b0 #[Aad,Aae,Aaf,.slice Aa4 Aah.length Aa5,.slice A23 r21.length k24,Aau,.slice Aaz Aai.length Aa0,Aag,Aax,Aay,.slice Abi Aal.length Abj,Aar] 66,h22] (Adj ⟨h22,A23,k24,o25,rfl,rfl⟩)
    ·refine ksr (kx 2 (knt ?_))
     refine kcn h (fun h=>?_) fun h=>?_
     ·refine Ach (kx 2 (kld 0 1 rfl (K.drop (kx 1 (K.mv1 (K.mv1 (bnd h fun r27 Auo h=>(kcl (Awy.ok (b0:=b0) (Aad:=Aad) (Aae:=Aae) (Aaf:=Aaf) (Aau:=Aau) (Adi:=.slice Aaz Aai.length Aa0) (Aag:=Aag) (Aax:=Aax) (Aay:=Aay) (Ad1:=.slice Abi Aal.length Abj) (Aar:=Aar) Auo Aew Aei) rfl ⟨Af0,trivial⟩ ?_))))))))
      rintro _ _ ⟨h28,A29,k30,o31,rfl,rfl⟩
      refine Acg (knl (Acx (Ae2 ?_)))
      obtain rfl:=Option.some.inj h
      exact kdv (.tuple #[]) [bk b0 #[Aad,Aae,Aaf,.slice Aa4 Aah.length Aa5,.slice A29 r27.length k30,Aau,.slice Aaz Aai.length Aa0,Aag,Aax,Aay,.slice Abi Aal.length Abj,Aar] 66,h28] (Adj ⟨h28,A29,k30,o31,rfl,rfl⟩)
     ·refine ksr (kx 2 (knt ?_))
      refine kcn h (fun h=>?_) fun h=>?_
      ·refine ksr (kx 2 (kld 0 1 rfl (K.mv1 (bnd h fun r33 Cxw h=>(kc1 (A2t.ok (b0:=b0) (Aad:=Aad) (Aae:=Aae) (Aaf:=Aaf) (Ac5:=.slice Aa4 Aah.length Aa5) (Ag6:=.slice Acu Aa9.length Acv) (Aau:=Aau) (Adi:=.slice Aaz Aai.length Aa0) (Aag:=Aag) (Aax:=Aax) (Aay:=Aay) (Aar:=Aar) Cxw Ad8) rfl ⟨(t2 Ako),trivial⟩ (kx 1 (Aby (kx 2 (knt ?_)))))))))
       refine kcn h (fun h=>?_) fun h=>?_
       ·refine Ach (kx 2 (kns #[iv r33] 3 1 fun b35=>(K.mv2 (K.drop (K.mv2 (K.mv2 (bnd h fun r36 Aw3 h=>(kcl (Ac7.ok (b0:=b0) (Aad:=Aad) (Aae:=Aae) (Aaf:=Aaf) (Ac5:=.slice Aa4 Aah.length Aa5) (Aau:=Aau) (Adi:=.slice Aaz Aai.length Aa0) (Aag:=Aag) (Aax:=Aax) (Aay:=Aay) (Ad1:=.slice Abi Aal.length Abj) (Aar:=Aar) Aw3 Aei (Aan.rd (Aan.blk 3 (Aio .i64) b35 [r33] #[iv r33] 1 (by kernel_rfl) rfl (by decide)))) rfl ⟨(.head _),trivial⟩ ?_))))))))
        rintro _ _ ⟨h37,A38,k39,o40,rfl,rfl⟩
        refine Acg (K.mv2 (K.drop (knl (Acx (Ae2 ?_)))))
        obtain rfl:=Option.some.inj h
        exact kdv (.tuple #[]) [bk b0 #[Aad,Aae,Aaf,.slice Aa4 Aah.length Aa5,.slice A38 r36.2.length k39,Aau,.slice Aaz Aai.length Aa0,Aag,Aax,Aay,.slice Abi Aal.length Abj,Aar] 66,h37] (Adj ⟨h37,A38,k39,o40,rfl,rfl⟩)
       ·refine Ach (kx 3 (kld 1 1 rfl (K.mv1 (K.drop (bnd h fun r41 A5r h=>(kc1 (Awz.ok (b0:=b0) (Aad:=Aad) (Aae:=Aae) (Aaf:=Aaf) (Ac5:=.slice Aa4 Aah.length Aa5) (Ag6:=.slice Acu Aa9.length Acv) (Aau:=Aau) (Aag:=Aag) (Aax:=Aax) (Aay:=Aay) (Ad1:=.slice Abi Aal.length Abj) (Aar:=Aar) A5r Aek) rfl ⟨(.tail _ Afn),trivial⟩ (kns #[iv r41] 3 1 fun b42=>(K.mv2 (K.mv2 (bnd h fun r43 Bte h=>?_))))))))))
        refine kcl (Ac7.ok (b0:=b0) (Aad:=Aad) (Aae:=Aae) (Aaf:=Aaf) (Ac5:=.slice Aa4 Aah.length Aa5) (Aau:=Aau) (Adi:=.slice Aaz Aai.length Aa0) (Aag:=Aag) (Aax:=Aax) (Aay:=Aay) (Ad1:=.slice Abi Aal.length Abj) (Aar:=Aar) Bte Aei (Aan.rd (Aan.blk 3 (Aio .i64) b42 [r41] #[iv r41] 1 (by kernel_rfl) rfl (by decide)))) rfl ⟨(.head _),trivial⟩ ?_
        rintro _ _ ⟨h44,A45,k46,o47,rfl,rfl⟩
        refine Acg (K.mv2 (K.drop (knl (Acx (Ae2 ?_)))))
        obtain rfl:=Option.some.inj h
        exact kdv (.tuple #[]) [bk b0 #[Aad,Aae,Aaf,.slice Aa4 Aah.length Aa5,.slice A45 r43.2.length k46,Aau,.slice Aaz Aai.length Aa0,Aag,Aax,Aay,.slice Abi Aal.length Abj,Aar] 66,h44] (Adj ⟨h44,A45,k46,o47,rfl,rfl⟩)
      ·refine ksr (kx 2 (knt ?_))
       refine kcn h (fun h=>?_) fun h=>?_
       ·refine Ac1 (ksr (kx 1 (kld 0 4 rfl (bnd h fun x49 hx49 h=>(Aht (T:=54) (kd:=.i64) (R:=(Abx 54)) rfl hx49 Adf fun p50 u53 q54 e51 y52=>?_)))))
        obtain ⟨A55,k56,rfl,o57⟩:=Ahx 54 q54
        refine keN rfl e51 (t3 Ada) (knp #[iv 0,sv noS,iv 0,iv 0,nS] 54 fun b58=>(kst 0 5 #[iv x49.kind,sv x49.text,iv x49.n,iv x49.at_,.slice A55 x49.kids.length k56] (knt (bnd h fun q59 hq59 h=>?_))))
        refine An7 [(0,pt b0),(3,pt b1),(5,pt b58),(71,bv q59)] (bk b58 #[iv x49.kind,sv x49.text,iv x49.n,iv x49.at_,.slice A55 x49.kids.length k56] 54 :: bk b1 #[iv Aas,sv Abb,iv Aa3,iv Abk,.slice Ab1 Aao.length Ab4] 54 :: bk b0 #[Aad,Aae,Aaf,.slice Aa4 Aah.length Aa5,.slice Acu Aa9.length Acv,Aau,.slice Aaz Aai.length Aa0,Aag,Aax,Aay,.slice Abi Aal.length Abj,Aar] 66 :: Ade :: X) ?_ ?_
        ·clear hq59
         refine kcn h (fun h=>?_) fun h=>?_
         ·refine Ac1 (Asu [(0,0),(1,0),(2,3),(3,0),(4,0),(5,3),(6,0),(7,0),(8,3)] [bk b58 #[iv x49.kind,sv x49.text,iv x49.n,iv x49.at_,.slice A55 x49.kids.length k56] 54,bk b1 #[iv Aas,sv Abb,iv Aa3,iv Abk,.slice Ab1 Aao.length Ab4] 54,Aev] (fun w h_=>⟨h_.sat.on _ (.head _),h_.sat.on _ (.tail _ (.head _)),h_.sat.on _ (t4 Ada),trivial⟩) (kpx 2 (kpd 0 1 rfl (bnd h fun s61 Cyq h=>(C23 rfl (by kernel_rfl) (by kernel_rfl) (by kernel_rfl) (by kernel_rfl) Cyq (kpx 1 (kpd 1 4 rfl (bnd h fun x62 Bfe h=>(Asr (T:=54) (kd:=.i64) (R:=(Abx 54)) rfl Bfe Adf fun p63 u66 q67 e64 y65=>?_)))))))))
          obtain ⟨A68,k69,rfl,o70⟩:=Ahx 54 q67
          refine Ccp (off:=1) rfl e64 y65 fun p71 e72 y73=>?_
          have e72:Elem _ p71 [sv x62.text,iv x62.n,iv x62.at_,.slice A68 x62.kids.length k69]:=e72
          refine Bu9 rfl (by kernel_rfl) (by kernel_rfl) (by kernel_rfl) (by kernel_rfl) e72 (fun w h_=>h_.mem _ (.tail _ (.tail _ (.head _)))) (kpz (bnd h fun s74 Cyr h=>(Bf2 rfl (by kernel_rfl) (by kernel_rfl) (by kernel_rfl) (by kernel_rfl) Cyr (K.drop (K.drop (bnd h fun r75 Cx9 h=>(kcv (Azm.ok Cx9 hG) ⟨(t2 Adu),trivial⟩ (kns #[iv r75] 3 1 fun b76=>(K.mv2 (K.mv2 ?_))))))))))
          refine bnd h fun r77 Cyb h=>(kcl (Ac7.ok (b0:=b0) (Aad:=Aad) (Aae:=Aae) (Aaf:=Aaf) (Ac5:=.slice Aa4 Aah.length Aa5) (Aau:=Aau) (Adi:=.slice Aaz Aai.length Aa0) (Aag:=Aag) (Aax:=Aax) (Aay:=Aay) (Ad1:=.slice Abi Aal.length Abj) (Aar:=Aar) Cyb Aei (Aan.rd (Aan.blk 3 (Aio .i64) b76 [r75] #[iv r75] 1 (by kernel_rfl) rfl (by decide)))) rfl ⟨(.head _),trivial⟩ ?_)
          rintro _ _ ⟨h78,A79,k80,o81,rfl,rfl⟩
          refine Acg (K.mv2 (K.drop (knt (Afj (Ahj (Ajk ?_))))))
          obtain rfl:=Option.some.inj h
          exact kdv (.tuple #[]) [bk b0 #[Aad,Aae,Aaf,.slice Aa4 Aah.length Aa5,.slice A79 r77.2.length k80,Aau,.slice Aaz Aai.length Aa0,Aag,Aax,Aay,.slice Abi Aal.length Abj,Aar] 66,h78] (Adj ⟨h78,A79,k80,o81,rfl,rfl⟩)
         ·refine Adv (Abr (ksr (kx 2 (kld 1 4 rfl (K.drop (K.drop (K.mv1 (K.mv1 (bnd h fun r82 Az0 h=>(kcl (hR.Ahn (b0:=b0) (Aad:=Aad) (Aae:=Aae) (Aaf:=Aaf) (Aau:=Aau) (Aag:=Aag) (Aax:=Aax) (Aay:=Aay) (Aar:=Aar) Az0 Aew Aei Aek Ad8 Adf hG) rfl ⟨Af0,Afn,Ako,Ada,Adu,trivial⟩ ?_))))))))))
          rintro _ _ ⟨h83,A84,k85,o86,rfl,rfl⟩
          refine Acg (knr (kx 1 (Agh (K.mv2 (K.mv2 (bnd h fun r87 Bt0 h=>(kcl (Ac7.ok (b0:=b0) (Aad:=Aad) (Aae:=Aae) (Aaf:=Aaf) (Ac5:=.slice Aa4 Aah.length Aa5) (Aau:=Aau) (Adi:=.slice Aaz Aai.length Aa0) (Aag:=Aag) (Aax:=Aax) (Aay:=Aay) (Ad1:=.slice Abi Aal.length Abj) (Aar:=Aar) Bt0 o86 (RdT.nil (encI .i64) 1 none_)) rfl ⟨(.head _),trivial⟩ ?_)))))))
          rintro _ _ ⟨h88,A89,k90,o91,rfl,rfl⟩
          refine Acg (K.mv2 (K.drop (knl (Acx (Ae2 ?_)))))
          obtain rfl:=Option.some.inj h
          exact kdv (.tuple #[]) [bk b0 #[Aad,Aae,Aaf,.slice Aa4 Aah.length Aa5,.slice A89 r87.2.length k90,Aau,.slice Aaz Aai.length Aa0,Aag,Aax,Aay,.slice Abi Aal.length Abj,Aar] 66,h88] (Adj ⟨h88,A89,k90,o91,rfl,rfl⟩)
        ·have h:=hq59
         clear hq59
         refine Ach (kx 1 (kld 0 0 rfl (kx 2 ?_)))
         refine kcs 62 h (fun h=>?_) fun h=>?_
         ·refine kx 1 (kld 0 1 rfl (kx 2 ?_))
          refine kcs 66 h (fun h=>?_) fun h=>?_
          ·exact kx 5 (knt (Agb ⟨gr,gr,gr,gb (Option.some.inj h),trivial⟩))
          ·exact kx 1 (kld 0 1 rfl (kx 3 (knt (Agb ⟨gr,gr,gr,gb (Option.some.inj h),trivial⟩))))
         ·exact kx 9 (knt (Agb ⟨gr,gr,gr,gb (Option.some.inj h),trivial⟩))
       ·refine ksr (kx 2 (knt ?_))
        refine kcn h (fun h=>?_) fun h=>?_
        ·refine Ach (kx 1 (kla 0 0 5 rfl (K.drop (K.mv1 (K.mv1 (bnd h fun r95 Az1 h=>(kcl (hR.Ajz (b0:=b0) (Aad:=Aad) (Aae:=Aae) (Aaf:=Aaf) (Aau:=Aau) (Aag:=Aag) (Aax:=Aax) (Aay:=Aay) (Aar:=Aar) Az1 Aew Aei Aek Ad8 Adf hG) rfl ⟨Af0,Afn,Ako,Ada,Adu,trivial⟩ ?_)))))))
         rintro _ _ ⟨h96,A97,k98,o99,rfl,rfl⟩
         refine Acg (knl (Acx (Ae2 ?_)))
         obtain rfl:=Option.some.inj h
         exact kdv (.tuple #[]) [bk b0 #[Aad,Aae,Aaf,.slice Aa4 Aah.length Aa5,.slice A97 r95.length k98,Aau,.slice Aaz Aai.length Aa0,Aag,Aax,Aay,.slice Abi Aal.length Abj,Aar] 66,h96] (Adj ⟨h96,A97,k98,o99,rfl,rfl⟩)
        ·refine ksr (kx 2 (knt ?_))
         refine kcn h (fun h=>?_) fun h=>?_
         ·refine Ach (kx 2 (kld 0 4 rfl (K.drop (bnd h fun x101 hx101 h=>(Aht (T:=54) (kd:=.i64) (R:=(Abx 54)) rfl hx101 Adf fun Dib u105 C9x Coo y104=>?_)))))
          obtain ⟨Cjr,C1h,rfl,Bv4⟩:=Ahx 54 C9x
          refine keN rfl Coo (t2 Ada) (K.mv1 (K.mv1 (bnd h fun Bx0 Cv1 h=>(kcl (hR.Agg (b0:=b0) (Aad:=Aad) (Aae:=Aae) (Aaf:=Aaf) (Aau:=Aau) (Aag:=Aag) (Aax:=Aax) (Aay:=Aay) (Aar:=Aar) Cv1 Aew Aei Aek Ad8 Bv4 hG) rfl ⟨Af0,Afn,Ako,Ada,Adu,trivial⟩ ?_))))
          rintro _ _ ⟨B6q,B0o,B9j,C5c,rfl,rfl⟩
          refine Acg (knl (Acx (Ae2 ?_)))
          obtain rfl:=Option.some.inj h
          exact kdv (.tuple #[]) [bk b0 #[Aad,Aae,Aaf,.slice Aa4 Aah.length Aa5,.slice B0o Bx0.length B9j,Aau,.slice Aaz Aai.length Aa0,Aag,Aax,Aay,.slice Abi Aal.length Abj,Aar] 66,B6q] (Adj ⟨B6q,B0o,B9j,C5c,rfl,rfl⟩)
         ·refine ksr (kx 2 (knt ?_))
          refine kcn h (fun h=>?_) fun h=>?_
          ·refine ksr (kx 2 (kld 0 4 rfl (bnd h fun Bcg Cy4 h=>(Aht (T:=54) (kd:=.i64) (R:=(Abx 54)) rfl Cy4 Adf fun Dil Djc C92 e118 Dj3=>?_))))
           obtain ⟨B0t,B9n,rfl,Bv9⟩:=Ahx 54 C92
           refine keN rfl e118 (t3 Ada) (K.mv2 (K.mv2 (bnd h fun Cfq Cv6 h=>(kcl (hR.Agg (b0:=b0) (Aad:=Aad) (Aae:=Aae) (Aaf:=Aaf) (Aau:=Aau) (Aag:=Aag) (Aax:=Aax) (Aay:=Aay) (Aar:=Aar) Cv6 Aew Aei Aek Ad8 Bv9 hG) rfl ⟨(.tail _ Af0),(.tail _ Afn),(.tail _ Ako),(.tail _ Ada),(.tail _ Adu),trivial⟩ ?_))))
           rintro _ _ ⟨Dfn,Dd7,Dha,C5p,rfl,rfl⟩
           refine Acg (knr (kx 1 (kns #[sv noS,sv (⟨#[110,111,116]⟩:ByteArray),sv (⟨#[35]⟩:ByteArray),sv (⟨#[45]⟩:ByteArray)] 9 4 fun Clj=>(kx 1 (kld 3 1 rfl (K.mv3 (K.drop (bnd h fun Bgv Cv8 h=>(kcv (Akc.ok Cv8 (Aan.rd (Aan.blk 9 Asj Clj [(⟨#[]⟩:ByteArray),(⟨#[110,111,116]⟩:ByteArray),(⟨#[35]⟩:ByteArray),(⟨#[45]⟩:ByteArray)] #[sv noS,sv (⟨#[110,111,116]⟩:ByteArray),sv (⟨#[35]⟩:ByteArray),sv (⟨#[45]⟩:ByteArray)] 4 (by kernel_rfl) rfl (by decide)))) ⟨(.head _),trivial⟩ (K.drop ?_))))))))))
           refine kns #[iv Bgv] 3 1 fun Clk=>(K.mv2 (K.mv2 (bnd h fun Bx4 Cwa h=>(kcl (Ac7.ok (b0:=b0) (Aad:=Aad) (Aae:=Aae) (Aaf:=Aaf) (Ac5:=.slice Aa4 Aah.length Aa5) (Aau:=Aau) (Adi:=.slice Aaz Aai.length Aa0) (Aag:=Aag) (Aax:=Aax) (Aay:=Aay) (Ad1:=.slice Abi Aal.length Abj) (Aar:=Aar) Cwa C5p (Aan.rd (Aan.blk 3 (Aio .i64) Clk [Bgv] #[iv Bgv] 1 (by kernel_rfl) rfl (by decide)))) rfl ⟨(.head _),trivial⟩ ?_))))
           rintro _ _ ⟨B6r,B00,B9p,C5v,rfl,rfl⟩
           refine Acg (K.mv2 (K.drop (knl (Acx (Ae2 ?_)))))
           obtain rfl:=Option.some.inj h
           exact kdv (.tuple #[]) [bk b0 #[Aad,Aae,Aaf,.slice Aa4 Aah.length Aa5,.slice B00 Bx4.2.length B9p,Aau,.slice Aaz Aai.length Aa0,Aag,Aax,Aay,.slice Abi Aal.length Abj,Aar] 66,B6r] (Adj ⟨B6r,B00,B9p,C5v,rfl,rfl⟩)
          ·refine ksr (kx 2 (knt ?_))
           refine kcn h (fun h=>?_) fun h=>?_
           ·refine Ach (kx 1 (kla 0 0 5 rfl (K.drop (K.mv1 (K.mv1 (bnd h fun Bx6 Cwh h=>(kcl (hR.Ap3 (b0:=b0) (Aad:=Aad) (Aae:=Aae) (Aaf:=Aaf) (Aau:=Aau) (Aag:=Aag) (Aax:=Aax) (Aay:=Aay) (Aar:=Aar) Cwh Aew Aei Aek Ad8 Adf hG) rfl ⟨Af0,Afn,Ako,Ada,Adu,trivial⟩ ?_)))))))
            rintro _ _ ⟨B6s,B02,B9q,C5y,rfl,rfl⟩
            refine Acg (knl (Acx (Ae2 ?_)))
            obtain rfl:=Option.some.inj h
            exact kdv (.tuple #[]) [bk b0 #[Aad,Aae,Aaf,.slice Aa4 Aah.length Aa5,.slice B02 Bx6.length B9q,Aau,.slice Aaz Aai.length Aa0,Aag,Aax,Aay,.slice Abi Aal.length Abj,Aar] 66,B6s] (Adj ⟨B6s,B02,B9q,C5y,rfl,rfl⟩)
           ·refine ksr (kx 2 (knt ?_))
            refine kcn h (fun h=>?_) fun h=>?_
            ·refine Ach (kx 2 (kld 0 4 rfl (K.drop (K.mv1 (K.mv1 (bnd h fun Bx7 Cwl h=>(kcl (hR.Alp (b0:=b0) (Aad:=Aad) (Aae:=Aae) (Aaf:=Aaf) (Aau:=Aau) (Aag:=Aag) (Aax:=Aax) (Aay:=Aay) (Aar:=Aar) Cwl Aew Aei Aek Ad8 Adf hG) rfl ⟨Af0,Afn,Ako,Ada,Adu,trivial⟩ ?_)))))))
             rintro _ _ ⟨B6u,B04,B9t,C52,rfl,rfl⟩
             refine Acg (knl (Acx (Ae2 ?_)))
             obtain rfl:=Option.some.inj h
             exact kdv (.tuple #[]) [bk b0 #[Aad,Aae,Aaf,.slice Aa4 Aah.length Aa5,.slice B04 Bx7.length B9t,Aau,.slice Aaz Aai.length Aa0,Aag,Aax,Aay,.slice Abi Aal.length Abj,Aar] 66,B6u] (Adj ⟨B6u,B04,B9t,C52,rfl,rfl⟩)
            ·refine Adv (Acx (Ae2 ?_))
             obtain rfl:=Option.some.inj h
             exact kdv (.tuple #[]) [bk b0 #[Aad,Aae,Aaf,.slice Aa4 Aah.length Aa5,.slice Acu Aa9.length Acv,Aau,.slice Aaz Aai.length Aa0,Aag,Aax,Aay,.slice Abi Aal.length Abj,Aar] 66,Ade] (K.drop (Adj ⟨Ade,Acu,Acv,Aei,rfl,rfl⟩))
def Ahn.l0:Nat→(Rc:GE)→(Aah:List (Int×Int×ByteArray))→(Aai:List ByteArray)→(Aal:List ByteArray)→(a1:List Tree)→(x1:Int)→(l2:List (Int×Int×Int×Int))→Option (List (Int×Int×Int×Int))
 | 0,_,_,_,_,_,_,_=>none
 | m7+1,Rc,Aah,Aai,Aal,a1,x1,l2=>cond (decide (x1 < ((a1.length:Nat):Int))) ((Acz a1 x1).bind fun x9=>(Rc.Agg Aah l2 Aai Aal x9.kind x9.text x9.n x9.at_ x9.kids).bind fun r19=>Ahn.l0 m7 Rc Aah Aai Aal a1 (IntKind.i64.wrap (x1+1)) r19) (some (l2))
def Ahn.g (Rc:GE) (k:Nat) (Aah:TyB) (Aa9:TyA) (Aai:TyC) (Aal:TyC) (a1:List Tree):Option TyA:=Ahn.l0 k Rc Aah Aai Aal a1 0 Aa9
theorem Ahn.okg {Rc:GE} (hR:Rc.Good) {k:Nat}:Ahn.C (Ahn.g Rc k):=by
 intro Aah Aa9 r Aai Aal a1 b0 Aa5 Acv Aa0 Abj Afe Aad Aae Aaf Aau Aag Aax Aay Aar Afk Ade Afd Ado Ail G Aa4 Acu Aaz Abi Afc h Aew Aei Aek Ad8 Akm hG
 refine Afb (args:=[pt b0,.slice Afc a1.length Afe]) Tryz.func80 rfl (Nat.le_of_ble_eq_true rfl) ?_
 intro A X hh_
 obtain ⟨Af0,Afn,Ako,Aie,Adu,_⟩:=hh_
 unfold Ahn.g at h
 refine K.eq (env':=[(0,pt b0),(1,.slice Afc a1.length Afe)]) (l':=bk b0 #[Aad,Aae,Aaf,.slice Aa4 Aah.length Aa5,.slice Acu Aa9.length Acv,Aau,.slice Aaz Aai.length Aa0,Aag,Aax,Aay,.slice Abi Aal.length Abj,Aar] 66 :: Ade :: X) rfl rfl (ksr (kx 3 (knt (Aez (Akr (τ:=Int×TyA×Aaa×TyO×Nat) (fun t=>[(0,pt b0),(6,.slice Afc a1.length Afe),(7,iv ((a1.length:Nat):Int)),(8,iv t.1)]) (fun t=>bk b0 #[Aad,Aae,Aaf,.slice Aa4 Aah.length Aa5,.slice t.2.2.2.1 t.2.1.length t.2.2.2.2,Aau,.slice Aaz Aai.length Aa0,Aag,Aax,Aay,.slice Abi Aal.length Abj,Aar] 66 :: t.2.2.1 :: X) (fun m t=>Ahn.l0 m Rc Aah Aai Aal a1 t.1 t.2.1=some r∧Aan e48 48 4 t.2.2.1 (.slice t.2.2.2.1 t.2.1.length t.2.2.2.2) t.2.1) k (0,Aa9,Ade,Acu,Acv) ⟨h,Aei⟩ sb rfl ?_)))))
 clear h
 rintro m7 ⟨x1,l2,h3,A4,k5⟩ ⟨h,o6⟩
 cases m7 with
 | zero=>simp [Ahn.l0] at h
 | succ m7 =>
  simp only [Ahn.l0] at h
  refine ksr (kx 1 (knt (Ac1 ?_)))
  refine kcn h (fun h=>?_) fun h=>?_
  ·refine Adv (Abr (Ac1 (Aez (ksr (bnd h fun x9 hx9 h=>(Aht (T:=54) (kd:=.i64) (R:=(Abx 54)) rfl hx9 Akm fun p10 u13 q14 e11 y12=>?_))))))
   obtain ⟨A15,k16,rfl,o17⟩:=Ahx 54 q14
   refine keN rfl e11 (t2 Aie) (knp #[iv 0,sv noS,iv 0,iv 0,nS] 54 fun b18=>(kst 0 5 #[iv x9.kind,sv x9.text,iv x9.n,iv x9.at_,.slice A15 x9.kids.length k16] (knr (kx 1 (kla 0 0 5 rfl (K.drop (K.mv1 (K.mv1 (bnd h fun r19 hr19 h=>(kcl (hR.Agg (b0:=b0) (Aad:=Aad) (Aae:=Aae) (Aaf:=Aaf) (Aau:=Aau) (Aag:=Aag) (Aax:=Aax) (Aay:=Aay) (Aar:=Aar) hr19 Aew o6 Aek Ad8 o17 hG) rfl ⟨Af0,Afn,Ako,Aie,Adu,trivial⟩ ?_))))))))))
   rintro _ _ ⟨h20,A21,k22,o23,rfl,rfl⟩
   exact Acg (knl (Acx (Abr (Ach (kx 2 (knt (Aiw m7 (IntKind.i64.wrap (x1+1),r19,h20,A21,k22) (Nat.lt_succ_self _) ⟨h,o23⟩ sb rfl)))))))
  ·refine Akp (Af5 (Af5 (Akq (Ae2 ?_))))
   obtain rfl:=Option.some.inj h
   exact kdv (.tuple #[]) [bk b0 #[Aad,Aae,Aaf,.slice Aa4 Aah.length Aa5,.slice A4 l2.length k5,Aau,.slice Aaz Aai.length Aa0,Aag,Aax,Aay,.slice Abi Aal.length Abj,Aar] 66,h3] (Adj ⟨h3,A4,k5,o6,rfl,rfl⟩)
def Alm.g (Rc:GE) (_k:Nat) (Aah:TyB) (Aa9:TyA) (Aai:TyC) (Aal:TyC) (a1:List Tree):Option TyA:=(cond (decide ((IntKind.i64.wrap (((a1.length:Nat):Int) - 1)) ≥ 0)) ((Acz a1 (IntKind.i64.wrap (((a1.length:Nat):Int) - 1))).bind fun x32=>some (x32.kind == 8)) (some false):Option Bool).bind fun q1=>cond q1 ((Ah4 a1 0 (IntKind.i64.wrap (((a1.length:Nat):Int) - 1))).bind fun l3=>(Rc.Ahn Aah Aa9 Aai Aal l3).bind fun r7=>(Acz a1 (IntKind.i64.wrap (((a1.length:Nat):Int) - 1))).bind fun x12=>(Rc.Ajz Aah r7 Aai Aal x12.kind x12.text x12.n x12.at_ x12.kids (-1:Int)).bind fun r21=>some (r21)) ((Rc.Ahn Aah Aa9 Aai Aal a1).bind fun r26=>some (r26))
theorem Alm.okg {Rc:GE} (hR:Rc.Good) {k:Nat}:Alm.C (Alm.g Rc k):=by
 intro Aah Aa9 r Aai Aal a1 b0 Aa5 Acv Aa0 Abj Afe Aad Aae Aaf Aau Aag Aax Aay Aar Afk Ade Afd Ado Ail G Aa4 Acu Aaz Abi Afc h Aew Aei Aek Ad8 Akm hG
 refine Afb (args:=[pt b0,.slice Afc a1.length Afe]) Tryz.func85 rfl (Nat.le_of_ble_eq_true rfl) ?_
 intro A X hh_
 obtain ⟨Af0,Afn,Ako,Aie,Adu,_⟩:=hh_
 unfold Alm.g at h
 refine K.eq (env':=[(0,pt b0),(1,.slice Afc a1.length Afe)]) (l':=bk b0 #[Aad,Aae,Aaf,.slice Aa4 Aah.length Aa5,.slice Acu Aa9.length Acv,Aau,.slice Aaz Aai.length Aa0,Aag,Aax,Aay,.slice Abi Aal.length Abj,Aar] 66 :: Ade :: X) rfl rfl (Ac1 (ksr (kx 4 (knt (bnd h fun q1 hq1 h=>?_)))))
 refine An7 [(0,pt b0),(1,.slice Afc a1.length Afe),(4,iv (IntKind.i64.wrap (((a1.length:Nat):Int) - 1))),(17,bv q1)] (bk b0 #[Aad,Aae,Aaf,.slice Aa4 Aah.length Aa5,.slice Acu Aa9.length Acv,Aau,.slice Aaz Aai.length Aa0,Aag,Aax,Aay,.slice Abi Aal.length Abj,Aar] 66 :: Ade :: X) ?_ ?_
 ·clear hq1
  refine kcn h (fun h=>?_) fun h=>?_
  ·refine ksr (kx 3 (bnd h fun l3 hl3 h=>(A6x (T:=54) (R:=(Abx 54)) (xs:=a1) 0 (IntKind.i64.wrap (((a1.length:Nat):Int) - 1)) rfl (by kernel_rfl) (by kernel_rfl) (by kernel_rfl) (.inl ⟨rfl,rfl⟩) (.inr ⟨_,.i64,rfl,(by kernel_rfl)⟩) (by kernel_rfl) (by kernel_rfl) hl3 Akm fun A4 k5 o6=>(K.mv1 (K.mv1 (bnd h fun r7 hr7 h=>(kcl (hR.Ahn (b0:=b0) (Aad:=Aad) (Aae:=Aae) (Aaf:=Aaf) (Aau:=Aau) (Aag:=Aag) (Aax:=Aax) (Aay:=Aay) (Aar:=Aar) hr7 Aew Aei Aek Ad8 o6 hG) rfl ⟨Af0,Afn,Ako,Aie,Adu,trivial⟩ ?_)))))))
   rintro _ _ ⟨h8,A9,k10,o11,rfl,rfl⟩
   refine Acg (Aby (kx 3 (bnd h fun x12 Cy5 h=>(Aht (T:=54) (kd:=.i64) (R:=(Abx 54)) rfl Cy5 Akm fun p13 u16 q17 e14 y15=>?_))))
   obtain ⟨A18,k19,rfl,o20⟩:=Ahx 54 q17
   refine keN rfl e14 (t2 Aie) (K.mv1 (K.mv1 (bnd h fun r21 Aun h=>(kcl (hR.Ajz (b0:=b0) (Aad:=Aad) (Aae:=Aae) (Aaf:=Aaf) (Aau:=Aau) (Aag:=Aag) (Aax:=Aax) (Aay:=Aay) (Aar:=Aar) Aun Aew o11 Aek Ad8 o20 hG) rfl ⟨Af0,Afn,Ako,Aie,Adu,trivial⟩ ?_))))
   rintro _ _ ⟨h22,A23,k24,o25,rfl,rfl⟩
   refine Acg (knt (Afj (Ahj ?_)))
   obtain rfl:=Option.some.inj h
   exact kdv (.tuple #[]) [bk b0 #[Aad,Aae,Aaf,.slice Aa4 Aah.length Aa5,.slice A23 r21.length k24,Aau,.slice Aaz Aai.length Aa0,Aag,Aax,Aay,.slice Abi Aal.length Abj,Aar] 66,h22] (Adj ⟨h22,A23,k24,o25,rfl,rfl⟩)
  ·refine Adv (Abr (Ach (kx 2 (K.mv1 (K.mv1 (bnd h fun r26 Azy h=>(kcl (hR.Ahn (b0:=b0) (Aad:=Aad) (Aae:=Aae) (Aaf:=Aaf) (Aau:=Aau) (Aag:=Aag) (Aax:=Aax) (Aay:=Aay) (Aar:=Aar) Azy Aew Aei Aek Ad8 Akm hG) rfl ⟨Af0,Afn,Ako,Aie,Adu,trivial⟩ ?_)))))))
   rintro _ _ ⟨h27,A28,k29,o30,rfl,rfl⟩
   refine Acg (knl (Ae2 ?_))
   obtain rfl:=Option.some.inj h
   exact kdv (.tuple #[]) [bk b0 #[Aad,Aae,Aaf,.slice Aa4 Aah.length Aa5,.slice A28 r26.length k29,Aau,.slice Aaz Aai.length Aa0,Aag,Aax,Aay,.slice Abi Aal.length Abj,Aar] 66,h27] (Adj ⟨h27,A28,k29,o30,rfl,rfl⟩)
 ·have h:=hq1
  clear hq1
  refine Ach (kx 3 ?_)
  refine kcs 10 h (fun h=>?_) fun h=>?_
  ·refine kx 2 (bnd h fun x32 hx32 h=>(Aht (T:=54) (kd:=.i64) (R:=(Abx 54)) rfl hx32 Akm fun p33 u36 q37 e34 y35=>?_))
   obtain ⟨A38,k39,rfl,o40⟩:=Ahx 54 q37
   refine An8 (off:=0) rfl e34 y35 fun p41 e42 y43=>?_
   have e42:Elem _ p41 [iv x32.kind,sv x32.text,iv x32.n,iv x32.at_,.slice A38 x32.kids.length k39]:=e42
   exact Apm rfl (by kernel_rfl) (by kernel_rfl) (by kernel_rfl) (by kernel_rfl) e42 (t2 Aie) (kx 2 (knt (Agb ⟨gr,gr,gr,gb (Option.some.inj h),trivial⟩)))
  ·exact kx 7 (knt (Agb ⟨gr,gr,gr,gb (Option.some.inj h),trivial⟩))
def Ajz.g (Rc:GE) (k:Nat) (Aah:TyB) (Aa9:TyA) (Aai:TyC) (Aal:TyC) (Aas:Int) (Abb:ByteArray) (Aa3:Int) (Abk:Int) (Aao:List Tree) (a2:Int):Option TyA:=(Acz Aao 0).bind fun x2=>(Rc.Agg Aah Aa9 Aai Aal x2.kind x2.text x2.n x2.at_ x2.kids).bind fun r11=>(Ac7.f k r11 22 ([])).bind fun r16=>(Ah4 Aao 1 ((Aao.length:Nat):Int)).bind fun l21=>(Rc.Alm Aah r16.2 Aai Aal l21).bind fun r25=>(Ac7.f k r25 24 ([a2])).bind fun r31=>some (r31.2)
theorem Ajz.okg {Rc:GE} (hR:Rc.Good) {k:Nat}:Ajz.C (Ajz.g Rc k):=by
 intro Aah Aa9 r Aai Aal Aas Aa3 Abk a2 Abb Aao b0 Aa5 Acv Aa0 Abj Ab4 Aad Aae Aaf Aau Aag Aax Aay Aar Afk Ade Afd Ado Aev G Aa4 Acu Aaz Abi Ab1 h Aew Aei Aek Ad8 Adf hG
 refine Afb (args:=[pt b0,.agg #[iv Aas,sv Abb,iv Aa3,iv Abk,.slice Ab1 Aao.length Ab4],iv a2]) Tryz.func74 rfl (Nat.le_of_ble_eq_true rfl) ?_
 intro A X hh_
 obtain ⟨Af0,Afn,Ako,Ada,Adu,_⟩:=hh_
 unfold Ajz.g at h
 refine K.eq (env':=[(0,pt b0),(1,.agg #[iv Aas,sv Abb,iv Aa3,iv Abk,.slice Ab1 Aao.length Ab4]),(2,iv a2)]) (l':=bk b0 #[Aad,Aae,Aaf,.slice Aa4 Aah.length Aa5,.slice Acu Aa9.length Acv,Aau,.slice Aaz Aai.length Aa0,Aag,Aax,Aay,.slice Abi Aal.length Abj,Aar] 66 :: Ade :: X) rfl rfl (ksr (knp #[iv Aas,sv Abb,iv Aa3,iv Abk,.slice Ab1 Aao.length Ab4] 54 fun b1=>(Aby (kx 2 (kld 0 4 rfl (bnd h fun x2 hx2 h=>(Aht (T:=54) (kd:=.i64) (R:=(Abx 54)) rfl hx2 Adf fun p3 u6 q7 e4 y5=>?_)))))))
 obtain ⟨A8,k9,rfl,o10⟩:=Ahx 54 q7
 refine keN rfl e4 (t3 Ada) (K.mv2 (K.mv2 (bnd h fun r11 A5f h=>(kcl (hR.Agg (b0:=b0) (Aad:=Aad) (Aae:=Aae) (Aaf:=Aaf) (Aau:=Aau) (Aag:=Aag) (Aax:=Aax) (Aay:=Aay) (Aar:=Aar) A5f Aew Aei Aek Ad8 o10 hG) rfl ⟨(.tail _ Af0),(.tail _ Afn),(.tail _ Ako),(.tail _ Ada),(.tail _ Adu),trivial⟩ ?_))))
 rintro _ _ ⟨h12,A13,k14,o15,rfl,rfl⟩
 refine Acg (Aby (kx 1 (Agh (K.mv2 (K.mv2 (bnd h fun r16 Auk h=>(kcl (Ac7.ok (b0:=b0) (Aad:=Aad) (Aae:=Aae) (Aaf:=Aaf) (Ac5:=.slice Aa4 Aah.length Aa5) (Aau:=Aau) (Adi:=.slice Aaz Aai.length Aa0) (Aag:=Aag) (Aax:=Aax) (Aay:=Aay) (Ad1:=.slice Abi Aal.length Abj) (Aar:=Aar) Auk o15 (RdT.nil (encI .i64) 1 none_)) rfl ⟨(.head _),trivial⟩ ?_)))))))
 rintro _ _ ⟨h17,A18,k19,o20,rfl,rfl⟩
 refine Acg (K.mv2 (K.drop (Aby (kx 2 (kld 2 4 rfl (K.mv2 (K.drop (bnd h fun l21 Brz h=>(A6x (T:=54) (R:=(Abx 54)) (xs:=Aao) 1 ((Aao.length:Nat):Int) rfl (by kernel_rfl) (by kernel_rfl) (by kernel_rfl) (.inr ⟨_,.i64,rfl,(by kernel_rfl)⟩) (.inl ⟨rfl,rfl⟩) (by kernel_rfl) (by kernel_rfl) Brz Adf fun A22 k23 o24=>(K.mv1 ?_))))))))))
 refine K.mv1 (bnd h fun r25 Beu h=>(kcl (hR.Alm (b0:=b0) (Aad:=Aad) (Aae:=Aae) (Aaf:=Aaf) (Aau:=Aau) (Aag:=Aag) (Aax:=Aax) (Aay:=Aay) (Aar:=Aar) Beu Aew o20 Aek Ad8 o24 hG) rfl ⟨Af0,Afn,Ako,Ada,Adu,trivial⟩ ?_))
 rintro _ _ ⟨h26,A27,k28,o29,rfl,rfl⟩
 refine Acg (knr (kx 2 (kns #[iv a2] 3 1 fun b30=>(K.mv2 (K.mv2 (bnd h fun r31 Btb h=>(kcl (Ac7.ok (b0:=b0) (Aad:=Aad) (Aae:=Aae) (Aaf:=Aaf) (Ac5:=.slice Aa4 Aah.length Aa5) (Aau:=Aau) (Adi:=.slice Aaz Aai.length Aa0) (Aag:=Aag) (Aax:=Aax) (Aay:=Aay) (Ad1:=.slice Abi Aal.length Abj) (Aar:=Aar) Btb o29 (Aan.rd (Aan.blk 3 (Aio .i64) b30 [a2] #[iv a2] 1 (by kernel_rfl) rfl (by decide)))) rfl ⟨(.head _),trivial⟩ ?_)))))))
 rintro _ _ ⟨h32,A33,k34,o35,rfl,rfl⟩
 refine Acg (K.mv2 (K.drop (knl (Ae2 ?_))))
 obtain rfl:=Option.some.inj h
 exact kdv (.tuple #[]) [bk b0 #[Aad,Aae,Aaf,.slice Aa4 Aah.length Aa5,.slice A33 r31.2.length k34,Aau,.slice Aaz Aai.length Aa0,Aag,Aax,Aay,.slice Abi Aal.length Abj,Aar] 66,h32] (Adj ⟨h32,A33,k34,o35,rfl,rfl⟩)
def Ap3.g (Rc:GE) (k:Nat) (Aah:TyB) (Aa9:TyA) (Aai:TyC) (Aal:TyC) (Aas:Int) (Abb:ByteArray) (Aa3:Int) (Abk:Int) (Aao:List Tree):Option TyA:=(Acz Aao 0).bind fun x2=>(Rc.Agg Aah Aa9 Aai Aal x2.kind x2.text x2.n x2.at_ x2.kids).bind fun r11=>(Akc.f k ([(⟨#[]⟩:ByteArray),(⟨#[43]⟩:ByteArray),(⟨#[45]⟩:ByteArray),(⟨#[42]⟩:ByteArray),(⟨#[47,47]⟩:ByteArray),(⟨#[37]⟩:ByteArray),(⟨#[46,46]⟩:ByteArray),(⟨#[61,61]⟩:ByteArray),(⟨#[126,61]⟩:ByteArray),(⟨#[60]⟩:ByteArray),(⟨#[60,61]⟩:ByteArray),(⟨#[62]⟩:ByteArray),(⟨#[62,61]⟩:ByteArray)]) Abb).bind fun r17=>cond (decide (r17 > 0)) ((Acz Aao 1).bind fun x19=>(Rc.Agg Aah r11 Aai Aal x19.kind x19.text x19.n x19.at_ x19.kids).bind fun r28=>(Ac7.f k r28 17 ([r17])).bind fun r34=>some (r34.2)) (Adg (fun (x39:Int)=>(Ac7.f k r11 x39 ([])).bind fun r41=>(Acz Aao 1).bind fun x46=>(Rc.Agg Aah r41.2 Aai Aal x46.kind x46.text x46.n x46.at_ x46.kids).bind fun r55=>(Aj0.f k r55).bind fun r60=>(Acz r55 r41.1).bind fun x61=>(Aj3 r55 r41.1 (x61.1,r60,x61.2.2.1,x61.2.2.2)).bind fun l68=>some (l68)) (fun J40=>cond (Abb.toList == (⟨#[111,114]⟩:ByteArray).toList) (J40 21) (J40 20)))
theorem Ap3.okg {Rc:GE} (hR:Rc.Good) {k:Nat}:Ap3.C (Ap3.g Rc k):=by
 intro Aah Aa9 r Aai Aal Aas Aa3 Abk Abb Aao b0 Aa5 Acv Aa0 Abj Ab4 Aad Aae Aaf Aau Aag Aax Aay Aar Afk Ade Afd Ado Aev G Aa4 Acu Aaz Abi Ab1 h Aew Aei Aek Ad8 Adf hG
 refine Afb (args:=[pt b0,.agg #[iv Aas,sv Abb,iv Aa3,iv Abk,.slice Ab1 Aao.length Ab4]]) Tryz.func110 rfl (Nat.le_of_ble_eq_true rfl) ?_
 intro A X hh_
 obtain ⟨Af0,Afn,Ako,Ada,Adu,_⟩:=hh_
 unfold Ap3.g at h
 refine K.eq (env':=[(0,pt b0),(1,.agg #[iv Aas,sv Abb,iv Aa3,iv Abk,.slice Ab1 Aao.length Ab4])]) (l':=bk b0 #[Aad,Aae,Aaf,.slice Aa4 Aah.length Aa5,.slice Acu Aa9.length Acv,Aau,.slice Aaz Aai.length Aa0,Aag,Aax,Aay,.slice Abi Aal.length Abj,Aar] 66 :: Ade :: X) rfl rfl (ksr (knp #[iv Aas,sv Abb,iv Aa3,iv Abk,.slice Ab1 Aao.length Ab4] 54 fun b1=>(Aby (kx 2 (kld 0 4 rfl (bnd h fun x2 hx2 h=>(Aht (T:=54) (kd:=.i64) (R:=(Abx 54)) rfl hx2 Adf fun p3 u6 q7 e4 y5=>?_)))))))
 obtain ⟨A8,k9,rfl,o10⟩:=Ahx 54 q7
 refine keN rfl e4 (t3 Ada) (K.mv2 (K.mv2 (bnd h fun r11 A5f h=>(kcl (hR.Agg (b0:=b0) (Aad:=Aad) (Aae:=Aae) (Aaf:=Aaf) (Aau:=Aau) (Aag:=Aag) (Aax:=Aax) (Aay:=Aay) (Aar:=Aar) A5f Aew Aei Aek Ad8 o10 hG) rfl ⟨(.tail _ Af0),(.tail _ Afn),(.tail _ Ako),(.tail _ Ada),(.tail _ Adu),trivial⟩ ?_))))
 rintro _ _ ⟨h12,A13,k14,o15,rfl,rfl⟩
 refine Acg (Aby (kns #[sv noS,sv (⟨#[43]⟩:ByteArray),sv (⟨#[45]⟩:ByteArray),sv (⟨#[42]⟩:ByteArray),sv (⟨#[47,47]⟩:ByteArray),sv (⟨#[37]⟩:ByteArray),sv (⟨#[46,46]⟩:ByteArray),sv (⟨#[61,61]⟩:ByteArray),sv (⟨#[126,61]⟩:ByteArray),sv (⟨#[60]⟩:ByteArray),sv (⟨#[60,61]⟩:ByteArray),sv (⟨#[62]⟩:ByteArray),sv (⟨#[62,61]⟩:ByteArray)] 9 13 fun b16=>(kx 1 (kld 3 1 rfl (bnd h fun r17 Aul h=>(kcv (Akc.ok Aul (Aan.rd (Aan.blk 9 Asj b16 [(⟨#[]⟩:ByteArray),(⟨#[43]⟩:ByteArray),(⟨#[45]⟩:ByteArray),(⟨#[42]⟩:ByteArray),(⟨#[47,47]⟩:ByteArray),(⟨#[37]⟩:ByteArray),(⟨#[46,46]⟩:ByteArray),(⟨#[61,61]⟩:ByteArray),(⟨#[126,61]⟩:ByteArray),(⟨#[60]⟩:ByteArray),(⟨#[60,61]⟩:ByteArray),(⟨#[62]⟩:ByteArray),(⟨#[62,61]⟩:ByteArray)] #[sv noS,sv (⟨#[43]⟩:ByteArray),sv (⟨#[45]⟩:ByteArray),sv (⟨#[42]⟩:ByteArray),sv (⟨#[47,47]⟩:ByteArray),sv (⟨#[37]⟩:ByteArray),sv (⟨#[46,46]⟩:ByteArray),sv (⟨#[61,61]⟩:ByteArray),sv (⟨#[126,61]⟩:ByteArray),sv (⟨#[60]⟩:ByteArray),sv (⟨#[60,61]⟩:ByteArray),sv (⟨#[62]⟩:ByteArray),sv (⟨#[62,61]⟩:ByteArray)] 13 (by kernel_rfl) rfl (by decide)))) ⟨(.head _),trivial⟩ (K.drop (kx 1 (knt (Ac1 ?_))))))))))
 refine ksr (kx 2 (knt ?_))
 refine kcn h (fun h=>?_) fun h=>?_
 ·refine ksr (kx 2 (kld 2 4 rfl (K.mv2 (K.drop (bnd h fun x19 Czk h=>(Aht (T:=54) (kd:=.i64) (R:=(Abx 54)) rfl Czk Adf fun p20 u23 q24 e21 y22=>?_))))))
  obtain ⟨A25,k26,rfl,o27⟩:=Ahx 54 q24
  refine keN rfl e21 (t2 Ada) (K.mv1 (K.mv1 (bnd h fun r28 Bex h=>(kcl (hR.Agg (b0:=b0) (Aad:=Aad) (Aae:=Aae) (Aaf:=Aaf) (Aau:=Aau) (Aag:=Aag) (Aax:=Aax) (Aay:=Aay) (Aar:=Aar) Bex Aew o15 Aek Ad8 o27 hG) rfl ⟨Af0,Afn,Ako,Ada,Adu,trivial⟩ ?_))))
  rintro _ _ ⟨h29,A30,k31,o32,rfl,rfl⟩
  refine Acg (Aby (kx 2 (kns #[iv r17] 3 1 fun b33=>(K.mv2 (K.mv2 (bnd h fun r34 Btc h=>(kcl (Ac7.ok (b0:=b0) (Aad:=Aad) (Aae:=Aae) (Aaf:=Aaf) (Ac5:=.slice Aa4 Aah.length Aa5) (Aau:=Aau) (Adi:=.slice Aaz Aai.length Aa0) (Aag:=Aag) (Aax:=Aax) (Aay:=Aay) (Ad1:=.slice Abi Aal.length Abj) (Aar:=Aar) Btc o32 (Aan.rd (Aan.blk 3 (Aio .i64) b33 [r17] #[iv r17] 1 (by kernel_rfl) rfl (by decide)))) rfl ⟨(.head _),trivial⟩ ?_)))))))
  rintro _ _ ⟨h35,A36,k37,o38,rfl,rfl⟩
  refine Acg (K.mv2 (K.drop (knt (Afj (Ahj ?_)))))
  obtain rfl:=Option.some.inj h
  exact kdv (.tuple #[]) [bk b0 #[Aad,Aae,Aaf,.slice Aa4 Aah.length Aa5,.slice A36 r34.2.length k37,Aau,.slice Aaz Aai.length Aa0,Aag,Aax,Aay,.slice Abi Aal.length Abj,Aar] 66,h35] (Adj ⟨h35,A36,k37,o38,rfl,rfl⟩)
 ·refine Adv (Abr (ksr (kx 1 (knt ?_))))
  obtain ⟨J40,Brr,h⟩:=Agm h
  refine Agn (τ:=Int) (fun t=>[(0,pt b0),(3,pt b1),(5,iv t)]) (fun t=>bk b0 #[Aad,Aae,Aaf,.slice Aa4 Aah.length Aa5,.slice A13 r11.length k14,Aau,.slice Aaz Aai.length Aa0,Aag,Aax,Aay,.slice Abi Aal.length Abj,Aar] 66 :: h12 :: bk b1 #[iv Aas,sv Abb,iv Aa3,iv Abk,.slice Ab1 Aao.length Ab4] 54 :: X) (fun t=>J40 t=some r) ?_ ?_
  ·rintro x39 h
   subst Brr
   refine ksr (kx 2 (Agh (K.mv2 (K.mv2 (bnd h fun r41 A5r h=>(kcl (Ac7.ok (b0:=b0) (Aad:=Aad) (Aae:=Aae) (Aaf:=Aaf) (Ac5:=.slice Aa4 Aah.length Aa5) (Aau:=Aau) (Adi:=.slice Aaz Aai.length Aa0) (Aag:=Aag) (Aax:=Aax) (Aay:=Aay) (Ad1:=.slice Abi Aal.length Abj) (Aar:=Aar) A5r o15 (RdT.nil (encI .i64) 1 none_)) rfl ⟨(.head _),trivial⟩ ?_))))))
   rintro _ _ ⟨h42,A43,k44,o45,rfl,rfl⟩
   refine Acg (K.mv2 (K.drop (kx 1 (Aby (kx 2 (kld 2 4 rfl (K.mv2 (K.drop (bnd h fun x46 Cz3 h=>(Aht (T:=54) (kd:=.i64) (R:=(Abx 54)) rfl Cz3 Adf fun p47 u50 q51 e48 y49=>?_))))))))))
   obtain ⟨A52,k53,rfl,o54⟩:=Ahx 54 q51
   refine keN rfl e48 (t2 Ada) (K.mv1 (K.mv1 (bnd h fun r55 Be1 h=>(kcl (hR.Agg (b0:=b0) (Aad:=Aad) (Aae:=Aae) (Aaf:=Aaf) (Aau:=Aau) (Aag:=Aag) (Aax:=Aax) (Aay:=Aay) (Aar:=Aar) Be1 Aew o45 Aek Ad8 o54 hG) rfl ⟨Af0,Afn,Ako,Ada,Adu,trivial⟩ ?_))))
   rintro _ _ ⟨h56,A57,k58,o59,rfl,rfl⟩
   refine Acg (knt (kpr [(0,0),(1,0),(2,0),(3,0),(4,3),(5,0),(6,0),(7,1)] [0] (kpx 4 (kpd 0 4 rfl (kpx 2 (kpt (bnd h fun r60 A5w h=>(oc1 (Aj0.ok (b0:=b0) (Aad:=Aad) (Aae:=Aae) (Aaf:=Aaf) (Ac5:=.slice Aa4 Aah.length Aa5) (Aau:=Aau) (Adi:=.slice Aaz Aai.length Aa0) (Aag:=Aag) (Aax:=Aax) (Aay:=Aay) (Ad1:=.slice Abi Aal.length Abj) (Aar:=Aar) A5w (Aan.rd o59)) rfl ⟨(.head _),trivial⟩ (kan [0] rfl (kpz ?_))))))))))
   refine bnd h fun x61 B8n h=>(Ano (T:=48) (kd:=.i64) Ak5 rfl B8n (Aan.rd o59) fun p62 e63 y64=>?_)
   have e63:Elem _ p62 [iv x61.1,iv x61.2.1,iv x61.2.2.1,iv x61.2.2.2]:=e63
   refine An8 (off:=1) rfl e63 y64 fun p65 e66 y67=>?_
   have e66:Elem _ p65 [iv x61.2.1,iv x61.2.2.1,iv x61.2.2.2]:=e66
   refine K.mv1 (bnd h fun l68 B8a h=>(Aw6 (v:=iv r60) (off:=1) (x':=(x61.1,r60,x61.2.2.1,x61.2.2.2)) Ak5 rfl (by kernel_rfl) (by kernel_rfl) (by kernel_rfl) (by kernel_rfl) (by kernel_rfl) y67 o59 B8n (by kernel_rfl) (by kernel_rfl) B8a fun h69 o70=>?_))
   have g71:=Aq8 B8a
   refine K.weak (env':=[(48,iv r60)]) ?_ ⟨gr,trivial⟩
   refine K.eq (l':=h69 :: bk b0 #[Aad,Aae,Aaf,.slice Aa4 Aah.length Aa5,.slice A57 l68.length k58,Aau,.slice Aaz Aai.length Aa0,Aag,Aax,Aay,.slice Abi Aal.length Abj,Aar] 66 :: X) rfl (by first | rfl | (rw [g71];first | done | rfl)) (knl (Ae2 ?_))
   obtain rfl:=Option.some.inj h
   exact kdv (.tuple #[]) [bk b0 #[Aad,Aae,Aaf,.slice Aa4 Aah.length Aa5,.slice A57 l68.length k58,Aau,.slice Aaz Aai.length Aa0,Aag,Aax,Aay,.slice Abi Aal.length Abj,Aar] 66,h69] (K.mv1 (Adj ⟨h69,A57,k58,o70,rfl,rfl⟩))
  ·skip
   refine ksr (kx 1 (kld 2 1 rfl (kx 1 (knt ?_))))
   refine kcn h (fun h=>?_) fun h=>?_
   ·exact Ach (kx 1 (knt (Adb 21 h sb rfl)))
   ·exact Adv (Abr (Adb 20 h sb rfl))
def Alp.l0:Nat→(Rc:GE)→(Aah:TyB)→(Aai:TyC)→(Aal:TyC)→(a1:List Tree)→(q2:Bool)→(J19:Int→Int→Int→Int→TyA→Option TyA)→(x47:Int)→(x48:Int)→(x49:Int)→(x50:Int)→(x51:Int)→(l52:TyA)→Option TyA
 | 0,_,_,_,_,_,_,_,_,_,_,_,_,_=>none
 | m57+1,Rc,Aah,Aai,Aal,a1,q2,J19,x47,x48,x49,x50,x51,l52=>cond (decide (x49 < ((a1.length:Nat):Int))) (Adg (fun (x59:Int) (x60:Int) (x61:Int) (x62:Int) (l63:TyA)=>Alp.l0 m57 Rc Aah Aai Aal a1 q2 J19 x59 x60 (IntKind.i64.wrap (x49+1)) x61 x62 l63) (fun J68=>(Acz a1 x49).bind fun x69=>cond (x69.kind == 14) ((Rc.Ahn Aah l52 Aai Aal x69.kids).bind fun r80=>(Ac7.f m57 r80 27 ([x51])).bind fun r86=>J68 x47 (IntKind.i64.wrap (x48+1)) x50 x51 r86.2) ((cond q2 (some (x49 == (IntKind.i64.wrap (((a1.length:Nat):Int) - 1)))) (some false):Option Bool).bind fun q91=>cond q91 ((Au9.f m57 x51 l52 x50).bind fun r93=>(Ac7.f m57 r93.2.1 22 ([])).bind fun r98=>(Acz x69.kids 0).bind fun x103=>(Rc.Ajz Aah r98.2 Aai Aal x103.kind x103.text x103.n x103.at_ x103.kids (-1:Int)).bind fun Cfp=>(Ac7.f m57 Cfp 29 ([r93.2.2])).bind fun Bx2=>J68 x47 x48 r93.2.2 r93.1 Bx2.2) ((Acz x69.kids 0).bind fun Bch=>(Rc.Agg Aah l52 Aai Aal Bch.kind Bch.text Bch.n Bch.at_ Bch.kids).bind fun Bm2=>cond ((IntKind.i64.wrap (x51+1)) == 50) ((Au9.f m57 (IntKind.i64.wrap (x51+1)) Bm2 x50).bind fun A8a=>J68 (IntKind.i64.wrap (x47+1)) x48 A8a.2.2 A8a.1 A8a.2.1) (J68 (IntKind.i64.wrap (x47+1)) x48 x50 (IntKind.i64.wrap (x51+1)) Bm2))))) (J19 x47 x48 x50 x51 l52)
def Alp.g (Rc:GE) (k:Nat) (Aah:TyB) (Aa9:TyA) (Aai:TyC) (Aal:TyC) (a1:List Tree):Option TyA:=(cond (decide (((a1.length:Nat):Int) > 0)) ((Acz a1 (IntKind.i64.wrap (((a1.length:Nat):Int) - 1))).bind fun A1n=>cond (A1n.kind == 13) ((Acz a1 (IntKind.i64.wrap (((a1.length:Nat):Int) - 1))).bind fun x158=>(Acz x158.kids 0).bind fun A1s=>some (A1s.kind == 8)) (some false)) (some false):Option Bool).bind fun q2=>(Ac7.f k Aa9 26 ([])).bind fun r3=>Adg (fun (x10:Int) (x11:Int) (x12:Int) (x13:Int) (l14:TyA)=>(Au9.f k x13 l14 x12).bind fun r20=>(Acz r20.2.1 r3.1).bind fun x25=>(Aj3 r20.2.1 r3.1 (x25.1,x10,x25.2.2.1,x25.2.2.2)).bind fun l32=>(Acz l32 r3.1).bind fun x36=>(Aj3 l32 r3.1 (x36.1,x36.2.1,x11,x36.2.2.2)).bind fun l43=>some (l43)) (fun J19=>Alp.l0 k Rc Aah Aai Aal a1 q2 J19 0 0 0 1 0 r3.2)
theorem Alp.okg {Rc:GE} (hR:Rc.Good) {k:Nat}:Alp.C (Alp.g Rc k):=by
 intro Aah Aa9 r Aai Aal a1 b0 Aa5 Acv Aa0 Abj Afe Aad Aae Aaf Aau Aag Aax Aay Aar Afk Ade Afd Ado Ail G Aa4 Acu Aaz Abi Afc h Aew Aei Aek Ad8 Akm hG
 refine Afb (args:=[pt b0,.slice Afc a1.length Afe]) Tryz.func111 rfl (Nat.le_of_ble_eq_true rfl) ?_
 intro A X hh_
 obtain ⟨Af0,Afn,Ako,Aie,Adu,_⟩:=hh_
 unfold Alp.g at h
 refine K.eq (env':=[(0,pt b0),(1,.slice Afc a1.length Afe)]) (l':=bk b0 #[Aad,Aae,Aaf,.slice Aa4 Aah.length Aa5,.slice Acu Aa9.length Acv,Aau,.slice Aaz Aai.length Aa0,Aag,Aax,Aay,.slice Abi Aal.length Abj,Aar] 66 :: Ade :: X) rfl rfl (ksr (knp #[pt b0] 61 fun b1=>(knt (bnd h fun q2 hq2 h=>?_))))
 refine An7 [(1,.slice Afc a1.length Afe),(2,pt b1),(4,bv q2)] (bk b1 #[pt b0] 61 :: bk b0 #[Aad,Aae,Aaf,.slice Aa4 Aah.length Aa5,.slice Acu Aa9.length Acv,Aau,.slice Aaz Aai.length Aa0,Aag,Aax,Aay,.slice Abi Aal.length Abj,Aar] 66 :: Ade :: X) ?_ ?_
 ·clear hq2
  refine ksr (kld 0 0 rfl (Agh (K.mv3 (K.mv3 (bnd h fun r3 hr3 h=>(kcl (Ac7.ok (b0:=b0) (Aad:=Aad) (Aae:=Aae) (Aaf:=Aaf) (Ac5:=.slice Aa4 Aah.length Aa5) (Aau:=Aau) (Adi:=.slice Aaz Aai.length Aa0) (Aag:=Aag) (Aax:=Aax) (Aay:=Aay) (Ad1:=.slice Abi Aal.length Abj) (Aar:=Aar) hr3 Aei (RdT.nil (encI .i64) 1 none_)) rfl ⟨(.head _),trivial⟩ ?_))))))
  rintro _ _ ⟨h4,A5,k6,o7,rfl,rfl⟩
  refine Acg (K.mv2 (K.drop (kx 3 (Aby (knp #[iv 0] 3 fun b8=>(knp #[iv 0] 3 fun b9=>(K.mv1 (kst 0 1 #[iv 0] (K.mv1 (kst 0 1 #[iv 1] ?_))))))))))
  refine Aby (kx 2 (knt ?_))
  obtain ⟨J19,Brm,h⟩:=Agm h
  refine Agn (τ:=Int×Int×Int×Int×TyA×Aaa×TyO×Nat) (fun t=>[(2,pt b1),(5,iv r3.1),(6,iv t.1),(7,iv t.2.1),(10,.func (.func 127) #[] #[pt b8,pt b1,pt b9])]) (fun t=>bk b9 #[iv t.2.2.1] 3 :: bk b8 #[iv t.2.2.2.1] 3 :: bk b0 #[Aad,Aae,Aaf,.slice Aa4 Aah.length Aa5,.slice t.2.2.2.2.2.2.1 t.2.2.2.2.1.length t.2.2.2.2.2.2.2,Aau,.slice Aaz Aai.length Aa0,Aag,Aax,Aay,.slice Abi Aal.length Abj,Aar] 66 :: bk b1 #[pt b0] 61 :: t.2.2.2.2.2.1 :: X) (fun t=>J19 t.1 t.2.1 t.2.2.1 t.2.2.2.1 t.2.2.2.2.1=some r∧Aan e48 48 4 t.2.2.2.2.2.1 (.slice t.2.2.2.2.2.2.1 t.2.2.2.2.1.length t.2.2.2.2.2.2.2) t.2.2.2.2.1) ?_ ?_
  ·rintro ⟨x10,x11,x12,x13,l14,h15,A16,k17⟩ ⟨h,o18⟩
   subst Brm
   refine ksr (kx 1 (K.mv4 (K.mv3 (K.mv4 (K.mv4 (bnd h fun r20 A5i h=>(kcl (Au9.ok (b0:=b8) (b1_:=b1) (Atb:=b0) (b2_:=b9) (A0s:=Aad) (A0t:=Aae) (A0y:=Aaf) (A01:=.slice Aa4 Aah.length Aa5) (A06:=Aau) (A08:=.slice Aaz Aai.length Aa0) (A1a:=Aag) (A1d:=Aax) (A1h:=Aay) (A0u:=.slice Abi Aal.length Abj) (A0v:=Aar) A5i o18) rfl trivial ?_)))))))
   rintro _ _ ⟨h21,A22,k23,o24,rfl,rfl⟩
   refine Ajb (K.drop (K.mv3 (K.drop (knt (kpr [(0,3),(1,0),(2,0),(3,0),(4,3),(5,0),(6,3),(7,0),(8,0),(9,0),(10,3),(11,0),(12,0),(13,0)] [0,1] (kpd 0 0 rfl (kpx 3 (kpd 1 4 rfl (kpx 1 (kpd 0 0 rfl ?_))))))))))
   refine kpx 3 (kpd 1 4 rfl (kpx 3 (kpz (bnd h fun x25 hx25 h=>(Ano (T:=48) (kd:=.i64) Ak5 rfl hx25 (Aan.rd o24) fun p26 e27 y28=>?_)))))
   have e27:Elem _ p26 [iv x25.1,iv x25.2.1,iv x25.2.2.1,iv x25.2.2.2]:=e27
   refine K.drop (An8 (off:=1) rfl e27 y28 fun p29 e30 y31=>?_)
   have e30:Elem _ p29 [iv x25.2.1,iv x25.2.2.1,iv x25.2.2.2]:=e30
   refine K.mv1 (bnd h fun l32 Bj5 h=>(Aw6 (v:=iv x10) (off:=1) (x':=(x25.1,x10,x25.2.2.1,x25.2.2.2)) Ak5 rfl (by kernel_rfl) (by kernel_rfl) (by kernel_rfl) (by kernel_rfl) (by kernel_rfl) y31 o24 hx25 (by kernel_rfl) (by kernel_rfl) Bj5 fun h33 o34=>?_))
   have g35:=Aq8 Bj5
   refine K.weak (env':=[(113,.slice A22 l32.length k23),(114,iv r3.1),(115,iv x10),(116,iv x11)]) ?_ ⟨(by first | rfl | (rw [g35];rfl)),gr,gr,gr,trivial⟩
   refine K.eq (l':=h33 :: bk b0 #[Aad,Aae,Aaf,.slice Aa4 Aah.length Aa5,.slice A22 l32.length k23,Aau,.slice Aaz Aai.length Aa0,Aag,Aax,Aay,.slice Abi Aal.length Abj,Aar] 66 :: X) rfl (by first | rfl | (rw [g35];first | done | rfl)) (bnd h fun x36 B8l h=>(Ano (T:=48) (kd:=.i64) Ak5 rfl B8l (Aan.rd o34) fun p37 e38 y39=>?_))
   have e38:Elem _ p37 [iv x36.1,iv x36.2.1,iv x36.2.2.1,iv x36.2.2.2]:=e38
   refine An8 (off:=2) rfl e38 y39 fun p40 e41 y42=>?_
   have e41:Elem _ p40 [iv x36.2.2.1,iv x36.2.2.2]:=e41
   refine bnd h fun l43 Bep h=>(Aw6 (v:=iv x11) (off:=2) (x':=(x36.1,x36.2.1,x11,x36.2.2.2)) Ak5 rfl (by kernel_rfl) (by kernel_rfl) (by kernel_rfl) (by kernel_rfl) (by kernel_rfl) y42 o34 B8l (by kernel_rfl) (by kernel_rfl) Bep fun h44 o45=>?_)
   have g46:=Aq8 Bep
   refine K.weak (env':=[(116,iv x11)]) ?_ ⟨gr,trivial⟩
   refine K.eq (l':=h44 :: bk b0 #[Aad,Aae,Aaf,.slice Aa4 Aah.length Aa5,.slice A22 l43.length k23,Aau,.slice Aaz Aai.length Aa0,Aag,Aax,Aay,.slice Abi Aal.length Abj,Aar] 66 :: X) rfl (by first | rfl | (rw [g46];first | done | rfl)) (knl (Ae2 ?_))
   obtain rfl:=Option.some.inj h
   exact kdv (.tuple #[]) [bk b0 #[Aad,Aae,Aaf,.slice Aa4 Aah.length Aa5,.slice A22 l43.length k23,Aau,.slice Aaz Aai.length Aa0,Aag,Aax,Aay,.slice Abi Aal.length Abj,Aar] 66,h44] (K.mv1 (Adj ⟨h44,A22,k23,o45,rfl,rfl⟩))
  ·skip
   refine ksr (kx 3 (knt (Aez (K.mv3 (K.mv4 (K.mv4 (K.mv4 (K.mv4 (Akr (τ:=Int×Int×Int×Int×Int×TyA×Aaa×TyO×Nat) (fun t=>[(1,.slice Afc a1.length Afe),(2,pt b1),(4,bv q2),(5,iv r3.1),(6,iv t.1),(7,iv t.2.1),(8,pt b8),(9,pt b9),(10,.func (.func 127) #[] #[pt b8,pt b1,pt b9]),(42,.slice Afc a1.length Afe),(43,iv ((a1.length:Nat):Int)),(44,iv t.2.2.1)]) (fun t=>bk b9 #[iv t.2.2.2.1] 3 :: bk b8 #[iv t.2.2.2.2.1] 3 :: bk b0 #[Aad,Aae,Aaf,.slice Aa4 Aah.length Aa5,.slice t.2.2.2.2.2.2.2.1 t.2.2.2.2.2.1.length t.2.2.2.2.2.2.2.2,Aau,.slice Aaz Aai.length Aa0,Aag,Aax,Aay,.slice Abi Aal.length Abj,Aar] 66 :: bk b1 #[pt b0] 61 :: t.2.2.2.2.2.2.1 :: X) (fun m t=>Alp.l0 m Rc Aah Aai Aal a1 q2 J19 t.1 t.2.1 t.2.2.1 t.2.2.2.1 t.2.2.2.2.1 t.2.2.2.2.2.1=some r∧Aan e48 48 4 t.2.2.2.2.2.2.1 (.slice t.2.2.2.2.2.2.2.1 t.2.2.2.2.2.1.length t.2.2.2.2.2.2.2.2) t.2.2.2.2.2.1) k (0,0,0,1,0,r3.2,h4,A5,k6) ⟨h,o7⟩ sb rfl ?_)))))))))
   clear h
   rintro m57 ⟨x47,x48,x49,x50,x51,l52,h53,A54,k55⟩ ⟨h,o56⟩
   cases m57 with
   | zero=>simp [Alp.l0] at h
   | succ m57 =>
    simp only [Alp.l0] at h
    refine ksr (kx 1 (knt (Ac1 ?_)))
    refine kcn h (fun h=>?_) fun h=>?_
    ·refine Adv (Abr ?_)
     obtain ⟨J68,Ctc,h⟩:=Agm h
     refine Agn (τ:=Int×Int×Int×Int×TyA×Aaa×TyO×Nat) (fun t=>[(1,.slice Afc a1.length Afe),(2,pt b1),(4,bv q2),(5,iv r3.1),(6,iv t.1),(7,iv t.2.1),(8,pt b8),(9,pt b9),(10,.func (.func 127) #[] #[pt b8,pt b1,pt b9]),(42,.slice Afc a1.length Afe),(43,iv ((a1.length:Nat):Int)),(44,iv x49)]) (fun t=>bk b9 #[iv t.2.2.1] 3 :: bk b8 #[iv t.2.2.2.1] 3 :: bk b0 #[Aad,Aae,Aaf,.slice Aa4 Aah.length Aa5,.slice t.2.2.2.2.2.2.1 t.2.2.2.2.1.length t.2.2.2.2.2.2.2,Aau,.slice Aaz Aai.length Aa0,Aag,Aax,Aay,.slice Abi Aal.length Abj,Aar] 66 :: bk b1 #[pt b0] 61 :: t.2.2.2.2.2.1 :: X) (fun t=>J68 t.1 t.2.1 t.2.2.1 t.2.2.2.1 t.2.2.2.2.1=some r∧Aan e48 48 4 t.2.2.2.2.2.1 (.slice t.2.2.2.2.2.2.1 t.2.2.2.2.1.length t.2.2.2.2.2.2.2) t.2.2.2.2.1) ?_ ?_
     ·rintro ⟨x59,x60,x61,x62,l63,h64,A65,k66⟩ ⟨h,o67⟩
      subst Ctc
      exact Ach (kx 2 (knt (Aiw m57 (x59,x60,IntKind.i64.wrap (x49+1),x61,x62,l63,h64,A65,k66) (Nat.lt_succ_self _) ⟨h,o67⟩ sb rfl)))
     ·skip
      refine Aez (ksr (kx 1 (bnd h fun x69 hx69 h=>(Aht (T:=54) (kd:=.i64) (R:=(Abx 54)) rfl hx69 Akm fun p70 u73 q74 e71 y72=>?_))))
      obtain ⟨A75,k76,rfl,o77⟩:=Ahx 54 q74
      refine keN rfl e71 (t5 Aie) (knp #[iv 0,sv noS,iv 0,iv 0,nS] 54 fun b78=>(kx 1 (kst 0 5 #[iv x69.kind,sv x69.text,iv x69.n,iv x69.at_,.slice A75 x69.kids.length k76] (knt (Aez (ksr (kx 1 (kld 0 0 rfl (kx 2 (knt ?_))))))))))
      refine kcn h (fun h=>?_) fun h=>?_
      ·refine ksr (kx 3 (Aby (kld 4 0 rfl (kx 1 (kld 0 4 rfl (K.drop (K.mv4 (K.mv3 (bnd h fun r80 A5z h=>(kcl (hR.Ahn (b0:=b0) (Aad:=Aad) (Aae:=Aae) (Aaf:=Aaf) (Aau:=Aau) (Aag:=Aag) (Aax:=Aax) (Aay:=Aay) (Aar:=Aar) A5z Aew o56 Aek Ad8 o77 hG) rfl ⟨(t3 Af0),(t3 Afn),(t3 Ako),(t3 Aie),(t3 Adu),trivial⟩ ?_))))))))))
       rintro _ _ ⟨h81,A82,k83,o84,rfl,rfl⟩
       refine Acg (knr (kld 4 0 rfl (kld 3 0 rfl (kns #[iv x51] 3 1 fun b85=>(K.mv2 (K.mv2 (bnd h fun r86 Cyg h=>(kcl (Ac7.ok (b0:=b0) (Aad:=Aad) (Aae:=Aae) (Aaf:=Aaf) (Ac5:=.slice Aa4 Aah.length Aa5) (Aau:=Aau) (Adi:=.slice Aaz Aai.length Aa0) (Aag:=Aag) (Aax:=Aax) (Aay:=Aay) (Ad1:=.slice Abi Aal.length Abj) (Aar:=Aar) Cyg o84 (Aan.rd (Aan.blk 3 (Aio .i64) b85 [x51] #[iv x51] 1 (by kernel_rfl) rfl (by decide)))) rfl ⟨(.head _),trivial⟩ ?_))))))))
       rintro _ _ ⟨h87,A88,k89,o90,rfl,rfl⟩
       refine Acg (K.mv2 (K.drop (knl (Acx (Acx (Abr (K.mv1 (K.mv4 (K.mv2 (K.mv4 ?_))))))))))
       exact K.mv4 (Adb (x47,IntKind.i64.wrap (x48+1),x50,x51,r86.2,h87,A88,k89) ⟨h,o90⟩ sb rfl)
      ·refine bnd h fun q91 Bsm h=>?_
       refine An7 [(1,.slice Afc a1.length Afe),(2,pt b1),(4,bv q2),(5,iv r3.1),(6,iv x47),(7,iv x48),(8,pt b8),(9,pt b9),(10,.func (.func 127) #[] #[pt b8,pt b1,pt b9]),(42,.slice Afc a1.length Afe),(43,iv ((a1.length:Nat):Int)),(44,iv x49),(12,pt b78),(77,bv q91)] (bk b78 #[iv x69.kind,sv x69.text,iv x69.n,iv x69.at_,.slice A75 x69.kids.length k76] 54 :: bk b9 #[iv x50] 3 :: bk b8 #[iv x51] 3 :: bk b0 #[Aad,Aae,Aaf,.slice Aa4 Aah.length Aa5,.slice A54 l52.length k55,Aau,.slice Aaz Aai.length Aa0,Aag,Aax,Aay,.slice Abi Aal.length Abj,Aar] 66 :: bk b1 #[pt b0] 61 :: h53 :: X) ?_ ?_
       ·clear Bsm
        refine kcn h (fun h=>?_) fun h=>?_
        ·refine ksr (kx 1 (K.mv1 (K.mv5 (K.mv4 (K.mv5 (K.mv5 (bnd h fun r93 Be7 h=>(kcl (Au9.ok (b0:=b8) (b1_:=b1) (Atb:=b0) (b2_:=b9) (A0s:=Aad) (A0t:=Aae) (A0y:=Aaf) (A01:=.slice Aa4 Aah.length Aa5) (A06:=Aau) (A08:=.slice Aaz Aai.length Aa0) (A1a:=Aag) (A1d:=Aax) (A1h:=Aay) (A0u:=.slice Abi Aal.length Abj) (A0v:=Aar) Be7 o56) rfl trivial ?_))))))))
         rintro _ _ ⟨h94,A95,k96,o97,rfl,rfl⟩
         refine Ajb (Aby (kld 1 0 rfl (Agh (K.mv4 (K.mv4 (bnd h fun r98 Cym h=>(kcl (Ac7.ok (b0:=b0) (Aad:=Aad) (Aae:=Aae) (Aaf:=Aaf) (Ac5:=.slice Aa4 Aah.length Aa5) (Aau:=Aau) (Adi:=.slice Aaz Aai.length Aa0) (Aag:=Aag) (Aax:=Aax) (Aay:=Aay) (Ad1:=.slice Abi Aal.length Abj) (Aar:=Aar) Cym o97 (RdT.nil (encI .i64) 1 none_)) rfl ⟨(.head _),trivial⟩ ?_)))))))
         rintro _ _ ⟨h99,Ddu,Dg0,C4z,rfl,rfl⟩
         refine Acg (K.mv2 (K.drop (knt (Ac1 (Asu [(0,3),(1,0),(2,3),(3,0),(4,3)] [bk b1 #[pt b0] 61,bk b78 #[iv x69.kind,sv x69.text,iv x69.n,iv x69.at_,.slice A75 x69.kids.length k76] 54,Ail] (fun w h_=>⟨h_.sat.on _ (.tail _ (.tail _ (.tail _ (.head _)))),h_.sat.on _ (.tail _ (.tail _ (.tail _ (.tail _ (.tail _ (.head _)))))),h_.sat.on _ (t6 Aie),trivial⟩) (kpd 0 0 rfl (kpx 1 (kpd 1 4 rfl (bnd h fun x103 Cy1 h=>(Asr (T:=54) (kd:=.i64) (R:=(Abx 54)) rfl Cy1 o77 fun Dig Di7 C9y Cop Dj2=>?_))))))))))
         obtain ⟨Ddx,Dg4,rfl,o111⟩:=Ahx 54 C9y
         refine Atm rfl Cop (fun w h_=>h_.mem _ (.tail _ (.tail _ (.head _)))) (kpz (K.mv1 (K.mv1 (bnd h fun Cfp Cv2 h=>(kcl (hR.Ajz (b0:=b0) (Aad:=Aad) (Aae:=Aae) (Aaf:=Aaf) (Aau:=Aau) (Aag:=Aag) (Aax:=Aax) (Aay:=Aay) (Aar:=Aar) Cv2 Aew C4z Aek Ad8 o111 hG) rfl ⟨(t4 Af0),(t4 Afn),(t4 Ako),(t4 Aie),(t4 Adu),trivial⟩ ?_)))))
         rintro _ _ ⟨Dfj,Dd0,Dg7,Bv6,rfl,rfl⟩
         refine Acg (K.mv5 (K.drop (knr (kld 3 0 rfl (kld 4 0 rfl (kns #[iv r93.2.2] 3 1 fun Clg=>(K.mv2 (K.mv2 (bnd h fun Bx2 Cv5 h=>(kcl (Ac7.ok (b0:=b0) (Aad:=Aad) (Aae:=Aae) (Aaf:=Aaf) (Ac5:=.slice Aa4 Aah.length Aa5) (Aau:=Aau) (Adi:=.slice Aaz Aai.length Aa0) (Aag:=Aag) (Aax:=Aax) (Aay:=Aay) (Ad1:=.slice Abi Aal.length Abj) (Aar:=Aar) Cv5 Bv6 (Aan.rd (Aan.blk 3 (Aio .i64) Clg [r93.2.2] #[iv r93.2.2] 1 (by kernel_rfl) rfl (by decide)))) rfl ⟨(.head _),trivial⟩ ?_))))))))))
         rintro _ _ ⟨h119,Cjx,C1l,C5k,rfl,rfl⟩
         refine Acg (K.mv2 (K.drop (knl (Acx (Acx (Abr (K.mv1 (K.mv3 (K.mv2 (K.mv3 ?_))))))))))
         exact K.mv4 (Adb (x47,x48,r93.2.2,r93.1,Bx2.2,h119,Cjx,C1l) ⟨h,C5k⟩ sb rfl)
        ·refine ksr (kx 3 (knt (Ac1 (Asu [(0,3),(1,0),(2,3),(3,0),(4,3)] [bk b78 #[iv x69.kind,sv x69.text,iv x69.n,iv x69.at_,.slice A75 x69.kids.length k76] 54,bk b1 #[pt b0] 61,Ail] (fun w h_=>⟨h_.sat.on _ (.head _),h_.sat.on _ (.tail _ (.tail _ (.tail _ (.tail _ (.head _))))),h_.sat.on _ (t6 Aie),trivial⟩) (kpd 1 0 rfl (kpx 1 (kpd 0 4 rfl (bnd h fun Bch Cy6 h=>(Asr (T:=54) (kd:=.i64) (R:=(Abx 54)) rfl Cy6 o77 fun Din u127 C93 e125 Dj6=>?_)))))))))
         obtain ⟨Bcw,Bfj,rfl,Bwe⟩:=Ahx 54 C93
         refine Atm rfl e125 (fun w h_=>h_.mem _ (.tail _ (.tail _ (.head _)))) (kpz (K.mv5 (K.mv4 (bnd h fun Bm2 Cv9 h=>(kcl (hR.Agg (b0:=b0) (Aad:=Aad) (Aae:=Aae) (Aaf:=Aaf) (Aau:=Aau) (Aag:=Aag) (Aax:=Aax) (Aay:=Aay) (Aar:=Aar) Cv9 Aew o56 Aek Ad8 Bwe hG) rfl ⟨(t4 Af0),(t4 Afn),(t4 Ako),(t4 Aie),(t4 Adu),trivial⟩ ?_)))))
         rintro _ _ ⟨Bea,Bcz,Bfl,A7q,rfl,rfl⟩
         refine Acg (K.mv2 (K.drop (Aby (kld 3 0 rfl (kx 1 (K.mv3 (kst 0 1 #[iv (IntKind.i64.wrap (x51+1))] (Aby (kld 0 0 rfl (kx 1 ?_))))))))))
         refine knt ?_
         refine kcn h (fun h=>?_) fun h=>?_
         ·refine Ach (kx 1 (K.mv3 (K.mv3 (K.mv3 (K.mv4 (K.mv4 (bnd h fun A8a Cwe h=>(kcl (Au9.ok (b0:=b8) (b1_:=b1) (Atb:=b0) (b2_:=b9) (A0s:=Aad) (A0t:=Aae) (A0y:=Aaf) (A01:=.slice Aa4 Aah.length Aa5) (A06:=Aau) (A08:=.slice Aaz Aai.length Aa0) (A1a:=Aag) (A1d:=Aax) (A1h:=Aay) (A0u:=.slice Abi Aal.length Abj) (A0v:=Aar) Cwe A7q) rfl trivial ?_))))))))
          rintro _ _ ⟨Cr7,Cj0,C1n,C5w,rfl,rfl⟩
          exact Ajb (knl (Acx (Acx (Abr (K.mv3 (K.mv2 (K.mv3 (K.mv3 (K.mv4 (Adb (IntKind.i64.wrap (x47+1),x48,A8a.2.2,A8a.1,A8a.2.1,Cr7,Cj0,C1n) ⟨h,C5w⟩ sb rfl))))))))))
         ·exact Adv (Acx (Acx (Abr (K.mv2 (K.mv4 (K.mv3 (K.mv3 (K.mv4 (Adb (IntKind.i64.wrap (x47+1),x48,x50,IntKind.i64.wrap (x51+1),Bm2,Bea,Bcz,Bfl) ⟨h,A7q⟩ sb rfl)))))))))
       ·have h:=Bsm
        clear Bsm
        refine Ach (kx 2 ?_)
        refine kcs 79 h (fun h=>?_) fun h=>?_
        ·exact kx 7 (knt (Agb ⟨gr,gr,gr,gr,gr,gr,gr,gr,gr,gr,gr,gr,gr,gb (Option.some.inj h),trivial⟩))
        ·exact kx 7 (knt (Agb ⟨gr,gr,gr,gr,gr,gr,gr,gr,gr,gr,gr,gr,gr,gb (Option.some.inj h),trivial⟩))
    ·exact Akp (Af5 (Af5 (Akq (Abr (Adb (x47,x48,x50,x51,l52,h53,A54,k55) ⟨h,o56⟩ sb rfl)))))
 ·have h:=hq2
  clear hq2
  refine Ach (kx 4 ?_)
  refine kcs 16 h (fun h=>?_) fun h=>?_
  ·refine kx 4 (bnd h fun A1n Czb h=>(Aht (T:=54) (kd:=.i64) (R:=(Abx 54)) rfl Czb Akm fun Diu Djm Daa Cov Ddm=>?_))
   obtain ⟨Cj7,C1o,rfl,Dh6⟩:=Ahx 54 Daa
   refine An8 (off:=0) rfl Cov Ddm fun C82 Bp1 Dkd=>?_
   have Bp1:Elem _ C82 [iv A1n.kind,sv A1n.text,iv A1n.n,iv A1n.at_,.slice Cj7 A1n.kids.length C1o]:=Bp1
   refine Apm rfl (by kernel_rfl) (by kernel_rfl) (by kernel_rfl) (by kernel_rfl) Bp1 (t3 Aie) (kx 3 ?_)
   refine kcs 26 h (fun h=>?_) fun h=>?_
   ·refine kx 4 (bnd h fun x158 hx158 h=>(Aht (T:=54) (kd:=.i64) (R:=(Abx 54)) rfl hx158 Akm fun p159 u162 Bxx e160 Cjn=>?_))
    obtain ⟨B1c,B9z,rfl,Bwl⟩:=Ahx 54 Bxx
    refine An8 (off:=4) rfl e160 Cjn fun C83 e168 Dke=>?_
    have e168:Elem _ C83 [.slice B1c x158.kids.length B9z]:=e168
    refine Apm rfl (by kernel_rfl) (by kernel_rfl) (by kernel_rfl) (by kernel_rfl) e168 (t3 Aie) (bnd h fun A1s Czd h=>(Aht (T:=54) (kd:=.i64) (R:=(Abx 54)) rfl Czd Bwl fun Dix Djr Dad Coy Ddn=>?_))
    obtain ⟨Cj8,C1p,rfl,Dia⟩:=Ahx 54 Dad
    refine An8 (off:=0) rfl Coy Ddn fun C84 Bp6 Dkh=>?_
    have Bp6:Elem _ C84 [iv A1s.kind,sv A1s.text,iv A1s.n,iv A1s.at_,.slice Cj8 A1s.kids.length C1p]:=Bp6
    exact Apm rfl (by kernel_rfl) (by kernel_rfl) (by kernel_rfl) (by kernel_rfl) Bp6 (t3 Aie) (kx 3 (knt (Agb ⟨gr,gr,gb (Option.some.inj h),trivial⟩)))
   ·exact kx 13 (knt (Agb ⟨gr,gr,gb (Option.some.inj h),trivial⟩))
  ·exact kx 23 (knt (Agb ⟨gr,gr,gb (Option.some.inj h),trivial⟩))
def GE.at:Nat→GE
 | 0=>⟨fun _ _ _ _ _ _ _ _ _=>none,fun _ _ _ _ _=>none,fun _ _ _ _ _=>none,fun _ _ _ _ _ _ _ _ _ _=>none,fun _ _ _ _ _ _ _ _ _=>none,fun _ _ _ _ _=>none⟩
 | k+1=>⟨Agg.g (GE.at k) k,Ahn.g (GE.at k) k,Alm.g (GE.at k) k,Ajz.g (GE.at k) k,Ap3.g (GE.at k) k,Alp.g (GE.at k) k⟩
theorem GE.good:∀ k,(GE.at k).Good
 | 0=>⟨(by unfold Agg.C;intros;rename_i h _ _ _ _ _ _;cases (show (none:Option _)=some _ from h)),(by unfold Ahn.C;intros;rename_i h _ _ _ _ _ _;cases (show (none:Option _)=some _ from h)),(by unfold Alm.C;intros;rename_i h _ _ _ _ _ _;cases (show (none:Option _)=some _ from h)),(by unfold Ajz.C;intros;rename_i h _ _ _ _ _ _;cases (show (none:Option _)=some _ from h)),(by unfold Ap3.C;intros;rename_i h _ _ _ _ _ _;cases (show (none:Option _)=some _ from h)),(by unfold Alp.C;intros;rename_i h _ _ _ _ _ _;cases (show (none:Option _)=some _ from h))⟩
 | k+1=>⟨Agg.okg (k:=k) (GE.good k),Ahn.okg (k:=k) (GE.good k),Alm.okg (k:=k) (GE.good k),Ajz.okg (k:=k) (GE.good k),Ap3.okg (k:=k) (GE.good k),Alp.okg (k:=k) (GE.good k)⟩
def Agg.f (k:Nat):=Agg.g (GE.at k) k
theorem Agg.ok {k:Nat}:Agg.C (Agg.f k):=Agg.okg (k:=k) (GE.good k)
def Ahn.f (k:Nat):=Ahn.g (GE.at k) k
theorem Ahn.ok {k:Nat}:Ahn.C (Ahn.f k):=Ahn.okg (k:=k) (GE.good k)
def Alm.f (k:Nat):=Alm.g (GE.at k) k
theorem Alm.ok {k b0 Aa5 Acv Aa0 Abj Afe:Nat} {Aah:TyB} {Aa9 r:TyA} {Aai Aal:TyC} {a1:List Tree} {Aad Aae Aaf Aau Aag Aax Aay Aar:Value} {Afk Ade Afd Ado Ail G:Aaa} {Aa4 Acu Aaz Abi Afc:TyO} (h:Alm.f k Aah Aa9 Aai Aal a1=some r) (Aew:RdT e78 3 Afk (.slice Aa4 Aah.length Aa5) Aah) (Aei:Aan e48 48 4 Ade (.slice Acu Aa9.length Acv) Aa9) (Aek:RdT encS 1 Afd (.slice Aaz Aai.length Aa0) Aai) (Ad8:RdT encS 1 Ado (.slice Abi Aal.length Abj) Aal) (Akm:RdR (Abx 54) Ail (.slice Afc a1.length Afe) a1) (hG:GlP G): Ct Tryz.prog 85 #[pt b0,.slice Afc a1.length Afe] [bk b0 #[Aad,Aae,Aaf,.slice Aa4 Aah.length Aa5,.slice Acu Aa9.length Acv,Aau,.slice Aaz Aai.length Aa0,Aag,Aax,Aay,.slice Abi Aal.length Abj,Aar] 66,Ade] [Afk,Afd,Ado,Ail,G] (fun e l1=>∃ (H0_:Aaa) (A0_:TyO) (c0_:Nat),Aan e48 48 4 H0_ (.slice A0_ r.length c0_) r∧e=.returned (.tuple #[])∧l1=[bk b0 #[Aad,Aae,Aaf,.slice Aa4 Aah.length Aa5,.slice A0_ r.length c0_,Aau,.slice Aaz Aai.length Aa0,Aag,Aax,Aay,.slice Abi Aal.length Abj,Aar] 66,H0_]):=Alm.okg (k:=k) (GE.good k) h Aew Aei Aek Ad8 Akm hG
def Ajz.f (k:Nat):=Ajz.g (GE.at k) k
theorem Ajz.ok {k:Nat}:Ajz.C (Ajz.f k):=Ajz.okg (k:=k) (GE.good k)
def Aow.l0:Nat→(a2:Int)→(x8:Int)→(l9:List (Int×Int×Int×Int))→Option (List (Int×Int×Int×Int))
 | 0,_,_,_=>none
 | m14+1,a2,x8,l9=>cond (decide (x8 < a2)) ((Ac7.f m14 l9 3 ([])).bind fun r16=>Aow.l0 m14 a2 (IntKind.i64.wrap (x8+1)) r16.2) (some (l9))
def Aow.f (k:Nat) (Aah:TyB) (Aa9:TyA) (Aai:TyC) (Aal:TyC) (a1:List Tree) (a2:Int):Option TyA:=cond (((a1.length:Nat):Int) == a2) ((Ahn.f k Aah Aa9 Aai Aal a1).bind fun r2=>some (r2)) (cond (((a1.length:Nat):Int) == 0) (Aow.l0 k a2 0 Aa9) ((Ac7.f k Aa9 22 ([])).bind fun r21=>(Alm.f k Aah r21.2 Aai Aal a1).bind fun r26=>(Ac7.f k r26 23 ([a2])).bind fun r32=>some (r32.2)))
theorem Aow.ok {k b0 Aa5 Acv Aa0 Abj Afe:Nat} {Aah:TyB} {Aa9 r:TyA} {Aai Aal:TyC} {a1:List Tree} {a2:Int} {Aad Aae Aaf Aau Aag Aax Aay Aar:Value} {Afk Ade Afd Ado Ail G:Aaa} {Aa4 Acu Aaz Abi Afc:TyO} (h:Aow.f k Aah Aa9 Aai Aal a1 a2=some r) (Aew:RdT e78 3 Afk (.slice Aa4 Aah.length Aa5) Aah) (Aei:Aan e48 48 4 Ade (.slice Acu Aa9.length Acv) Aa9) (Aek:RdT encS 1 Afd (.slice Aaz Aai.length Aa0) Aai) (Ad8:RdT encS 1 Ado (.slice Abi Aal.length Abj) Aal) (Akm:RdR (Abx 54) Ail (.slice Afc a1.length Afe) a1) (hG:GlP G): Ct Tryz.prog 71 #[pt b0,.slice Afc a1.length Afe,iv a2] [bk b0 #[Aad,Aae,Aaf,.slice Aa4 Aah.length Aa5,.slice Acu Aa9.length Acv,Aau,.slice Aaz Aai.length Aa0,Aag,Aax,Aay,.slice Abi Aal.length Abj,Aar] 66,Ade] [Afk,Afd,Ado,Ail,G] (fun e l1=>∃ (H0_:Aaa) (A0_:TyO) (c0_:Nat),Aan e48 48 4 H0_ (.slice A0_ r.length c0_) r∧e=.returned (.tuple #[])∧l1=[bk b0 #[Aad,Aae,Aaf,.slice Aa4 Aah.length Aa5,.slice A0_ r.length c0_,Aau,.slice Aaz Aai.length Aa0,Aag,Aax,Aay,.slice Abi Aal.length Abj,Aar] 66,H0_]):=by
 refine Afb (args:=[pt b0,.slice Afc a1.length Afe,iv a2]) Tryz.func71 rfl (Nat.le_of_ble_eq_true rfl) ?_
 intro A X hh_
 obtain ⟨Af0,Afn,Ako,Aie,Adu,_⟩:=hh_
 unfold Aow.f at h
 refine K.eq (env':=[(0,pt b0),(1,.slice Afc a1.length Afe),(2,iv a2)]) (l':=bk b0 #[Aad,Aae,Aaf,.slice Aa4 Aah.length Aa5,.slice Acu Aa9.length Acv,Aau,.slice Aaz Aai.length Aa0,Aag,Aax,Aay,.slice Abi Aal.length Abj,Aar] 66 :: Ade :: X) rfl rfl (ksr (kx 2 (knt (Aez (ksr (kx 3 (knt ?_)))))))
 refine kcn h (fun h=>?_) fun h=>?_
 ·refine Ach (kx 2 (K.mv1 (K.mv1 (bnd h fun r2 hr2 h=>(kcl (Ahn.ok (b0:=b0) (Aad:=Aad) (Aae:=Aae) (Aaf:=Aaf) (Aau:=Aau) (Aag:=Aag) (Aax:=Aax) (Aay:=Aay) (Aar:=Aar) hr2 Aew Aei Aek Ad8 Akm hG) rfl ⟨Af0,Afn,Ako,Aie,Adu,trivial⟩ ?_)))))
  rintro _ _ ⟨h3,A4,k5,o6,rfl,rfl⟩
  refine Acg (knl (Acx (Ae2 ?_)))
  obtain rfl:=Option.some.inj h
  exact kdv (.tuple #[]) [bk b0 #[Aad,Aae,Aaf,.slice Aa4 Aah.length Aa5,.slice A4 r2.length k5,Aau,.slice Aaz Aai.length Aa0,Aag,Aax,Aay,.slice Abi Aal.length Abj,Aar] 66,h3] (Adj ⟨h3,A4,k5,o6,rfl,rfl⟩)
 ·refine ksr (kx 2 (knt ?_))
  refine kcn h (fun h=>?_) fun h=>?_
  ·refine ksr (kx 2 (knt (Aez (Akr (τ:=Int×TyA×Aaa×TyO×Nat) (fun t=>[(0,pt b0),(25,iv a2),(26,iv t.1)]) (fun t=>bk b0 #[Aad,Aae,Aaf,.slice Aa4 Aah.length Aa5,.slice t.2.2.2.1 t.2.1.length t.2.2.2.2,Aau,.slice Aaz Aai.length Aa0,Aag,Aax,Aay,.slice Abi Aal.length Abj,Aar] 66 :: t.2.2.1 :: X) (fun m t=>Aow.l0 m a2 t.1 t.2.1=some r∧Aan e48 48 4 t.2.2.1 (.slice t.2.2.2.1 t.2.1.length t.2.2.2.2) t.2.1) k (0,Aa9,Ade,Acu,Acv) ⟨h,Aei⟩ sb rfl ?_))))
   clear h
   rintro m14 ⟨x8,l9,h10,A11,k12⟩ ⟨h,o13⟩
   cases m14 with
   | zero=>simp [Aow.l0] at h
   | succ m14 =>
    simp only [Aow.l0] at h
    refine ksr (kx 1 (knt (Ac1 ?_)))
    refine kcn h (fun h=>?_) fun h=>?_
    ·refine Adv (Abr (Ac1 (Aez (Ach (kx 1 (Agh (K.mv2 (K.mv2 (bnd h fun r16 Auk h=>(kcl (Ac7.ok (b0:=b0) (Aad:=Aad) (Aae:=Aae) (Aaf:=Aaf) (Ac5:=.slice Aa4 Aah.length Aa5) (Aau:=Aau) (Adi:=.slice Aaz Aai.length Aa0) (Aag:=Aag) (Aax:=Aax) (Aay:=Aay) (Ad1:=.slice Abi Aal.length Abj) (Aar:=Aar) Auk o13 (RdT.nil (encI .i64) 1 none_)) rfl ⟨(.head _),trivial⟩ ?_))))))))))
     rintro _ _ ⟨h17,A18,k19,o20,rfl,rfl⟩
     exact Acg (K.mv2 (K.drop (knl (Acx (Abr (Ach (kx 2 (knt (Aiw m14 (IntKind.i64.wrap (x8+1),r16.2,h17,A18,k19) (Nat.lt_succ_self _) ⟨h,o20⟩ sb rfl)))))))))
    ·refine Akp (Af5 (Af5 (Akq (Acx (Ae2 ?_)))))
     obtain rfl:=Option.some.inj h
     exact kdv (.tuple #[]) [bk b0 #[Aad,Aae,Aaf,.slice Aa4 Aah.length Aa5,.slice A11 l9.length k12,Aau,.slice Aaz Aai.length Aa0,Aag,Aax,Aay,.slice Abi Aal.length Abj,Aar] 66,h10] (Adj ⟨h10,A11,k12,o13,rfl,rfl⟩)
  ·refine ksr (kx 1 (Agh (K.mv2 (K.mv2 (bnd h fun r21 Aun h=>(kcl (Ac7.ok (b0:=b0) (Aad:=Aad) (Aae:=Aae) (Aaf:=Aaf) (Ac5:=.slice Aa4 Aah.length Aa5) (Aau:=Aau) (Adi:=.slice Aaz Aai.length Aa0) (Aag:=Aag) (Aax:=Aax) (Aay:=Aay) (Ad1:=.slice Abi Aal.length Abj) (Aar:=Aar) Aun Aei (RdT.nil (encI .i64) 1 none_)) rfl ⟨(.head _),trivial⟩ ?_))))))
   rintro _ _ ⟨h22,A23,k24,o25,rfl,rfl⟩
   refine Acg (K.mv2 (K.drop (Aby (kx 2 (K.mv1 (K.mv1 (bnd h fun r26 Azy h=>(kcl (Alm.ok (b0:=b0) (Aad:=Aad) (Aae:=Aae) (Aaf:=Aaf) (Aau:=Aau) (Aag:=Aag) (Aax:=Aax) (Aay:=Aay) (Aar:=Aar) Azy Aew o25 Aek Ad8 Akm hG) rfl ⟨Af0,Afn,Ako,Aie,Adu,trivial⟩ ?_))))))))
   rintro _ _ ⟨h27,A28,k29,o30,rfl,rfl⟩
   refine Acg (knr (kx 2 (kns #[iv a2] 3 1 fun b31=>(K.mv2 (K.mv2 (bnd h fun r32 A5l h=>(kcl (Ac7.ok (b0:=b0) (Aad:=Aad) (Aae:=Aae) (Aaf:=Aaf) (Ac5:=.slice Aa4 Aah.length Aa5) (Aau:=Aau) (Adi:=.slice Aaz Aai.length Aa0) (Aag:=Aag) (Aax:=Aax) (Aay:=Aay) (Ad1:=.slice Abi Aal.length Abj) (Aar:=Aar) A5l o30 (Aan.rd (Aan.blk 3 (Aio .i64) b31 [a2] #[iv a2] 1 (by kernel_rfl) rfl (by decide)))) rfl ⟨(.head _),trivial⟩ ?_)))))))
   rintro _ _ ⟨h33,A34,k35,o36,rfl,rfl⟩
   refine Acg (K.mv2 (K.drop (knl (Acx (Ae2 ?_)))))
   obtain rfl:=Option.some.inj h
   exact kdv (.tuple #[]) [bk b0 #[Aad,Aae,Aaf,.slice Aa4 Aah.length Aa5,.slice A34 r32.2.length k35,Aau,.slice Aaz Aai.length Aa0,Aag,Aax,Aay,.slice Abi Aal.length Abj,Aar] 66,h33] (Adj ⟨h33,A34,k35,o36,rfl,rfl⟩)
def Al5.l1:Nat→(Aah:TyB)→(Aai:TyC)→(Aal:TyC)→(a1:List Tree)→(J7:Int→TyA→Option TyA)→(x79:Int)→(x80:Int)→(l81:TyA)→Option TyA
 | 0,_,_,_,_,_,_,_,_=>none
 | m86+1,Aah,Aai,Aal,a1,J7,x79,x80,l81=>cond (decide (x80 < ((a1.length:Nat):Int))) (Adg (fun (x88:Int) (l89:TyA)=>Al5.l1 m86 Aah Aai Aal a1 J7 x88 (IntKind.i64.wrap (x80+1)) l89) (fun J94=>(Acz a1 x80).bind fun x95=>cond (x95.kind == 7) ((Ahn.f m86 Aah l81 Aai Aal x95.kids).bind fun Bxz=>J94 (IntKind.i64.wrap (x79+2)) Bxz) (J94 x79 l81))) (J7 x79 l81)
def Al5.l0:Nat→(Aai:TyC)→(Aal:TyC)→(a1:List Tree)→(J18:TyA→Option TyA)→(x25:Int)→(x26:Int)→(l27:TyA)→Option TyA
 | 0,_,_,_,_,_,_,_=>none
 | m32+1,Aai,Aal,a1,J18,x25,x26,l27=>cond (decide (x26 < ((a1.length:Nat):Int))) (Adg (fun (x34:Int) (l35:TyA)=>Al5.l0 m32 Aai Aal a1 J18 x34 (IntKind.i64.wrap (x26+1)) l35) (fun J40=>(Acz a1 x26).bind fun x41=>cond (x41.kind == 7) ((Ac7.f m32 l27 13 ([IntKind.i64.wrap (((a1.length:Nat):Int)+(IntKind.i64.wrap (x25 - 2))),IntKind.i64.wrap ((IntKind.i64.wrap (((a1.length:Nat):Int) - 1)) - x26)])).bind fun r53=>J40 (IntKind.i64.wrap (x25 - 2)) r53.2) ((Ac7.f m32 l27 14 ([IntKind.i64.wrap ((IntKind.i64.wrap (((a1.length:Nat):Int) - 1)) - x26)])).bind fun r59=>(A2t.f m32 Aal x41.text).bind fun r64=>cond (decide (r64 > 0)) ((Ac7.f m32 r59.2 7 ([r64])).bind fun r67=>J40 x25 r67.2) ((Awz.f m32 Aai x41.text).bind fun r72=>(Ac7.f m32 r59.2 9 ([r72])).bind fun r74=>J40 x25 r74.2)))) (J18 l27)
def Al5.f (k:Nat) (Aah:TyB) (Aa9:TyA) (Aai:TyC) (Aal:TyC) (a1:List Tree) (a2:List Tree):Option TyA:=Adg (fun (x1:Int) (l2:TyA)=>(Aow.f k Aah l2 Aai Aal a2 ((a1.length:Nat):Int)).bind fun r8=>Adg (fun (l13:TyA)=>(Ac7.f k l13 15 ([IntKind.i64.wrap (((a1.length:Nat):Int)+x1)])).bind fun r20=>some (r20.2)) (fun J18=>Al5.l0 k Aai Aal a1 J18 x1 0 r8)) (fun J7=>Al5.l1 k Aah Aai Aal a1 J7 0 0 Aa9)
theorem Al5.ok {k b0 Aa5 Acv Aa0 Abj Afe Aml:Nat} {Aah:TyB} {Aa9 r:TyA} {Aai Aal:TyC} {a1 a2:List Tree} {Aad Aae Aaf Aau Aag Aax Aay Aar:Value} {Afk Ade Afd Ado Ail Aty G:Aaa} {Aa4 Acu Aaz Abi Afc Ami:TyO} (h:Al5.f k Aah Aa9 Aai Aal a1 a2=some r) (Aew:RdT e78 3 Afk (.slice Aa4 Aah.length Aa5) Aah) (Aei:Aan e48 48 4 Ade (.slice Acu Aa9.length Acv) Aa9) (Aek:RdT encS 1 Afd (.slice Aaz Aai.length Aa0) Aai) (Ad8:RdT encS 1 Ado (.slice Abi Aal.length Abj) Aal) (Akm:RdR (Abx 54) Ail (.slice Afc a1.length Afe) a1) (A2f:RdR (Abx 54) Aty (.slice Ami a2.length Aml) a2) (hG:GlP G): Ct Tryz.prog 73 #[pt b0,.slice Afc a1.length Afe,.slice Ami a2.length Aml] [bk b0 #[Aad,Aae,Aaf,.slice Aa4 Aah.length Aa5,.slice Acu Aa9.length Acv,Aau,.slice Aaz Aai.length Aa0,Aag,Aax,Aay,.slice Abi Aal.length Abj,Aar] 66,Ade] [Afk,Afd,Ado,Ail,Aty,G] (fun e l1=>∃ (H0_:Aaa) (A0_:TyO) (c0_:Nat),Aan e48 48 4 H0_ (.slice A0_ r.length c0_) r∧e=.returned (.tuple #[])∧l1=[bk b0 #[Aad,Aae,Aaf,.slice Aa4 Aah.length Aa5,.slice A0_ r.length c0_,Aau,.slice Aaz Aai.length Aa0,Aag,Aax,Aay,.slice Abi Aal.length Abj,Aar] 66,H0_]):=by
 refine Afb (args:=[pt b0,.slice Afc a1.length Afe,.slice Ami a2.length Aml]) Tryz.func73 rfl (Nat.le_of_ble_eq_true rfl) ?_
 intro A X hh_
 obtain ⟨Af0,Afn,Ako,Aie,Azw,Adu,_⟩:=hh_
 unfold Al5.f at h
 refine K.eq (env':=[(0,pt b0),(1,.slice Afc a1.length Afe),(2,.slice Ami a2.length Aml)]) (l':=bk b0 #[Aad,Aae,Aaf,.slice Aa4 Aah.length Aa5,.slice Acu Aa9.length Acv,Aau,.slice Aaz Aai.length Aa0,Aag,Aax,Aay,.slice Abi Aal.length Abj,Aar] 66 :: Ade :: X) rfl rfl (ksr (kx 4 (knt ?_)))
 obtain ⟨J7,hJ7,h⟩:=Agm h
 refine Agn (τ:=Int×TyA×Aaa×TyO×Nat) (fun t=>[(0,pt b0),(1,.slice Afc a1.length Afe),(2,.slice Ami a2.length Aml),(6,iv ((a1.length:Nat):Int)),(7,iv t.1)]) (fun t=>bk b0 #[Aad,Aae,Aaf,.slice Aa4 Aah.length Aa5,.slice t.2.2.2.1 t.2.1.length t.2.2.2.2,Aau,.slice Aaz Aai.length Aa0,Aag,Aax,Aay,.slice Abi Aal.length Abj,Aar] 66 :: t.2.2.1 :: X) (fun t=>J7 t.1 t.2.1=some r∧Aan e48 48 4 t.2.2.1 (.slice t.2.2.2.1 t.2.1.length t.2.2.2.2) t.2.1) ?_ ?_
 ·rintro ⟨x1,l2,h3,A4,k5⟩ ⟨h,o6⟩
  subst hJ7
  refine ksr (kx 4 (Aby (kx 3 (K.mv1 (K.mv1 (bnd h fun r8 hr8 h=>(kcl (Aow.ok (b0:=b0) (Aad:=Aad) (Aae:=Aae) (Aaf:=Aaf) (Aau:=Aau) (Aag:=Aag) (Aax:=Aax) (Aay:=Aay) (Aar:=Aar) hr8 Aew o6 Aek Ad8 A2f hG) rfl ⟨Af0,Afn,Ako,Azw,Adu,trivial⟩ ?_)))))))
  rintro _ _ ⟨h9,A10,k11,o12,rfl,rfl⟩
  refine Acg (knt ?_)
  obtain ⟨J18,Brk,h⟩:=Agm h
  refine Agn (τ:=TyA×Aaa×TyO×Nat) (fun t=>[(0,pt b0),(10,iv (IntKind.i64.wrap (((a1.length:Nat):Int)+x1)))]) (fun t=>bk b0 #[Aad,Aae,Aaf,.slice Aa4 Aah.length Aa5,.slice t.2.2.1 t.1.length t.2.2.2,Aau,.slice Aaz Aai.length Aa0,Aag,Aax,Aay,.slice Abi Aal.length Abj,Aar] 66 :: t.2.1 :: X) (fun t=>J18 t.1=some r∧Aan e48 48 4 t.2.1 (.slice t.2.2.1 t.1.length t.2.2.2) t.1) ?_ ?_
  ·rintro ⟨l13,h14,A15,k16⟩ ⟨h,o17⟩
   subst Brk
   refine Ach (kx 2 (kns #[iv (IntKind.i64.wrap (((a1.length:Nat):Int)+x1))] 3 1 fun b19=>(K.mv2 (K.mv2 (bnd h fun r20 A5i h=>(kcl (Ac7.ok (b0:=b0) (Aad:=Aad) (Aae:=Aae) (Aaf:=Aaf) (Ac5:=.slice Aa4 Aah.length Aa5) (Aau:=Aau) (Adi:=.slice Aaz Aai.length Aa0) (Aag:=Aag) (Aax:=Aax) (Aay:=Aay) (Ad1:=.slice Abi Aal.length Abj) (Aar:=Aar) A5i o17 (Aan.rd (Aan.blk 3 (Aio .i64) b19 [IntKind.i64.wrap (((a1.length:Nat):Int)+x1)] #[iv (IntKind.i64.wrap (((a1.length:Nat):Int)+x1))] 1 (by kernel_rfl) rfl (by decide)))) rfl ⟨(.head _),trivial⟩ ?_))))))
   rintro _ _ ⟨h21,A22,k23,o24,rfl,rfl⟩
   refine Acg (K.mv2 (K.drop (knl (Ae2 ?_))))
   obtain rfl:=Option.some.inj h
   exact kdv (.tuple #[]) [bk b0 #[Aad,Aae,Aaf,.slice Aa4 Aah.length Aa5,.slice A22 r20.2.length k23,Aau,.slice Aaz Aai.length Aa0,Aag,Aax,Aay,.slice Abi Aal.length Abj,Aar] 66,h21] (Adj ⟨h21,A22,k23,o24,rfl,rfl⟩)
  ·skip
   refine ksr (kx 3 (knt (Aez (Akr (τ:=Int×Int×TyA×Aaa×TyO×Nat) (fun t=>[(0,pt b0),(6,iv ((a1.length:Nat):Int)),(7,iv t.1),(10,iv (IntKind.i64.wrap (((a1.length:Nat):Int)+x1))),(39,.slice Afc a1.length Afe),(40,iv ((a1.length:Nat):Int)),(41,iv t.2.1)]) (fun t=>bk b0 #[Aad,Aae,Aaf,.slice Aa4 Aah.length Aa5,.slice t.2.2.2.2.1 t.2.2.1.length t.2.2.2.2.2,Aau,.slice Aaz Aai.length Aa0,Aag,Aax,Aay,.slice Abi Aal.length Abj,Aar] 66 :: t.2.2.2.1 :: X) (fun m t=>Al5.l0 m Aai Aal a1 J18 t.1 t.2.1 t.2.2.1=some r∧Aan e48 48 4 t.2.2.2.1 (.slice t.2.2.2.2.1 t.2.2.1.length t.2.2.2.2.2) t.2.2.1) k (x1,0,r8,h9,A10,k11) ⟨h,o12⟩ sb rfl ?_))))
   clear h
   rintro m32 ⟨x25,x26,l27,h28,A29,k30⟩ ⟨h,o31⟩
   cases m32 with
   | zero=>simp [Al5.l0] at h
   | succ m32 =>
    simp only [Al5.l0] at h
    refine ksr (kx 1 (knt (Ac1 ?_)))
    refine kcn h (fun h=>?_) fun h=>?_
    ·refine Adv (Abr ?_)
     obtain ⟨J40,Brr,h⟩:=Agm h
     refine Agn (τ:=Int×TyA×Aaa×TyO×Nat) (fun t=>[(0,pt b0),(6,iv ((a1.length:Nat):Int)),(7,iv t.1),(10,iv (IntKind.i64.wrap (((a1.length:Nat):Int)+x1))),(39,.slice Afc a1.length Afe),(40,iv ((a1.length:Nat):Int)),(41,iv x26)]) (fun t=>bk b0 #[Aad,Aae,Aaf,.slice Aa4 Aah.length Aa5,.slice t.2.2.2.1 t.2.1.length t.2.2.2.2,Aau,.slice Aaz Aai.length Aa0,Aag,Aax,Aay,.slice Abi Aal.length Abj,Aar] 66 :: t.2.2.1 :: X) (fun t=>J40 t.1 t.2.1=some r∧Aan e48 48 4 t.2.2.1 (.slice t.2.2.2.1 t.2.1.length t.2.2.2.2) t.2.1) ?_ ?_
     ·rintro ⟨x34,l35,h36,A37,k38⟩ ⟨h,o39⟩
      subst Brr
      exact Ach (kx 2 (knt (Aiw m32 (x34,IntKind.i64.wrap (x26+1),l35,h36,A37,k38) (Nat.lt_succ_self _) ⟨h,o39⟩ sb rfl)))
     ·skip
      refine Aez (ksr (kx 1 (bnd h fun x41 A6e h=>(Aht (T:=54) (kd:=.i64) (R:=(Abx 54)) rfl A6e Akm fun p42 u45 q46 e43 y44=>?_))))
      obtain ⟨A47,k48,rfl,o49⟩:=Ahx 54 q46
      refine keN rfl e43 (t2 Aie) (knp #[iv 0,sv noS,iv 0,iv 0,nS] 54 fun b50=>(kx 1 (kst 0 5 #[iv x41.kind,sv x41.text,iv x41.n,iv x41.at_,.slice A47 x41.kids.length k48] (knt (Ac1 (ksr (kx 1 (kld 0 0 rfl (kx 1 (knt ?_))))))))))
      refine kcn h (fun h=>?_) fun h=>?_
      ·refine ksr (kx 3 (Aby (kx 8 (kns #[iv (IntKind.i64.wrap (((a1.length:Nat):Int)+(IntKind.i64.wrap (x25 - 2)))),iv (IntKind.i64.wrap ((IntKind.i64.wrap (((a1.length:Nat):Int) - 1)) - x26))] 3 2 fun b52=>(K.mv1 (K.drop (K.mv2 (K.mv2 (bnd h fun r53 Btn h=>(kcl (Ac7.ok (b0:=b0) (Aad:=Aad) (Aae:=Aae) (Aaf:=Aaf) (Ac5:=.slice Aa4 Aah.length Aa5) (Aau:=Aau) (Adi:=.slice Aaz Aai.length Aa0) (Aag:=Aag) (Aax:=Aax) (Aay:=Aay) (Ad1:=.slice Abi Aal.length Abj) (Aar:=Aar) Btn o31 (Aan.rd (Aan.blk 3 (Aio .i64) b52 [IntKind.i64.wrap (((a1.length:Nat):Int)+(IntKind.i64.wrap (x25 - 2))),IntKind.i64.wrap ((IntKind.i64.wrap (((a1.length:Nat):Int) - 1)) - x26)] #[iv (IntKind.i64.wrap (((a1.length:Nat):Int)+(IntKind.i64.wrap (x25 - 2)))),iv (IntKind.i64.wrap ((IntKind.i64.wrap (((a1.length:Nat):Int) - 1)) - x26))] 2 (by kernel_rfl) rfl (by decide)))) rfl ⟨(.head _),trivial⟩ ?_))))))))))
       rintro _ _ ⟨h54,A55,k56,o57,rfl,rfl⟩
       exact Acg (K.mv2 (K.drop (knt (Akp (Af5 (Akq (Abr (Adb (IntKind.i64.wrap (x25 - 2),r53.2,h54,A55,k56) ⟨h,o57⟩ sb rfl))))))))
      ·refine Adv (Abr (ksr (kx 5 (kns #[iv (IntKind.i64.wrap ((IntKind.i64.wrap (((a1.length:Nat):Int) - 1)) - x26))] 3 1 fun b58=>(K.mv3 (K.mv3 (bnd h fun r59 hr59 h=>(kcl (Ac7.ok (b0:=b0) (Aad:=Aad) (Aae:=Aae) (Aaf:=Aaf) (Ac5:=.slice Aa4 Aah.length Aa5) (Aau:=Aau) (Adi:=.slice Aaz Aai.length Aa0) (Aag:=Aag) (Aax:=Aax) (Aay:=Aay) (Ad1:=.slice Abi Aal.length Abj) (Aar:=Aar) hr59 o31 (Aan.rd (Aan.blk 3 (Aio .i64) b58 [IntKind.i64.wrap ((IntKind.i64.wrap (((a1.length:Nat):Int) - 1)) - x26)] #[iv (IntKind.i64.wrap ((IntKind.i64.wrap (((a1.length:Nat):Int) - 1)) - x26))] 1 (by kernel_rfl) rfl (by decide)))) rfl ⟨(.head _),trivial⟩ ?_))))))))
       rintro _ _ ⟨h60,A61,k62,o63,rfl,rfl⟩
       refine Acg (K.mv2 (K.drop (Aby (kx 2 (kld 2 1 rfl (bnd h fun r64 Btq h=>(kc1 (A2t.ok (b0:=b0) (Aad:=Aad) (Aae:=Aae) (Aaf:=Aaf) (Ac5:=.slice Aa4 Aah.length Aa5) (Ag6:=.slice A61 r59.2.length k62) (Aau:=Aau) (Adi:=.slice Aaz Aai.length Aa0) (Aag:=Aag) (Aax:=Aax) (Aay:=Aay) (Aar:=Aar) Btq Ad8) rfl ⟨(t2 Ako),trivial⟩ (kx 1 (Aby (kx 2 ?_))))))))))
       refine knt ?_
       refine kcn h (fun h=>?_) fun h=>?_
       ·refine Ach (kx 2 (kns #[iv r64] 3 1 fun b66=>(K.mv3 (K.drop (K.mv2 (K.mv2 (bnd h fun r67 Azz h=>(kcl (Ac7.ok (b0:=b0) (Aad:=Aad) (Aae:=Aae) (Aaf:=Aaf) (Ac5:=.slice Aa4 Aah.length Aa5) (Aau:=Aau) (Adi:=.slice Aaz Aai.length Aa0) (Aag:=Aag) (Aax:=Aax) (Aay:=Aay) (Ad1:=.slice Abi Aal.length Abj) (Aar:=Aar) Azz o63 (Aan.rd (Aan.blk 3 (Aio .i64) b66 [r64] #[iv r64] 1 (by kernel_rfl) rfl (by decide)))) rfl ⟨(.head _),trivial⟩ ?_))))))))
        rintro _ _ ⟨h68,A69,k70,o71,rfl,rfl⟩
        exact Acg (K.mv2 (K.drop (knl (Acx (Abr (Adb (x25,r67.2,h68,A69,k70) ⟨h,o71⟩ sb rfl))))))
       ·refine Ach (kx 3 (kld 2 1 rfl (K.mv2 (K.drop (bnd h fun r72 Be6 h=>(kc1 (Awz.ok (b0:=b0) (Aad:=Aad) (Aae:=Aae) (Aaf:=Aaf) (Ac5:=.slice Aa4 Aah.length Aa5) (Ag6:=.slice A61 r59.2.length k62) (Aau:=Aau) (Aag:=Aag) (Aax:=Aax) (Aay:=Aay) (Ad1:=.slice Abi Aal.length Abj) (Aar:=Aar) Be6 Aek) rfl ⟨(.tail _ Afn),trivial⟩ (kns #[iv r72] 3 1 fun b73=>(K.mv2 (K.mv2 (bnd h fun r74 Btv h=>?_))))))))))
        refine kcl (Ac7.ok (b0:=b0) (Aad:=Aad) (Aae:=Aae) (Aaf:=Aaf) (Ac5:=.slice Aa4 Aah.length Aa5) (Aau:=Aau) (Adi:=.slice Aaz Aai.length Aa0) (Aag:=Aag) (Aax:=Aax) (Aay:=Aay) (Ad1:=.slice Abi Aal.length Abj) (Aar:=Aar) Btv o63 (Aan.rd (Aan.blk 3 (Aio .i64) b73 [r72] #[iv r72] 1 (by kernel_rfl) rfl (by decide)))) rfl ⟨(.head _),trivial⟩ ?_
        rintro _ _ ⟨h75,A76,k77,o78,rfl,rfl⟩
        exact Acg (K.mv2 (K.drop (knl (Acx (Abr (Adb (x25,r74.2,h75,A76,k77) ⟨h,o78⟩ sb rfl))))))
    ·exact Akp (Af5 (Af5 (Akq (Abr (Adb (l27,h28,A29,k30) ⟨h,o31⟩ sb rfl)))))
 ·skip
  refine ksr (kx 3 (knt (Aez (Akr (τ:=Int×Int×TyA×Aaa×TyO×Nat) (fun t=>[(0,pt b0),(1,.slice Afc a1.length Afe),(2,.slice Ami a2.length Aml),(6,iv ((a1.length:Nat):Int)),(7,iv t.1),(16,.slice Afc a1.length Afe),(17,iv ((a1.length:Nat):Int)),(18,iv t.2.1)]) (fun t=>bk b0 #[Aad,Aae,Aaf,.slice Aa4 Aah.length Aa5,.slice t.2.2.2.2.1 t.2.2.1.length t.2.2.2.2.2,Aau,.slice Aaz Aai.length Aa0,Aag,Aax,Aay,.slice Abi Aal.length Abj,Aar] 66 :: t.2.2.2.1 :: X) (fun m t=>Al5.l1 m Aah Aai Aal a1 J7 t.1 t.2.1 t.2.2.1=some r∧Aan e48 48 4 t.2.2.2.1 (.slice t.2.2.2.2.1 t.2.2.1.length t.2.2.2.2.2) t.2.2.1) k (0,0,Aa9,Ade,Acu,Acv) ⟨h,Aei⟩ sb rfl ?_))))
  clear h
  rintro m86 ⟨x79,x80,l81,h82,A83,k84⟩ ⟨h,o85⟩
  cases m86 with
  | zero=>simp [Al5.l1] at h
  | succ m86 =>
   simp only [Al5.l1] at h
   refine ksr (kx 1 (knt (Ac1 ?_)))
   refine kcn h (fun h=>?_) fun h=>?_
   ·refine Adv (Abr ?_)
    obtain ⟨J94,Cti,h⟩:=Agm h
    refine Agn (τ:=Int×TyA×Aaa×TyO×Nat) (fun t=>[(0,pt b0),(1,.slice Afc a1.length Afe),(2,.slice Ami a2.length Aml),(6,iv ((a1.length:Nat):Int)),(7,iv t.1),(16,.slice Afc a1.length Afe),(17,iv ((a1.length:Nat):Int)),(18,iv x80)]) (fun t=>bk b0 #[Aad,Aae,Aaf,.slice Aa4 Aah.length Aa5,.slice t.2.2.2.1 t.2.1.length t.2.2.2.2,Aau,.slice Aaz Aai.length Aa0,Aag,Aax,Aay,.slice Abi Aal.length Abj,Aar] 66 :: t.2.2.1 :: X) (fun t=>J94 t.1 t.2.1=some r∧Aan e48 48 4 t.2.2.1 (.slice t.2.2.2.1 t.2.1.length t.2.2.2.2) t.2.1) ?_ ?_
    ·rintro ⟨x88,l89,h90,A91,k92⟩ ⟨h,o93⟩
     subst Cti
     exact Ach (kx 2 (knt (Aiw m86 (x88,IntKind.i64.wrap (x80+1),l89,h90,A91,k92) (Nat.lt_succ_self _) ⟨h,o93⟩ sb rfl)))
    ·skip
     refine Aez (ksr (bnd h fun x95 hx95 h=>(Aht (T:=54) (kd:=.i64) (R:=(Abx 54)) rfl hx95 Akm fun p96 u99 C9w e97 y98=>?_)))
     obtain ⟨Cjq,C1f,rfl,C43⟩:=Ahx 54 C9w
     refine keN rfl e97 (t2 Aie) (knp #[iv 0,sv noS,iv 0,iv 0,nS] 54 fun De5=>(kst 0 5 #[iv x95.kind,sv x95.text,iv x95.n,iv x95.at_,.slice Cjq x95.kids.length C1f] (Aby (kx 1 (kld 0 0 rfl (kx 1 (knt ?_)))))))
     refine kcn h (fun h=>?_) fun h=>?_
     ·refine ksr (kx 2 (kld 0 4 rfl (K.drop (K.mv1 (K.mv1 (bnd h fun Bxz Cvy h=>(kcl (Ahn.ok (b0:=b0) (Aad:=Aad) (Aae:=Aae) (Aaf:=Aaf) (Aau:=Aau) (Aag:=Aag) (Aax:=Aax) (Aay:=Aay) (Aar:=Aar) Cvy Aew o85 Aek Ad8 C43 hG) rfl ⟨Af0,Afn,Ako,Aie,Adu,trivial⟩ ?_)))))))
      rintro _ _ ⟨Cru,Bob,Buj,Bbe,rfl,rfl⟩
      exact Acg (knr (kx 3 (knl (Acx (Abr (Adb (IntKind.i64.wrap (x79+2),Bxz,Cru,Bob,Buj) ⟨h,Bbe⟩ sb rfl))))))
     ·exact Adv (Acx (Abr (K.drop (Adb (x79,l81,h82,A83,k84) ⟨h,o85⟩ sb rfl))))
   ·exact Akp (Af5 (Af5 (Akq (Abr (Adb (x79,l81,h82,A83,k84) ⟨h,o85⟩ sb rfl)))))
theorem Aaa.or_comm {f g:Aaa} (h:f.Apart g):f.or g=g.or f:=by
 funext k
 rcases h k with e | e
 ·cases hg:g k <;> simp [Aaa.or,e,hg]
 ·cases hf:f k <;> simp [Aaa.or,e,hf]
theorem Aaa.Apart.orr {f g h:Aaa} (h1:f.Apart g) (h2:f.Apart h):f.Apart (g.or h):=(h1.symm.orl h2.symm).symm
theorem Aaa.Apart.Bbf {f g h:Aaa} (hgh:g.Apart h) (h1:f.Apart (g.or h)):f.Apart g∧f.Apart h:=by
 obtain ⟨a,b⟩:=Aaa.Apart.Axc hgh h1.symm
 exact ⟨a.symm,b.symm⟩
theorem Aaa.Bl8 {f g h:Aaa} (hg:g.Apart f):g.or (f.or h)=f.or (g.or h):=by
 rw [← Aaa.or_assoc,Aaa.or_comm hg,Aaa.or_assoc]
section
variable {α:Type} {R:Al3 α}
theorem Aec.focus:∀ {l:List α} {H:Aaa} {cs:List Value} {k:Nat} {x:α},Aec R l H cs→l[k]? = some x →
  ∃ Hx Hr,H=Hx.or Hr∧Hx.Apart Hr∧R.own x Hx ((cs.drop (k * R.sz)).take R.sz) ∧
   ∀ x' Hx' cx',R.own x' Hx' cx'→Hx'.Apart Hr→Aec R (l.set k x') (Hx'.or Hr) (cs.take (k * R.sz)++cx'++cs.drop (k * R.sz+R.sz))
 | y :: l,_,_,0,x,⟨H1,H2,c1,c2,rfl,ha,rfl,h1,h2⟩,hx=>by
  simp only [List.getElem?_cons_zero,Option.some.injEq] at hx
  subst hx
  refine ⟨H1,H2,rfl,ha,?_,fun x' Hx' cx' h' ha'=>?_⟩
  ·rw [Nat.zero_mul,List.drop_zero,← (R.len h1).1,List.take_left]
   exact h1
  ·rw [Nat.zero_mul,List.take_zero,List.nil_append,Nat.zero_add,← (R.len h1).1,List.drop_left]
   exact ⟨Hx',H2,cx',c2,rfl,ha',rfl,h',h2⟩
 | y :: l,_,_,k+1,x,⟨H1,H2,c1,c2,rfl,ha,rfl,h1,h2⟩,hx=>by
  rw [List.getElem?_cons_succ] at hx
  obtain ⟨Hx,Hr,rfl,hxr,ho,hc⟩:=Aec.focus h2 hx
  obtain ⟨a1,a2⟩:=Aaa.Apart.Bbf hxr ha
  have hl:c1.length=R.sz:=(R.len h1).1
  have e1:(k+1) * R.sz=c1.length+k * R.sz:=by rw [hl,Nat.add_mul,Nat.one_mul,Nat.add_comm]
  refine ⟨Hx,H1.or Hr,Aaa.Bl8 a1,Aaa.Apart.orr a1.symm hxr,?_,fun x' Hx' cx' h' ha'=>?_⟩
  ·rw [e1,← List.drop_drop,List.drop_left]
   exact ho
  ·obtain ⟨b1,b2⟩:=Aaa.Apart.Bbf a2 ha'
   have h3:=hc x' Hx' cx' h' b2
   rw [List.set_cons_succ,← Aaa.Bl8 b1.symm]
   refine ⟨H1,Hx'.or Hr,c1,_,rfl,Aaa.Apart.orr b1.symm a2,?_,h1,h3⟩
   rw [e1,List.take_length_add_append,show c1.length+k * R.sz+R.sz=c1.length+(k * R.sz+R.sz) by omega,List.drop_length_add_append]
   simp only [List.append_assoc]
def Aqq (R:Al3 α) (T:TypeId) (Hr:Aaa) (A':Option Addr) (c:Nat) (xs:List α) (k:Nat) (cx:List Value):Prop :=
 ∃ Ho H0 cs,Hr=Ho.or H0∧Ho.Apart H0∧Own T R.sz Ho (.slice A' xs.length c) xs.length cs∧k < xs.length∧(cs.drop (k * R.sz)).take R.sz=cx∧cx.length=R.sz ∧
  ∀ x' Hx' cx',R.own x' Hx' cx'→Hx'.Apart H0→Aec R (xs.set k x') (Hx'.or H0) (cs.take (k * R.sz)++cx'++cs.drop (k * R.sz+R.sz))
theorem Abp.hole {T:TypeId} {h:Aaa} {A':Option Addr} {c k:Nat} {xs:List α} {x:α} (hO:Abp R T h (.slice A' xs.length c) xs) (hx:xs[k]? = some x) :
  ∃ Hx Hr cx,h=Hx.or Hr∧Hx.Apart Hr∧R.own x Hx cx∧Aqq R T Hr A' c xs k cx:=by
 obtain ⟨Ho,Hi,cs,rfl,ha,h1,h2⟩:=hO
 obtain ⟨Hx,Hr,rfl,hxr,ho,hc⟩:=h2.focus hx
 obtain ⟨a1,a2⟩:=Aaa.Apart.Bbf hxr ha
 exact ⟨Hx,Ho.or Hr,_,Aaa.Bl8 a1,Aaa.Apart.orr a1.symm hxr,ho,Ho,Hr,cs,rfl,a2,h1,(List.getElem?_eq_some_iff.1 hx).1,rfl,(R.len ho).1,hc⟩
theorem Aqq.close {T:TypeId} {Hr:Aaa} {A':TyO} {c k:Nat} {xs:List α} {cx:List Value} (hh:Aqq R T Hr A' c xs k cx) {x':α} {Hx':Aaa} (h':R.own x' Hx' cx) (ha':Hx'.Apart Hr):Abp R T (Hx'.or Hr) (.slice A' (xs.set k x').length c) (xs.set k x'):=by
 obtain ⟨Ho,H0,cs,rfl,a2,h1,hk,e,_,hc⟩:=hh
 obtain ⟨b1,b2⟩:=Aaa.Apart.Bbf a2 ha'
 have h3:=hc x' Hx' _ h' b2
 have e:cs.take (k * R.sz)++cx++cs.drop (k * R.sz+R.sz)=cs:=by
  rw [← e,List.append_assoc,← List.drop_drop,List.take_append_drop,List.take_append_drop]
 rw [e] at h3
 rw [← Aaa.Bl8 b1.symm]
 exact ⟨Ho,Hx'.or H0,cs,rfl,Aaa.Apart.orr b1.symm a2,by rw [List.length_set];exact h1,h3⟩
theorem Aqq.elem {T:TypeId} {Hr:Aaa} {A':Option Addr} {c k:Nat} {xs:List α} {cx:List Value} (hh:Aqq R T Hr A' c xs k cx) {p:Value} (hp:Place A' (k * R.sz) p):Elem Hr p cx:=by
 obtain ⟨Ho,H0,cs,rfl,a2,h1,hk,e,_,hc⟩:=hh
 obtain ⟨b,off,rfl,rfl⟩:=hp
 rcases h1.2.2 with ⟨_,h0⟩ | ⟨g,cap,cur,he,rfl,h4,h5,h6,h7⟩
 ·omega
 ·cases he
  refine ⟨b,0+k * R.sz,cur,T,(0,0),rfl,Aaa.Bbh (by simp [blk]),fun j u hj=>?_⟩
  rw [← e,List.getElem?_take] at hj
  split at hj
  ·rw [List.getElem?_drop,← h7,List.getElem?_take] at hj
   split at hj
   ·rw [Nat.zero_add];simpa using hj
   ·cases hj
  ·cases hj
end
section
variable {A:World} {ds:List Deferred} {n0:Nat} {env env':Env} {l l' X:List Aaa} {q:Act→World→Prop} {P:Program} {Q:Exit→Act→World→Prop} {ops:Array Oper} {os rest:List Oper} {o:Oper} {α:Type} {R:Al3 α}
theorem Ba2 {T:TypeId} {h:Aaa} {A':Option Addr} {c k:Nat} {xs:List α} {x:α} (hO:Abp R T h (.slice A' xs.length c) xs) (hx:xs[k]? = some x)
  (hk:∀ Hx Hr cx,Hx.Apart Hr→h=Hx.or Hr→R.own x Hx cx→Aqq R T Hr A' c xs k cx→K ds A n0 env (Hx :: Hr :: l) q):K ds A n0 env (h :: l) q:=by
 obtain ⟨Hx,Hr,cx,rfl,ha,ho,hc⟩:=hO.hole hx
 exact A3d ha (hk Hx Hr cx ha rfl ho hc)
theorem C2z {xs:List α} {k off:Nat} {Hr:Aaa} {A':Option Addr} {c:Nat} {cx:List Value} {T T1:TypeId} {p v:Value} {s y:Operand} (ho:o.op=.store T1 s y) (hg:Ae4 ops env o=some true) (hd:inB n0 o.dst=true)
  (hs:Ad5 env s=some p) (hy:Ad5 env y=some v) (hsz:(P.info? T1).map (·.size)=some v.cells.size) (hp:Place A' (k * R.sz+off) p) (hH:Aqq R T Hr A' c xs k cx) (hfit:off+v.cells.toList.length≤R.sz) (B8j:∀ u ∈ v.cells.toList,u.oneCell'=true)
  (hk:∀ Hr',Aqq R T Hr' A' c xs k (cx.take off++v.cells.toList++cx.drop (off+v.cells.toList.length))→K ds A n0 (Acs env o.dst undef) (Hr' :: l) (wpList P ops Q rest)):K ds A n0 env (Hr :: l) (wpList P ops Q (o :: rest)):=by
 obtain ⟨Ho,H0,cs,rfl,hab,Brs,hkl,hcx,hcl,hc⟩:=hH
 subst hcx
 refine A3d hab ?_
 refine Als hg fun a w ha hw=>?_
 cases hif:P.info? T1 with
 | none=>rw [hif] at hsz;cases hsz
 | some i =>
  rw [hif] at hsz
  have hsize:i.size=v.cells.size:=Option.some.inj hsz
  obtain ⟨hlen,Asm,hcc⟩:=Brs
  rcases hcc with ⟨he,h0⟩ | ⟨g,cap,cur,he,rfl,h4,h5,h6,h7⟩
  ·omega
  ·cases he
   obtain ⟨b,of_,he,rfl⟩:=hp
   cases he
   have hgc:w.heap[g]? = some (.cells cur T (0,0)):=hw.sat.1 g _ (by simp [blk])
   have hle:k * R.sz+R.sz≤xs.length * R.sz:=by
    have:=Nat.mul_le_mul_right R.sz (show k+1≤xs.length by omega)
    rw [Nat.add_mul,Nat.one_mul] at this
    exact this
   have hcs:xs.length * R.sz≤cur.size:=by rw [h6];exact Nat.mul_le_mul_right _ h4
   have hst:=run_storeCells_at P g (k * R.sz+off) T v.cells.toList 0 cur w hgc (by omega) B8j
   simp only [Nat.add_zero] at hst
   have hr:(Instr.storeAt T1 (.pointer (some ⟨g,0+(k * R.sz+off),none⟩)) v).run P w=.ok () (w.setRow g (cur.toList.take (k * R.sz+off)++v.cells.toList++cur.toList.drop (k * R.sz+off+v.cells.toList.length)).toArray):=by
    simp [Instr.storeAt,Instr.sureAddr,storeVar,sizeOf,typeInfo,hif,hsize]
    simpa using hst
   unfold Oper.wp execOp
   simp only [ho,ha.eval hs,ha.eval hy,Sem.run_bind,hr,Result.andThen_ok,Sem.run_pure]
   have hsp:=Cg2 cur.toList v.cells.toList (k * R.sz) off R.sz (xs.length * R.sz) hfit hle (by simpa using hcs)
   rw [h7] at hsp
   obtain ⟨cx',hcx'⟩:∃ y,y=((cs.drop (k * R.sz)).take R.sz).take off++v.cells.toList++((cs.drop (k * R.sz)).take R.sz).drop (off+v.cells.toList.length):=⟨_,rfl⟩
   rw [← hcx'] at hsp
   have hln:cx'.length=R.sz:=by
    rw [hcx',List.length_append,List.length_append,List.length_take,List.length_drop,hcl]
    omega
   have hone':∀ u ∈ cx',u.oneCell'=true:=fun u hu=>by
    rw [hcx'] at hu
    rcases List.mem_append.1 hu with hu | hu
    ·rcases List.mem_append.1 hu with hu | hu
     ·exact Asm u (List.mem_of_mem_drop (List.mem_of_mem_take (List.mem_of_mem_take hu)))
     ·exact B8j u hu
    ·exact Asm u (List.mem_of_mem_drop (List.mem_of_mem_take (List.mem_of_mem_drop hu)))
   obtain ⟨cs',hcs'⟩:∃ y,y=cs.take (k * R.sz)++cx'++cs.drop (k * R.sz+R.sz):=⟨_,rfl⟩
   have hkt:(cs.take (k * R.sz)).length=k * R.sz:=by rw [List.length_take,hlen];omega
   have Brt:Own T R.sz (blk g (.cells (cur.toList.take (k * R.sz+off)++v.cells.toList++cur.toList.drop (k * R.sz+off+v.cells.toList.length)).toArray T (0,0))) (.slice (some ⟨g,0,none⟩) xs.length c) xs.length cs':=by
    refine ⟨?_,?_,.inr ⟨g,c,_,rfl,rfl,h4,h5,?_,?_⟩⟩
    ·rw [hcs',List.length_append,List.length_append,hln,hkt,List.length_drop,hlen]
     omega
    ·intro u hu
     rw [hcs'] at hu
     rcases List.mem_append.1 hu with hu | hu
     ·rcases List.mem_append.1 hu with hu | hu
      ·exact Asm u (List.mem_of_mem_take hu)
      ·exact hone' u hu
     ·exact Asm u (List.mem_of_mem_drop hu)
    ·simp only [List.size_toArray,List.length_append,List.length_take,List.length_drop,Array.length_toList]
     rw [Nat.min_eq_left (by omega)]
     have:v.cells.toList.length=v.cells.size:=Array.length_toList
     omega
    ·rw [hcs'];exact hsp
   have e1:(cs'.drop (k * R.sz)).take R.sz=cx':=by
    rw [hcs',List.append_assoc]
    have:(cs.take (k * R.sz)++(cx'++cs.drop (k * R.sz+R.sz))).drop (k * R.sz)=cx'++cs.drop (k * R.sz+R.sz):=by
     have:=List.drop_left (l₁:=cs.take (k * R.sz)) (l₂:=cx'++cs.drop (k * R.sz+R.sz))
     rw [hkt] at this
     exact this
    rw [this,← hln,List.take_left]
   have e2:cs'.take (k * R.sz)=cs.take (k * R.sz):=by
    rw [hcs',List.append_assoc]
    have:=List.take_left (l₁:=cs.take (k * R.sz)) (l₂:=cx'++cs.drop (k * R.sz+R.sz))
    rw [hkt] at this
    exact this
   have e3:cs'.drop (k * R.sz+R.sz)=cs.drop (k * R.sz+R.sz):=by
    rw [hcs']
    have:=List.drop_left (l₁:=cs.take (k * R.sz)++cx') (l₂:=cs.drop (k * R.sz+R.sz))
    rw [List.length_append,hkt,hln] at this
    exact this
   have hk':K ds A n0 (Acs env o.dst undef) (blk g (.cells (cur.toList.take (k * R.sz+off)++v.cells.toList++cur.toList.drop (k * R.sz+off+v.cells.toList.length)).toArray T (0,0)) :: H0 :: l) (wpList P ops Q rest) :=
    Aup fun hap=>hk _ ⟨_,H0,cs',rfl,hap,Brt,hkl,by rw [e1,hcx'],by rw [← hcx'];exact hln,fun x' Hx' cx2 h' ha'=>by rw [e2,e3];exact hc x' Hx' cx2 h' ha'⟩
   exact hk' _ _ (ha.Acs _ hd) (hw.setRow _)
end
def Ahc {α:Type} (R:Al3 α):Al3 (Option α) where
 sz:=R.sz
 own x H cs:=match x with | some u=>R.own u H cs | none=>cs.length=R.sz∧∀ u ∈ cs,u.oneCell'=true
 rd x H cs:=match x with | some u=>R.rd u H cs | none=>cs.length=R.sz∧∀ u ∈ cs,u.oneCell'=true
 len:=by
  intro x H cs h
  cases x with
  | none=>exact h
  | some u=>exact R.len h
 lenr:=by
  intro x H cs h
  cases x with
  | none=>exact h
  | some u=>exact R.lenr h
 A3o:=by
  intro x H H' cs h hi
  cases x with
  | none=>exact h
  | some u=>exact R.A3o h hi
theorem Aec.opt {α:Type} {R:Al3 α}:∀ {l:List α} {H:Aaa} {cs:List Value},Aec (Ahc R) (l.map some) H cs ↔ Aec R l H cs
 | [],H,cs=>Iff.rfl
 | x :: l,H,cs=>by
  constructor
  ·rintro ⟨H1,H2,c1,c2,h1,h2,h3,h4,h5⟩
   exact ⟨H1,H2,c1,c2,h1,h2,h3,h4,Aec.opt.1 h5⟩
  ·rintro ⟨H1,H2,c1,c2,h1,h2,h3,h4,h5⟩
   exact ⟨H1,H2,c1,c2,h1,h2,h3,h4,Aec.opt.2 h5⟩
theorem Abp.opt {α:Type} {R:Al3 α} {T:TypeId} {h:Aaa} {v:Value} {l:List α}:Abp (Ahc R) T h v (l.map some) ↔ Abp R T h v l:=by
 constructor
 ·rintro ⟨Ho,Hi,cs,h1,h2,h3,h4⟩
  exact ⟨Ho,Hi,cs,h1,h2,by rw [List.length_map] at h3;exact h3,Aec.opt.1 h4⟩
 ·rintro ⟨Ho,Hi,cs,h1,h2,h3,h4⟩
  exact ⟨Ho,Hi,cs,h1,h2,by rw [List.length_map];exact h3,Aec.opt.2 h4⟩
theorem Aec.split {α:Type} {R:Al3 α}:∀ {l:List α} {H:Aaa} {cs:List Value} (m:Nat),Aec R l H cs→∃ H1 H2,H=H1.or H2∧H1.Apart H2∧Aec R (l.take m) H1 (cs.take (m * R.sz))
 | l,H,cs,0,_=>⟨none_,H,(Aaa.none_or H).symm,Aaa.Bly H,by simp [Aec]⟩
 | [],H,cs,m+1,h=>⟨none_,H,(Aaa.none_or H).symm,Aaa.Bly H,by
  have h:cs=[]:=h
  subst h
  simp [Aec]⟩
 | x :: l,H,cs,m+1,h=>by
  obtain ⟨H1,H2,c1,c2,rfl,ha,rfl,h1,h2⟩:=h
  obtain ⟨H3,H4,rfl,hb,h3⟩:=Aec.split m h2
  obtain ⟨a1,a2⟩:=Aaa.Apart.Bbf hb ha
  have hl:=(R.len h1).1
  refine ⟨H1.or H3,H4,(Aaa.or_assoc ..).symm,Aaa.Apart.orl a2 hb,?_⟩
  rw [List.take_succ_cons,Nat.add_mul,Nat.one_mul,Nat.add_comm,← hl,List.take_length_add_append]
  rw [hl]
  exact ⟨H1,H3,c1,_,rfl,a1,rfl,h1,h3⟩
theorem Abp.take {α:Type} {R:Al3 α} {T:TypeId} {h:Aaa} {A':Option Addr} {c m:Nat} {l:List α} (ho:Abp R T h (.slice A' l.length c) l) (hm:m≤l.length) :
  ∃ h',h'.In h∧Abp R T h' (.slice A' (l.take m).length c) (l.take m):=by
 obtain ⟨Ho,Hi,cs,rfl,ha,h1,h2⟩:=ho
 obtain ⟨H1,H2,rfl,hb,h3⟩:=h2.split m
 obtain ⟨a1,a2⟩:=Aaa.Apart.Bbf hb ha
 refine ⟨Ho.or H1,?_,Ho,H1,_,rfl,a1,?_,h3⟩
 ·intro k o e
  rw [← Aaa.or_assoc]
  exact Aaa.Bbh e
 ·rw [List.length_take,Nat.min_eq_left hm]
  exact Own.take h1 hm
section
variable {A:World} {ds:List Deferred} {n0:Nat} {env env':Env} {l l' X:List Aaa} {q:Act→World→Prop} {P:Program} {Q:Exit→Act→World→Prop} {ops:Array Oper} {os rest:List Oper} {o:Oper} {α:Type} {R:Al3 α}
theorem C14 {T:TypeId} {Hr:Aaa} {A':Option Addr} {c k:Nat} {xs:List α} {cx:List Value} {x':α} (hH:Aqq R T Hr A' c xs k cx) (h':R.own x' none_ cx)
  (hk:Abp R T Hr (.slice A' (xs.set k x').length c) (xs.set k x')→K ds A n0 env (Hr :: l) q):K ds A n0 env (Hr :: l) q :=
 hk (hH.close h' (Aaa.Bly _))
theorem C21 {xs:List α} {k:Nat} {Hr Hx:Aaa} {A':Option Addr} {c:Nat} {cx:List Value} {x':α} {T T1:TypeId} {p v:Value} {s y:Operand} (ho:o.op=.store T1 s y) (hg:Ae4 ops env o=some true) (hd:inB n0 o.dst=true)
  (hs:Ad5 env s=some p) (hy:Ad5 env y=some v) (hsz:(P.info? T1).map (·.size)=some v.cells.size) (hp:Place A' (k * R.sz) p) (hH:Aqq R T Hr A' c xs k cx) (hown:R.own x' Hx v.cells.toList)
  (hk:∀ h',Abp R T h' (.slice A' (xs.set k x').length c) (xs.set k x')→K ds A n0 (Acs env o.dst undef) (h' :: l) (wpList P ops Q rest)):K ds A n0 env (Hr :: Hx :: l) (wpList P ops Q (o :: rest)):=by
 obtain ⟨hl,h1⟩:=R.len hown
 have hcl:cx.length=R.sz:=by obtain ⟨Ho,H0,cs,_,_,_,_,_,h,_⟩:=hH;exact h
 refine C2z (off:=0) ho hg hd hs hy hsz hp hH (by omega) h1 fun Hr' hH'=>?_
 rw [List.take_zero,List.nil_append,Nat.zero_add,hl,List.drop_eq_nil_of_le (by omega),List.append_nil] at hH'
 refine K.mv1 (Aup fun ha=>hk _ (hH'.close hown ha))
theorem Bpc {β γ:Type} {x:Option (Option β)} {g:β→Option γ} {r:γ} (h:(x.bind fun y=>y.bind g)=some r):∃ u,x=some (some u)∧g u=some r:=by
 cases x with
 | none=>cases h
 | some y =>
  cases y with
  | none=>cases h
  | some u=>exact ⟨u,rfl,h⟩
theorem Ccy {xs xs':List α} {ix:Int} {x':α} (h:Aj3 xs ix x'=some xs'):xs'=xs.set ix.toNat x':=(Option.some.inj (Auc h).2).symm
theorem Byi {u:α} {H H':Aaa} {cs:List Value} (h:R.own u H cs):(Ahc R).own none H' cs:=R.len h
theorem Bu4 {T:TypeId} {Hr:Aaa} {A':Option Addr} {c:Nat} {ix:Int} {xs xs':List α} {cx:List Value} {x':α} (hs:Aj3 xs ix x'=some xs') (hH:Aqq R T Hr A' c xs ix.toNat cx) (h':R.own x' none_ cx)
  (hk:Abp R T Hr (.slice A' xs'.length c) xs'→K ds A n0 env (Hr :: l) q):K ds A n0 env (Hr :: l) q:=by
 have e:=Ccy hs
 subst e
 exact C14 hH h' hk
theorem Bu7 {xs xs':List α} {ix:Int} {Hr Hx:Aaa} {A':TyO} {c:Nat} {cx:List Value} {x':α} {T T1:TypeId} {p v:Value} {s y:Operand} (ho:o.op=.store T1 s y) (hg:Ae4 ops env o=some true) (hd:inB n0 o.dst=true)
  (hs:Ad5 env s=some p) (hy:Ad5 env y=some v) (hsz:(P.info? T1).map (·.size)=some v.cells.size) (hp:Place A' (ix.toNat * R.sz) p) (hset:Aj3 xs ix x'=some xs') (hH:Aqq R T Hr A' c xs ix.toNat cx) (hown:R.own x' Hx v.cells.toList)
  (hk:∀ h',Abp R T h' (.slice A' xs'.length c) xs'→K ds A n0 (Acs env o.dst undef) (h' :: l) (wpList P ops Q rest)):K ds A n0 env (Hr :: Hx :: l) (wpList P ops Q (o :: rest)):=by
 have e:=Ccy hset
 subst e
 exact C21 ho hg hd hs hy hsz hp hH hown hk
theorem Bu6 {xs xs':List α} {h:Aaa} {A':TyO} {c:Nat} {T TS:TypeId} {x y:Operand} {k:IntKind} (H:Int) (ho:o.op=.slice TS x none (some y) none) (hg:Ae4 ops env o=some true) (hd:inB n0 o.dst=true) (hx:Ad5 env x=some (.slice A' xs.length c))
  (hy:Ad5 env y=some (.int k H)) (h1:P.underlying TS=some (.slice T)) (h2:(P.info? T).map (·.size)=some R.sz) (hs:Ah4 xs 0 H=some xs') (hO:Abp R T h (.slice A' xs.length c) xs)
  (hk:∀ h',Abp R T h' (.slice A' xs'.length c) xs'→K ds A n0 (Acs env o.dst (.slice A' xs'.length c)) (h' :: l) (wpList P ops Q rest)):K ds A n0 env (h :: l) (wpList P ops Q (o :: rest)):=by
 obtain ⟨hb,hxs⟩:=Auc hs
 obtain ⟨hL,hLH,hH⟩:=of_decide_eq_true hb
 have hxs:xs.take H.toNat=xs':=by
  have:=Option.some.inj hxs
  rw [← this]
  simp
 subst hxs
 have hm:H.toNat≤xs.length:=by omega
 obtain ⟨h',hin,hT⟩:=hO.take hm
 obtain ⟨Ho,Hi,cs,rfl,ha0,hO,_⟩:=hO
 have hA:A'=none∨∃ g,A'=some ⟨g,0,none⟩:=by
  rcases hO.2.2 with ⟨h3,h4⟩ | ⟨g,cap,cur,h3,_⟩
  ·simp only [Value.slice.injEq] at h3;exact .inl h3.1
  ·simp only [Value.slice.injEq] at h3;exact .inr ⟨g,h3.1⟩
 have hcap:xs.length≤c:=by
  rcases hO.2.2 with ⟨h3,h4⟩ | ⟨g,cap,cur,h3,h4,h5,_⟩
  ·simp only [Value.slice.injEq] at h3;omega
  ·simp only [Value.slice.injEq] at h3
   obtain ⟨_,_,rfl⟩:=h3
   omega
 have hlen:(xs.take H.toNat).length=H.toNat:=by rw [List.length_take];omega
 refine C12 hin ?_
 refine Als hg fun a w ha hw=>?_
 cases hif:P.info? T with
 | none=>rw [hif] at h2;cases h2
 | some i =>
  have h5:0≤H:=by omega
  have h6:H≤c:=by omega
  have hrun:(Instr.sliceAt TS (.slice A' xs.length c) none (some (.int k H)) none).run P w=.ok (.slice A' H.toNat c) w:=by
   simp [Instr.sliceAt,Instr.slice,Instr.sliceBounds,Instr.sliceBound,asIntOf,run_underlying h1,sizeOf,typeInfo,hif,h5,h6]
   all_goals (rcases hA with rfl | ⟨g,rfl⟩ <;> simp [Addr.add])
  unfold Oper.wp execOp
  simp only [ho,ha.eval hx,Option.map_none,Option.map_some,ha.eval hy,Sem.run_bind,hrun,Result.andThen_ok,Sem.run_pure]
  have hk:=hk h'
  rw [hlen] at hk hT
  exact hk hT _ _ (ha.Acs _ hd) hw
end
section
variable {P:Program} {Q:Exit→Act→World→Prop} {S:World→Prop} {E:List Nat}
def A3k (ops:Array Oper) (E:List Nat) (e:Array Bool→Bool):List (Nat×Nat)→Array Bool→Bool
 | [],listed=>e listed
 | (i,0) :: rest,listed=>decide (i < ops.size) && (Region.ready .any ops listed).contains i && Region.free .any ops listed i && A3k ops E e rest (listed.setIfInBounds i true)
 | (i,k+1) :: rest,listed=>decide (k=2) && E.contains i && decide (i < ops.size) && (Region.ready .any ops listed).contains i && Region.free .any ops listed i && A3k ops E e rest (listed.setIfInBounds i true)
theorem B0d (l:List Oper) (hsel:Region.noSelect l.toArray=true) (hQ:∀ c a d v w,Q (.panic c) (Act.put a d v) w→Q (.panic c) a w) (e:Array Bool→Bool) (T:Act→World→Prop) (g:Nat)
  (hT:∀ listed a w,Closed .any l.toArray listed→e listed=true→T a w→wpAnyS P .any l.toArray Q S E g listed a w) :
  ∀ (plan:List (Nat×Nat)) (listed:Array Bool) (a:Act) (w:World),Closed .any l.toArray listed→A3k l.toArray E e plan listed=true→(plan.any (·.2 == 3)=true→S w) →
   Ad7 P l.toArray Q S T (Aka l.toArray plan) a w→wpAnyS P .any l.toArray Q S E (plan.length+g) listed a w
 | [],listed,a,w,hcl,hB,_,h=>by
  simp only [A3k] at hB
  rw [List.length_nil,Nat.zero_add]
  exact hT listed a w hcl hB h
 | (i,0) :: rest,listed,a,w,hcl,hB,hS,h=>by
  simp only [A3k,Bool.and_eq_true,decide_eq_true_eq] at hB
  obtain ⟨⟨⟨hi,hr⟩,hf⟩,hB'⟩:=hB
  have ho:l.toArray[i]? = some l.toArray[i]:=by simp
  simp only [Aka,List.filterMap_cons,ho,Option.map_some,Ad7] at h
  obtain ⟨v,hy,h⟩:=h
  have hr':i ∈ Region.ready .any l.toArray listed:=by simpa using hr
  rw [show (((i,0) :: rest:List (Nat×Nat)).length+g)=(rest.length+g)+1 by simp only [List.length_cons];omega]
  exact wpAnyS_first ho (Region.noSelect_spec hsel) (fun c a w=>hQ c a _ v w) (.inl fun _=>trivial) _ listed a w hcl (Region.free_spec ho hf) hr' hy (.inl fun _=>trivial)
   (B0d l hsel hQ e T g hT rest _ _ w (hcl.set hr') hB' (fun h=>hS (by simpa using h)) h)
 | (i,k+1) :: rest,listed,a,w,hcl,hB,hS,h=>by
  simp only [A3k,Bool.and_eq_true,decide_eq_true_eq] at hB
  obtain ⟨⟨⟨⟨⟨hk,hE⟩,hi⟩,hr⟩,hf⟩,hB'⟩:=hB
  subst hk
  have ho:l.toArray[i]? = some l.toArray[i]:=by simp
  simp only [Aka,List.filterMap_cons,ho,Option.map_some,Ad7] at h
  obtain ⟨v,hy,h⟩:=h
  have hr':i ∈ Region.ready .any l.toArray listed:=by simpa using hr
  have hSw:S w:=hS (by simp)
  rw [show (((i,2+1) :: rest:List (Nat×Nat)).length+g)=(rest.length+g)+1 by simp only [List.length_cons];omega]
  exact wpAnyS_first (T:=S) ho (Region.noSelect_spec hsel) (fun c a w=>hQ c a _ v w) (.inr ⟨by simpa using hE,fun _ h=>h⟩) _ listed a w hcl (Region.free_spec ho hf) hr' hy (.inr hSw)
   (B0d l hsel hQ e T g hT rest _ _ w (hcl.set hr') hB' (fun _=>hSw) h)
def Bjs (ops:Array Oper) (E:List Nat) (i j m:Nat) (listed:Array Bool):Bool :=
 (decide (Region.ready .any ops listed=[i,j]) && !Aym .any ops E i && !(Nat.beq i j)) &&
 (decide (Region.ready .any ops (listed.setIfInBounds i true)=[j]) && (decide (Region.ready .any ops (listed.setIfInBounds j true)=[i]) &&
 (A0p .any ops E (ops.size - m) m ((listed.setIfInBounds i true).setIfInBounds j true))))
def Bjt (P:Program) (os:List Oper) (Q:Exit→Act→World→Prop) (S:World→Prop) (i j m:Nat) (a:Act) (w:World):Prop :=
 wpOp P os.toArray Q i (fun a w=>wpOp P os.toArray Q j (fun a' w'=>(S w→S w')∧wpList P os.toArray Q (os.drop m) a' w') a w) a w ∧
 wpOp P os.toArray Q j (fun a' w'=>(S w→S w')∧wpOp P os.toArray Q i (wpList P os.toArray Q (os.drop m)) a' w') a w
theorem Dde (l:List Oper) {i j m:Nat} (listed:Array Bool) (a:Act) (w:World) (hB:Bjs l.toArray E i j m listed=true) (h:Bjt P l Q S i j m a w):wpAnyS P .any l.toArray Q S E (l.toArray.size - m+2) listed a w:=by
 simp only [Bjs,Bool.and_eq_true,decide_eq_true_eq,Bool.not_eq_true'] at hB
 obtain ⟨⟨⟨h0,hn⟩,hij⟩,h1,h2,h3⟩:=hB
 have hne:i≠j:=fun e=>by rw [e,Nat.beq_refl] at hij;cases hij
 have tail:∀ a w,wpList P l.toArray Q (l.drop m) a w→wpAnyS P .any l.toArray Q S E (l.toArray.size - m) ((listed.setIfInBounds i true).setIfInBounds j true) a w:=fun a w hl=>by
  have hd:(l.drop m).length=l.toArray.size - m:=by simp
  have:=B0e (S:=S) (E:=E) (l.drop m) m ((listed.setIfInBounds i true).setIfInBounds j true) a w (fun j=>by simp) (by rw [hd];exact h3) hl
  rw [hd] at this
  exact this
 refine ⟨fun hc=>(by rw [h0] at hc;cases hc),fun t ht=>?_⟩
 rw [h0] at ht
 have ht:t=i∨t=j:=by simpa using ht
 rcases ht with rfl | rfl
 ·refine wpOp_mono (fun a' w' h'=>⟨fun hc=>(by rw [hn] at hc;cases hc),?_⟩) h.1
  refine ⟨fun hc=>(by rw [h1] at hc;cases hc),fun t' ht'=>?_⟩
  rw [h1] at ht'
  have ht':t'=j:=by simpa using ht'
  subst ht'
  exact wpOp_mono (fun a'' w'' h''=>⟨fun _ hS=>h''.1 hS,tail _ _ h''.2⟩) h'
 ·refine wpOp_mono (fun a' w' h'=>⟨fun _ hS=>h'.1 hS,?_⟩) h.2
  refine ⟨fun hc=>(by rw [h2] at hc;cases hc),fun t' ht'=>?_⟩
  rw [h2] at ht'
  have ht':t'=i:=by simpa using ht'
  subst ht'
  refine wpOp_mono (fun a'' w'' h''=>⟨fun hc=>(by rw [hn] at hc;cases hc),?_⟩) h'.2
  rw [Array.setIfInBounds_comm _ _ (Ne.symm hne)]
  exact tail _ _ h''
theorem Ddg {id:Nat} {a:Act} {w:World} {l:List Oper} (plan:List (Nat×Nat)) (i j m:Nat) (S:World→Prop) (hm:P.follows .mixedOrders=true)
  (hB:(Region.noSelect l.toArray && Nat.beq (plan.length+2) m && decide (m≤l.length) && A3k l.toArray (A2l plan) (Bjs l.toArray (A2l plan) i j m) plan (Array.replicate l.toArray.size false))=true)
  (hQ:∀ c a d v w,Q (.panic c) (Act.put a d v) w→Q (.panic c) a w) (hS:S w.drew)
  (h:Ad7 P l.toArray Q S (Bjt P l Q S i j m) (Aka l.toArray plan) a w.drew):(Code.region id l.toArray true).wp P Q a w:=by
 simp only [Bool.and_eq_true,decide_eq_true_eq] at hB
 obtain ⟨⟨⟨hsel,hpm⟩,hlen⟩,hB⟩:=hB
 have hpm:=Nat.eq_of_beq_eq_true hpm
 refine wp_region_any hm ?_
 have hcl:Closed .any l.toArray (Array.replicate l.toArray.size false):=fun j oj _ hl=>by
  rw [show (Array.replicate l.toArray.size false).getD j false=false by
   rcases Nat.lt_or_ge j l.toArray.size with h' | h' <;> (simp [Array.getD_eq_getD_getElem?,Array.getElem?_replicate];try split <;> rfl)] at hl
  cases hl
 have:=B0d (P:=P) (Q:=Q) (S:=S) (E:=A2l plan) l hsel hQ _ _ (l.toArray.size - m+2) (fun listed a w _ he h=>Dde l listed a w he h) plan _ a w.drew hcl hB (fun _=>hS) h
 have:=B0f _ _ _ _ this
 rw [show plan.length+(l.toArray.size - m+2)=l.toArray.size by simp only [List.size_toArray];omega] at this
 exact this
end
section
variable {A:World} {ds:List Deferred} {n:Nat} {env:Env} {l X:List Aaa} {q:Act→World→Prop} {P:Program} {Q:Exit→Act→World→Prop} {S:World→Prop} {o:Oper}
theorem C11 {id:Nat} {os:List Oper} (plan:List (Nat×Nat)) (i j m:Nat) (S:World→Prop) (hm:P.follows .mixedOrders=true)
  (hB:(Region.noSelect os.toArray && Nat.beq (plan.length+2) m && decide (m≤os.length) && A3k os.toArray (A2l plan) (Bjs os.toArray (A2l plan) i j m) plan (Array.replicate os.toArray.size false))=true)
  (hQ:∀ c a d v w,Q (.panic c) (Act.put a d v) w→Q (.panic c) a w) (hS:∀ w,St A l w→S w)
  (h:K ds A n env l (Ad7 P os.toArray Q S (Bjt P os Q S i j m) (Aka os.toArray plan))):K ds A n env l ((Code.region id os.toArray true).wp P Q):=fun a w ha hw =>
 Ddg plan i j m S hm hB hQ (hS _ hw.drew) (h a _ ha hw.drew)
theorem Cb8 {ops:Array Oper} {i:Nat} {next:Act→World→Prop} (hi:ops[i]? = some o) (hg:Ae4 ops env o=some true) (h:K ds A n env l (fun a w=>o.wp P a w next Q)):K ds A n env l (wpOp P ops Q i next):=fun a w ha hw=>by
 unfold wpOp
 rw [hi]
 simp only
 rw [if_pos (Aqk ha hg)]
 exact .inl (h a w ha hw)
theorem Cb6 {ops:Array Oper} {i:Nat} {next:Act→World→Prop} (ob:Obj) (v:Nat→Value) (hi:ops[i]? = some o) (hSA:∀ w,S w→S (w.alloc ob)) (hg:Ae4 ops env o=some true) (hs:(Aiq o.op && allB o.op.operands.toList env && inB n o.dst)=true) (hf:∀ b,follow P (execOp (rho env) o) [.num b]=some (.value (v b),[.nw ob b]))
  (h:∀ b,K ds A n (Acs env o.dst (v b)) (blk b ob :: l) next):K ds A n env l (fun a w=>wpOp P ops Q i (fun a' w'=>(S w→S w')∧next a' w') a w):=fun a w ha hw=>by
 simp only [Bool.and_eq_true] at hs
 unfold wpOp
 rw [hi]
 simp only
 rw [if_pos (Aqk ha hg)]
 refine .inl ?_
 unfold Oper.wp
 rw [execOp_congr a.eval (rho env) o hs.1.1 (ha.rho hs.1.2),Ati (w':=w.alloc ob) (hf w.heap.size) ⟨rfl,rfl⟩]
 exact ⟨fun h=>hSA _ h,h _ _ _ (ha.Acs _ hs.2) (hw.new ob)⟩
theorem C1z {os:List Oper} {i j m:Nat} (h1:K ds A n env l (fun a w=>wpOp P os.toArray Q i (fun a w=>wpOp P os.toArray Q j (fun a' w'=>(S w→S w')∧wpList P os.toArray Q (os.drop m) a' w') a w) a w))
  (h2:K ds A n env l (fun a w=>wpOp P os.toArray Q j (fun a' w'=>(S w→S w')∧wpOp P os.toArray Q i (wpList P os.toArray Q (os.drop m)) a' w') a w)):K ds A n env l (Bjt P os Q S i j m):=fun a w ha hw=>⟨h1 a w ha hw,h2 a w ha hw⟩
theorem Bf5 {tail:Act→World→Prop} {pl:List (Oper×Nat)} {ops:Array Oper} {v:Value} (vs:List Orc) (es:List Ev) (hg:Ae4 ops env o=some true) (hs:(Aiq o.op && allB o.op.operands.toList env && inB n o.dst)=true) (hf:follow P (execOp (rho env) o) vs=some (.value v,es)) (hS:∀ w,S w→∃ s,Alz s w∧Atz s es)
  (h:K ds A n (Acs env o.dst v) l (Ad7 P ops Q S tail pl)):K ds A n env l (Ad7 P ops Q S tail ((o,3) :: pl)):=Ccm vs es hg hs hf (fun w hw=>by obtain ⟨s,h1,h2⟩:=hS w hw;exact h1.evs h2) h
theorem Alz.alloc {ob:Obj}:∀ {l:List Aaa} {w:World},Alz l w→Alz l (w.alloc ob)
 | [],_,_=>trivial
 | f :: l,w,h=>⟨fun k o e=>by
  have:=h.1 k o e
  simp only [World.alloc]
  rw [Array.getElem?_push]
  split
  ·rename_i hk
   rw [hk,Array.getElem?_eq_none (Nat.le_refl _)] at this
   cases this
  ·exact this,Alz.alloc h.2⟩
end
end
end Go.Proofs.YtkdjiehclahliaaGreatDoor
