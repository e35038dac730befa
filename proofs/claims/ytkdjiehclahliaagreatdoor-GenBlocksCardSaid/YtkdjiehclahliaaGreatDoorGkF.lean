/- Texts of mine for genBlocks_card, part 6. -/
import Derived.RangeFuncNested
import Derived.RangeFuncBound
import Derived.RangeFuncBox
import Derived.RangeFuncCalls
import Derived.RangeFuncLeaves
import Derived.Shelf.Abstract
import Derived.Shelf.RegionOpen
import Derived.WalkKit
import Derived.OwnWalkIn
import Derived.TacticsInMore
import Derived.LoopNIn
import Derived.LoopIn
import Derived.Lib.OthersKept
import Derived.Lib.UnsafeStr
import Derived.Test.YtkdjiehclahliaaGreatDoorProg
import Derived.Test.YtkdjiehclahliaaGreatDoorGkE
set_option linter.unusedSimpArgs false
set_option linter.unusedVariables false
set_option linter.unusedSectionVars false
namespace Go.Proofs.YtkdjiehclahliaaGreatDoor
set_option maxRecDepth 100000
section
open Go Go.RowKit Go.Shelf Go.Proofs
attribute [local go_sem] Oper.semAt_some
def My:List ByteArray→ByteArray→Nat
 | [],_=>0
 | y :: r,x=>if (y.toList == x.toList)=true then r.length+1 else My r x
def NY.f (_k:Nat) (Am:List ByteArray) (a1:ByteArray):Option Int:=some ((My Am.reverse a1:Nat):Int)
namespace Bw
def upto {α:Type} (f:Nat→α) (k:Nat):List α:=(List.range k).map f
theorem upto_succ {α:Type} (f:Nat→α) (k:Nat):upto f (k+1)=upto f k++[f k]:=by simp [upto,List.range_succ]
theorem upto_length {α:Type} (f:Nat→α) (k:Nat):(upto f k).length=k:=by simp [upto]
def dn (zs:List ByteArray) (j:Nat):Nat×ByteArray:=(zs.length - 1 - j,zs[zs.length - 1 - j]?.getD ⟨#[]⟩)
set_option maxHeartbeats 2000000 in
theorem A2m (F:Fence) (n:Nat) (h8:F.fn 135) (hro:F.round=none) (hn:1≤n) (l Bs n₀ b off cap:Nat) (zs:List ByteArray) (hreach:zs.length≤9223372036854775807) (hb:b < n₀) (J Jx:List (Nat×ByteArray)→World→Prop)
  (hY:∀ pre x W,J pre W→pre.length < zs.length→YieldAt F (n - 1) Tryz.prog l #[.int .i64 (x.1:Int),.string x.2] W fun e W' =>
   (e=.returned (.bool true)∧J (pre++[x]) W'∧Below n₀ W W')∨(e=.returned (.bool false)∧Jx (pre++[x]) W'))
  (W:World) (A94:Bs < n₀) (hBs:W.cell? ⟨Bs,0,none⟩=some (.slice (some ⟨b,off,none⟩) zs.length cap)) (hc:∀ j,j < zs.length→W.cell? ⟨b,off+j,none⟩=some (.string (zs[j]?.getD ⟨#[]⟩))) (h0:J [] W) :
  CallsIn F n Tryz.prog 135 #[.func (.yield l) #[] #[],.pointer (some ⟨Bs,0,none⟩)] W fun e W'=>(∃ v,e=.returned v) ∧
   ((∃ ys,ys=upto (dn zs) zs.length∧J ys W')∨(∃ pre,(∃ k,k≤zs.length∧pre=upto (dn zs) k)∧Jx pre W')):=by
 refine callsIn_of_wp Tryz.func135 rfl h8 ?_ hro
 simp only [Tryz.ntmps135,List.size_toArray,AI,Br,Nat.reduceAdd,Nat.reduceSub,Array.replicate_succ,Array.replicate_zero,List.push_toArray,List.append_toArray,List.nil_append,List.cons_append]
 gi_wp2
 gi_loopw [3] (fun i wr=>∃ k:Nat,k≤zs.length∧i=.int .i64 ((zs.length:Int) - 1 - (k:Int))∧J (upto (dn zs) k) wr∧Below n₀ W wr)
  (fun i _=>(intOf i+1).toNat)
 case atStart=>exact ⟨0,Nat.zero_le _,by simp,h0,Below.refl _ _⟩
 case round =>
  obtain ⟨k,hk,rfl,hJs,hnx⟩:=hrel
  have hcs:wr.cell? ⟨Bs,0,none⟩=some (.slice (some ⟨b,off,none⟩) zs.length cap):=(hnx.cell (p:=⟨Bs,0,none⟩) A94).trans hBs
  by_cases hlt:k < zs.length
  ·have hcx:wr.cell? ⟨b,off+(zs.length - 1 - k),none⟩=some (.string (zs[zs.length - 1 - k]?.getD ⟨#[]⟩)):=(hnx.cell (p:=⟨b,off+(zs.length - 1 - k),none⟩) hb).trans (hc _ (by omega))
   obtain ⟨fn,tmps,assign,body,hy,hR⟩:=hY _ (dn zs k) wr hJs (by rw [upto_length];exact hlt)
   dsimp only [dn] at hy
   rw [show ((zs.length:Int) - 1 - (k:Int))=((zs.length - 1 - k:Nat):Int) by omega]
   gi_wp2
   refine hR.mono ?_
   rintro e W3 (⟨rfl,hJ3,hk3⟩ | ⟨rfl,hJx3⟩)
   ·gi_wp2
    go_roundw
    case rel=>exact ⟨k+1,by omega,by first | (congr 1;done) | (congr 1;omega),by rw [upto_succ];exact hJ3,hnx.trans hk3⟩
    case measure=>first | (simp [intOf];done) | (simp [intOf];omega)
   ·gi_wp2
    refine bodyPost_ret (results_none rfl _ _ _) rfl ?_
    exact ⟨⟨_,rfl⟩,.inr ⟨_,⟨k+1,by omega,(upto_succ _ _).symm⟩,hJx3⟩⟩
  ·obtain rfl:k=zs.length:=by omega
   gi_wp2
   go_end0
   exact ⟨⟨_,rfl⟩,.inl ⟨_,rfl,hJs⟩⟩
def Strs (n₀:Nat) (W:World) (sv:Value) (zs:List ByteArray):Prop :=
 (sv=.slice none 0 0∧zs=[])∨∃ b off cap,sv=.slice (some ⟨b,off,none⟩) zs.length cap∧b < n₀∧∀ j,j < zs.length→W.cell? ⟨b,off+j,none⟩=some (.string (zs[j]?.getD ⟨#[]⟩))
theorem Strs.below {n₀:Nat} {A B:World} (h:Below n₀ A B) {sv:Value} {zs:List ByteArray}:Strs n₀ A sv zs→Strs n₀ B sv zs
 | .inl e=>.inl e
 | .inr ⟨b,off,cap,e,hb,hc⟩=>.inr ⟨b,off,cap,e,hb,fun j hj=>(h.cell (p:=⟨b,off+j,none⟩) hb).trans (hc j hj)⟩
theorem Strs.mono {n₀ n₁:Nat} {A:World} (h:n₀≤n₁) {sv:Value} {zs:List ByteArray}:Strs n₀ A sv zs→Strs n₁ A sv zs
 | .inl e=>.inl e
 | .inr ⟨b,off,cap,e,hb,hc⟩=>.inr ⟨b,off,cap,e,by omega,hc⟩
set_option maxHeartbeats 1000000 in
theorem A2n (F:Fence) (n:Nat) (h8:F.fn 135) (hro:F.round=none) (l Bs:Nat) (J:List (Nat×ByteArray)→World→Prop) (W:World) (hBs:W.cell? ⟨Bs,0,none⟩=some (.slice none 0 0)) (h0:J [] W) :
  CallsIn F n Tryz.prog 135 #[.func (.yield l) #[] #[],.pointer (some ⟨Bs,0,none⟩)] W fun e W'=>(∃ v,e=.returned v)∧J [] W':=by
 refine callsIn_of_wp Tryz.func135 rfl h8 ?_ hro
 simp only [Tryz.ntmps135,List.size_toArray,AI,Br,Nat.reduceAdd,Nat.reduceSub,Array.replicate_succ,Array.replicate_zero,List.push_toArray,List.append_toArray,List.nil_append,List.cons_append]
 gi_wp2
 gi_loopw [3] (fun i wr=>i=.int .i64 (-1)∧J [] wr) (fun _ _=>0)
 case atStart=>exact ⟨rfl,h0⟩
 case round =>
  obtain ⟨rfl,hJs⟩:=hrel
  gi_wp2
  go_end0
  exact ⟨⟨_,rfl⟩,hJs⟩
set_option maxHeartbeats 1000000 in
theorem A2o (F:Fence) (n:Nat) (h6:F.fn 126) (hro:F.round=none) (a:Option Addr) (len cap:Nat) (w:World) :
  CallsIn F n Tryz.prog 126 #[.slice a len cap] w fun e w'=>e=.returned (.func (.func 135) #[] #[.pointer (some ⟨w.heap.size,0,none⟩)])∧w'=w.alloc (.cells #[.slice a len cap] 23):=by
 refine callsIn_of_wp Tryz.func126 rfl h6 ?_ hro
 simp only [Tryz.ntmps126,List.size_toArray,AI,Br,Nat.reduceAdd,Nat.reduceSub,Array.replicate_succ,Array.replicate_zero,List.push_toArray,List.append_toArray,List.nil_append,List.cons_append]
 gi_wp2
 go_ret
 exact ⟨rfl,rfl⟩
theorem A2r (F:Fence) (n:Nat) (h8:F.fn 135) (hro:F.round=none) (hn:1≤n) (Bs n₀:Nat) (sv:Value) (zs:List ByteArray) (hreach:zs.length≤9223372036854775807) (w:World) (hBs:Bs < n₀) (hn₀:n₀≤w.heap.size)
  (hc:w.cell? ⟨Bs,0,none⟩=some sv) (hI:Strs n₀ w sv zs) :
  SeqStopsK F n Tryz.prog 135 #[.pointer (some ⟨Bs,0,none⟩)] (fun x:Nat×ByteArray=>#[Value.int .i64 (x.1:Int),Value.string x.2]) (Below n₀) (fun ys=>ys=upto (dn zs) zs.length)
   (fun pre=>∃ k,k≤zs.length∧pre=upto (dn zs) k) zs.length w:=fun l J Jx W hW _ _ hY h0=>by
 have hc':=(hW.cell (p:=⟨Bs,0,none⟩) (Nat.lt_of_lt_of_le hBs hn₀)).trans hc
 rcases hI.below (hW.mono hn₀) with ⟨rfl,rfl⟩ | ⟨b,off,cap,rfl,hb,hcs⟩
 ·exact (A2n F n h8 hro l Bs J W hc' h0).mono fun e W' ⟨he,hj⟩=>⟨he,.inl ⟨_,rfl,hj⟩⟩
 ·exact A2m F n h8 hro hn l Bs n₀ b off cap zs hreach hb J Jx hY W hBs hc' hcs h0
theorem Abm:∀ (l m:List ByteArray) (x:ByteArray),(∀ y ∈ l,¬ (y.toList == x.toList)=true)→My (l++m) x=My m x
 | [],m,x,_=>rfl
 | y :: l,m,x,h=>by
  rw [List.cons_append,My,if_neg (h y (CB ..)),Abm l m x fun z hz=>h z (Db _ hz)]
theorem Akw (zs:List ByteArray):(upto (dn zs) zs.length).map Prod.snd=zs.reverse:=by
 apply List.ext_getElem
 ·simp [upto]
 ·intro i h1 h2
  have:i < zs.length:=by simpa using h2
  simp only [upto,List.map_map,List.getElem_map,List.getElem_range,Function.comp,dn,List.getElem_reverse]
  rw [List.getElem?_eq_getElem (by omega)]
  rfl
theorem A4x (zs:List ByteArray) (k:Nat) (hk:k≤zs.length):(upto (dn zs) k).map Prod.snd=zs.reverse.take k:=by
 rw [← Akw,← List.map_take]
 congr 1
 unfold upto
 rw [← List.map_take,List.take_range,Nat.min_eq_left hk]
set_option maxHeartbeats 2000000 in
theorem Bls (F:Fence) (n:Nat) (h4:F.fn 108) (h6:F.fn 126) (h8:F.fn 135) (hro:F.round=none) (hn:3≤n) (b0:Nat) (name:ByteArray) (a:Aq) (cap:Nat) (zs:Ae) (hreach:zs.length≤9223372036854775807) (w:World)
  (hb0:b0 < w.heap.size) (hc0:w.cell? ⟨b0,10,none⟩=some (Aa a zs cap)) (hI:Strs w.heap.size w (Aa a zs cap) zs) :
  CallsIn F n Tryz.prog 108 #[.pointer (some ⟨b0,0,none⟩),.string name] w fun e W'=>e=.returned (.int .i64 (My zs.reverse name:Nat))∧Below w.heap.size w W':=by
 have h1:1≤n:=by omega
 refine callsIn_of_wp_marks Tryz.func108 rfl h4 ?_ hro
 simp only [Tryz.ntmps108,List.size_toArray,AI,Br,Nat.reduceAdd,Nat.reduceSub,Array.replicate_succ,Array.replicate_zero,List.push_toArray,List.append_toArray,List.nil_append,List.cons_append]
 gi_wp2_with (gi_at_call 126;refine (A2o F (n - 1) h6 hro _ _ _ _).mono ?_;rintro e w' ⟨rfl,rfl⟩)
 have bN:=Boxed.new w 9 (.string name)
 have bR:=Boxed.new (w.alloc (.cells #[.string name] 9)) 3 (.int .i64 0)
 have bS:=Boxed.new ((w.alloc (.cells #[.string name] 9)).alloc (.cells #[.int .i64 0] 3)) 23 (Aa a zs cap)
 rw [World.size_alloc] at bR
 rw [World.size_alloc,World.size_alloc] at bS
 have hB0:Below w.heap.size w (((w.alloc (.cells #[.string name] 9)).alloc (.cells #[.int .i64 0] 3)).alloc (.cells #[Aa a zs cap] 23)):=(((Below.refl _ w).alloc (Nat.le_refl _) _).alloc (by simp) _).alloc (by simp;omega) _
 refine wpIn_rangeFunc_ownG hro h1 (gf:=135) (lb:=#[.pointer (some ⟨w.heap.size+1+1,0,none⟩)]) rfl h8 (enters_of Tryz.func135 (by kernel_rfl) rfl)
  (A2r F (n - 1) h8 hro (by omega) (w.heap.size+1+1) (w.heap.size+3) _ zs hreach _ (by omega) (by simp) bS.cell ((hI.below hB0).mono (by omega))) belowK_t (belowK_b (by simp)) (Below.refl _ _) (fun _=>rfl)
  (fun pre W=>((∀ p ∈ pre,¬ (p.2.toList == name.toList)=true)∧(W.cell? ⟨w.heap.size+1,0,none⟩=some (.int .i64 0)∧W.frozen? ⟨w.heap.size+1,0,none⟩=false)∧W.cell? ⟨w.heap.size,0,none⟩=some (.string name))∧Below w.heap.size w W)
  (fun c pre W=>(c=.ret∧∃ ini last,pre=ini++[last]∧(∀ p ∈ ini,¬ (p.2.toList == name.toList)=true)∧(last.2.toList == name.toList)=true∧W.cell? ⟨w.heap.size+1,0,none⟩=some (.int .i64 (wrap64 ((last.1:Int)+1))))∧Below w.heap.size w W)
  (OwnFrom.and (Own.from (fun s A B row hs hg hr=>⟨hs.1,⟨cell_kept hs.2.1.1 hg hr,(frozen_kept hs.2.1.1 hg hr).trans hs.2.1.2⟩,cell_kept hs.2.2 hg hr⟩) _) (ownFrom_below (Nat.le_refl _) (by simp;omega)))
  (fun c=>OwnFrom.and (Own.from (fun s A B row hs hg hr=>by obtain ⟨hc,ini,last,e1,e2,e3,e4⟩:=hs;exact ⟨hc,ini,last,e1,e2,e3,cell_kept e4 hg hr⟩) _) (ownFrom_below (Nat.le_refl _) (by simp;omega)))
  ⟨⟨by simp,⟨(bR.alloc _).cell,(bR.alloc _).frozen⟩,((bN.alloc _).alloc _).cell⟩,hB0⟩
  (fun x=>{ tmps:=#[.pointer (some ⟨b0,0,none⟩),.string name,undef,.pointer (some ⟨w.heap.size,0,none⟩),.pointer (some ⟨w.heap.size+1,0,none⟩),.int .i64 (x.1:Int),.string x.2,.pointer (some ⟨b0,0,none⟩),.pointer (some ⟨b0,0,none⟩),.pointer (some ⟨b0,10,none⟩),Aa a zs cap,.func (.func 135) #[] #[.pointer (some ⟨w.heap.size+1+1,0,none⟩)],.int .i64 (x.1:Int),.string x.2,undef,undef,undef,undef,undef],defers:=[] }) ?assign ?body ?done ?stop
 case assign =>
  intro l x W K hK
  gi_wp2
  exact hK
 case body =>
  rintro l pre x W ⟨⟨hp,⟨hcr,hfr⟩,hcn⟩,hB⟩ _
  gi_wp2
  ·have hx:(x.2.toList == name.toList)=true:=by assumption
   exact ⟨(KeepsOthers.setCell _ _ _).from _,⟨rfl,pre,x,rfl,hp,hx,World.cell?_setCell_same' _ _ _ (by rw [hcr];rfl)⟩,hB.setCell (p:=⟨w.heap.size+1,0,none⟩) (by simp) _⟩
  ·have hx:(x.2.toList == name.toList)=false:=by assumption
   exact ⟨KeepsFrom.refl _ _,Below.refl _ _,⟨fun p hp'=>(EQ.1 hp').elim (hp p) (fun e=>by simp only [F7] at e;subst e;rw [hx];exact Bool.false_ne_true),⟨hcr,hfr⟩,hcn⟩,hB⟩
 case done =>
  rintro D ys W hD rfl ⟨⟨hne,⟨hcr,hfr⟩,_⟩,hB⟩ hK
  gi_wp2
  have hK':=(KeepsOthers.setCell W ⟨w.heap.size+1,0,none⟩ (.int .i64 0)).same D _ hK rfl
  refine ⟨by simp,.inl ⟨_,_,rfl,run_takeDeferred hK',?_⟩⟩
  have hc5:=cell_kept (World.cell?_setCell_same' W ⟨w.heap.size+1,0,none⟩ (.int .i64 0) (by rw [hcr];rfl)) (grownBy_putObj' _ D (.deferred none)) (fun r e=>by cases e;exact ⟨_,hK',rfl⟩)
  refine ⟨.int .i64 0,?_,?_,(hB.setCell (p:=⟨w.heap.size+1,0,none⟩) (by simp) _).trans (belowK_b (w:=w) (Nat.le_refl _) _ D _ _ (by simp at hD;omega) hK' rfl rfl)⟩
  ·simp [results,Tryz.f108,go_sem,hc5]
  ·have h0:My zs.reverse name=0:=by
    rw [← Akw,← List.append_nil (List.map _ _),Abm _ _ _ (fun y hy=>by
     obtain ⟨p,hp,rfl⟩:=List.mem_map.1 hy
     exact hne p hp)]
    rfl
   rw [h0]
   rfl
 case stop =>
  rintro D c pre W hD ⟨k,hk,rfl⟩ ⟨⟨rfl,ini,last,e1,e2,e3,hcr⟩,hB⟩ hK
  gi_wp2
  refine ⟨by simp,.inl ⟨_,_,rfl,run_takeDeferred hK,?_⟩⟩
  have hc5:=cell_kept hcr (grownBy_putObj' _ D (.deferred none)) (fun r e=>by cases e;exact ⟨_,hK,rfl⟩)
  obtain ⟨k',rfl⟩:∃ k',k=k'+1:=by
   cases k with
   | zero=>simp [upto] at e1
   | succ k'=>exact ⟨k',rfl⟩
  rw [upto_succ] at e1
  obtain ⟨rfl,e5⟩:=List.append_inj' e1 rfl
  obtain rfl:dn zs k'=last:=by simpa using e5
  refine ⟨.int .i64 (wrap64 (((dn zs k').1:Int)+1)),?_,?_,hB.trans (belowK_b (w:=w) (Nat.le_refl _) W D _ _ (by simp at hD;omega) hK rfl rfl)⟩
  ·simp [results,Tryz.f108,go_sem,hc5]
  ·have hk':k' < zs.length:=by omega
   have hl:My zs.reverse name=zs.length - 1 - k'+1:=by
    have hd:zs.reverse=zs.reverse.take k'++zs.reverse.drop k':=(List.take_append_drop _ _).symm
    rw [hd,Abm _ _ _ (fun y hy=>by
     rw [← A4x zs k' (by omega)] at hy
     obtain ⟨p,hp,rfl⟩:=List.mem_map.1 hy
     exact e2 p hp)]
    have hk2:k' < zs.reverse.length:=by rw [List.length_reverse];exact hk'
    rw [List.drop_eq_getElem_cons hk2,My,if_pos]
    ·rw [BX,List.length_reverse];omega
    ·rw [List.getElem_reverse]
     have:(dn zs k').2=zs[zs.length - 1 - k']:=by
      simp only [dn]
      rw [List.getElem?_eq_getElem (by omega)]
      rfl
     rw [← this]
     exact e3
   rw [hl]
   congr 2
   simp only [dn,wrap64]
   omega
end Bw
theorem Ak3:∀ l:List ByteArray,l.flatMap encS=l.map Value.string
 | []=>rfl
 | x :: t=>by rw [List.flatMap_cons,List.map_cons,Ak3 t];rfl
theorem NY.ok {k b0 c_:Nat} {Am:Ae} {a1:ByteArray} {Ay Az A2 DC EP B0 Eo AA B1 B2 Bk:Value} {H_:Ab} {A_:Aq} {r:Int} (h:NY.f k Am a1=some r) (R_:Bl encS 1 H_ (Aa A_ Am c_) Am):
  Ct Tryz.prog 108 #[.pointer (some ⟨b0,0,none⟩),.string a1] [blk b0 (.cells #[Ay,Az,A2,DC,EP,B0,Eo,AA,B1,B2,Aa A_ Am c_,Bk] 66 (0,0))] [H_]
   (fun e l1=>e=.returned (.int .i64 r)∧l1=[blk b0 (.cells #[Ay,Az,A2,DC,EP,B0,Eo,AA,B1,B2,Aa A_ Am c_,Bk] 66 (0,0))]):=by
 cases h
 intro A w X hh hw
 have hb:=hw.sat.on _ (CB ..) b0 _ (if_pos rfl)
 have hH:=hw.sat.on H_ (Db _ hh.1)
 have hlt:b0 < w.heap.size:=(Array.getElem?_eq_some_iff.1 hb).1
 have hI:Bw.Strs w.heap.size w (Aa A_ Am c_) Am∧Am.length≤9223372036854775807:=by
  obtain ⟨h1,h2,h3⟩:=R_
  rcases h3 with ⟨h3,h4⟩ | ⟨b,off,cap,cur,T,z,h3,h4,h5,h6,h7⟩
  ·refine ⟨.inl ⟨h3,List.eq_nil_of_length_eq_zero h4⟩,by rw [h4];decide⟩
  ·have hm:maxLen=9223372036854775807:=by decide
   have hg:=hH b _ h4
   refine ⟨.inr ⟨b,off,cap,h3,(Array.getElem?_eq_some_iff.1 hg).1,fun j hj=>?_⟩,by omega⟩
   have h8:=h7 j (.string (Am[j]?.getD ⟨#[]⟩)) (by
    rw [Ak3,List.getElem?_map,List.getElem?_eq_getElem hj]
    rfl)
   simp [World.cell?,hg,h8]
 refine (callsIn_wide (n:=3)).1 ((Bw.Bls Fence.wide 3 trivial trivial trivial rfl (Nat.le_refl _) b0 a1 A_ c_ Am hI.2 w hlt (by simp [World.cell?,hb]) hI.1).mono ?_)
 rintro e w' ⟨rfl,h2⟩
 exact ⟨_,⟨rfl,rfl⟩,hw.below h2⟩
end
section
open Go Go.RowKit
def Aiu (b:Nat) (v:Value):Prop:=v=.pointer none∨v=.pointer (some ⟨b,0,none⟩)
def Xi (s:ByteArray) (pos:Nat):Int:=(Utf8.decode s pos).1
def PX (s:ByteArray) (pos:Nat):Nat:=pos+(Utf8.decode s pos).2
section
variable {A:World} {ds:List Deferred} {n0:Nat} {env env':Env} {l l' X:List Ab} {q:Act→World→Prop} {P:Program} {Q:Exit→Act→World→Prop} {ops:Array Oper} {os rest:List Oper} {o:Oper}
theorem St.iter {w:World} {b:Nat} {s:ByteArray} {pos:Nat} (h:St A (blk b (.stringIter s pos) :: l) w) (pos':Nat):St A (blk b (.stringIter s pos') :: l) (w.iterAt b s pos'):=by
 have hb:w.heap[b]? = some (.stringIter s pos):=h.sat.1 b _ (by simp [blk])
 refine ⟨⟨fun k o hk=>?_,fun f hf k=>?_,h.sat.2.2.keep fun f hf k o hk=>?_⟩,h.os,h.tape,h.output,by rw [Lib.iterAt_size];exact h.size⟩
 ·unfold blk at hk
  split at hk
  ·rename_i e;subst e;cases hk;exact Lib.iterAt_heap w k s pos pos' hb
  ·cases hk
 ·rcases h.sat.2.1 f hf k with h' | h'
  ·unfold blk at h' ⊢
   split at h'
   ·cases h'
   ·rename_i e';rw [if_neg e'];exact .inl rfl
  ·exact .inr h'
 ·refine Lib.iterAt_other w b k s pos' fun e'=>?_
  subst e'
  rcases h.sat.2.1 f hf k with h' | h'
  ·simp [blk] at h'
  ·rw [h'] at hk;cases hk
theorem Bkg {s:ByteArray} {t:TypeId} {x:Operand} (ho:o.op=.range t x) (hg:Cy ops env o=some true) (hd:inB n0 o.dst=true) (hx:Ch env x=some (.string s)) (ht:P.underlying t=some .string)
  (h:∀ b,K ds A n0 (Bv env o.dst (.pointer (some ⟨b,0,none⟩))) (blk b (.stringIter s 0) :: l) (wpList P ops Q rest)):K ds A n0 env l (wpList P ops Q (o :: rest)) :=
 FS hg fun a w ha hw=>by
  unfold Oper.wp execOp
  simp only [ho,ha.eval hx,Sem.run_bind,run_range_string w t s ht,Result.andThen_ok,Sem.run_pure]
  exact h _ _ _ (ha.Bv _ hd) (hw.new _)
theorem Bke {b:Nat} {s:ByteArray} {pos:Nat} {x:Operand} (hlt:decide (pos < s.size)=true) (ho:o.op=.next x true) (hg:Cy ops env o=some true) (hd:inB n0 o.dst=true) (hx:Ch env x=some (.pointer (some ⟨b,0,none⟩)))
  (h:K ds A n0 (Bv env o.dst (.tuple #[.bool true,.int .i64 (pos:Nat),.int .i32 (Xi s pos)])) (blk b (.stringIter s (PX s pos)) :: l) (wpList P ops Q rest)):K ds A n0 env (blk b (.stringIter s pos) :: l) (wpList P ops Q (o :: rest)) :=
 FS hg fun a w ha hw=>by
  have hb:w.heap[b]? = some (.stringIter s pos):=hw.sat.1 b _ (by simp [blk])
  unfold Oper.wp execOp
  simp only [ho,ha.eval hx,Sem.run_bind,Lib.run_next_any_at w b s pos _ hb (of_decide_eq_true hlt),Result.andThen_ok,Sem.run_pure]
  exact h _ _ (ha.Bv _ hd) (hw.iter _)
theorem Bkd {b:Nat} {s:ByteArray} {pos:Nat} {x:Operand} (hlt:decide (pos < s.size)=false) (ho:o.op=.next x true) (hg:Cy ops env o=some true) (hd:inB n0 o.dst=true) (hx:Ch env x=some (.pointer (some ⟨b,0,none⟩)))
  (h:K ds A n0 (Bv env o.dst (.tuple #[.bool false])) (blk b (.stringIter s pos) :: l) (wpList P ops Q rest)):K ds A n0 env (blk b (.stringIter s pos) :: l) (wpList P ops Q (o :: rest)) :=
 FS hg fun a w ha hw=>by
  have hb:w.heap[b]? = some (.stringIter s pos):=hw.sat.1 b _ (by simp [blk])
  unfold Oper.wp execOp
  simp only [ho,ha.eval hx,Sem.run_bind,Lib.run_next_end_at w b s pos _ hb (of_decide_eq_false hlt),Result.andThen_ok,Sem.run_pure]
  exact h _ _ (ha.Bv _ hd) hw
theorem St.freeze {w:World} {g:Nat} {o:Obj} (h:St A (blk g o :: l) w) (n:Nat):St A l (w.freeze ⟨g,0,none⟩ n):=by
 have hks:∀ f ∈ l,∀ k o',f k=some o'→(w.freeze ⟨g,0,none⟩ n).heap[k]? = w.heap[k]?:=fun f hf k o' hk=>by
  have hne:k≠g:=fun e=>by
   subst e
   rcases h.sat.2.1 f hf k with h' | h'
   ·simp [blk] at h'
   ·rw [h'] at hk;cases hk
  unfold World.freeze
  split
  ·rfl
  ·simp only [Array.getElem?_modify]
   rw [if_neg (fun e=>hne e.symm)]
 have hsz:(w.freeze ⟨g,0,none⟩ n).heap.size=w.heap.size:=by unfold World.freeze;split <;> simp
 have ho:(w.freeze ⟨g,0,none⟩ n).os=w.os∧(w.freeze ⟨g,0,none⟩ n).tape=w.tape∧(w.freeze ⟨g,0,none⟩ n).output=w.output:=by unfold World.freeze;split <;> exact ⟨rfl,rfl,rfl⟩
 exact ⟨h.sat.2.2.keep hks,ho.1.trans h.os,ho.2.1.trans h.tape,ho.2.2.trans h.output,by rw [hsz];exact h.size⟩
end
def Apc (T:Nat):Prop:=liesAt Tryz.prog Tryz.prog.depth T (2 / Tryz.prog.cellsOf T) 0 139 1=true
theorem Awy:(Tryz.prog.info? 139).map (·.size)=some 2:=by kernel_rfl
set_option maxHeartbeats 1000000 in
theorem A3z (b:Nat) (w:World) (h0:w.cell? ⟨b,0,none⟩=some (.pointer (some ⟨b,0,none⟩))) :
  Calls Tryz.prog 124 #[.pointer (some ⟨b,0,none⟩)] w fun e w'=>e=.returned (.tuple #[])∧w=w':=by
 obtain ⟨j,hj,_⟩:=Option.map_eq_some_iff.1 Awy
 go_enter Tryz.func124,Tryz.ntmps124
 go_wp2
 rw [Lib.run_neq_ptr_same w _ Tryz.underlying136 hj]
 go_wp2
 go_end0
 exact ⟨rfl,rfl⟩
set_option maxHeartbeats 1000000 in
theorem A3y (b T:Nat) (w:World) (hT:Apc T) (h0:w.cell? ⟨b,0,none⟩=some (.pointer none)) (hsh:w.shape? b=some (T,2)) (hfz:w.frozen? ⟨b,0,none⟩=false) :
  Calls Tryz.prog 124 #[.pointer (some ⟨b,0,none⟩)] w fun e w'=>e=.returned (.tuple #[])∧w.setCell ⟨b,0,none⟩ (.pointer (some ⟨b,0,none⟩))=w':=by
 obtain ⟨j,hj,hjs⟩:=Option.map_eq_some_iff.1 Awy
 have hlies:liesAt Tryz.prog Tryz.prog.depth T (2 / Tryz.prog.cellsOf T) 0 139 1=true:=hT
 clear hT
 go_enter Tryz.func124,Tryz.ntmps124
 go_wp2
 rw [Lib.run_to_unsafe w ⟨b,0,none⟩ Tryz.underlying136 Tryz.underlying178 hj (by rw [hjs];decide) hsh (Nat.zero_lt_succ 1)]
 simp only [Result.andThen]
 rw [Oper.upon_value]
 go_wp2
 rw [run_callFunc_extern Tryz.func133 (by kernel_rfl) (by kernel_rfl) (by kernel_rfl) (e:=Extern.AbiNoEscape.same) (by kernel_rfl)]
 rw [Lib.run_noEscape]
 simp only [Result.andThen]
 rw [Oper.upon_value]
 go_wp2
 rw [Lib.run_from_unsafe w ⟨b,0,none⟩ Tryz.underlying178 Tryz.underlying136 hj hsh hlies]
 simp only [Result.andThen]
 rw [Oper.upon_value]
 go_wp2
 go_end0
 exact ⟨rfl,rfl⟩
def Axo.f (_k:Nat) (_l:List Int):Option Unit:=some ()
theorem Axo.ok {k b0 T0 c:Nat} {l:List Int} {v:Value} {H:Ab} {A':Aq} {r:Unit} (_h:Axo.f k l=some r) (hT:Apc T0) (hv:Aiu b0 v) (_hR:Bl (encI .u8) 1 H (.slice A' l.length c) l):
  Ct Tryz.prog 124 #[.pointer (some ⟨b0,0,none⟩)] [blk b0 (.cells #[v,.slice A' l.length c] T0 (0,0))] [H] fun e l1=>∃ W0_:Value,Aiu b0 W0_∧e=.returned (.tuple #[])∧l1=[blk b0 (.cells #[W0_,.slice A' l.length c] T0 (0,0))]:=by
 intro A w X _ hw
 have hw':St A (blk b0 (.cells #[v,.slice A' l.length c] T0 (0,0)) :: X) w:=hw
 have hc:=hw'.sat.cell (CB ..) 0
 have hf:=hw'.sat.free (CB ..) 0
 have hb:w.heap[b0]? = some (.cells #[v,.slice A' l.length c] T0 (0,0)):=hw'.sat.1 b0 _ (by simp [blk])
 rcases hv with rfl | rfl
 ·refine (A3y b0 T0 w hT hc (by simp [World.shape?,hb]) hf).mono ?_
  rintro e w2 ⟨rfl,rfl⟩
  exact ⟨_,⟨_,.inr rfl,rfl,rfl⟩,hw'.set 0 _⟩
 ·refine (A3z b0 w hc).mono ?_
  rintro e w2 ⟨rfl,rfl⟩
  exact ⟨_,⟨_,.inr rfl,rfl,rfl⟩,hw'⟩
def Jk.l0:Nat→(a0:ByteArray)→(a1:Int)→(J5:Int→Int→Option (Int×Int×Int))→(x7:Int)→(x8:Int)→(p9:Nat)→Option (Int×Int×Int)
 | 0,_,_,_,_,_,_=>none
 | m10+1,a0,a1,J5,x7,x8,p9=>cond (decide (p9 < ByteArray.size a0)) (cond (decide (((p9:Nat):Int) ≥ a1)) (J5 x7 x8) (cond ((Xi a0 p9) == 10) (Jk.l0 m10 a0 a1 J5 (IntKind.i64.wrap (x7+1)) 1 (PX a0 p9)) (Jk.l0 m10 a0 a1 J5 x7 (IntKind.i64.wrap (x8+1)) (PX a0 p9)))) (J5 x7 x8)
def Jk.f (k:Nat) (a0:ByteArray) (a1:Int):Option (Int×Int×Int):=(cond (decide (a1 < 0)) (some true) (some (decide (a1 > (a0.size:Int)))):Option Bool).bind fun q1=>cond q1 (some (0,0,1)) (BG (fun (x3:Int) (x4:Int)=>some (x3,x4,0)) (fun J5=>Jk.l0 k a0 a1 J5 1 1 0))
theorem Jk.ok {k:Nat} {a0:ByteArray} {a1:Int} {r:Int×Int×Int} (h:Jk.f k a0 a1=some r): Ct Tryz.prog 46 #[sv a0,iv a1] [] [] (fun e l1=>e=.returned (.tuple #[iv r.1,iv r.2.1,iv r.2.2])∧l1=[]):=by
 refine C3 (args:=[sv a0,iv a1]) Tryz.func46 rfl (By rfl) ?_
 intro A X hh_
 unfold Jk.f at h
 refine ksr (kx 3 (Ad (B8 (bnd h fun q1 hq1 h=>?_))))
 refine G_ [(0,sv a0),(1,iv a1),(18,bv q1)] (X) ?_ ?_
 ·clear hq1
  refine AU h (fun h=>?_) fun h=>?_
  ·refine ksr (kx 3 (Ad (C9 (DH ?_))))
   obtain rfl:=As h
   exact kdn rfl
  ·refine BV (AM (ksr (kx 2 (Ad ?_))))
   obtain ⟨J5,hJ5,h⟩:=De h
   refine Df (τ:=Int×Int) (fun t=>[(7,iv t.1),(8,iv t.2)]) (fun t=>X) (fun t=>J5 t.1 t.2=some r) ?_ ?_
   ·rintro ⟨x3,x4⟩ h
    subst hJ5
    refine ksr (kx 5 (Ad (C9 ?_)))
    obtain rfl:=As h
    exact kdn rfl
   ·skip
    refine ksr (kx 1 (Bkg (s:=a0) rfl (by kernel_rfl) (by kernel_rfl) (by kernel_rfl) (by kernel_rfl) fun b6=>(Ad (C1 (Fx (τ:=Int×Int×Nat) (fun t=>[(1,iv a1),(7,iv t.1),(8,iv t.2.1),(20,pt b6)]) (fun t=>blk b6 (.stringIter a0 t.2.2) :: X) (fun m t=>Jk.l0 m a0 a1 J5 t.1 t.2.1 t.2.2=some r) k (1,1,0) h sb rfl ?_)))))
    clear h
    rintro m10 ⟨x7,x8,p9⟩ h
    cases m10 with
    | zero=>simp [Jk.l0] at h
    | succ m10 =>
     simp only [Jk.l0] at h
     refine ksr ?_
     rcases Bool.eq_false_or_eq_true (decide (p9 < ByteArray.size a0)) with t11 | t11
     ·have h:=A4i h t11
      refine Bke t11 rfl (by kernel_rfl) (by kernel_rfl) (by kernel_rfl) (kx 1 (Ad (B8 (Wg (by kernel_rfl) (BV (AM (C1 (ksr (kx 4 (Ad ?_))))))))))
      refine B8 (ksr (kx 3 (Ad ?_)))
      refine AU h (fun h=>?_) fun h=>?_
      ·exact Fv (Dg (Wi rfl (Dg (Fw (AM (K.drop (B4 (x7,x8) h sb rfl)))))))
      ·refine BV (AM (ksr (kx 3 (Ba (kx 2 (Ad ?_))))))
       refine AU h (fun h=>?_) fun h=>?_
       ·exact Bu (kx 4 (knl (B7 (AM (E3 m10 (IntKind.i64.wrap (x7+1),1,(PX a0 p9)) (Nat.lt_succ_self _) h sb rfl)))))
       ·exact BV (B7 (AM (E3 m10 (x7,IntKind.i64.wrap (x8+1),(PX a0 p9)) (Nat.lt_succ_self _) h sb rfl)))
     ·have h:=A4h h t11
      refine Bkd t11 rfl (by kernel_rfl) (by kernel_rfl) (by kernel_rfl) (kx 1 (Ad (B8 (Wf (by kernel_rfl) (Fv (Dg (Dg (Fw (AM (K.drop ?_))))))))))
      exact B4 (x7,x8) h sb rfl
 ·have h:=hq1
  clear hq1
  refine Bu (kx 3 ?_)
  refine Ee 13 h (fun h=>?_) fun h=>?_
  ·exact kx 5 (Ad (Dd ⟨gr,gr,gb (As h),trivial⟩))
  ·exact kx 5 (Ad (Dd ⟨gr,gr,gb (As h),trivial⟩))
def KO.f (k:Nat) (Ac:Int) (MR:TyA) (Er:Int):Option (Int×TyA×Int):=cond (decide (Ac > 0)) ((BA.f k MR 28 ([Ac,Er])).bind fun r3=>some (0,r3.2,IntKind.i64.wrap (Er+Ac))) (some (Ac,MR,Er))
theorem KO.ok {k b0 ER Mn SH b2_:Nat} {Ac Er:Int} {MR:TyA} {UA UB UE UF UG UH UI UJ UK UC UD:Value} {S7:Ab} {S5:Aq} {r:Int×TyA×Int} (h:KO.f k Ac MR Er=some r) (Air:Ah e48 48 4 S7 (Aa S5 MR SH) MR): Ct Tryz.prog 127 #[pt b0,pt ER,pt b2_] [bk b0 #[iv Ac] 3,bk ER #[pt Mn] 61,bk Mn #[UA,UB,UE,UF,Aa S5 MR SH,UG,UH,UI,UJ,UK,UC,UD] 66,S7,bk b2_ #[iv Er] 3] [] (fun e l1=>∃ (H0_:Ab) (A0_:Aq) (c0_:Nat),Ah e48 48 4 H0_ (Aa A0_ r.2.1 c0_) r.2.1∧e=.returned (.tuple #[])∧l1=[bk b0 #[iv r.1] 3,bk ER #[pt Mn] 61,bk Mn #[UA,UB,UE,UF,Aa A0_ r.2.1 c0_,UG,UH,UI,UJ,UK,UC,UD] 66,H0_,bk b2_ #[iv r.2.2] 3]):=by
 refine C3 (args:=[pt b0,pt ER,pt b2_]) Tryz.func127 rfl (By rfl) ?_
 intro A X hh_
 unfold KO.f at h
 refine K.eq (env':=[(0,pt b0),(1,pt ER),(2,pt b2_)]) (l':=bk b0 #[iv Ac] 3 :: bk ER #[pt Mn] 61 :: bk Mn #[UA,UB,UE,UF,Aa S5 MR SH,UG,UH,UI,UJ,UK,UC,UD] 66 :: S7 :: bk b2_ #[iv Er] 3 :: X) rfl rfl (ksr (kld 0 0 rfl (kx 1 (Ad ?_))))
 refine AU h (fun h=>?_) fun h=>?_
 ·refine ksr (kld 1 0 rfl (kld 0 0 rfl (kld 4 0 rfl (Dh #[iv Ac,iv Er] 3 2 fun b2=>(K.Bx (K.Bx (bnd h fun r3 hr3 h=>(Bz (BA.ok hr3 Air (Ah.rd (Ah.blk 3 (Ec .i64) b2 [Ac,Er] #[iv Ac,iv Er] 2 (by kernel_rfl) rfl (by decide)))) rfl ⟨(.head _),trivial⟩ ?_))))))))
  rintro _ _ ⟨h4,A5,k6,o7,rfl,rfl⟩
  refine Bi (K.Al (K.drop (FG (kld 4 0 rfl (kld 2 0 rfl (kx 1 (K.Bx (AQ 0 1 #[iv (IntKind.i64.wrap (Er+Ac))] (K.mv3 (AQ 0 1 #[iv 0] ?_))))))))))
  refine knl (Cw ?_)
  obtain rfl:=As h
  exact kdv (.tuple #[]) [bk b0 #[iv 0] 3,bk ER #[pt Mn] 61,bk Mn #[UA,UB,UE,UF,Aa A5 r3.2 k6,UG,UH,UI,UJ,UK,UC,UD] 66,h4,bk b2_ #[iv (IntKind.i64.wrap (Er+Ac))] 3] (K.An (K.mv3 (K.mv3 (K.Bx (K.Bx (BH ⟨h4,A5,k6,o7,rfl,rfl⟩))))))
 ·refine BV (Cw ?_)
  obtain rfl:=As h
  exact kdv (.tuple #[]) [bk b0 #[iv Ac] 3,bk ER #[pt Mn] 61,bk Mn #[UA,UB,UE,UF,Aa S5 MR SH,UG,UH,UI,UJ,UK,UC,UD] 66,S7,bk b2_ #[iv Er] 3] (BH ⟨S7,S5,SH,Air,rfl,rfl⟩)
def Q3.f (k:Nat) (G7:List (Int×Int×Int×Int)) (Ao:Int):Option (List (Int×Int×Int×Int)):=(BA.f k G7 18 ([Ao])).bind fun r2=>some (r2.2)
theorem Q3.ok {k b0 FY L5 ER:Nat} {G7 r:TyA} {Ao:Int} {J_ Ka Kd Ke Kf Kg Kh Ki Kj Kb Kc:Value} {Ls:Ab} {Ln:Aq} (h:Q3.f k G7 Ao=some r) (S8:Ah e48 48 4 Ls (Aa Ln G7 L5) G7): Ct Tryz.prog 79 #[pt b0,pt ER] [bk b0 #[pt FY] 61,bk FY #[J_,Ka,Kd,Ke,Aa Ln G7 L5,Kf,Kg,Kh,Ki,Kj,Kb,Kc] 66,Ls,bk ER #[iv Ao] 3] [] (fun e l1=>∃ (H0_:Ab) (A0_:Aq) (c0_:Nat),Ah e48 48 4 H0_ (Aa A0_ r c0_) r∧e=.returned (.tuple #[])∧l1=[bk b0 #[pt FY] 61,bk FY #[J_,Ka,Kd,Ke,Aa A0_ r c0_,Kf,Kg,Kh,Ki,Kj,Kb,Kc] 66,H0_,bk ER #[iv Ao] 3]):=by
 refine C3 (args:=[pt b0,pt ER]) Tryz.func79 rfl (By rfl) ?_
 intro A X hh_
 unfold Q3.f at h
 refine K.eq (env':=[(0,pt b0),(1,pt ER)]) (l':=bk b0 #[pt FY] 61 :: bk FY #[J_,Ka,Kd,Ke,Aa Ln G7 L5,Kf,Kg,Kh,Ki,Kj,Kb,Kc] 66 :: Ls :: bk ER #[iv Ao] 3 :: X) rfl rfl (Bu (kld 0 0 rfl (kld 3 0 rfl (Dh #[iv Ao] 3 1 fun b1=>(K.mv3 (K.mv3 (bnd h fun r2 hr2 h=>(Bz (BA.ok hr2 S8 (Ah.rd (Ah.blk 3 (Ec .i64) b1 [Ao] #[iv Ao] 1 (by kernel_rfl) rfl (by decide)))) rfl ⟨(.head _),trivial⟩ ?_))))))))
 rintro _ _ ⟨h3,A4,k5,o6,rfl,rfl⟩
 refine Bi (K.Al (K.drop (knl (Cw ?_))))
 obtain rfl:=As h
 exact kdv (.tuple #[]) [bk b0 #[pt FY] 61,bk FY #[J_,Ka,Kd,Ke,Aa A4 r2.2 k5,Kf,Kg,Kh,Ki,Kj,Kb,Kc] 66,h3,bk ER #[iv Ao] 3] (K.mv3 (K.Al (K.Al (K.mv3 (BH ⟨h3,A4,k5,o6,rfl,rfl⟩)))))
def Q4.f (k:Nat) (G7:List (Int×Int×Int×Int)) (Ao:Int) (Er:Int):Option (List (Int×Int×Int×Int)):=(BA.f k G7 31 ([Ao,IntKind.i64.wrap (Er+1)])).bind fun r2=>some (r2.2)
theorem Q4.ok {k b0 FY L5 ER b2_:Nat} {G7 r:TyA} {Ao Er:Int} {J_ Ka Kd Ke Kf Kg Kh Ki Kj Kb Kc:Value} {Ls:Ab} {Ln:Aq} (h:Q4.f k G7 Ao Er=some r) (S8:Ah e48 48 4 Ls (Aa Ln G7 L5) G7): Ct Tryz.prog 82 #[pt b0,pt ER,pt b2_] [bk b0 #[pt FY] 61,bk FY #[J_,Ka,Kd,Ke,Aa Ln G7 L5,Kf,Kg,Kh,Ki,Kj,Kb,Kc] 66,Ls,bk ER #[iv Ao] 3,bk b2_ #[iv Er] 3] [] (fun e l1=>∃ (H0_:Ab) (A0_:Aq) (c0_:Nat),Ah e48 48 4 H0_ (Aa A0_ r c0_) r∧e=.returned (.tuple #[])∧l1=[bk b0 #[pt FY] 61,bk FY #[J_,Ka,Kd,Ke,Aa A0_ r c0_,Kf,Kg,Kh,Ki,Kj,Kb,Kc] 66,H0_,bk ER #[iv Ao] 3,bk b2_ #[iv Er] 3]):=by
 refine C3 (args:=[pt b0,pt ER,pt b2_]) Tryz.func82 rfl (By rfl) ?_
 intro A X hh_
 unfold Q4.f at h
 refine K.eq (env':=[(0,pt b0),(1,pt ER),(2,pt b2_)]) (l':=bk b0 #[pt FY] 61 :: bk FY #[J_,Ka,Kd,Ke,Aa Ln G7 L5,Kf,Kg,Kh,Ki,Kj,Kb,Kc] 66 :: Ls :: bk ER #[iv Ao] 3 :: bk b2_ #[iv Er] 3 :: X) rfl rfl (Bu (kld 0 0 rfl (kld 3 0 rfl (kld 4 0 rfl (kx 1 (Dh #[iv Ao,iv (IntKind.i64.wrap (Er+1))] 3 2 fun b1=>(K.mv3 (K.mv3 (bnd h fun r2 hr2 h=>(Bz (BA.ok hr2 S8 (Ah.rd (Ah.blk 3 (Ec .i64) b1 [Ao,IntKind.i64.wrap (Er+1)] #[iv Ao,iv (IntKind.i64.wrap (Er+1))] 2 (by kernel_rfl) rfl (by decide)))) rfl ⟨(.head _),trivial⟩ ?_))))))))))
 rintro _ _ ⟨h3,A4,k5,o6,rfl,rfl⟩
 refine Bi (K.Al (K.drop (knl (Cw ?_))))
 obtain rfl:=As h
 exact kdv (.tuple #[]) [bk b0 #[pt FY] 61,bk FY #[J_,Ka,Kd,Ke,Aa A4 r2.2 k5,Kf,Kg,Kh,Ki,Kj,Kb,Kc] 66,h3,bk ER #[iv Ao] 3,bk b2_ #[iv Er] 3] (K.Bx (K.Bx (K.mv3 (K.mv3 (K.Bx (BH ⟨h3,A4,k5,o6,rfl,rfl⟩))))))
def Q0.f (k:Nat) (G7:List (Int×Int×Int×Int)) (Ao:Int):Option (List (Int×Int×Int×Int)):=(BA.f k G7 18 ([Ao])).bind fun r2=>some (r2.2)
theorem Q0.ok {k b0 FY L5 ER:Nat} {G7 r:TyA} {Ao:Int} {J_ Ka Kd Ke Kf Kg Kh Ki Kj Kb Kc:Value} {Ls:Ab} {Ln:Aq} (h:Q0.f k G7 Ao=some r) (S8:Ah e48 48 4 Ls (Aa Ln G7 L5) G7): Ct Tryz.prog 112 #[pt b0,pt ER] [bk b0 #[pt FY] 61,bk FY #[J_,Ka,Kd,Ke,Aa Ln G7 L5,Kf,Kg,Kh,Ki,Kj,Kb,Kc] 66,Ls,bk ER #[iv Ao] 3] [] (fun e l1=>∃ (H0_:Ab) (A0_:Aq) (c0_:Nat),Ah e48 48 4 H0_ (Aa A0_ r c0_) r∧e=.returned (.tuple #[])∧l1=[bk b0 #[pt FY] 61,bk FY #[J_,Ka,Kd,Ke,Aa A0_ r c0_,Kf,Kg,Kh,Ki,Kj,Kb,Kc] 66,H0_,bk ER #[iv Ao] 3]):=by
 refine C3 (args:=[pt b0,pt ER]) Tryz.func112 rfl (By rfl) ?_
 intro A X hh_
 unfold Q0.f at h
 refine K.eq (env':=[(0,pt b0),(1,pt ER)]) (l':=bk b0 #[pt FY] 61 :: bk FY #[J_,Ka,Kd,Ke,Aa Ln G7 L5,Kf,Kg,Kh,Ki,Kj,Kb,Kc] 66 :: Ls :: bk ER #[iv Ao] 3 :: X) rfl rfl (Bu (kld 0 0 rfl (kld 3 0 rfl (Dh #[iv Ao] 3 1 fun b1=>(K.mv3 (K.mv3 (bnd h fun r2 hr2 h=>(Bz (BA.ok hr2 S8 (Ah.rd (Ah.blk 3 (Ec .i64) b1 [Ao] #[iv Ao] 1 (by kernel_rfl) rfl (by decide)))) rfl ⟨(.head _),trivial⟩ ?_))))))))
 rintro _ _ ⟨h3,A4,k5,o6,rfl,rfl⟩
 refine Bi (K.Al (K.drop (knl (Cw ?_))))
 obtain rfl:=As h
 exact kdv (.tuple #[]) [bk b0 #[pt FY] 61,bk FY #[J_,Ka,Kd,Ke,Aa A4 r2.2 k5,Kf,Kg,Kh,Ki,Kj,Kb,Kc] 66,h3,bk ER #[iv Ao] 3] (K.mv3 (K.Al (K.Al (K.mv3 (BH ⟨h3,A4,k5,o6,rfl,rfl⟩)))))
structure GE where
 Dk:List (Int×Int×ByteArray)→List (Int×Int×Int×Int)→List ByteArray→List ByteArray→Int→ByteArray→Int→Int→List Tree→Option (List (Int×Int×Int×Int))
 DD:List (Int×Int×ByteArray)→List (Int×Int×Int×Int)→List ByteArray→List ByteArray→List Tree→Option (List (Int×Int×Int×Int))
 FO:List (Int×Int×ByteArray)→List (Int×Int×Int×Int)→List ByteArray→List ByteArray→List Tree→Option (List (Int×Int×Int×Int))
 ET:List (Int×Int×ByteArray)→List (Int×Int×Int×Int)→List ByteArray→List ByteArray→Int→ByteArray→Int→Int→List Tree→Int→Option (List (Int×Int×Int×Int))
 Ij:List (Int×Int×ByteArray)→List (Int×Int×Int×Int)→List ByteArray→List ByteArray→Int→ByteArray→Int→Int→List Tree→Option (List (Int×Int×Int×Int))
 FP:List (Int×Int×ByteArray)→List (Int×Int×Int×Int)→List ByteArray→List ByteArray→List Tree→Option (List (Int×Int×Int×Int))
def Dk.C (fC:Bg→TyA→Ae→Ae→Int→ByteArray→Int→Int→List Tree→Option TyA):Prop:=∀ {Af:Bg} {At r:TyA} {Ai Am:Ae} {Ao Ap AF:Int} {Av:ByteArray} {Ak:List Tree} {b0 AH Bt AD AT Be:Nat} {Ay Az A2 B0 AA B1 B2 Bk:Value} {CF B9 C5 BT Cs G:Ab} {AG Bm AC AR Bc:Aq} (h:fC Af At Ai Am Ao Av Ap AF Ak=some r) (Cu:Bl Dv 3 CF (Aa AG Af AH) Af) (Cj:Ah e48 48 4 B9 (Aa Bm At Bt) At) (Co:Bl encS 1 C5 (Aa AC Ai AD) Ai) (Ci:Bl encS 1 BT (Aa AR Am AT) Am) (BE:RdR (AX 54) Cs (Aa Bc Ak Be) Ak) (hG:EE G),Ct Tryz.prog 77 #[pt b0,.agg #[iv Ao,sv Av,iv Ap,iv AF,Aa Bc Ak Be]] [bk b0 #[Ay,Az,A2,Aa AG Af AH,Aa Bm At Bt,B0,Aa AC Ai AD,AA,B1,B2,Aa AR Am AT,Bk] 66,B9] [CF,C5,BT,Cs,G] (fun e l1=>∃ (H0_:Ab) (A0_:Aq) (c0_:Nat),Ah e48 48 4 H0_ (Aa A0_ r c0_) r∧e=.returned (.tuple #[])∧l1=[bk b0 #[Ay,Az,A2,Aa AG Af AH,Aa A0_ r c0_,B0,Aa AC Ai AD,AA,B1,B2,Aa AR Am AT,Bk] 66,H0_])
def DD.C (fC:Bg→TyA→Ae→Ae→List Tree→Option TyA):Prop:=∀ {Af:Bg} {At r:TyA} {Ai Am:Ae} {a1:List Tree} {b0 AH Bt AD AT C6:Nat} {Ay Az A2 B0 AA B1 B2 Bk:Value} {CF B9 C5 BT DY G:Ab} {AG Bm AC AR C4:Aq} (h:fC Af At Ai Am a1=some r) (Cu:Bl Dv 3 CF (Aa AG Af AH) Af) (Cj:Ah e48 48 4 B9 (Aa Bm At Bt) At) (Co:Bl encS 1 C5 (Aa AC Ai AD) Ai) (Ci:Bl encS 1 BT (Aa AR Am AT) Am) (Fk:RdR (AX 54) DY (Aa C4 a1 C6) a1) (hG:EE G),Ct Tryz.prog 80 #[pt b0,Aa C4 a1 C6] [bk b0 #[Ay,Az,A2,Aa AG Af AH,Aa Bm At Bt,B0,Aa AC Ai AD,AA,B1,B2,Aa AR Am AT,Bk] 66,B9] [CF,C5,BT,DY,G] (fun e l1=>∃ (H0_:Ab) (A0_:Aq) (c0_:Nat),Ah e48 48 4 H0_ (Aa A0_ r c0_) r∧e=.returned (.tuple #[])∧l1=[bk b0 #[Ay,Az,A2,Aa AG Af AH,Aa A0_ r c0_,B0,Aa AC Ai AD,AA,B1,B2,Aa AR Am AT,Bk] 66,H0_])
def FO.C (fC:Bg→TyA→Ae→Ae→List Tree→Option TyA):Prop:=∀ {Af:Bg} {At r:TyA} {Ai Am:Ae} {a1:List Tree} {b0 AH Bt AD AT C6:Nat} {Ay Az A2 B0 AA B1 B2 Bk:Value} {CF B9 C5 BT DY G:Ab} {AG Bm AC AR C4:Aq} (h:fC Af At Ai Am a1=some r) (Cu:Bl Dv 3 CF (Aa AG Af AH) Af) (Cj:Ah e48 48 4 B9 (Aa Bm At Bt) At) (Co:Bl encS 1 C5 (Aa AC Ai AD) Ai) (Ci:Bl encS 1 BT (Aa AR Am AT) Am) (Fk:RdR (AX 54) DY (Aa C4 a1 C6) a1) (hG:EE G),Ct Tryz.prog 85 #[pt b0,Aa C4 a1 C6] [bk b0 #[Ay,Az,A2,Aa AG Af AH,Aa Bm At Bt,B0,Aa AC Ai AD,AA,B1,B2,Aa AR Am AT,Bk] 66,B9] [CF,C5,BT,DY,G] (fun e l1=>∃ (H0_:Ab) (A0_:Aq) (c0_:Nat),Ah e48 48 4 H0_ (Aa A0_ r c0_) r∧e=.returned (.tuple #[])∧l1=[bk b0 #[Ay,Az,A2,Aa AG Af AH,Aa A0_ r c0_,B0,Aa AC Ai AD,AA,B1,B2,Aa AR Am AT,Bk] 66,H0_])
def ET.C (fC:Bg→TyA→Ae→Ae→Int→ByteArray→Int→Int→List Tree→Int→Option TyA):Prop:=∀ {Af:Bg} {At r:TyA} {Ai Am:Ae} {Ao Ap AF a2:Int} {Av:ByteArray} {Ak:List Tree} {b0 AH Bt AD AT Be:Nat} {Ay Az A2 B0 AA B1 B2 Bk:Value} {CF B9 C5 BT Cs G:Ab} {AG Bm AC AR Bc:Aq} (h:fC Af At Ai Am Ao Av Ap AF Ak a2=some r) (Cu:Bl Dv 3 CF (Aa AG Af AH) Af) (Cj:Ah e48 48 4 B9 (Aa Bm At Bt) At) (Co:Bl encS 1 C5 (Aa AC Ai AD) Ai) (Ci:Bl encS 1 BT (Aa AR Am AT) Am) (BE:RdR (AX 54) Cs (Aa Bc Ak Be) Ak) (hG:EE G),Ct Tryz.prog 74 #[pt b0,.agg #[iv Ao,sv Av,iv Ap,iv AF,Aa Bc Ak Be],iv a2] [bk b0 #[Ay,Az,A2,Aa AG Af AH,Aa Bm At Bt,B0,Aa AC Ai AD,AA,B1,B2,Aa AR Am AT,Bk] 66,B9] [CF,C5,BT,Cs,G] (fun e l1=>∃ (H0_:Ab) (A0_:Aq) (c0_:Nat),Ah e48 48 4 H0_ (Aa A0_ r c0_) r∧e=.returned (.tuple #[])∧l1=[bk b0 #[Ay,Az,A2,Aa AG Af AH,Aa A0_ r c0_,B0,Aa AC Ai AD,AA,B1,B2,Aa AR Am AT,Bk] 66,H0_])
def Ij.C (fC:Bg→TyA→Ae→Ae→Int→ByteArray→Int→Int→List Tree→Option TyA):Prop:=∀ {Af:Bg} {At r:TyA} {Ai Am:Ae} {Ao Ap AF:Int} {Av:ByteArray} {Ak:List Tree} {b0 AH Bt AD AT Be:Nat} {Ay Az A2 B0 AA B1 B2 Bk:Value} {CF B9 C5 BT Cs G:Ab} {AG Bm AC AR Bc:Aq} (h:fC Af At Ai Am Ao Av Ap AF Ak=some r) (Cu:Bl Dv 3 CF (Aa AG Af AH) Af) (Cj:Ah e48 48 4 B9 (Aa Bm At Bt) At) (Co:Bl encS 1 C5 (Aa AC Ai AD) Ai) (Ci:Bl encS 1 BT (Aa AR Am AT) Am) (BE:RdR (AX 54) Cs (Aa Bc Ak Be) Ak) (hG:EE G),Ct Tryz.prog 110 #[pt b0,.agg #[iv Ao,sv Av,iv Ap,iv AF,Aa Bc Ak Be]] [bk b0 #[Ay,Az,A2,Aa AG Af AH,Aa Bm At Bt,B0,Aa AC Ai AD,AA,B1,B2,Aa AR Am AT,Bk] 66,B9] [CF,C5,BT,Cs,G] (fun e l1=>∃ (H0_:Ab) (A0_:Aq) (c0_:Nat),Ah e48 48 4 H0_ (Aa A0_ r c0_) r∧e=.returned (.tuple #[])∧l1=[bk b0 #[Ay,Az,A2,Aa AG Af AH,Aa A0_ r c0_,B0,Aa AC Ai AD,AA,B1,B2,Aa AR Am AT,Bk] 66,H0_])
def FP.C (fC:Bg→TyA→Ae→Ae→List Tree→Option TyA):Prop:=∀ {Af:Bg} {At r:TyA} {Ai Am:Ae} {a1:List Tree} {b0 AH Bt AD AT C6:Nat} {Ay Az A2 B0 AA B1 B2 Bk:Value} {CF B9 C5 BT DY G:Ab} {AG Bm AC AR C4:Aq} (h:fC Af At Ai Am a1=some r) (Cu:Bl Dv 3 CF (Aa AG Af AH) Af) (Cj:Ah e48 48 4 B9 (Aa Bm At Bt) At) (Co:Bl encS 1 C5 (Aa AC Ai AD) Ai) (Ci:Bl encS 1 BT (Aa AR Am AT) Am) (Fk:RdR (AX 54) DY (Aa C4 a1 C6) a1) (hG:EE G),Ct Tryz.prog 111 #[pt b0,Aa C4 a1 C6] [bk b0 #[Ay,Az,A2,Aa AG Af AH,Aa Bm At Bt,B0,Aa AC Ai AD,AA,B1,B2,Aa AR Am AT,Bk] 66,B9] [CF,C5,BT,DY,G] (fun e l1=>∃ (H0_:Ab) (A0_:Aq) (c0_:Nat),Ah e48 48 4 H0_ (Aa A0_ r c0_) r∧e=.returned (.tuple #[])∧l1=[bk b0 #[Ay,Az,A2,Aa AG Af AH,Aa A0_ r c0_,B0,Aa AC Ai AD,AA,B1,B2,Aa AR Am AT,Bk] 66,H0_])
structure GE.Good (R:GE):Prop where
 Dk:Dk.C R.Dk
 DD:DD.C R.DD
 FO:FO.C R.FO
 ET:ET.C R.ET
 Ij:Ij.C R.Ij
 FP:FP.C R.FP
def Dk.g (Rc:GE) (k:Nat) (Af:Bg) (At:TyA) (Ai:Ae) (Am:Ae) (Ao:Int) (Av:ByteArray) (Ap:Int) (AF:Int) (Ak:List Tree):Option TyA:=cond (Ao == 1) ((BA.f k At 3 ([])).bind fun r3=>some (r3.2)) (cond (Ao == 2) ((BA.f k At 4 ([])).bind fun r9=>some (r9.2)) (cond (Ao == 3) ((BA.f k At 5 ([])).bind fun BS=>some (BS.2)) (cond (Ao == 4) ((LB.f k Af At 2 Ap (⟨#[]⟩:ByteArray)).bind fun r21=>some (r21)) (cond (Ao == 5) ((LB.f k Af At 3 0 Av).bind fun r27=>some (r27)) (cond (Ao == 6) ((NY.f k Am Av).bind fun r33=>cond (decide (r33 > 0)) ((BA.f k At 6 ([r33])).bind fun r36=>some (r36.2)) ((LC.f k Ai Av).bind fun Gs=>(BA.f k At 8 ([Gs])).bind fun Uv=>some (Uv.2))) (cond (Ao == 7) ((Bh Ak 0).bind fun x49=>(cond (x49.kind == 6) (cond (x49.text.toList == (⟨#[116,97,98,108,101]⟩:ByteArray).toList) (some true) (some (x49.text.toList == (⟨#[117,116,102,56]⟩:ByteArray).toList))) (some false):Option Bool).bind fun q59=>cond q59 ((KF x49.text (⟨#[46]⟩:ByteArray)).bind fun s61:ByteArray=>(Bh Ak 1).bind fun x62=>(KF s61 x62.text).bind fun s74:ByteArray=>(MZ.f k s74).bind fun Uw=>(BA.f k At 10 ([Uw])).bind fun r77=>some (r77.2)) ((Rc.DD Af At Ai Am Ak).bind fun IS=>(BA.f k IS 12 ([])).bind fun r87=>some (r87.2))) (cond (Ao == 8) ((Rc.ET Af At Ai Am Ao Av Ap AF Ak 1).bind fun r95=>some (r95)) (cond (Ao == 9) ((Bh Ak 0).bind fun x101=>(Rc.Dk Af At Ai Am x101.kind x101.text x101.n x101.at_ x101.kids).bind fun Aem=>some (Aem)) (cond (Ao == 10) ((Bh Ak 0).bind fun Fg=>(Rc.Dk Af At Ai Am Fg.kind Fg.text Fg.n Fg.at_ Fg.kids).bind fun Avl=>(Fe.f k ([(⟨#[]⟩:ByteArray),(⟨#[110,111,116]⟩:ByteArray),(⟨#[35]⟩:ByteArray),(⟨#[45]⟩:ByteArray)]) Av).bind fun Ur=>(BA.f k Avl 16 ([Ur])).bind fun Aep=>some (Aep.2)) (cond (Ao == 11) ((Rc.Ij Af At Ai Am Ao Av Ap AF Ak).bind fun Aer=>some (Aer)) (cond (Ao == 12) ((Rc.FP Af At Ai Am Ak).bind fun Aev=>some (Aev)) (some (At)))))))))))))
theorem Dk.C2 {Rc:GE} (hR:Rc.Good) {k:Nat}:Dk.C (Dk.g Rc k):=by
 intro Af At r Ai Am Ao Ap AF Av Ak b0 AH Bt AD AT Be Ay Az A2 B0 AA B1 B2 Bk CF B9 C5 BT Cs G AG Bm AC AR Bc h Cu Cj Co Ci BE hG
 refine C3 (args:=[pt b0,.agg #[iv Ao,sv Av,iv Ap,iv AF,Aa Bc Ak Be]]) Tryz.func77 rfl (By rfl) ?_
 intro A X hh_
 obtain ⟨CU,CJ,Fp,BC,BU,_⟩:=hh_
 unfold Dk.g at h
 refine K.eq (env':=[(0,pt b0),(1,.agg #[iv Ao,sv Av,iv Ap,iv AF,Aa Bc Ak Be])]) (l':=bk b0 #[Ay,Az,A2,Aa AG Af AH,Aa Bm At Bt,B0,Aa AC Ai AD,AA,B1,B2,Aa AR Am AT,Bk] 66 :: B9 :: X) rfl rfl (ksr (knp #[iv Ao,sv Av,iv Ap,iv AF,Aa Bc Ak Be] 54 fun b1=>(Ba (kx 1 (kld 0 0 rfl (Ad (C1 (ksr (kx 2 (Ad ?_))))))))))
 refine AU h (fun h=>?_) fun h=>?_
 ·refine Bu (kx 1 (Dl (K.mv3 (K.mv3 (bnd h fun r3 hr3 h=>(Bz (BA.ok hr3 Cj (Bl.nil (encI .i64) 1 none_)) rfl ⟨(.head _),trivial⟩ ?_))))))
  rintro _ _ ⟨h4,A5,k6,o7,rfl,rfl⟩
  refine Bi (K.Al (K.drop (K.Al (K.drop (knl (B7 (Cw ?_)))))))
  obtain rfl:=As h
  exact kdv (.tuple #[]) [bk b0 #[Ay,Az,A2,Aa AG Af AH,Aa A5 r3.2 k6,B0,Aa AC Ai AD,AA,B1,B2,Aa AR Am AT,Bk] 66,h4] (BH ⟨h4,A5,k6,o7,rfl,rfl⟩)
 ·refine ksr (kx 2 (Ad ?_))
  refine AU h (fun h=>?_) fun h=>?_
  ·refine Bu (kx 1 (Dl (K.mv3 (K.mv3 (bnd h fun r9 hr9 h=>(Bz (BA.ok hr9 Cj (Bl.nil (encI .i64) 1 none_)) rfl ⟨(.head _),trivial⟩ ?_))))))
   rintro _ _ ⟨h10,O5,k12,Rz,rfl,rfl⟩
   refine Bi (K.Al (K.drop (K.Al (K.drop (knl (B7 (Cw ?_)))))))
   obtain rfl:=As h
   exact kdv (.tuple #[]) [bk b0 #[Ay,Az,A2,Aa AG Af AH,Aa O5 r9.2 k12,B0,Aa AC Ai AD,AA,B1,B2,Aa AR Am AT,Bk] 66,h10] (BH ⟨h10,O5,k12,Rz,rfl,rfl⟩)
  ·refine ksr (kx 2 (Ad ?_))
   refine AU h (fun h=>?_) fun h=>?_
   ·refine Bu (kx 1 (Dl (K.mv3 (K.mv3 (bnd h fun BS LG h=>(Bz (BA.ok LG Cj (Bl.nil (encI .i64) 1 none_)) rfl ⟨(.head _),trivial⟩ ?_))))))
    rintro _ _ ⟨h16,Jl,k18,o19,rfl,rfl⟩
    refine Bi (K.Al (K.drop (K.Al (K.drop (knl (B7 (Cw ?_)))))))
    obtain rfl:=As h
    exact kdv (.tuple #[]) [bk b0 #[Ay,Az,A2,Aa AG Af AH,Aa Jl BS.2 k18,B0,Aa AC Ai AD,AA,B1,B2,Aa AR Am AT,Bk] 66,h16] (BH ⟨h16,Jl,k18,o19,rfl,rfl⟩)
   ·refine ksr (kx 2 (Ad ?_))
    refine AU h (fun h=>?_) fun h=>?_
    ·refine Bu (kx 2 (kld 0 2 rfl (K.drop (kx 1 (K.An (K.An (bnd h fun r21 K0 h=>(Bz (LB.ok K0 Cu Cj) rfl ⟨CU,trivial⟩ ?_))))))))
     rintro _ _ ⟨h22,A23,k24,Hc,rfl,rfl⟩
     refine Bi (knl (B7 (Cw ?_)))
     obtain rfl:=As h
     exact kdv (.tuple #[]) [bk b0 #[Ay,Az,A2,Aa AG Af AH,Aa A23 r21 k24,B0,Aa AC Ai AD,AA,B1,B2,Aa AR Am AT,Bk] 66,h22] (BH ⟨h22,A23,k24,Hc,rfl,rfl⟩)
    ·refine ksr (kx 2 (Ad ?_))
     refine AU h (fun h=>?_) fun h=>?_
     ·refine Bu (kx 2 (kld 0 1 rfl (K.drop (kx 1 (K.An (K.An (bnd h fun r27 K3 h=>(Bz (LB.ok K3 Cu Cj) rfl ⟨CU,trivial⟩ ?_))))))))
      rintro _ _ ⟨h28,A29,k30,Hd,rfl,rfl⟩
      refine Bi (knl (B7 (Cw ?_)))
      obtain rfl:=As h
      exact kdv (.tuple #[]) [bk b0 #[Ay,Az,A2,Aa AG Af AH,Aa A29 r27 k30,B0,Aa AC Ai AD,AA,B1,B2,Aa AR Am AT,Bk] 66,h28] (BH ⟨h28,A29,k30,Hd,rfl,rfl⟩)
     ·refine ksr (kx 2 (Ad ?_))
      refine AU h (fun h=>?_) fun h=>?_
      ·refine ksr (kx 2 (kld 0 1 rfl (K.An (bnd h fun r33 Be7 h=>(CG (NY.ok Be7 Ci) rfl ⟨(t2 Fp),trivial⟩ (kx 1 (Ba (kx 2 (Ad ?_)))))))))
       refine AU h (fun h=>?_) fun h=>?_
       ·refine Bu (kx 2 (Dh #[iv r33] 3 1 fun OH=>(K.Al (K.drop (K.Al (K.Al (bnd h fun r36 LH h=>(Bz (BA.ok LH Cj (Ah.rd (Ah.blk 3 (Ec .i64) OH [r33] #[iv r33] 1 (by kernel_rfl) rfl (by decide)))) rfl ⟨(.head _),trivial⟩ ?_))))))))
        rintro _ _ ⟨h37,JC,k39,M2,rfl,rfl⟩
        refine Bi (K.Al (K.drop (knl (B7 (Cw ?_)))))
        obtain rfl:=As h
        exact kdv (.tuple #[]) [bk b0 #[Ay,Az,A2,Aa AG Af AH,Aa JC r36.2 k39,B0,Aa AC Ai AD,AA,B1,B2,Aa AR Am AT,Bk] 66,h37] (BH ⟨h37,JC,k39,M2,rfl,rfl⟩)
       ·refine Bu (kx 3 (kld 1 1 rfl (K.An (K.drop (bnd h fun Gs Pm h=>(CG (LC.ok Pm Co) rfl ⟨(.tail _ CJ),trivial⟩ (Dh #[iv Gs] 3 1 fun b42=>(K.Al (K.Al (bnd h fun Uv Z6 h=>?_))))))))))
        refine Bz (BA.ok Z6 Cj (Ah.rd (Ah.blk 3 (Ec .i64) b42 [Gs] #[iv Gs] 1 (by kernel_rfl) rfl (by decide)))) rfl ⟨(.head _),trivial⟩ ?_
        rintro _ _ ⟨h44,MO,Ns,Ol,rfl,rfl⟩
        refine Bi (K.Al (K.drop (knl (B7 (Cw ?_)))))
        obtain rfl:=As h
        exact kdv (.tuple #[]) [bk b0 #[Ay,Az,A2,Aa AG Af AH,Aa MO Uv.2 Ns,B0,Aa AC Ai AD,AA,B1,B2,Aa AR Am AT,Bk] 66,h44] (BH ⟨h44,MO,Ns,Ol,rfl,rfl⟩)
      ·refine ksr (kx 2 (Ad ?_))
       refine AU h (fun h=>?_) fun h=>?_
       ·refine B8 (ksr (kx 1 (kld 0 4 rfl (bnd h fun x49 hx49 h=>(DI (T:=54) (kd:=.i64) (R:=(AX 54)) rfl hx49 BE fun p50 u53 q54 e51 y52=>?_)))))
        obtain ⟨Mk,Mv,rfl,WH⟩:=DF 54 q54
        refine Fq rfl e51 (t3 BC) (knp #[iv 0,sv noS,iv 0,iv 0,nS] 54 fun b58=>(AQ 0 5 #[iv x49.kind,sv x49.text,iv x49.n,iv x49.at_,Aa Mk x49.kids Mv] (Ad (bnd h fun q59 hq59 h=>?_))))
        refine G_ [(0,pt b0),(3,pt b1),(5,pt b58),(71,bv q59)] (bk b58 #[iv x49.kind,sv x49.text,iv x49.n,iv x49.at_,Aa Mk x49.kids Mv] 54 :: bk b1 #[iv Ao,sv Av,iv Ap,iv AF,Aa Bc Ak Be] 54 :: bk b0 #[Ay,Az,A2,Aa AG Af AH,Aa Bm At Bt,B0,Aa AC Ai AD,AA,B1,B2,Aa AR Am AT,Bk] 66 :: B9 :: X) ?_ ?_
        ·clear hq59
         refine AU h (fun h=>?_) fun h=>?_
         ·refine B8 (Js [(0,0),(1,0),(2,3),(3,0),(4,0),(5,3),(6,0),(7,0),(8,3)] [bk b58 #[iv x49.kind,sv x49.text,iv x49.n,iv x49.at_,Aa Mk x49.kids Mv] 54,bk b1 #[iv Ao,sv Av,iv Ap,iv AF,Aa Bc Ak Be] 54,Cs] (fun w h_=>⟨h_.sat.on _ (.head _),h_.sat.on _ (.tail _ (.head _)),h_.sat.on _ (t4 BC),trivial⟩) (Ar 2 (AP 0 1 rfl (bnd h fun s61 Bfy h=>(Bkl rfl (by kernel_rfl) (by kernel_rfl) (by kernel_rfl) (by kernel_rfl) Bfy (Ar 1 (AP 1 4 rfl (bnd h fun x62 ZV h=>(GT (T:=54) (kd:=.i64) (R:=(AX 54)) rfl ZV BE fun p63 u66 q67 e64 y65=>?_)))))))))
          obtain ⟨Hh,k69,rfl,KA⟩:=DF 54 q67
          refine Nu (off:=1) rfl e64 y65 fun p71 e72 y73=>?_
          have e72:Elem _ p71 [sv x62.text,iv x62.n,iv x62.at_,Aa Hh x62.kids k69]:=e72
          refine Mw rfl (by kernel_rfl) (by kernel_rfl) (by kernel_rfl) (by kernel_rfl) e72 (fun w h_=>h_.mem _ (.tail _ (.tail _ (.head _)))) (Ca (bnd h fun s74 Bfz h=>(TD rfl (by kernel_rfl) (by kernel_rfl) (by kernel_rfl) (by kernel_rfl) Bfz (K.drop (K.drop (bnd h fun Uw Bfj h=>(G2 (MZ.ok Bfj hG) ⟨(t2 BU),trivial⟩ (Dh #[iv Uw] 3 1 fun b76=>(K.Al (K.Al ?_))))))))))
          refine bnd h fun r77 Bfm h=>(Bz (BA.ok Bfm Cj (Ah.rd (Ah.blk 3 (Ec .i64) b76 [Uw] #[iv Uw] 1 (by kernel_rfl) rfl (by decide)))) rfl ⟨(.head _),trivial⟩ ?_)
          rintro _ _ ⟨h78,A79,k80,Uc,rfl,rfl⟩
          refine Bi (K.Al (K.drop (Ad (C9 (DH (Fu ?_))))))
          obtain rfl:=As h
          exact kdv (.tuple #[]) [bk b0 #[Ay,Az,A2,Aa AG Af AH,Aa A79 r77.2 k80,B0,Aa AC Ai AD,AA,B1,B2,Aa AR Am AT,Bk] 66,h78] (BH ⟨h78,A79,k80,Uc,rfl,rfl⟩)
         ·refine BV (AM (ksr (kx 2 (kld 1 4 rfl (K.drop (K.drop (K.An (K.An (bnd h fun IS Nj h=>(Bz (hR.DD Nj Cu Cj Co Ci BE hG) rfl ⟨CU,CJ,Fp,BC,BU,trivial⟩ ?_))))))))))
          rintro _ _ ⟨OZ,A84,We,o86,rfl,rfl⟩
          refine Bi (FG (kx 1 (Dl (K.Al (K.Al (bnd h fun r87 ZM h=>(Bz (BA.ok ZM o86 (Bl.nil (encI .i64) 1 none_)) rfl ⟨(.head _),trivial⟩ ?_)))))))
          rintro _ _ ⟨h88,A89,k90,o91,rfl,rfl⟩
          refine Bi (K.Al (K.drop (knl (B7 (Cw ?_)))))
          obtain rfl:=As h
          exact kdv (.tuple #[]) [bk b0 #[Ay,Az,A2,Aa AG Af AH,Aa A89 r87.2 k90,B0,Aa AC Ai AD,AA,B1,B2,Aa AR Am AT,Bk] 66,h88] (BH ⟨h88,A89,k90,o91,rfl,rfl⟩)
        ·have h:=hq59
         clear hq59
         refine Bu (kx 1 (kld 0 0 rfl (kx 2 ?_)))
         refine Ee 62 h (fun h=>?_) fun h=>?_
         ·refine kx 1 (kld 0 1 rfl (kx 2 ?_))
          refine Ee 66 h (fun h=>?_) fun h=>?_
          ·exact kx 5 (Ad (Dd ⟨gr,gr,gr,gb (As h),trivial⟩))
          ·exact kx 1 (kld 0 1 rfl (kx 3 (Ad (Dd ⟨gr,gr,gr,gb (As h),trivial⟩))))
         ·exact kx 9 (Ad (Dd ⟨gr,gr,gr,gb (As h),trivial⟩))
       ·refine ksr (kx 2 (Ad ?_))
        refine AU h (fun h=>?_) fun h=>?_
        ·refine Bu (kx 1 (CV 0 0 5 rfl (K.drop (K.An (K.An (bnd h fun r95 Nk h=>(Bz (hR.ET Nk Cu Cj Co Ci BE hG) rfl ⟨CU,CJ,Fp,BC,BU,trivial⟩ ?_)))))))
         rintro _ _ ⟨h96,KL,KW,Lc,rfl,rfl⟩
         refine Bi (knl (B7 (Cw ?_)))
         obtain rfl:=As h
         exact kdv (.tuple #[]) [bk b0 #[Ay,Az,A2,Aa AG Af AH,Aa KL r95 KW,B0,Aa AC Ai AD,AA,B1,B2,Aa AR Am AT,Bk] 66,h96] (BH ⟨h96,KL,KW,Lc,rfl,rfl⟩)
        ·refine ksr (kx 2 (Ad ?_))
         refine AU h (fun h=>?_) fun h=>?_
         ·refine Bu (kx 2 (kld 0 4 rfl (K.drop (bnd h fun x101 hx101 h=>(DI (T:=54) (kd:=.i64) (R:=(AX 54)) rfl hx101 BE fun Bpq u105 Aec Yz y104=>?_)))))
          obtain ⟨Ag7,Apl,rfl,WC⟩:=DF 54 Aec
          refine Fq rfl Yz (t2 BC) (K.An (K.An (bnd h fun Aem Bdj h=>(Bz (hR.Dk Bdj Cu Cj Co Ci WC hG) rfl ⟨CU,CJ,Fp,BC,BU,trivial⟩ ?_))))
          rintro _ _ ⟨Amt,Ahb,Apm,Bmx,rfl,rfl⟩
          refine Bi (knl (B7 (Cw ?_)))
          obtain rfl:=As h
          exact kdv (.tuple #[]) [bk b0 #[Ay,Az,A2,Aa AG Af AH,Aa Ahb Aem Apm,B0,Aa AC Ai AD,AA,B1,B2,Aa AR Am AT,Bk] 66,Amt] (BH ⟨Amt,Ahb,Apm,Bmx,rfl,rfl⟩)
         ·refine ksr (kx 2 (Ad ?_))
          refine AU h (fun h=>?_) fun h=>?_
          ·refine ksr (kx 2 (kld 0 4 rfl (bnd h fun Fg ZS h=>(DI (T:=54) (kd:=.i64) (R:=(AX 54)) rfl ZS BE fun Auu B20 Brq e118 Bwi=>?_))))
           obtain ⟨Ahg,Aps,rfl,Ach⟩:=DF 54 Brq
           refine Fq rfl e118 (t3 BC) (K.Al (K.Al (bnd h fun Avl Bdm h=>(Bz (hR.Dk Bdm Cu Cj Co Ci Ach hG) rfl ⟨(.tail _ CU),(.tail _ CJ),(.tail _ Fp),(.tail _ BC),(.tail _ BU),trivial⟩ ?_))))
           rintro _ _ ⟨Byl,Bw5,Bz7,Bm7,rfl,rfl⟩
           refine Bi (FG (kx 1 (Dh #[sv noS,sv (⟨#[110,111,116]⟩:ByteArray),sv (⟨#[35]⟩:ByteArray),sv (⟨#[45]⟩:ByteArray)] 9 4 fun A1w=>(kx 1 (kld 3 1 rfl (K.mv3 (K.drop (bnd h fun Ur Bdn h=>(G2 (Fe.ok Bdn (Ah.rd (Ah.blk 9 Jp A1w [(⟨#[]⟩:ByteArray),(⟨#[110,111,116]⟩:ByteArray),(⟨#[35]⟩:ByteArray),(⟨#[45]⟩:ByteArray)] #[sv noS,sv (⟨#[110,111,116]⟩:ByteArray),sv (⟨#[35]⟩:ByteArray),sv (⟨#[45]⟩:ByteArray)] 4 (by kernel_rfl) rfl (by decide)))) ⟨(.head _),trivial⟩ (K.drop ?_))))))))))
           refine Dh #[iv Ur] 3 1 fun A1x=>(K.Al (K.Al (bnd h fun Aep Bdp h=>(Bz (BA.ok Bdp Bm7 (Ah.rd (Ah.blk 3 (Ec .i64) A1x [Ur] #[iv Ur] 1 (by kernel_rfl) rfl (by decide)))) rfl ⟨(.head _),trivial⟩ ?_))))
           rintro _ _ ⟨Amv,UY,V_,At9,rfl,rfl⟩
           refine Bi (K.Al (K.drop (knl (B7 (Cw ?_)))))
           obtain rfl:=As h
           exact kdv (.tuple #[]) [bk b0 #[Ay,Az,A2,Aa AG Af AH,Aa UY Aep.2 V_,B0,Aa AC Ai AD,AA,B1,B2,Aa AR Am AT,Bk] 66,Amv] (BH ⟨Amv,UY,V_,At9,rfl,rfl⟩)
          ·refine ksr (kx 2 (Ad ?_))
           refine AU h (fun h=>?_) fun h=>?_
           ·refine Bu (kx 1 (CV 0 0 5 rfl (K.drop (K.An (K.An (bnd h fun Aer Bdx h=>(Bz (hR.Ij Bdx Cu Cj Co Ci BE hG) rfl ⟨CU,CJ,Fp,BC,BU,trivial⟩ ?_)))))))
            rintro _ _ ⟨Amw,Ahi,Apt,Bnb,rfl,rfl⟩
            refine Bi (knl (B7 (Cw ?_)))
            obtain rfl:=As h
            exact kdv (.tuple #[]) [bk b0 #[Ay,Az,A2,Aa AG Af AH,Aa Ahi Aer Apt,B0,Aa AC Ai AD,AA,B1,B2,Aa AR Am AT,Bk] 66,Amw] (BH ⟨Amw,Ahi,Apt,Bnb,rfl,rfl⟩)
           ·refine ksr (kx 2 (Ad ?_))
            refine AU h (fun h=>?_) fun h=>?_
            ·refine Bu (kx 2 (kld 0 4 rfl (K.drop (K.An (K.An (bnd h fun Aev Bdy h=>(Bz (hR.FP Bdy Cu Cj Co Ci BE hG) rfl ⟨CU,CJ,Fp,BC,BU,trivial⟩ ?_)))))))
             rintro _ _ ⟨Amx,XD,Aag,Auc,rfl,rfl⟩
             refine Bi (knl (B7 (Cw ?_)))
             obtain rfl:=As h
             exact kdv (.tuple #[]) [bk b0 #[Ay,Az,A2,Aa AG Af AH,Aa XD Aev Aag,B0,Aa AC Ai AD,AA,B1,B2,Aa AR Am AT,Bk] 66,Amx] (BH ⟨Amx,XD,Aag,Auc,rfl,rfl⟩)
            ·refine BV (B7 (Cw ?_))
             obtain rfl:=As h
             exact kdv (.tuple #[]) [bk b0 #[Ay,Az,A2,Aa AG Af AH,Aa Bm At Bt,B0,Aa AC Ai AD,AA,B1,B2,Aa AR Am AT,Bk] 66,B9] (K.drop (BH ⟨B9,Bm,Bt,Cj,rfl,rfl⟩))
def DD.l0:Nat→(Rc:GE)→(Af:List (Int×Int×ByteArray))→(Ai:List ByteArray)→(Am:List ByteArray)→(a1:List Tree)→(x1:Int)→(l2:List (Int×Int×Int×Int))→Option (List (Int×Int×Int×Int))
 | 0,_,_,_,_,_,_,_=>none
 | m7+1,Rc,Af,Ai,Am,a1,x1,l2=>cond (decide (x1 < ((a1.length:Nat):Int))) ((Bh a1 x1).bind fun x9=>(Rc.Dk Af l2 Ai Am x9.kind x9.text x9.n x9.at_ x9.kids).bind fun r19=>DD.l0 m7 Rc Af Ai Am a1 (IntKind.i64.wrap (x1+1)) r19) (some (l2))
def DD.g (Rc:GE) (k:Nat) (Af:Bg) (At:TyA) (Ai:Ae) (Am:Ae) (a1:List Tree):Option TyA:=DD.l0 k Rc Af Ai Am a1 0 At
theorem DD.C2 {Rc:GE} (hR:Rc.Good) {k:Nat}:DD.C (DD.g Rc k):=by
 intro Af At r Ai Am a1 b0 AH Bt AD AT C6 Ay Az A2 B0 AA B1 B2 Bk CF B9 C5 BT DY G AG Bm AC AR C4 h Cu Cj Co Ci Fk hG
 refine C3 (args:=[pt b0,Aa C4 a1 C6]) Tryz.func80 rfl (By rfl) ?_
 intro A X hh_
 obtain ⟨CU,CJ,Fp,DV,BU,_⟩:=hh_
 unfold DD.g at h
 refine K.eq (env':=[(0,pt b0),(1,Aa C4 a1 C6)]) (l':=bk b0 #[Ay,Az,A2,Aa AG Af AH,Aa Bm At Bt,B0,Aa AC Ai AD,AA,B1,B2,Aa AR Am AT,Bk] 66 :: B9 :: X) rfl rfl (ksr (kx 3 (Ad (C1 (Fx (τ:=Int×TyA×Ab×Aq×Nat) (fun t=>[(0,pt b0),(6,Aa C4 a1 C6),(7,iv ((a1.length:Nat):Int)),(8,iv t.1)]) (fun t=>bk b0 #[Ay,Az,A2,Aa AG Af AH,Aa t.2.2.2.1 t.2.1 t.2.2.2.2,B0,Aa AC Ai AD,AA,B1,B2,Aa AR Am AT,Bk] 66 :: t.2.2.1 :: X) (fun m t=>DD.l0 m Rc Af Ai Am a1 t.1 t.2.1=some r∧Ah e48 48 4 t.2.2.1 (Aa t.2.2.2.1 t.2.1 t.2.2.2.2) t.2.1) k (0,At,B9,Bm,Bt) ⟨h,Cj⟩ sb rfl ?_)))))
 clear h
 rintro m7 ⟨x1,l2,h3,A4,k5⟩ ⟨h,o6⟩
 cases m7 with
 | zero=>simp [DD.l0] at h
 | succ m7 =>
  simp only [DD.l0] at h
  refine ksr (kx 1 (Ad (B8 ?_)))
  refine AU h (fun h=>?_) fun h=>?_
  ·refine BV (AM (B8 (C1 (ksr (bnd h fun x9 hx9 h=>(DI (T:=54) (kd:=.i64) (R:=(AX 54)) rfl hx9 Fk fun p10 u13 q14 e11 y12=>?_))))))
   obtain ⟨ML,k16,rfl,o17⟩:=DF 54 q14
   refine Fq rfl e11 (t2 DV) (knp #[iv 0,sv noS,iv 0,iv 0,nS] 54 fun b18=>(AQ 0 5 #[iv x9.kind,sv x9.text,iv x9.n,iv x9.at_,Aa ML x9.kids k16] (FG (kx 1 (CV 0 0 5 rfl (K.drop (K.An (K.An (bnd h fun r19 hr19 h=>(Bz (hR.Dk hr19 Cu o6 Co Ci o17 hG) rfl ⟨CU,CJ,Fp,DV,BU,trivial⟩ ?_))))))))))
   rintro _ _ ⟨h20,A21,k22,II,rfl,rfl⟩
   exact Bi (knl (B7 (AM (Bu (kx 2 (Ad (E3 m7 (IntKind.i64.wrap (x1+1),r19,h20,A21,k22) (Nat.lt_succ_self _) ⟨h,II⟩ sb rfl)))))))
  ·refine Fv (Dg (Dg (Fw (Cw ?_))))
   obtain rfl:=As h
   exact kdv (.tuple #[]) [bk b0 #[Ay,Az,A2,Aa AG Af AH,Aa A4 l2 k5,B0,Aa AC Ai AD,AA,B1,B2,Aa AR Am AT,Bk] 66,h3] (BH ⟨h3,A4,k5,o6,rfl,rfl⟩)
def FO.g (Rc:GE) (_k:Nat) (Af:Bg) (At:TyA) (Ai:Ae) (Am:Ae) (a1:List Tree):Option TyA:=(cond (decide ((IntKind.i64.wrap (((a1.length:Nat):Int) - 1)) ≥ 0)) ((Bh a1 (IntKind.i64.wrap (((a1.length:Nat):Int) - 1))).bind fun x32=>some (x32.kind == 8)) (some false):Option Bool).bind fun q1=>cond q1 ((DR a1 0 (IntKind.i64.wrap (((a1.length:Nat):Int) - 1))).bind fun l3=>(Rc.DD Af At Ai Am l3).bind fun r7=>(Bh a1 (IntKind.i64.wrap (((a1.length:Nat):Int) - 1))).bind fun x12=>(Rc.ET Af r7 Ai Am x12.kind x12.text x12.n x12.at_ x12.kids (-1:Int)).bind fun r21=>some (r21)) ((Rc.DD Af At Ai Am a1).bind fun Dj=>some (Dj))
theorem FO.C2 {Rc:GE} (hR:Rc.Good) {k:Nat}:FO.C (FO.g Rc k):=by
 intro Af At r Ai Am a1 b0 AH Bt AD AT C6 Ay Az A2 B0 AA B1 B2 Bk CF B9 C5 BT DY G AG Bm AC AR C4 h Cu Cj Co Ci Fk hG
 refine C3 (args:=[pt b0,Aa C4 a1 C6]) Tryz.func85 rfl (By rfl) ?_
 intro A X hh_
 obtain ⟨CU,CJ,Fp,DV,BU,_⟩:=hh_
 unfold FO.g at h
 refine K.eq (env':=[(0,pt b0),(1,Aa C4 a1 C6)]) (l':=bk b0 #[Ay,Az,A2,Aa AG Af AH,Aa Bm At Bt,B0,Aa AC Ai AD,AA,B1,B2,Aa AR Am AT,Bk] 66 :: B9 :: X) rfl rfl (B8 (ksr (kx 4 (Ad (bnd h fun q1 hq1 h=>?_)))))
 refine G_ [(0,pt b0),(1,Aa C4 a1 C6),(4,iv (IntKind.i64.wrap (((a1.length:Nat):Int) - 1))),(17,bv q1)] (bk b0 #[Ay,Az,A2,Aa AG Af AH,Aa Bm At Bt,B0,Aa AC Ai AD,AA,B1,B2,Aa AR Am AT,Bk] 66 :: B9 :: X) ?_ ?_
 ·clear hq1
  refine AU h (fun h=>?_) fun h=>?_
  ·refine ksr (kx 3 (bnd h fun l3 hl3 h=>(P3 (T:=54) (R:=(AX 54)) (xs:=a1) 0 (IntKind.i64.wrap (((a1.length:Nat):Int) - 1)) rfl (by kernel_rfl) (by kernel_rfl) (by kernel_rfl) (.inl ⟨rfl,rfl⟩) (.inr ⟨_,.i64,rfl,(by kernel_rfl)⟩) (by kernel_rfl) (by kernel_rfl) hl3 Fk fun A4 k5 o6=>(K.An (K.An (bnd h fun r7 hr7 h=>(Bz (hR.DD hr7 Cu Cj Co Ci o6 hG) rfl ⟨CU,CJ,Fp,DV,BU,trivial⟩ ?_)))))))
   rintro _ _ ⟨h8,A9,k10,HU,rfl,rfl⟩
   refine Bi (Ba (kx 3 (bnd h fun x12 Bge h=>(DI (T:=54) (kd:=.i64) (R:=(AX 54)) rfl Bge Fk fun p13 u16 q17 e14 y15=>?_))))
   obtain ⟨Jm,k19,rfl,o20⟩:=DF 54 q17
   refine Fq rfl e14 (t2 DV) (K.An (K.An (bnd h fun r21 K0 h=>(Bz (hR.ET K0 Cu HU Co Ci o20 hG) rfl ⟨CU,CJ,Fp,DV,BU,trivial⟩ ?_))))
   rintro _ _ ⟨h22,A23,k24,Hc,rfl,rfl⟩
   refine Bi (Ad (C9 (DH ?_)))
   obtain rfl:=As h
   exact kdv (.tuple #[]) [bk b0 #[Ay,Az,A2,Aa AG Af AH,Aa A23 r21 k24,B0,Aa AC Ai AD,AA,B1,B2,Aa AR Am AT,Bk] 66,h22] (BH ⟨h22,A23,k24,Hc,rfl,rfl⟩)
  ·refine BV (AM (Bu (kx 2 (K.An (K.An (bnd h fun Dj Ng h=>(Bz (hR.DD Ng Cu Cj Co Ci Fk hG) rfl ⟨CU,CJ,Fp,DV,BU,trivial⟩ ?_)))))))
   rintro _ _ ⟨h27,A28,k29,N2,rfl,rfl⟩
   refine Bi (knl (Cw ?_))
   obtain rfl:=As h
   exact kdv (.tuple #[]) [bk b0 #[Ay,Az,A2,Aa AG Af AH,Aa A28 Dj k29,B0,Aa AC Ai AD,AA,B1,B2,Aa AR Am AT,Bk] 66,h27] (BH ⟨h27,A28,k29,N2,rfl,rfl⟩)
 ·have h:=hq1
  clear hq1
  refine Bu (kx 3 ?_)
  refine Ee 10 h (fun h=>?_) fun h=>?_
  ·refine kx 2 (bnd h fun x32 hx32 h=>(DI (T:=54) (kd:=.i64) (R:=(AX 54)) rfl hx32 Fk fun p33 u36 q37 e34 y35=>?_))
   obtain ⟨JC,k39,rfl,M2⟩:=DF 54 q37
   refine Ha (off:=0) rfl e34 y35 fun p41 e42 y43=>?_
   have e42:Elem _ p41 [iv x32.kind,sv x32.text,iv x32.n,iv x32.at_,Aa JC x32.kids k39]:=e42
   exact Ip rfl (by kernel_rfl) (by kernel_rfl) (by kernel_rfl) (by kernel_rfl) e42 (t2 DV) (kx 2 (Ad (Dd ⟨gr,gr,gr,gb (As h),trivial⟩)))
  ·exact kx 7 (Ad (Dd ⟨gr,gr,gr,gb (As h),trivial⟩))
def ET.g (Rc:GE) (k:Nat) (Af:Bg) (At:TyA) (Ai:Ae) (Am:Ae) (Ao:Int) (Av:ByteArray) (Ap:Int) (AF:Int) (Ak:List Tree) (a2:Int):Option TyA:=(Bh Ak 0).bind fun x2=>(Rc.Dk Af At Ai Am x2.kind x2.text x2.n x2.at_ x2.kids).bind fun r11=>(BA.f k r11 22 ([])).bind fun r16=>(DR Ak 1 ((Ak.length:Nat):Int)).bind fun l21=>(Rc.FO Af r16.2 Ai Am l21).bind fun r25=>(BA.f k r25 24 ([a2])).bind fun r31=>some (r31.2)
theorem ET.C2 {Rc:GE} (hR:Rc.Good) {k:Nat}:ET.C (ET.g Rc k):=by
 intro Af At r Ai Am Ao Ap AF a2 Av Ak b0 AH Bt AD AT Be Ay Az A2 B0 AA B1 B2 Bk CF B9 C5 BT Cs G AG Bm AC AR Bc h Cu Cj Co Ci BE hG
 refine C3 (args:=[pt b0,.agg #[iv Ao,sv Av,iv Ap,iv AF,Aa Bc Ak Be],iv a2]) Tryz.func74 rfl (By rfl) ?_
 intro A X hh_
 obtain ⟨CU,CJ,Fp,BC,BU,_⟩:=hh_
 unfold ET.g at h
 refine K.eq (env':=[(0,pt b0),(1,.agg #[iv Ao,sv Av,iv Ap,iv AF,Aa Bc Ak Be]),(2,iv a2)]) (l':=bk b0 #[Ay,Az,A2,Aa AG Af AH,Aa Bm At Bt,B0,Aa AC Ai AD,AA,B1,B2,Aa AR Am AT,Bk] 66 :: B9 :: X) rfl rfl (ksr (knp #[iv Ao,sv Av,iv Ap,iv AF,Aa Bc Ak Be] 54 fun b1=>(Ba (kx 2 (kld 0 4 rfl (bnd h fun x2 hx2 h=>(DI (T:=54) (kd:=.i64) (R:=(AX 54)) rfl hx2 BE fun p3 u6 q7 e4 y5=>?_)))))))
 obtain ⟨A8,k9,rfl,o10⟩:=DF 54 q7
 refine Fq rfl e4 (t3 BC) (K.Al (K.Al (bnd h fun r11 Pd h=>(Bz (hR.Dk Pd Cu Cj Co Ci o10 hG) rfl ⟨(.tail _ CU),(.tail _ CJ),(.tail _ Fp),(.tail _ BC),(.tail _ BU),trivial⟩ ?_))))
 rintro _ _ ⟨h12,KJ,k14,o15,rfl,rfl⟩
 refine Bi (Ba (kx 1 (Dl (K.Al (K.Al (bnd h fun r16 Ky h=>(Bz (BA.ok Ky o15 (Bl.nil (encI .i64) 1 none_)) rfl ⟨(.head _),trivial⟩ ?_)))))))
 rintro _ _ ⟨h17,Jm,k19,o20,rfl,rfl⟩
 refine Bi (K.Al (K.drop (Ba (kx 2 (kld 2 4 rfl (K.Al (K.drop (bnd h fun l21 Ze h=>(P3 (T:=54) (R:=(AX 54)) (xs:=Ak) 1 ((Ak.length:Nat):Int) rfl (by kernel_rfl) (by kernel_rfl) (by kernel_rfl) (.inr ⟨_,.i64,rfl,(by kernel_rfl)⟩) (.inl ⟨rfl,rfl⟩) (by kernel_rfl) (by kernel_rfl) Ze BE fun I4 k23 JR=>(K.An ?_))))))))))
 refine K.An (bnd h fun r25 Ph h=>(Bz (hR.FO Ph Cu o20 Co Ci JR hG) rfl ⟨CU,CJ,Fp,BC,BU,trivial⟩ ?_))
 rintro _ _ ⟨h26,A27,k28,o29,rfl,rfl⟩
 refine Bi (FG (kx 2 (Dh #[iv a2] 3 1 fun Yc=>(K.Al (K.Al (bnd h fun r31 Z3 h=>(Bz (BA.ok Z3 o29 (Ah.rd (Ah.blk 3 (Ec .i64) Yc [a2] #[iv a2] 1 (by kernel_rfl) rfl (by decide)))) rfl ⟨(.head _),trivial⟩ ?_)))))))
 rintro _ _ ⟨h32,A33,k34,o35,rfl,rfl⟩
 refine Bi (K.Al (K.drop (knl (Cw ?_))))
 obtain rfl:=As h
 exact kdv (.tuple #[]) [bk b0 #[Ay,Az,A2,Aa AG Af AH,Aa A33 r31.2 k34,B0,Aa AC Ai AD,AA,B1,B2,Aa AR Am AT,Bk] 66,h32] (BH ⟨h32,A33,k34,o35,rfl,rfl⟩)
def Ij.g (Rc:GE) (k:Nat) (Af:Bg) (At:TyA) (Ai:Ae) (Am:Ae) (Ao:Int) (Av:ByteArray) (Ap:Int) (AF:Int) (Ak:List Tree):Option TyA:=(Bh Ak 0).bind fun x2=>(Rc.Dk Af At Ai Am x2.kind x2.text x2.n x2.at_ x2.kids).bind fun r11=>(Fe.f k ([(⟨#[]⟩:ByteArray),(⟨#[43]⟩:ByteArray),(⟨#[45]⟩:ByteArray),(⟨#[42]⟩:ByteArray),(⟨#[47,47]⟩:ByteArray),(⟨#[37]⟩:ByteArray),(⟨#[46,46]⟩:ByteArray),(⟨#[61,61]⟩:ByteArray),(⟨#[126,61]⟩:ByteArray),(⟨#[60]⟩:ByteArray),(⟨#[60,61]⟩:ByteArray),(⟨#[62]⟩:ByteArray),(⟨#[62,61]⟩:ByteArray)]) Av).bind fun EC=>cond (decide (EC > 0)) ((Bh Ak 1).bind fun x19=>(Rc.Dk Af r11 Ai Am x19.kind x19.text x19.n x19.at_ x19.kids).bind fun r28=>(BA.f k r28 17 ([EC])).bind fun r34=>some (r34.2)) (BG (fun (x39:Int)=>(BA.f k r11 x39 ([])).bind fun Gs=>(Bh Ak 1).bind fun x46=>(Rc.Dk Af Gs.2 Ai Am x46.kind x46.text x46.n x46.at_ x46.kids).bind fun r55=>(EU.f k r55).bind fun r60=>(Bh r55 Gs.1).bind fun x61=>(EW r55 Gs.1 (x61.1,r60,x61.2.2.1,x61.2.2.2)).bind fun Rm=>some (Rm)) (fun Mm=>cond (Av.toList == (⟨#[111,114]⟩:ByteArray).toList) (Mm 21) (Mm 20)))
theorem Ij.C2 {Rc:GE} (hR:Rc.Good) {k:Nat}:Ij.C (Ij.g Rc k):=by
 intro Af At r Ai Am Ao Ap AF Av Ak b0 AH Bt AD AT Be Ay Az A2 B0 AA B1 B2 Bk CF B9 C5 BT Cs G AG Bm AC AR Bc h Cu Cj Co Ci BE hG
 refine C3 (args:=[pt b0,.agg #[iv Ao,sv Av,iv Ap,iv AF,Aa Bc Ak Be]]) Tryz.func110 rfl (By rfl) ?_
 intro A X hh_
 obtain ⟨CU,CJ,Fp,BC,BU,_⟩:=hh_
 unfold Ij.g at h
 refine K.eq (env':=[(0,pt b0),(1,.agg #[iv Ao,sv Av,iv Ap,iv AF,Aa Bc Ak Be])]) (l':=bk b0 #[Ay,Az,A2,Aa AG Af AH,Aa Bm At Bt,B0,Aa AC Ai AD,AA,B1,B2,Aa AR Am AT,Bk] 66 :: B9 :: X) rfl rfl (ksr (knp #[iv Ao,sv Av,iv Ap,iv AF,Aa Bc Ak Be] 54 fun b1=>(Ba (kx 2 (kld 0 4 rfl (bnd h fun x2 hx2 h=>(DI (T:=54) (kd:=.i64) (R:=(AX 54)) rfl hx2 BE fun p3 u6 q7 e4 y5=>?_)))))))
 obtain ⟨A8,k9,rfl,o10⟩:=DF 54 q7
 refine Fq rfl e4 (t3 BC) (K.Al (K.Al (bnd h fun r11 Pd h=>(Bz (hR.Dk Pd Cu Cj Co Ci o10 hG) rfl ⟨(.tail _ CU),(.tail _ CJ),(.tail _ Fp),(.tail _ BC),(.tail _ BU),trivial⟩ ?_))))
 rintro _ _ ⟨h12,KJ,k14,o15,rfl,rfl⟩
 refine Bi (Ba (Dh #[sv noS,sv (⟨#[43]⟩:ByteArray),sv (⟨#[45]⟩:ByteArray),sv (⟨#[42]⟩:ByteArray),sv (⟨#[47,47]⟩:ByteArray),sv (⟨#[37]⟩:ByteArray),sv (⟨#[46,46]⟩:ByteArray),sv (⟨#[61,61]⟩:ByteArray),sv (⟨#[126,61]⟩:ByteArray),sv (⟨#[60]⟩:ByteArray),sv (⟨#[60,61]⟩:ByteArray),sv (⟨#[62]⟩:ByteArray),sv (⟨#[62,61]⟩:ByteArray)] 9 13 fun b16=>(kx 1 (kld 3 1 rfl (bnd h fun EC Kz h=>(G2 (Fe.ok Kz (Ah.rd (Ah.blk 9 Jp b16 [(⟨#[]⟩:ByteArray),(⟨#[43]⟩:ByteArray),(⟨#[45]⟩:ByteArray),(⟨#[42]⟩:ByteArray),(⟨#[47,47]⟩:ByteArray),(⟨#[37]⟩:ByteArray),(⟨#[46,46]⟩:ByteArray),(⟨#[61,61]⟩:ByteArray),(⟨#[126,61]⟩:ByteArray),(⟨#[60]⟩:ByteArray),(⟨#[60,61]⟩:ByteArray),(⟨#[62]⟩:ByteArray),(⟨#[62,61]⟩:ByteArray)] #[sv noS,sv (⟨#[43]⟩:ByteArray),sv (⟨#[45]⟩:ByteArray),sv (⟨#[42]⟩:ByteArray),sv (⟨#[47,47]⟩:ByteArray),sv (⟨#[37]⟩:ByteArray),sv (⟨#[46,46]⟩:ByteArray),sv (⟨#[61,61]⟩:ByteArray),sv (⟨#[126,61]⟩:ByteArray),sv (⟨#[60]⟩:ByteArray),sv (⟨#[60,61]⟩:ByteArray),sv (⟨#[62]⟩:ByteArray),sv (⟨#[62,61]⟩:ByteArray)] 13 (by kernel_rfl) rfl (by decide)))) ⟨(.head _),trivial⟩ (K.drop (kx 1 (Ad (B8 ?_))))))))))
 refine ksr (kx 2 (Ad ?_))
 refine AU h (fun h=>?_) fun h=>?_
 ·refine ksr (kx 2 (kld 2 4 rfl (K.Al (K.drop (bnd h fun x19 Bg2 h=>(DI (T:=54) (kd:=.i64) (R:=(AX 54)) rfl Bg2 BE fun p20 u23 q24 e21 y22=>?_))))))
  obtain ⟨A25,k26,rfl,K9⟩:=DF 54 q24
  refine Fq rfl e21 (t2 BC) (K.An (K.An (bnd h fun r28 Tg h=>(Bz (hR.Dk Tg Cu o15 Co Ci K9 hG) rfl ⟨CU,CJ,Fp,BC,BU,trivial⟩ ?_))))
  rintro _ _ ⟨h29,JB,k31,o32,rfl,rfl⟩
  refine Bi (Ba (kx 2 (Dh #[iv EC] 3 1 fun b33=>(K.Al (K.Al (bnd h fun r34 Z4 h=>(Bz (BA.ok Z4 o32 (Ah.rd (Ah.blk 3 (Ec .i64) b33 [EC] #[iv EC] 1 (by kernel_rfl) rfl (by decide)))) rfl ⟨(.head _),trivial⟩ ?_)))))))
  rintro _ _ ⟨h35,A36,k37,o38,rfl,rfl⟩
  refine Bi (K.Al (K.drop (Ad (C9 (DH ?_)))))
  obtain rfl:=As h
  exact kdv (.tuple #[]) [bk b0 #[Ay,Az,A2,Aa AG Af AH,Aa A36 r34.2 k37,B0,Aa AC Ai AD,AA,B1,B2,Aa AR Am AT,Bk] 66,h35] (BH ⟨h35,A36,k37,o38,rfl,rfl⟩)
 ·refine BV (AM (ksr (kx 1 (Ad ?_))))
  obtain ⟨Mm,YX,h⟩:=De h
  refine Df (τ:=Int) (fun t=>[(0,pt b0),(3,pt b1),(5,iv t)]) (fun t=>bk b0 #[Ay,Az,A2,Aa AG Af AH,Aa KJ r11 k14,B0,Aa AC Ai AD,AA,B1,B2,Aa AR Am AT,Bk] 66 :: h12 :: bk b1 #[iv Ao,sv Av,iv Ap,iv AF,Aa Bc Ak Be] 54 :: X) (fun t=>Mm t=some r) ?_ ?_
  ·rintro x39 h
   subst YX
   refine ksr (kx 2 (Dl (K.Al (K.Al (bnd h fun Gs Pm h=>(Bz (BA.ok Pm o15 (Bl.nil (encI .i64) 1 none_)) rfl ⟨(.head _),trivial⟩ ?_))))))
   rintro _ _ ⟨h42,O6,Px,LV,rfl,rfl⟩
   refine Bi (K.Al (K.drop (kx 1 (Ba (kx 2 (kld 2 4 rfl (K.Al (K.drop (bnd h fun x46 Bhl h=>(DI (T:=54) (kd:=.i64) (R:=(AX 54)) rfl Bhl BE fun p47 u50 q51 e48 y49=>?_))))))))))
   obtain ⟨A52,k53,rfl,o54⟩:=DF 54 q51
   refine Fq rfl e48 (t2 BC) (K.An (K.An (bnd h fun r55 Tl h=>(Bz (hR.Dk Tl Cu LV Co Ci o54 hG) rfl ⟨CU,CJ,Fp,BC,BU,trivial⟩ ?_))))
   rintro _ _ ⟨h56,Va,k58,o59,rfl,rfl⟩
   refine Bi (Ad (kpr [(0,0),(1,0),(2,0),(3,0),(4,3),(5,0),(6,0),(7,1)] [0] (Ar 4 (AP 0 4 rfl (Ar 2 (kpt (bnd h fun r60 Po h=>(M4 (EU.ok Po (Ah.rd o59)) rfl ⟨(.head _),trivial⟩ (Dm [0] rfl (Ca ?_))))))))))
   refine bnd h fun x61 Ao2 h=>(GQ (T:=48) (kd:=.i64) Fo rfl Ao2 (Ah.rd o59) fun p62 e63 y64=>?_)
   have e63:Elem _ p62 [iv x61.1,iv x61.2.1,iv x61.2.2.1,iv x61.2.2.2]:=e63
   refine Ha (off:=1) rfl e63 y64 fun p65 e66 y67=>?_
   have e66:Elem _ p65 [iv x61.2.1,iv x61.2.2.1,iv x61.2.2.2]:=e66
   refine K.An (bnd h fun Rm Aoq h=>(LM (v:=iv r60) (off:=1) (x':=(x61.1,r60,x61.2.2.1,x61.2.2.2)) Fo rfl (by kernel_rfl) (by kernel_rfl) (by kernel_rfl) (by kernel_rfl) (by kernel_rfl) y67 o59 Ao2 (by kernel_rfl) (by kernel_rfl) Aoq fun h69 KA=>?_))
   have g71:=IF Aoq
   refine K.weak (env':=[(48,iv r60)]) ?_ ⟨gr,trivial⟩
   refine K.eq (l':=h69 :: bk b0 #[Ay,Az,A2,Aa AG Af AH,Aa Va Rm k58,B0,Aa AC Ai AD,AA,B1,B2,Aa AR Am AT,Bk] 66 :: X) rfl (by first | rfl | (unfold Aa;rw [g71];first | done | rfl)) (knl (Cw ?_))
   obtain rfl:=As h
   exact kdv (.tuple #[]) [bk b0 #[Ay,Az,A2,Aa AG Af AH,Aa Va Rm k58,B0,Aa AC Ai AD,AA,B1,B2,Aa AR Am AT,Bk] 66,h69] (K.An (BH ⟨h69,Va,k58,KA,rfl,rfl⟩))
  ·skip
   refine ksr (kx 1 (kld 2 1 rfl (kx 1 (Ad ?_))))
   refine AU h (fun h=>?_) fun h=>?_
   ·exact Bu (kx 1 (Ad (B4 21 h sb rfl)))
   ·exact BV (AM (B4 20 h sb rfl))
def FP.l0:Nat→(Rc:GE)→(Af:Bg)→(Ai:Ae)→(Am:Ae)→(a1:List Tree)→(q2:Bool)→(J19:Int→Int→Int→Int→TyA→Option TyA)→(x47:Int)→(x48:Int)→(x49:Int)→(x50:Int)→(x51:Int)→(Oh:TyA)→Option TyA
 | 0,_,_,_,_,_,_,_,_,_,_,_,_,_=>none
 | Hq+1,Rc,Af,Ai,Am,a1,q2,J19,x47,x48,x49,x50,x51,Oh=>cond (decide (x49 < ((a1.length:Nat):Int))) (BG (fun (x59:Int) (x60:Int) (x61:Int) (x62:Int) (l63:TyA)=>FP.l0 Hq Rc Af Ai Am a1 q2 J19 x59 x60 (IntKind.i64.wrap (x49+1)) x61 x62 l63) (fun Qy=>(Bh a1 x49).bind fun x69=>cond (x69.kind == 14) ((Rc.DD Af Oh Ai Am x69.kids).bind fun r80=>(BA.f Hq r80 27 ([x51])).bind fun r86=>Qy x47 (IntKind.i64.wrap (x48+1)) x50 x51 r86.2) ((cond q2 (some (x49 == (IntKind.i64.wrap (((a1.length:Nat):Int) - 1)))) (some false):Option Bool).bind fun Up=>cond Up ((KO.f Hq x51 Oh x50).bind fun r93=>(BA.f Hq r93.2.1 22 ([])).bind fun r98=>(Bh x69.kids 0).bind fun x103=>(Rc.ET Af r98.2 Ai Am x103.kind x103.text x103.n x103.at_ x103.kids (-1:Int)).bind fun Avj=>(BA.f Hq Avj 29 ([r93.2.2])).bind fun Aeo=>Qy x47 x48 r93.2.2 r93.1 Aeo.2) ((Bh x69.kids 0).bind fun Sp=>(Rc.Dk Af Oh Ai Am Sp.kind Sp.text Sp.n Sp.at_ Sp.kids).bind fun Xf=>cond ((IntKind.i64.wrap (x51+1)) == 50) ((KO.f Hq (IntKind.i64.wrap (x51+1)) Xf x50).bind fun PO=>Qy (IntKind.i64.wrap (x47+1)) x48 PO.2.2 PO.1 PO.2.1) (Qy (IntKind.i64.wrap (x47+1)) x48 x50 (IntKind.i64.wrap (x51+1)) Xf))))) (J19 x47 x48 x50 x51 Oh)
def FP.g (Rc:GE) (k:Nat) (Af:Bg) (At:TyA) (Ai:Ae) (Am:Ae) (a1:List Tree):Option TyA:=(cond (decide (((a1.length:Nat):Int) > 0)) ((Bh a1 (IntKind.i64.wrap (((a1.length:Nat):Int) - 1))).bind fun NE=>cond (NE.kind == 13) ((Bh a1 (IntKind.i64.wrap (((a1.length:Nat):Int) - 1))).bind fun x158=>(Bh x158.kids 0).bind fun NF=>some (NF.kind == 8)) (some false)) (some false):Option Bool).bind fun q2=>(BA.f k At 26 ([])).bind fun r3=>BG (fun (x10:Int) (x11:Int) (x12:Int) (GX:Int) (Wv:TyA)=>(KO.f k GX Wv x12).bind fun r20=>(Bh r20.2.1 r3.1).bind fun x25=>(EW r20.2.1 r3.1 (x25.1,x10,x25.2.2.1,x25.2.2.2)).bind fun l32=>(Bh l32 r3.1).bind fun x36=>(EW l32 r3.1 (x36.1,x36.2.1,x11,x36.2.2.2)).bind fun EI=>some (EI)) (fun J19=>FP.l0 k Rc Af Ai Am a1 q2 J19 0 0 0 1 0 r3.2)
theorem FP.C2 {Rc:GE} (hR:Rc.Good) {k:Nat}:FP.C (FP.g Rc k):=by
 intro Af At r Ai Am a1 b0 AH Bt AD AT C6 Ay Az A2 B0 AA B1 B2 Bk CF B9 C5 BT DY G AG Bm AC AR C4 h Cu Cj Co Ci Fk hG
 refine C3 (args:=[pt b0,Aa C4 a1 C6]) Tryz.func111 rfl (By rfl) ?_
 intro A X hh_
 obtain ⟨CU,CJ,Fp,DV,BU,_⟩:=hh_
 unfold FP.g at h
 refine K.eq (env':=[(0,pt b0),(1,Aa C4 a1 C6)]) (l':=bk b0 #[Ay,Az,A2,Aa AG Af AH,Aa Bm At Bt,B0,Aa AC Ai AD,AA,B1,B2,Aa AR Am AT,Bk] 66 :: B9 :: X) rfl rfl (ksr (knp #[pt b0] 61 fun b1=>(Ad (bnd h fun q2 hq2 h=>?_))))
 refine G_ [(1,Aa C4 a1 C6),(2,pt b1),(4,bv q2)] (bk b1 #[pt b0] 61 :: bk b0 #[Ay,Az,A2,Aa AG Af AH,Aa Bm At Bt,B0,Aa AC Ai AD,AA,B1,B2,Aa AR Am AT,Bk] 66 :: B9 :: X) ?_ ?_
 ·clear hq2
  refine ksr (kld 0 0 rfl (Dl (K.mv3 (K.mv3 (bnd h fun r3 hr3 h=>(Bz (BA.ok hr3 Cj (Bl.nil (encI .i64) 1 none_)) rfl ⟨(.head _),trivial⟩ ?_))))))
  rintro _ _ ⟨h4,A5,k6,o7,rfl,rfl⟩
  refine Bi (K.Al (K.drop (kx 3 (Ba (knp #[iv 0] 3 fun b8=>(knp #[iv 0] 3 fun b9=>(K.An (AQ 0 1 #[iv 0] (K.An (AQ 0 1 #[iv 1] ?_))))))))))
  refine Ba (kx 2 (Ad ?_))
  obtain ⟨J19,YU,h⟩:=De h
  refine Df (τ:=Int×Int×Int×Int×TyA×Ab×Aq×Nat) (fun t=>[(2,pt b1),(5,iv r3.1),(6,iv t.1),(7,iv t.2.1),(10,.func (.func 127) #[] #[pt b8,pt b1,pt b9])]) (fun t=>bk b9 #[iv t.2.2.1] 3 :: bk b8 #[iv t.2.2.2.1] 3 :: bk b0 #[Ay,Az,A2,Aa AG Af AH,Aa t.2.2.2.2.2.2.1 t.2.2.2.2.1 t.2.2.2.2.2.2.2,B0,Aa AC Ai AD,AA,B1,B2,Aa AR Am AT,Bk] 66 :: bk b1 #[pt b0] 61 :: t.2.2.2.2.2.1 :: X) (fun t=>J19 t.1 t.2.1 t.2.2.1 t.2.2.2.1 t.2.2.2.2.1=some r∧Ah e48 48 4 t.2.2.2.2.2.1 (Aa t.2.2.2.2.2.2.1 t.2.2.2.2.1 t.2.2.2.2.2.2.2) t.2.2.2.2.1) ?_ ?_
  ·rintro ⟨x10,x11,x12,GX,Wv,h15,F6,k17⟩ ⟨h,JQ⟩
   subst YU
   refine ksr (kx 1 (K.Bx (K.mv3 (K.Bx (K.Bx (bnd h fun r20 Pf h=>(Bz (KO.ok Pf JQ) rfl trivial ?_)))))))
   rintro _ _ ⟨h21,I4,k23,JR,rfl,rfl⟩
   refine E4 (K.drop (K.mv3 (K.drop (Ad (kpr [(0,3),(1,0),(2,0),(3,0),(4,3),(5,0),(6,3),(7,0),(8,0),(9,0),(10,3),(11,0),(12,0),(13,0)] [0,1] (AP 0 0 rfl (Ar 3 (AP 1 4 rfl (Ar 1 (AP 0 0 rfl ?_))))))))))
   refine Ar 3 (AP 1 4 rfl (Ar 3 (Ca (bnd h fun x25 hx25 h=>(GQ (T:=48) (kd:=.i64) Fo rfl hx25 (Ah.rd JR) fun p26 e27 y28=>?_)))))
   have e27:Elem _ p26 [iv x25.1,iv x25.2.1,iv x25.2.2.1,iv x25.2.2.2]:=e27
   refine K.drop (Ha (off:=1) rfl e27 y28 fun p29 e30 y31=>?_)
   have e30:Elem _ p29 [iv x25.2.1,iv x25.2.2.1,iv x25.2.2.2]:=e30
   refine K.An (bnd h fun l32 VQ h=>(LM (v:=iv x10) (off:=1) (x':=(x25.1,x10,x25.2.2.1,x25.2.2.2)) Fo rfl (by kernel_rfl) (by kernel_rfl) (by kernel_rfl) (by kernel_rfl) (by kernel_rfl) y31 JR hx25 (by kernel_rfl) (by kernel_rfl) VQ fun h33 Is=>?_))
   have g35:=IF VQ
   refine K.weak (env':=[(113,Aa I4 l32 k23),(114,iv r3.1),(115,iv x10),(116,iv x11)]) ?_ ⟨(by first | rfl | (unfold Aa;rw [g35];rfl)),gr,gr,gr,trivial⟩
   refine K.eq (l':=h33 :: bk b0 #[Ay,Az,A2,Aa AG Af AH,Aa I4 l32 k23,B0,Aa AC Ai AD,AA,B1,B2,Aa AR Am AT,Bk] 66 :: X) rfl (by first | rfl | (unfold Aa;rw [g35];first | done | rfl)) (bnd h fun x36 Ao1 h=>(GQ (T:=48) (kd:=.i64) Fo rfl Ao1 (Ah.rd Is) fun p37 e38 y39=>?_))
   have e38:Elem _ p37 [iv x36.1,iv x36.2.1,iv x36.2.2.1,iv x36.2.2.2]:=e38
   refine Ha (off:=2) rfl e38 y39 fun p40 e41 y42=>?_
   have e41:Elem _ p40 [iv x36.2.2.1,iv x36.2.2.2]:=e41
   refine bnd h fun EI Td h=>(LM (v:=iv x11) (off:=2) (x':=(x36.1,x36.2.1,x11,x36.2.2.2)) Fo rfl (by kernel_rfl) (by kernel_rfl) (by kernel_rfl) (by kernel_rfl) (by kernel_rfl) y42 Is Ao1 (by kernel_rfl) (by kernel_rfl) Td fun h44 LV=>?_)
   have g46:=IF Td
   refine K.weak (env':=[(116,iv x11)]) ?_ ⟨gr,trivial⟩
   refine K.eq (l':=h44 :: bk b0 #[Ay,Az,A2,Aa AG Af AH,Aa I4 EI k23,B0,Aa AC Ai AD,AA,B1,B2,Aa AR Am AT,Bk] 66 :: X) rfl (by first | rfl | (unfold Aa;rw [g46];first | done | rfl)) (knl (Cw ?_))
   obtain rfl:=As h
   exact kdv (.tuple #[]) [bk b0 #[Ay,Az,A2,Aa AG Af AH,Aa I4 EI k23,B0,Aa AC Ai AD,AA,B1,B2,Aa AR Am AT,Bk] 66,h44] (K.An (BH ⟨h44,I4,k23,LV,rfl,rfl⟩))
  ·skip
   refine ksr (kx 3 (Ad (C1 (K.mv3 (K.Bx (K.Bx (K.Bx (K.Bx (Fx (τ:=Int×Int×Int×Int×Int×TyA×Ab×Aq×Nat) (fun t=>[(1,Aa C4 a1 C6),(2,pt b1),(4,bv q2),(5,iv r3.1),(6,iv t.1),(7,iv t.2.1),(8,pt b8),(9,pt b9),(10,.func (.func 127) #[] #[pt b8,pt b1,pt b9]),(42,Aa C4 a1 C6),(43,iv ((a1.length:Nat):Int)),(44,iv t.2.2.1)]) (fun t=>bk b9 #[iv t.2.2.2.1] 3 :: bk b8 #[iv t.2.2.2.2.1] 3 :: bk b0 #[Ay,Az,A2,Aa AG Af AH,Aa t.2.2.2.2.2.2.2.1 t.2.2.2.2.2.1 t.2.2.2.2.2.2.2.2,B0,Aa AC Ai AD,AA,B1,B2,Aa AR Am AT,Bk] 66 :: bk b1 #[pt b0] 61 :: t.2.2.2.2.2.2.1 :: X) (fun m t=>FP.l0 m Rc Af Ai Am a1 q2 J19 t.1 t.2.1 t.2.2.1 t.2.2.2.1 t.2.2.2.2.1 t.2.2.2.2.2.1=some r∧Ah e48 48 4 t.2.2.2.2.2.2.1 (Aa t.2.2.2.2.2.2.2.1 t.2.2.2.2.2.1 t.2.2.2.2.2.2.2.2) t.2.2.2.2.2.1) k (0,0,0,1,0,r3.2,h4,A5,k6) ⟨h,o7⟩ sb rfl ?_)))))))))
   clear h
   rintro Hq ⟨x47,x48,x49,x50,x51,Oh,h53,O8,Py⟩ ⟨h,M3⟩
   cases Hq with
   | zero=>simp [FP.l0] at h
   | succ Hq =>
    simp only [FP.l0] at h
    refine ksr (kx 1 (Ad (B8 ?_)))
    refine AU h (fun h=>?_) fun h=>?_
    ·refine BV (AM ?_)
     obtain ⟨Qy,Baz,h⟩:=De h
     refine Df (τ:=Int×Int×Int×Int×TyA×Ab×Aq×Nat) (fun t=>[(1,Aa C4 a1 C6),(2,pt b1),(4,bv q2),(5,iv r3.1),(6,iv t.1),(7,iv t.2.1),(8,pt b8),(9,pt b9),(10,.func (.func 127) #[] #[pt b8,pt b1,pt b9]),(42,Aa C4 a1 C6),(43,iv ((a1.length:Nat):Int)),(44,iv x49)]) (fun t=>bk b9 #[iv t.2.2.1] 3 :: bk b8 #[iv t.2.2.2.1] 3 :: bk b0 #[Ay,Az,A2,Aa AG Af AH,Aa t.2.2.2.2.2.2.1 t.2.2.2.2.1 t.2.2.2.2.2.2.2,B0,Aa AC Ai AD,AA,B1,B2,Aa AR Am AT,Bk] 66 :: bk b1 #[pt b0] 61 :: t.2.2.2.2.2.1 :: X) (fun t=>Qy t.1 t.2.1 t.2.2.1 t.2.2.2.1 t.2.2.2.2.1=some r∧Ah e48 48 4 t.2.2.2.2.2.1 (Aa t.2.2.2.2.2.2.1 t.2.2.2.2.1 t.2.2.2.2.2.2.2) t.2.2.2.2.1) ?_ ?_
     ·rintro ⟨x59,x60,x61,x62,l63,h64,XN,k66⟩ ⟨h,o67⟩
      subst Baz
      exact Bu (kx 2 (Ad (E3 Hq (x59,x60,IntKind.i64.wrap (x49+1),x61,x62,l63,h64,XN,k66) (Nat.lt_succ_self _) ⟨h,o67⟩ sb rfl)))
     ·skip
      refine C1 (ksr (kx 1 (bnd h fun x69 hx69 h=>(DI (T:=54) (kd:=.i64) (R:=(AX 54)) rfl hx69 Fk fun p70 u73 q74 e71 y72=>?_))))
      obtain ⟨A75,QX,rfl,PH⟩:=DF 54 q74
      refine Fq rfl e71 (t5 DV) (knp #[iv 0,sv noS,iv 0,iv 0,nS] 54 fun Vt=>(kx 1 (AQ 0 5 #[iv x69.kind,sv x69.text,iv x69.n,iv x69.at_,Aa A75 x69.kids QX] (Ad (C1 (ksr (kx 1 (kld 0 0 rfl (kx 2 (Ad ?_))))))))))
      refine AU h (fun h=>?_) fun h=>?_
      ·refine ksr (kx 3 (Ba (kld 4 0 rfl (kx 1 (kld 0 4 rfl (K.drop (K.Bx (K.mv3 (bnd h fun r80 Pq h=>(Bz (hR.DD Pq Cu M3 Co Ci PH hG) rfl ⟨(t3 CU),(t3 CJ),(t3 Fp),(t3 DV),(t3 BU),trivial⟩ ?_))))))))))
       rintro _ _ ⟨h81,A82,Wd,Ud,rfl,rfl⟩
       refine Bi (FG (kld 4 0 rfl (kld 3 0 rfl (Dh #[iv x51] 3 1 fun b85=>(K.Al (K.Al (bnd h fun r86 Bfn h=>(Bz (BA.ok Bfn Ud (Ah.rd (Ah.blk 3 (Ec .i64) b85 [x51] #[iv x51] 1 (by kernel_rfl) rfl (by decide)))) rfl ⟨(.head _),trivial⟩ ?_))))))))
       rintro _ _ ⟨h87,A88,k89,o90,rfl,rfl⟩
       refine Bi (K.Al (K.drop (knl (B7 (B7 (AM (K.An (K.Bx (K.Al (K.Bx ?_))))))))))
       exact K.Bx (B4 (x47,IntKind.i64.wrap (x48+1),x50,x51,r86.2,h87,A88,k89) ⟨h,o90⟩ sb rfl)
      ·refine bnd h fun Up Zt h=>?_
       refine G_ [(1,Aa C4 a1 C6),(2,pt b1),(4,bv q2),(5,iv r3.1),(6,iv x47),(7,iv x48),(8,pt b8),(9,pt b9),(10,.func (.func 127) #[] #[pt b8,pt b1,pt b9]),(42,Aa C4 a1 C6),(43,iv ((a1.length:Nat):Int)),(44,iv x49),(12,pt Vt),(77,bv Up)] (bk Vt #[iv x69.kind,sv x69.text,iv x69.n,iv x69.at_,Aa A75 x69.kids QX] 54 :: bk b9 #[iv x50] 3 :: bk b8 #[iv x51] 3 :: bk b0 #[Ay,Az,A2,Aa AG Af AH,Aa O8 Oh Py,B0,Aa AC Ai AD,AA,B1,B2,Aa AR Am AT,Bk] 66 :: bk b1 #[pt b0] 61 :: h53 :: X) ?_ ?_
       ·clear Zt
        refine AU h (fun h=>?_) fun h=>?_
        ·refine ksr (kx 1 (K.An (K.mv5 (K.Bx (K.mv5 (K.mv5 (bnd h fun r93 To h=>(Bz (KO.ok To M3) rfl trivial ?_))))))))
         rintro _ _ ⟨h94,A95,k96,o97,rfl,rfl⟩
         refine E4 (Ba (kld 1 0 rfl (Dl (K.Bx (K.Bx (bnd h fun r98 Bfs h=>(Bz (BA.ok Bfs o97 (Bl.nil (encI .i64) 1 none_)) rfl ⟨(.head _),trivial⟩ ?_)))))))
         rintro _ _ ⟨h99,Bww,Bz1,Bmm,rfl,rfl⟩
         refine Bi (K.Al (K.drop (Ad (B8 (Js [(0,3),(1,0),(2,3),(3,0),(4,3)] [bk b1 #[pt b0] 61,bk Vt #[iv x69.kind,sv x69.text,iv x69.n,iv x69.at_,Aa A75 x69.kids QX] 54,DY] (fun w h_=>⟨h_.sat.on _ (.tail _ (.tail _ (.tail _ (.head _)))),h_.sat.on _ (.tail _ (.tail _ (.tail _ (.tail _ (.tail _ (.head _)))))),h_.sat.on _ (t6 DV),trivial⟩) (AP 0 0 rfl (Ar 1 (AP 1 4 rfl (bnd h fun x103 Bga h=>(GT (T:=54) (kd:=.i64) (R:=(AX 54)) rfl Bga PH fun B1r B2v Brk A5d B3r=>?_))))))))))
         obtain ⟨Bwz,Bz3,rfl,o111⟩:=DF 54 Brk
         refine IE rfl A5d (fun w h_=>h_.mem _ (.tail _ (.tail _ (.head _)))) (Ca (K.An (K.An (bnd h fun Avj Bdk h=>(Bz (hR.ET Bdk Cu Bmm Co Ci o111 hG) rfl ⟨(t4 CU),(t4 CJ),(t4 Fp),(t4 DV),(t4 BU),trivial⟩ ?_)))))
         rintro _ _ ⟨Bye,Bw2,Bz5,Acf,rfl,rfl⟩
         refine Bi (K.mv5 (K.drop (FG (kld 3 0 rfl (kld 4 0 rfl (Dh #[iv r93.2.2] 3 1 fun A1l=>(K.Al (K.Al (bnd h fun Aeo Bdl h=>(Bz (BA.ok Bdl Acf (Ah.rd (Ah.blk 3 (Ec .i64) A1l [r93.2.2] #[iv r93.2.2] 1 (by kernel_rfl) rfl (by decide)))) rfl ⟨(.head _),trivial⟩ ?_))))))))))
         rintro _ _ ⟨h119,Azm,Bim,Bm4,rfl,rfl⟩
         refine Bi (K.Al (K.drop (knl (B7 (B7 (AM (K.An (K.mv3 (K.Al (K.mv3 ?_))))))))))
         exact K.Bx (B4 (x47,x48,r93.2.2,r93.1,Aeo.2,h119,Azm,Bim) ⟨h,Bm4⟩ sb rfl)
        ·refine ksr (kx 3 (Ad (B8 (Js [(0,3),(1,0),(2,3),(3,0),(4,3)] [bk Vt #[iv x69.kind,sv x69.text,iv x69.n,iv x69.at_,Aa A75 x69.kids QX] 54,bk b1 #[pt b0] 61,DY] (fun w h_=>⟨h_.sat.on _ (.head _),h_.sat.on _ (.tail _ (.tail _ (.tail _ (.tail _ (.head _))))),h_.sat.on _ (t6 DV),trivial⟩) (AP 1 0 rfl (Ar 1 (AP 0 4 rfl (bnd h fun Sp Bgg h=>(GT (T:=54) (kd:=.i64) (R:=(AX 54)) rfl Bgg PH fun B1x u127 Brr e125 B3t=>?_)))))))))
         obtain ⟨UX,VZ,rfl,Acn⟩:=DF 54 Brr
         refine IE rfl e125 (fun w h_=>h_.mem _ (.tail _ (.tail _ (.head _)))) (Ca (K.mv5 (K.Bx (bnd h fun Xf Bdo h=>(Bz (hR.Dk Bdo Cu M3 Co Ci Acn hG) rfl ⟨(t4 CU),(t4 CJ),(t4 Fp),(t4 DV),(t4 BU),trivial⟩ ?_)))))
         rintro _ _ ⟨SV,Sy,Tw,PB,rfl,rfl⟩
         refine Bi (K.Al (K.drop (Ba (kld 3 0 rfl (kx 1 (K.mv3 (AQ 0 1 #[iv (IntKind.i64.wrap (x51+1))] (Ba (kld 0 0 rfl (kx 1 ?_))))))))))
         refine Ad ?_
         refine AU h (fun h=>?_) fun h=>?_
         ·refine Bu (kx 1 (K.mv3 (K.mv3 (K.mv3 (K.Bx (K.Bx (bnd h fun PO Bdu h=>(Bz (KO.ok Bdu PB) rfl trivial ?_))))))))
          rintro _ _ ⟨A9f,Azu,Biv,Bna,rfl,rfl⟩
          exact E4 (knl (B7 (B7 (AM (K.mv3 (K.Al (K.mv3 (K.mv3 (K.Bx (B4 (IntKind.i64.wrap (x47+1),x48,PO.2.2,PO.1,PO.2.1,A9f,Azu,Biv) ⟨h,Bna⟩ sb rfl))))))))))
         ·exact BV (B7 (B7 (AM (K.Al (K.Bx (K.mv3 (K.mv3 (K.Bx (B4 (IntKind.i64.wrap (x47+1),x48,x50,IntKind.i64.wrap (x51+1),Xf,SV,Sy,Tw) ⟨h,PB⟩ sb rfl)))))))))
       ·have h:=Zt
        clear Zt
        refine Bu (kx 2 ?_)
        refine Ee 79 h (fun h=>?_) fun h=>?_
        ·exact kx 7 (Ad (Dd ⟨gr,gr,gr,gr,gr,gr,gr,gr,gr,gr,gr,gr,gr,gb (As h),trivial⟩))
        ·exact kx 7 (Ad (Dd ⟨gr,gr,gr,gr,gr,gr,gr,gr,gr,gr,gr,gr,gr,gb (As h),trivial⟩))
    ·exact Fv (Dg (Dg (Fw (AM (B4 (x47,x48,x50,x51,Oh,h53,O8,Py) ⟨h,M3⟩ sb rfl)))))
 ·have h:=hq2
  clear hq2
  refine Bu (kx 4 ?_)
  refine Ee 16 h (fun h=>?_) fun h=>?_
  ·refine kx 4 (bnd h fun NE Bgp h=>(DI (T:=54) (kd:=.i64) (R:=(AX 54)) rfl Bgp Fk fun B16 B26 Bry A5l Bwp=>?_))
   obtain ⟨Azv,Biw,rfl,B1i⟩:=DF 54 Bry
   refine Ha (off:=0) rfl A5l Bwp fun Bpz Y1 B31=>?_
   have Y1:Elem _ Bpz [iv NE.kind,sv NE.text,iv NE.n,iv NE.at_,Aa Azv NE.kids Biw]:=Y1
   refine Ip rfl (by kernel_rfl) (by kernel_rfl) (by kernel_rfl) (by kernel_rfl) Y1 (t3 DV) (kx 3 ?_)
   refine Ee 26 h (fun h=>?_) fun h=>?_
   ·refine kx 4 (bnd h fun x158 hx158 h=>(DI (T:=54) (kd:=.i64) (R:=(AX 54)) rfl hx158 Fk fun p159 u162 Aei e160 Aze=>?_))
    obtain ⟨Ahk,Apv,rfl,Acv⟩:=DF 54 Aei
    refine Ha (off:=4) rfl e160 Aze fun Bp1 e168 B34=>?_
    have e168:Elem _ Bp1 [Aa Ahk x158.kids Apv]:=e168
    refine Ip rfl (by kernel_rfl) (by kernel_rfl) (by kernel_rfl) (by kernel_rfl) e168 (t3 DV) (bnd h fun NF Bgs h=>(DI (T:=54) (kd:=.i64) (R:=(AX 54)) rfl Bgs Acv fun B2b B3c Br1 A5o Bwq=>?_))
    obtain ⟨Az0,Bi3,rfl,B1p⟩:=DF 54 Br1
    refine Ha (off:=0) rfl A5o Bwq fun Bp7 Y2 B4a=>?_
    have Y2:Elem _ Bp7 [iv NF.kind,sv NF.text,iv NF.n,iv NF.at_,Aa Az0 NF.kids Bi3]:=Y2
    exact Ip rfl (by kernel_rfl) (by kernel_rfl) (by kernel_rfl) (by kernel_rfl) Y2 (t3 DV) (kx 3 (Ad (Dd ⟨gr,gr,gb (As h),trivial⟩)))
   ·exact kx 13 (Ad (Dd ⟨gr,gr,gb (As h),trivial⟩))
  ·exact kx 23 (Ad (Dd ⟨gr,gr,gb (As h),trivial⟩))
def GE.at:Nat→GE
 | 0=>⟨fun _ _ _ _ _ _ _ _ _=>none,fun _ _ _ _ _=>none,fun _ _ _ _ _=>none,fun _ _ _ _ _ _ _ _ _ _=>none,fun _ _ _ _ _ _ _ _ _=>none,fun _ _ _ _ _=>none⟩
 | k+1=>⟨Dk.g (GE.at k) k,DD.g (GE.at k) k,FO.g (GE.at k) k,ET.g (GE.at k) k,Ij.g (GE.at k) k,FP.g (GE.at k) k⟩
theorem GE.good:∀ k,(GE.at k).Good
 | 0=>⟨(by unfold Dk.C;intros;rename_i h _ _ _ _ _ _;cases (show (none:Option _)=some _ from h)),(by unfold DD.C;intros;rename_i h _ _ _ _ _ _;cases (show (none:Option _)=some _ from h)),(by unfold FO.C;intros;rename_i h _ _ _ _ _ _;cases (show (none:Option _)=some _ from h)),(by unfold ET.C;intros;rename_i h _ _ _ _ _ _;cases (show (none:Option _)=some _ from h)),(by unfold Ij.C;intros;rename_i h _ _ _ _ _ _;cases (show (none:Option _)=some _ from h)),(by unfold FP.C;intros;rename_i h _ _ _ _ _ _;cases (show (none:Option _)=some _ from h))⟩
 | k+1=>⟨Dk.C2 (k:=k) (GE.good k),DD.C2 (k:=k) (GE.good k),FO.C2 (k:=k) (GE.good k),ET.C2 (k:=k) (GE.good k),Ij.C2 (k:=k) (GE.good k),FP.C2 (k:=k) (GE.good k)⟩
def Dk.f (k:Nat):=Dk.g (GE.at k) k
theorem Dk.ok {k:Nat}:Dk.C (Dk.f k):=Dk.C2 (k:=k) (GE.good k)
def DD.f (k:Nat):=DD.g (GE.at k) k
theorem DD.ok {k:Nat}:DD.C (DD.f k):=DD.C2 (k:=k) (GE.good k)
def FO.f (k:Nat):=FO.g (GE.at k) k
theorem FO.ok {k b0 AH Bt AD AT C6:Nat} {Af:Bg} {At r:TyA} {Ai Am:Ae} {a1:List Tree} {Ay Az A2 B0 AA B1 B2 Bk:Value} {CF B9 C5 BT DY G:Ab} {AG Bm AC AR C4:Aq} (h:FO.f k Af At Ai Am a1=some r) (Cu:Bl Dv 3 CF (Aa AG Af AH) Af) (Cj:Ah e48 48 4 B9 (Aa Bm At Bt) At) (Co:Bl encS 1 C5 (Aa AC Ai AD) Ai) (Ci:Bl encS 1 BT (Aa AR Am AT) Am) (Fk:RdR (AX 54) DY (Aa C4 a1 C6) a1) (hG:EE G): Ct Tryz.prog 85 #[pt b0,Aa C4 a1 C6] [bk b0 #[Ay,Az,A2,Aa AG Af AH,Aa Bm At Bt,B0,Aa AC Ai AD,AA,B1,B2,Aa AR Am AT,Bk] 66,B9] [CF,C5,BT,DY,G] (fun e l1=>∃ (H0_:Ab) (A0_:Aq) (c0_:Nat),Ah e48 48 4 H0_ (Aa A0_ r c0_) r∧e=.returned (.tuple #[])∧l1=[bk b0 #[Ay,Az,A2,Aa AG Af AH,Aa A0_ r c0_,B0,Aa AC Ai AD,AA,B1,B2,Aa AR Am AT,Bk] 66,H0_]):=FO.C2 (k:=k) (GE.good k) h Cu Cj Co Ci Fk hG
def ET.f (k:Nat):=ET.g (GE.at k) k
theorem ET.ok {k:Nat}:ET.C (ET.f k):=ET.C2 (k:=k) (GE.good k)
def Hl.l0:Nat→(a2:Int)→(x8:Int)→(l9:List (Int×Int×Int×Int))→Option (List (Int×Int×Int×Int))
 | 0,_,_,_=>none
 | m14+1,a2,x8,l9=>cond (decide (x8 < a2)) ((BA.f m14 l9 3 ([])).bind fun r16=>Hl.l0 m14 a2 (IntKind.i64.wrap (x8+1)) r16.2) (some (l9))
def Hl.f (k:Nat) (Af:Bg) (At:TyA) (Ai:Ae) (Am:Ae) (a1:List Tree) (a2:Int):Option TyA:=cond (((a1.length:Nat):Int) == a2) ((DD.f k Af At Ai Am a1).bind fun r2=>some (r2)) (cond (((a1.length:Nat):Int) == 0) (Hl.l0 k a2 0 At) ((BA.f k At 22 ([])).bind fun r21=>(FO.f k Af r21.2 Ai Am a1).bind fun Dj=>(BA.f k Dj 23 ([a2])).bind fun r32=>some (r32.2)))
theorem Hl.ok {k b0 AH Bt AD AT C6:Nat} {Af:Bg} {At r:TyA} {Ai Am:Ae} {a1:List Tree} {a2:Int} {Ay Az A2 B0 AA B1 B2 Bk:Value} {CF B9 C5 BT DY G:Ab} {AG Bm AC AR C4:Aq} (h:Hl.f k Af At Ai Am a1 a2=some r) (Cu:Bl Dv 3 CF (Aa AG Af AH) Af) (Cj:Ah e48 48 4 B9 (Aa Bm At Bt) At) (Co:Bl encS 1 C5 (Aa AC Ai AD) Ai) (Ci:Bl encS 1 BT (Aa AR Am AT) Am) (Fk:RdR (AX 54) DY (Aa C4 a1 C6) a1) (hG:EE G): Ct Tryz.prog 71 #[pt b0,Aa C4 a1 C6,iv a2] [bk b0 #[Ay,Az,A2,Aa AG Af AH,Aa Bm At Bt,B0,Aa AC Ai AD,AA,B1,B2,Aa AR Am AT,Bk] 66,B9] [CF,C5,BT,DY,G] (fun e l1=>∃ (H0_:Ab) (A0_:Aq) (c0_:Nat),Ah e48 48 4 H0_ (Aa A0_ r c0_) r∧e=.returned (.tuple #[])∧l1=[bk b0 #[Ay,Az,A2,Aa AG Af AH,Aa A0_ r c0_,B0,Aa AC Ai AD,AA,B1,B2,Aa AR Am AT,Bk] 66,H0_]):=by
 refine C3 (args:=[pt b0,Aa C4 a1 C6,iv a2]) Tryz.func71 rfl (By rfl) ?_
 intro A X hh_
 obtain ⟨CU,CJ,Fp,DV,BU,_⟩:=hh_
 unfold Hl.f at h
 refine K.eq (env':=[(0,pt b0),(1,Aa C4 a1 C6),(2,iv a2)]) (l':=bk b0 #[Ay,Az,A2,Aa AG Af AH,Aa Bm At Bt,B0,Aa AC Ai AD,AA,B1,B2,Aa AR Am AT,Bk] 66 :: B9 :: X) rfl rfl (ksr (kx 2 (Ad (C1 (ksr (kx 3 (Ad ?_)))))))
 refine AU h (fun h=>?_) fun h=>?_
 ·refine Bu (kx 2 (K.An (K.An (bnd h fun r2 hr2 h=>(Bz (DD.ok hr2 Cu Cj Co Ci Fk hG) rfl ⟨CU,CJ,Fp,DV,BU,trivial⟩ ?_)))))
  rintro _ _ ⟨h3,A4,k5,o6,rfl,rfl⟩
  refine Bi (knl (B7 (Cw ?_)))
  obtain rfl:=As h
  exact kdv (.tuple #[]) [bk b0 #[Ay,Az,A2,Aa AG Af AH,Aa A4 r2 k5,B0,Aa AC Ai AD,AA,B1,B2,Aa AR Am AT,Bk] 66,h3] (BH ⟨h3,A4,k5,o6,rfl,rfl⟩)
 ·refine ksr (kx 2 (Ad ?_))
  refine AU h (fun h=>?_) fun h=>?_
  ·refine ksr (kx 2 (Ad (C1 (Fx (τ:=Int×TyA×Ab×Aq×Nat) (fun t=>[(0,pt b0),(25,iv a2),(26,iv t.1)]) (fun t=>bk b0 #[Ay,Az,A2,Aa AG Af AH,Aa t.2.2.2.1 t.2.1 t.2.2.2.2,B0,Aa AC Ai AD,AA,B1,B2,Aa AR Am AT,Bk] 66 :: t.2.2.1 :: X) (fun m t=>Hl.l0 m a2 t.1 t.2.1=some r∧Ah e48 48 4 t.2.2.1 (Aa t.2.2.2.1 t.2.1 t.2.2.2.2) t.2.1) k (0,At,B9,Bm,Bt) ⟨h,Cj⟩ sb rfl ?_))))
   clear h
   rintro m14 ⟨x8,l9,h10,O5,k12⟩ ⟨h,Rz⟩
   cases m14 with
   | zero=>simp [Hl.l0] at h
   | succ m14 =>
    simp only [Hl.l0] at h
    refine ksr (kx 1 (Ad (B8 ?_)))
    refine AU h (fun h=>?_) fun h=>?_
    ·refine BV (AM (B8 (C1 (Bu (kx 1 (Dl (K.Al (K.Al (bnd h fun r16 Ky h=>(Bz (BA.ok Ky Rz (Bl.nil (encI .i64) 1 none_)) rfl ⟨(.head _),trivial⟩ ?_))))))))))
     rintro _ _ ⟨h17,Jm,k19,o20,rfl,rfl⟩
     exact Bi (K.Al (K.drop (knl (B7 (AM (Bu (kx 2 (Ad (E3 m14 (IntKind.i64.wrap (x8+1),r16.2,h17,Jm,k19) (Nat.lt_succ_self _) ⟨h,o20⟩ sb rfl)))))))))
    ·refine Fv (Dg (Dg (Fw (B7 (Cw ?_)))))
     obtain rfl:=As h
     exact kdv (.tuple #[]) [bk b0 #[Ay,Az,A2,Aa AG Af AH,Aa O5 l9 k12,B0,Aa AC Ai AD,AA,B1,B2,Aa AR Am AT,Bk] 66,h10] (BH ⟨h10,O5,k12,Rz,rfl,rfl⟩)
  ·refine ksr (kx 1 (Dl (K.Al (K.Al (bnd h fun r21 K0 h=>(Bz (BA.ok K0 Cj (Bl.nil (encI .i64) 1 none_)) rfl ⟨(.head _),trivial⟩ ?_))))))
   rintro _ _ ⟨h22,A23,k24,Hc,rfl,rfl⟩
   refine Bi (K.Al (K.drop (Ba (kx 2 (K.An (K.An (bnd h fun Dj Ng h=>(Bz (FO.ok Ng Cu Hc Co Ci Fk hG) rfl ⟨CU,CJ,Fp,DV,BU,trivial⟩ ?_))))))))
   rintro _ _ ⟨h27,A28,k29,N2,rfl,rfl⟩
   refine Bi (FG (kx 2 (Dh #[iv a2] 3 1 fun b31=>(K.Al (K.Al (bnd h fun r32 Pi h=>(Bz (BA.ok Pi N2 (Ah.rd (Ah.blk 3 (Ec .i64) b31 [a2] #[iv a2] 1 (by kernel_rfl) rfl (by decide)))) rfl ⟨(.head _),trivial⟩ ?_)))))))
   rintro _ _ ⟨h33,A34,GD,Jj,rfl,rfl⟩
   refine Bi (K.Al (K.drop (knl (B7 (Cw ?_)))))
   obtain rfl:=As h
   exact kdv (.tuple #[]) [bk b0 #[Ay,Az,A2,Aa AG Af AH,Aa A34 r32.2 GD,B0,Aa AC Ai AD,AA,B1,B2,Aa AR Am AT,Bk] 66,h33] (BH ⟨h33,A34,GD,Jj,rfl,rfl⟩)
def Gc.l1:Nat→(Af:Bg)→(Ai:Ae)→(Am:Ae)→(a1:List Tree)→(J7:Int→TyA→Option TyA)→(x79:Int)→(x80:Int)→(l81:TyA)→Option TyA
 | 0,_,_,_,_,_,_,_,_=>none
 | Rv+1,Af,Ai,Am,a1,J7,x79,x80,l81=>cond (decide (x80 < ((a1.length:Nat):Int))) (BG (fun (x88:Int) (l89:TyA)=>Gc.l1 Rv Af Ai Am a1 J7 x88 (IntKind.i64.wrap (x80+1)) l89) (fun Vn=>(Bh a1 x80).bind fun x95=>cond (x95.kind == 7) ((DD.f Rv Af l81 Ai Am x95.kids).bind fun Ael=>Vn (IntKind.i64.wrap (x79+2)) Ael) (Vn x79 l81))) (J7 x79 l81)
def Gc.l0:Nat→(Ai:Ae)→(Am:Ae)→(a1:List Tree)→(JD:TyA→Option TyA)→(x25:Int)→(x26:Int)→(l27:TyA)→Option TyA
 | 0,_,_,_,_,_,_,_=>none
 | m32+1,Ai,Am,a1,JD,x25,x26,l27=>cond (decide (x26 < ((a1.length:Nat):Int))) (BG (fun (x34:Int) (Jh:TyA)=>Gc.l0 m32 Ai Am a1 JD x34 (IntKind.i64.wrap (x26+1)) Jh) (fun Mm=>(Bh a1 x26).bind fun x41=>cond (x41.kind == 7) ((BA.f m32 l27 13 ([IntKind.i64.wrap (((a1.length:Nat):Int)+(IntKind.i64.wrap (x25 - 2))),IntKind.i64.wrap ((IntKind.i64.wrap (((a1.length:Nat):Int) - 1)) - x26)])).bind fun r53=>Mm (IntKind.i64.wrap (x25 - 2)) r53.2) ((BA.f m32 l27 14 ([IntKind.i64.wrap ((IntKind.i64.wrap (((a1.length:Nat):Int) - 1)) - x26)])).bind fun r59=>(NY.f m32 Am x41.text).bind fun r64=>cond (decide (r64 > 0)) ((BA.f m32 r59.2 7 ([r64])).bind fun Fc=>Mm x25 Fc.2) ((LC.f m32 Ai x41.text).bind fun Gh=>(BA.f m32 r59.2 9 ([Gh])).bind fun IR=>Mm x25 IR.2)))) (JD l27)
def Gc.f (k:Nat) (Af:Bg) (At:TyA) (Ai:Ae) (Am:Ae) (a1:List Tree) (a2:List Tree):Option TyA:=BG (fun (x1:Int) (l2:TyA)=>(Hl.f k Af l2 Ai Am a2 ((a1.length:Nat):Int)).bind fun r8=>BG (fun (l13:TyA)=>(BA.f k l13 15 ([IntKind.i64.wrap (((a1.length:Nat):Int)+x1)])).bind fun r20=>some (r20.2)) (fun JD=>Gc.l0 k Ai Am a1 JD x1 0 r8)) (fun J7=>Gc.l1 k Af Ai Am a1 J7 0 0 At)
theorem Gc.ok {k b0 AH Bt AD AT C6 Gj:Nat} {Af:Bg} {At r:TyA} {Ai Am:Ae} {a1 a2:List Tree} {Ay Az A2 B0 AA B1 B2 Bk:Value} {CF B9 C5 BT DY Kn G:Ab} {AG Bm AC AR C4 Gi:Aq} (h:Gc.f k Af At Ai Am a1 a2=some r) (Cu:Bl Dv 3 CF (Aa AG Af AH) Af) (Cj:Ah e48 48 4 B9 (Aa Bm At Bt) At) (Co:Bl encS 1 C5 (Aa AC Ai AD) Ai) (Ci:Bl encS 1 BT (Aa AR Am AT) Am) (Fk:RdR (AX 54) DY (Aa C4 a1 C6) a1) (NP:RdR (AX 54) Kn (Aa Gi a2 Gj) a2) (hG:EE G): Ct Tryz.prog 73 #[pt b0,Aa C4 a1 C6,Aa Gi a2 Gj] [bk b0 #[Ay,Az,A2,Aa AG Af AH,Aa Bm At Bt,B0,Aa AC Ai AD,AA,B1,B2,Aa AR Am AT,Bk] 66,B9] [CF,C5,BT,DY,Kn,G] (fun e l1=>∃ (H0_:Ab) (A0_:Aq) (c0_:Nat),Ah e48 48 4 H0_ (Aa A0_ r c0_) r∧e=.returned (.tuple #[])∧l1=[bk b0 #[Ay,Az,A2,Aa AG Af AH,Aa A0_ r c0_,B0,Aa AC Ai AD,AA,B1,B2,Aa AR Am AT,Bk] 66,H0_]):=by
 refine C3 (args:=[pt b0,Aa C4 a1 C6,Aa Gi a2 Gj]) Tryz.func73 rfl (By rfl) ?_
 intro A X hh_
 obtain ⟨CU,CJ,Fp,DV,Nf,BU,_⟩:=hh_
 unfold Gc.f at h
 refine K.eq (env':=[(0,pt b0),(1,Aa C4 a1 C6),(2,Aa Gi a2 Gj)]) (l':=bk b0 #[Ay,Az,A2,Aa AG Af AH,Aa Bm At Bt,B0,Aa AC Ai AD,AA,B1,B2,Aa AR Am AT,Bk] 66 :: B9 :: X) rfl rfl (ksr (kx 4 (Ad ?_)))
 obtain ⟨J7,hJ7,h⟩:=De h
 refine Df (τ:=Int×TyA×Ab×Aq×Nat) (fun t=>[(0,pt b0),(1,Aa C4 a1 C6),(2,Aa Gi a2 Gj),(6,iv ((a1.length:Nat):Int)),(7,iv t.1)]) (fun t=>bk b0 #[Ay,Az,A2,Aa AG Af AH,Aa t.2.2.2.1 t.2.1 t.2.2.2.2,B0,Aa AC Ai AD,AA,B1,B2,Aa AR Am AT,Bk] 66 :: t.2.2.1 :: X) (fun t=>J7 t.1 t.2.1=some r∧Ah e48 48 4 t.2.2.1 (Aa t.2.2.2.1 t.2.1 t.2.2.2.2) t.2.1) ?_ ?_
 ·rintro ⟨x1,l2,h3,A4,k5⟩ ⟨h,o6⟩
  subst hJ7
  refine ksr (kx 4 (Ba (kx 3 (K.An (K.An (bnd h fun r8 hr8 h=>(Bz (Hl.ok hr8 Cu o6 Co Ci NP hG) rfl ⟨CU,CJ,Fp,Nf,BU,trivial⟩ ?_)))))))
  rintro _ _ ⟨h9,F5,k11,Ht,rfl,rfl⟩
  refine Bi (Ad ?_)
  obtain ⟨JD,YT,h⟩:=De h
  refine Df (τ:=TyA×Ab×Aq×Nat) (fun t=>[(0,pt b0),(10,iv (IntKind.i64.wrap (((a1.length:Nat):Int)+x1)))]) (fun t=>bk b0 #[Ay,Az,A2,Aa AG Af AH,Aa t.2.2.1 t.1 t.2.2.2,B0,Aa AC Ai AD,AA,B1,B2,Aa AR Am AT,Bk] 66 :: t.2.1 :: X) (fun t=>JD t.1=some r∧Ah e48 48 4 t.2.1 (Aa t.2.2.1 t.1 t.2.2.2) t.1) ?_ ?_
  ·rintro ⟨l13,h14,ML,k16⟩ ⟨h,o17⟩
   subst YT
   refine Bu (kx 2 (Dh #[iv (IntKind.i64.wrap (((a1.length:Nat):Int)+x1))] 3 1 fun b19=>(K.Al (K.Al (bnd h fun r20 Pf h=>(Bz (BA.ok Pf o17 (Ah.rd (Ah.blk 3 (Ec .i64) b19 [IntKind.i64.wrap (((a1.length:Nat):Int)+x1)] #[iv (IntKind.i64.wrap (((a1.length:Nat):Int)+x1))] 1 (by kernel_rfl) rfl (by decide)))) rfl ⟨(.head _),trivial⟩ ?_))))))
   rintro _ _ ⟨h21,I4,k23,JR,rfl,rfl⟩
   refine Bi (K.Al (K.drop (knl (Cw ?_))))
   obtain rfl:=As h
   exact kdv (.tuple #[]) [bk b0 #[Ay,Az,A2,Aa AG Af AH,Aa I4 r20.2 k23,B0,Aa AC Ai AD,AA,B1,B2,Aa AR Am AT,Bk] 66,h21] (BH ⟨h21,I4,k23,JR,rfl,rfl⟩)
  ·skip
   refine ksr (kx 3 (Ad (C1 (Fx (τ:=Int×Int×TyA×Ab×Aq×Nat) (fun t=>[(0,pt b0),(6,iv ((a1.length:Nat):Int)),(7,iv t.1),(10,iv (IntKind.i64.wrap (((a1.length:Nat):Int)+x1))),(39,Aa C4 a1 C6),(40,iv ((a1.length:Nat):Int)),(41,iv t.2.1)]) (fun t=>bk b0 #[Ay,Az,A2,Aa AG Af AH,Aa t.2.2.2.2.1 t.2.2.1 t.2.2.2.2.2,B0,Aa AC Ai AD,AA,B1,B2,Aa AR Am AT,Bk] 66 :: t.2.2.2.1 :: X) (fun m t=>Gc.l0 m Ai Am a1 JD t.1 t.2.1 t.2.2.1=some r∧Ah e48 48 4 t.2.2.2.1 (Aa t.2.2.2.2.1 t.2.2.1 t.2.2.2.2.2) t.2.2.1) k (x1,0,r8,h9,F5,k11) ⟨h,Ht⟩ sb rfl ?_))))
   clear h
   rintro m32 ⟨x25,x26,l27,h28,A29,k30⟩ ⟨h,Hd⟩
   cases m32 with
   | zero=>simp [Gc.l0] at h
   | succ m32 =>
    simp only [Gc.l0] at h
    refine ksr (kx 1 (Ad (B8 ?_)))
    refine AU h (fun h=>?_) fun h=>?_
    ·refine BV (AM ?_)
     obtain ⟨Mm,YX,h⟩:=De h
     refine Df (τ:=Int×TyA×Ab×Aq×Nat) (fun t=>[(0,pt b0),(6,iv ((a1.length:Nat):Int)),(7,iv t.1),(10,iv (IntKind.i64.wrap (((a1.length:Nat):Int)+x1))),(39,Aa C4 a1 C6),(40,iv ((a1.length:Nat):Int)),(41,iv x26)]) (fun t=>bk b0 #[Ay,Az,A2,Aa AG Af AH,Aa t.2.2.2.1 t.2.1 t.2.2.2.2,B0,Aa AC Ai AD,AA,B1,B2,Aa AR Am AT,Bk] 66 :: t.2.2.1 :: X) (fun t=>Mm t.1 t.2.1=some r∧Ah e48 48 4 t.2.2.1 (Aa t.2.2.2.1 t.2.1 t.2.2.2.2) t.2.1) ?_ ?_
     ·rintro ⟨x34,Jh,h36,A37,k38⟩ ⟨h,o39⟩
      subst YX
      exact Bu (kx 2 (Ad (E3 m32 (x34,IntKind.i64.wrap (x26+1),Jh,h36,A37,k38) (Nat.lt_succ_self _) ⟨h,o39⟩ sb rfl)))
     ·skip
      refine C1 (ksr (kx 1 (bnd h fun x41 Ps h=>(DI (T:=54) (kd:=.i64) (R:=(AX 54)) rfl Ps Fk fun p42 u45 q46 e43 y44=>?_))))
      obtain ⟨A47,k48,rfl,o49⟩:=DF 54 q46
      refine Fq rfl e43 (t2 DV) (knp #[iv 0,sv noS,iv 0,iv 0,nS] 54 fun b50=>(kx 1 (AQ 0 5 #[iv x41.kind,sv x41.text,iv x41.n,iv x41.at_,Aa A47 x41.kids k48] (Ad (B8 (ksr (kx 1 (kld 0 0 rfl (kx 1 (Ad ?_))))))))))
      refine AU h (fun h=>?_) fun h=>?_
      ·refine ksr (kx 3 (Ba (kx 8 (Dh #[iv (IntKind.i64.wrap (((a1.length:Nat):Int)+(IntKind.i64.wrap (x25 - 2)))),iv (IntKind.i64.wrap ((IntKind.i64.wrap (((a1.length:Nat):Int) - 1)) - x26))] 3 2 fun b52=>(K.An (K.drop (K.Al (K.Al (bnd h fun r53 ZC h=>(Bz (BA.ok ZC Hd (Ah.rd (Ah.blk 3 (Ec .i64) b52 [IntKind.i64.wrap (((a1.length:Nat):Int)+(IntKind.i64.wrap (x25 - 2))),IntKind.i64.wrap ((IntKind.i64.wrap (((a1.length:Nat):Int) - 1)) - x26)] #[iv (IntKind.i64.wrap (((a1.length:Nat):Int)+(IntKind.i64.wrap (x25 - 2)))),iv (IntKind.i64.wrap ((IntKind.i64.wrap (((a1.length:Nat):Int) - 1)) - x26))] 2 (by kernel_rfl) rfl (by decide)))) rfl ⟨(.head _),trivial⟩ ?_))))))))))
       rintro _ _ ⟨h54,Mk,Mv,WH,rfl,rfl⟩
       exact Bi (K.Al (K.drop (Ad (Fv (Dg (Fw (AM (B4 (IntKind.i64.wrap (x25 - 2),r53.2,h54,Mk,Mv) ⟨h,WH⟩ sb rfl))))))))
      ·refine BV (AM (ksr (kx 5 (Dh #[iv (IntKind.i64.wrap ((IntKind.i64.wrap (((a1.length:Nat):Int) - 1)) - x26))] 3 1 fun b58=>(K.mv3 (K.mv3 (bnd h fun r59 hr59 h=>(Bz (BA.ok hr59 Hd (Ah.rd (Ah.blk 3 (Ec .i64) b58 [IntKind.i64.wrap ((IntKind.i64.wrap (((a1.length:Nat):Int) - 1)) - x26)] #[iv (IntKind.i64.wrap ((IntKind.i64.wrap (((a1.length:Nat):Int) - 1)) - x26))] 1 (by kernel_rfl) rfl (by decide)))) rfl ⟨(.head _),trivial⟩ ?_))))))))
       rintro _ _ ⟨h60,A61,k62,o63,rfl,rfl⟩
       refine Bi (K.Al (K.drop (Ba (kx 2 (kld 2 1 rfl (bnd h fun r64 ZF h=>(CG (NY.ok ZF Ci) rfl ⟨(t2 Fp),trivial⟩ (kx 1 (Ba (kx 2 ?_))))))))))
       refine Ad ?_
       refine AU h (fun h=>?_) fun h=>?_
       ·refine Bu (kx 2 (Dh #[iv r64] 3 1 fun b66=>(K.mv3 (K.drop (K.Al (K.Al (bnd h fun Fc Ni h=>(Bz (BA.ok Ni o63 (Ah.rd (Ah.blk 3 (Ec .i64) b66 [r64] #[iv r64] 1 (by kernel_rfl) rfl (by decide)))) rfl ⟨(.head _),trivial⟩ ?_))))))))
        rintro _ _ ⟨h68,A69,k70,N4,rfl,rfl⟩
        exact Bi (K.Al (K.drop (knl (B7 (AM (B4 (x25,Fc.2,h68,A69,k70) ⟨h,N4⟩ sb rfl))))))
       ·refine Bu (kx 3 (kld 2 1 rfl (K.Al (K.drop (bnd h fun Gh Tn h=>(CG (LC.ok Tn Co) rfl ⟨(.tail _ CJ),trivial⟩ (Dh #[iv Gh] 3 1 fun b73=>(K.Al (K.Al (bnd h fun IR ZJ h=>?_))))))))))
        refine Bz (BA.ok ZJ o63 (Ah.rd (Ah.blk 3 (Ec .i64) b73 [Gh] #[iv Gh] 1 (by kernel_rfl) rfl (by decide)))) rfl ⟨(.head _),trivial⟩ ?_
        rintro _ _ ⟨h75,Lm,LL,o78,rfl,rfl⟩
        exact Bi (K.Al (K.drop (knl (B7 (AM (B4 (x25,IR.2,h75,Lm,LL) ⟨h,o78⟩ sb rfl))))))
    ·exact Fv (Dg (Dg (Fw (AM (B4 (l27,h28,A29,k30) ⟨h,Hd⟩ sb rfl)))))
 ·skip
  refine ksr (kx 3 (Ad (C1 (Fx (τ:=Int×Int×TyA×Ab×Aq×Nat) (fun t=>[(0,pt b0),(1,Aa C4 a1 C6),(2,Aa Gi a2 Gj),(6,iv ((a1.length:Nat):Int)),(7,iv t.1),(16,Aa C4 a1 C6),(17,iv ((a1.length:Nat):Int)),(18,iv t.2.1)]) (fun t=>bk b0 #[Ay,Az,A2,Aa AG Af AH,Aa t.2.2.2.2.1 t.2.2.1 t.2.2.2.2.2,B0,Aa AC Ai AD,AA,B1,B2,Aa AR Am AT,Bk] 66 :: t.2.2.2.1 :: X) (fun m t=>Gc.l1 m Af Ai Am a1 J7 t.1 t.2.1 t.2.2.1=some r∧Ah e48 48 4 t.2.2.2.1 (Aa t.2.2.2.2.1 t.2.2.1 t.2.2.2.2.2) t.2.2.1) k (0,0,At,B9,Bm,Bt) ⟨h,Cj⟩ sb rfl ?_))))
  clear h
  rintro Rv ⟨x79,x80,l81,h82,A83,k84⟩ ⟨h,o85⟩
  cases Rv with
  | zero=>simp [Gc.l1] at h
  | succ Rv =>
   simp only [Gc.l1] at h
   refine ksr (kx 1 (Ad (B8 ?_)))
   refine AU h (fun h=>?_) fun h=>?_
   ·refine BV (AM ?_)
    obtain ⟨Vn,Ba5,h⟩:=De h
    refine Df (τ:=Int×TyA×Ab×Aq×Nat) (fun t=>[(0,pt b0),(1,Aa C4 a1 C6),(2,Aa Gi a2 Gj),(6,iv ((a1.length:Nat):Int)),(7,iv t.1),(16,Aa C4 a1 C6),(17,iv ((a1.length:Nat):Int)),(18,iv x80)]) (fun t=>bk b0 #[Ay,Az,A2,Aa AG Af AH,Aa t.2.2.2.1 t.2.1 t.2.2.2.2,B0,Aa AC Ai AD,AA,B1,B2,Aa AR Am AT,Bk] 66 :: t.2.2.1 :: X) (fun t=>Vn t.1 t.2.1=some r∧Ah e48 48 4 t.2.2.1 (Aa t.2.2.2.1 t.2.1 t.2.2.2.2) t.2.1) ?_ ?_
    ·rintro ⟨x88,l89,h90,NH,Of⟩ ⟨h,Oo⟩
     subst Ba5
     exact Bu (kx 2 (Ad (E3 Rv (x88,IntKind.i64.wrap (x80+1),l89,h90,NH,Of) (Nat.lt_succ_self _) ⟨h,Oo⟩ sb rfl)))
    ·skip
     refine C1 (ksr (bnd h fun x95 hx95 h=>(DI (T:=54) (kd:=.i64) (R:=(AX 54)) rfl hx95 Fk fun p96 u99 Brd e97 y98=>?_)))
     obtain ⟨Azi,Bii,rfl,Bmo⟩:=DF 54 Brd
     refine Fq rfl e97 (t2 DV) (knp #[iv 0,sv noS,iv 0,iv 0,nS] 54 fun Bx0=>(AQ 0 5 #[iv x95.kind,sv x95.text,iv x95.n,iv x95.at_,Aa Azi x95.kids Bii] (Ba (kx 1 (kld 0 0 rfl (kx 1 (Ad ?_)))))))
     refine AU h (fun h=>?_) fun h=>?_
     ·refine ksr (kx 2 (kld 0 4 rfl (K.drop (K.An (K.An (bnd h fun Ael Bde h=>(Bz (DD.ok Bde Cu o85 Co Ci Bmo hG) rfl ⟨CU,CJ,Fp,DV,BU,trivial⟩ ?_)))))))
      rintro _ _ ⟨A8z,X9,Aac,Ry,rfl,rfl⟩
      exact Bi (FG (kx 3 (knl (B7 (AM (B4 (IntKind.i64.wrap (x79+2),Ael,A8z,X9,Aac) ⟨h,Ry⟩ sb rfl))))))
     ·exact BV (B7 (AM (K.drop (B4 (x79,l81,h82,A83,k84) ⟨h,o85⟩ sb rfl))))
   ·exact Fv (Dg (Dg (Fw (AM (B4 (x79,l81,h82,A83,k84) ⟨h,o85⟩ sb rfl)))))
theorem Ab.or_comm {f g:Ab} (h:f.Apart g):f.or g=g.or f:=by
 funext k
 rcases h k with e | e
 ·cases hg:g k <;> simp [Ab.or,e,hg]
 ·cases hf:f k <;> simp [Ab.or,e,hf]
theorem Ab.Apart.WP {f g h:Ab} (h1:f.Apart g) (h2:f.Apart h):f.Apart (g.or h):=(h1.symm.N5 h2.symm).symm
theorem Ab.Apart.RA {f g h:Ab} (hgh:g.Apart h) (h1:f.Apart (g.or h)):f.Apart g∧f.Apart h:=by
 obtain ⟨a,b⟩:=Ab.Apart.LW hgh h1.symm
 exact ⟨a.symm,b.symm⟩
theorem Ab.WM {f g h:Ab} (hg:g.Apart f):g.or (f.or h)=f.or (g.or h):=by
 rw [← Ab.or_assoc,Ab.or_comm hg,Ab.or_assoc]
section
variable {α:Type} {R:FX α}
theorem Cn.focus:∀ {l:List α} {H:Ab} {cs:List Value} {k:Nat} {x:α},Cn R l H cs→l[k]? = some x →
  ∃ Hx Hr,H=Hx.or Hr∧Hx.Apart Hr∧R.own x Hx ((cs.drop (k * R.sz)).take R.sz) ∧
   ∀ x' Hx' cx',R.own x' Hx' cx'→Hx'.Apart Hr→Cn R (l.set k x') (Hx'.or Hr) (cs.take (k * R.sz)++cx'++cs.drop (k * R.sz+R.sz))
 | y :: l,_,_,0,x,⟨H1,H2,c1,c2,rfl,ha,rfl,h1,h2⟩,hx=>by
  simp only [List.getElem?_cons_zero,Option.some.injEq] at hx
  subst hx
  refine ⟨H1,H2,rfl,ha,?_,fun x' Hx' cx' h' ha'=>?_⟩
  ·rw [Nat.zero_mul,List.drop_zero,← (R.len h1).1,List.take_left]
   exact h1
  ·rw [Nat.zero_mul,List.take_zero,List.nil_append,Nat.zero_add,← (R.len h1).1,List.drop_left]
   exact ⟨Hx',H2,cx',c2,rfl,ha',rfl,h',h2⟩
 | y :: l,_,_,k+1,x,⟨H1,H2,c1,c2,rfl,ha,rfl,h1,h2⟩,hx=>by
  rw [List.getElem?_cons_succ] at hx
  obtain ⟨Hx,Hr,rfl,hxr,ho,hc⟩:=Cn.focus h2 hx
  obtain ⟨a1,a2⟩:=Ab.Apart.RA hxr ha
  have hl:c1.length=R.sz:=(R.len h1).1
  have e1:(k+1) * R.sz=c1.length+k * R.sz:=by rw [hl,Nat.add_mul,Nat.one_mul,Nat.add_comm]
  refine ⟨Hx,H1.or Hr,Ab.WM a1,Ab.Apart.WP a1.symm hxr,?_,fun x' Hx' cx' h' ha'=>?_⟩
  ·rw [e1,← List.drop_drop,List.drop_left]
   exact ho
  ·obtain ⟨b1,b2⟩:=Ab.Apart.RA a2 ha'
   have h3:=hc x' Hx' cx' h' b2
   rw [List.set_cons_succ,← Ab.WM b1.symm]
   refine ⟨H1,Hx'.or Hr,c1,_,rfl,Ab.Apart.WP b1.symm a2,?_,h1,h3⟩
   rw [e1,List.take_length_add_append,show c1.length+k * R.sz+R.sz=c1.length+(k * R.sz+R.sz) by omega,List.drop_length_add_append]
   simp only [Ck]
def I6 (R:FX α) (T:TypeId) (Hr:Ab) (A':Option Addr) (c:Nat) (xs:List α) (k:Nat) (cx:List Value):Prop :=
 ∃ Ho H0 cs,Hr=Ho.or H0∧Ho.Apart H0∧Own T R.sz Ho (.slice A' xs.length c) xs.length cs∧k < xs.length∧(cs.drop (k * R.sz)).take R.sz=cx∧cx.length=R.sz ∧
  ∀ x' Hx' cx',R.own x' Hx' cx'→Hx'.Apart H0→Cn R (xs.set k x') (Hx'.or H0) (cs.take (k * R.sz)++cx'++cs.drop (k * R.sz+R.sz))
theorem AK.hole {T:TypeId} {h:Ab} {A':Option Addr} {c k:Nat} {xs:List α} {x:α} (hO:AK R T h (.slice A' xs.length c) xs) (hx:xs[k]? = some x) :
  ∃ Hx Hr cx,h=Hx.or Hr∧Hx.Apart Hr∧R.own x Hx cx∧I6 R T Hr A' c xs k cx:=by
 obtain ⟨Ho,Hi,cs,rfl,ha,h1,h2⟩:=hO
 obtain ⟨Hx,Hr,rfl,hxr,ho,hc⟩:=h2.focus hx
 obtain ⟨a1,a2⟩:=Ab.Apart.RA hxr ha
 exact ⟨Hx,Ho.or Hr,_,Ab.WM a1,Ab.Apart.WP a1.symm hxr,ho,Ho,Hr,cs,rfl,a2,h1,(List.getElem?_eq_some_iff.1 hx).1,rfl,(R.len ho).1,hc⟩
theorem I6.close {T:TypeId} {Hr:Ab} {A':Aq} {c k:Nat} {xs:List α} {cx:List Value} (hh:I6 R T Hr A' c xs k cx) {x':α} {Hx':Ab} (h':R.own x' Hx' cx) (ha':Hx'.Apart Hr):AK R T (Hx'.or Hr) (.slice A' (xs.set k x').length c) (xs.set k x'):=by
 obtain ⟨Ho,H0,cs,rfl,a2,h1,hk,e,_,hc⟩:=hh
 obtain ⟨b1,b2⟩:=Ab.Apart.RA a2 ha'
 have h3:=hc x' Hx' _ h' b2
 have e:cs.take (k * R.sz)++cx++cs.drop (k * R.sz+R.sz)=cs:=by
  rw [← e,Ck,← List.drop_drop,List.take_append_drop,List.take_append_drop]
 rw [e] at h3
 rw [← Ab.WM b1.symm]
 exact ⟨Ho,Hx'.or H0,cs,rfl,Ab.Apart.WP b1.symm a2,by rw [List.length_set];exact h1,h3⟩
theorem I6.elem {T:TypeId} {Hr:Ab} {A':Option Addr} {c k:Nat} {xs:List α} {cx:List Value} (hh:I6 R T Hr A' c xs k cx) {p:Value} (hp:Place A' (k * R.sz) p):Elem Hr p cx:=by
 obtain ⟨Ho,H0,cs,rfl,a2,h1,hk,e,_,hc⟩:=hh
 obtain ⟨b,off,rfl,rfl⟩:=hp
 rcases h1.2.2 with ⟨_,h0⟩ | ⟨g,cap,cur,he,rfl,h4,h5,h6,h7⟩
 ·omega
 ·cases he
  refine ⟨b,0+k * R.sz,cur,T,(0,0),rfl,Ab.RC (by simp [blk]),fun j u hj=>?_⟩
  rw [← e,List.getElem?_take] at hj
  split at hj
  ·rw [List.getElem?_drop,← h7,List.getElem?_take] at hj
   split at hj
   ·rw [Nat.zero_add];simpa using hj
   ·cases hj
  ·cases hj
end
section
variable {A:World} {ds:List Deferred} {n0:Nat} {env env':Env} {l l' X:List Ab} {q:Act→World→Prop} {P:Program} {Q:Exit→Act→World→Prop} {ops:Array Oper} {os rest:List Oper} {o:Oper} {α:Type} {R:FX α}
theorem Q_ {T:TypeId} {h:Ab} {A':Option Addr} {c k:Nat} {xs:List α} {x:α} (hO:AK R T h (.slice A' xs.length c) xs) (hx:xs[k]? = some x)
  (hk:∀ Hx Hr cx,Hx.Apart Hr→h=Hx.or Hr→R.own x Hx cx→I6 R T Hr A' c xs k cx→K ds A n0 env (Hx :: Hr :: l) q):K ds A n0 env (h :: l) q:=by
 obtain ⟨Hx,Hr,cx,rfl,ha,ho,hc⟩:=hO.hole hx
 exact Og ha (hk Hx Hr cx ha rfl ho hc)
theorem Bkj {xs:List α} {k off:Nat} {Hr:Ab} {A':Option Addr} {c:Nat} {cx:List Value} {T T1:TypeId} {p v:Value} {s y:Operand} (ho:o.op=.store T1 s y) (hg:Cy ops env o=some true) (hd:inB n0 o.dst=true)
  (hs:Ch env s=some p) (hy:Ch env y=some v) (hsz:(P.info? T1).map (·.size)=some v.cells.size) (hp:Place A' (k * R.sz+off) p) (hH:I6 R T Hr A' c xs k cx) (hfit:off+v.cells.toList.length≤R.sz) (Aox:∀ u ∈ v.cells.toList,u.oneCell'=true)
  (hk:∀ Hr',I6 R T Hr' A' c xs k (cx.take off++v.cells.toList++cx.drop (off+v.cells.toList.length))→K ds A n0 (Bv env o.dst undef) (Hr' :: l) (wpList P ops Q rest)):K ds A n0 env (Hr :: l) (wpList P ops Q (o :: rest)):=by
 obtain ⟨Ho,H0,cs,rfl,hab,YY,hkl,hcx,hcl,hc⟩:=hH
 subst hcx
 refine Og hab ?_
 refine FS hg fun a w ha hw=>?_
 cases hif:P.info? T1 with
 | none=>rw [hif] at hsz;cases hsz
 | some i =>
  rw [hif] at hsz
  have hsize:i.size=v.cells.size:=As hsz
  obtain ⟨hlen,Jr,hcc⟩:=YY
  rcases hcc with ⟨he,h0⟩ | ⟨g,cap,cur,he,rfl,h4,h5,h6,h7⟩
  ·omega
  ·cases he
   obtain ⟨b,of_,he,rfl⟩:=hp
   cases he
   have hgc:w.heap[g]? = some (.cells cur T (0,0)):=hw.sat.1 g _ (by simp [blk])
   have hle:k * R.sz+R.sz≤xs.length * R.sz:=by
    have:=Nat.mul_le_mul_right R.sz (show k+1≤xs.length by omega)
    rw [Nat.add_mul,Nat.one_mul] at this
    exact this
   have hcs:xs.length * R.sz≤cur.size:=by rw [h6];exact Nat.mul_le_mul_right _ h4
   have hst:=run_storeCells_at P g (k * R.sz+off) T v.cells.toList 0 cur w hgc (by omega) Aox
   simp only [Nat.add_zero] at hst
   have hr:(Instr.storeAt T1 (.pointer (some ⟨g,0+(k * R.sz+off),none⟩)) v).run P w=.ok () (w.setRow g (cur.toList.take (k * R.sz+off)++v.cells.toList++cur.toList.drop (k * R.sz+off+v.cells.toList.length)).toArray):=by
    simp [Instr.storeAt,Instr.sureAddr,storeVar,sizeOf,typeInfo,hif,hsize]
    simpa using hst
   unfold Oper.wp execOp
   simp only [ho,ha.eval hs,ha.eval hy,Sem.run_bind,hr,Result.andThen_ok,Sem.run_pure]
   have hsp:=Aw5 cur.toList v.cells.toList (k * R.sz) off R.sz (xs.length * R.sz) hfit hle (by simpa using hcs)
   rw [h7] at hsp
   obtain ⟨cx',hcx'⟩:∃ y,y=((cs.drop (k * R.sz)).take R.sz).take off++v.cells.toList++((cs.drop (k * R.sz)).take R.sz).drop (off+v.cells.toList.length):=⟨_,rfl⟩
   rw [← hcx'] at hsp
   have hln:cx'.length=R.sz:=by
    rw [hcx',AV,AV,List.length_take,BX,hcl]
    omega
   have hone':∀ u ∈ cx',u.oneCell'=true:=fun u hu=>by
    rw [hcx'] at hu
    rcases EQ.1 hu with hu | hu
    ·rcases EQ.1 hu with hu | hu
     ·exact Jr u (List.mem_of_mem_drop (List.mem_of_mem_take (List.mem_of_mem_take hu)))
     ·exact Aox u hu
    ·exact Jr u (List.mem_of_mem_drop (List.mem_of_mem_take (List.mem_of_mem_drop hu)))
   obtain ⟨cs',hcs'⟩:∃ y,y=cs.take (k * R.sz)++cx'++cs.drop (k * R.sz+R.sz):=⟨_,rfl⟩
   have hkt:(cs.take (k * R.sz)).length=k * R.sz:=by rw [List.length_take,hlen];omega
   have YZ:Own T R.sz (blk g (.cells (cur.toList.take (k * R.sz+off)++v.cells.toList++cur.toList.drop (k * R.sz+off+v.cells.toList.length)).toArray T (0,0))) (.slice (some ⟨g,0,none⟩) xs.length c) xs.length cs':=by
    refine ⟨?_,?_,.inr ⟨g,c,_,rfl,rfl,h4,h5,?_,?_⟩⟩
    ·rw [hcs',AV,AV,hln,hkt,BX,hlen]
     omega
    ·intro u hu
     rw [hcs'] at hu
     rcases EQ.1 hu with hu | hu
     ·rcases EQ.1 hu with hu | hu
      ·exact Jr u (List.mem_of_mem_take hu)
      ·exact hone' u hu
     ·exact Jr u (List.mem_of_mem_drop hu)
    ·simp only [List.size_toArray,AV,List.length_take,BX,Array.length_toList]
     rw [Nat.min_eq_left (by omega)]
     have:v.cells.toList.length=v.cells.size:=Array.length_toList
     omega
    ·rw [hcs'];exact hsp
   have e1:(cs'.drop (k * R.sz)).take R.sz=cx':=by
    rw [hcs',Ck]
    have:(cs.take (k * R.sz)++(cx'++cs.drop (k * R.sz+R.sz))).drop (k * R.sz)=cx'++cs.drop (k * R.sz+R.sz):=by
     have:=List.drop_left (l₁:=cs.take (k * R.sz)) (l₂:=cx'++cs.drop (k * R.sz+R.sz))
     rw [hkt] at this
     exact this
    rw [this,← hln,List.take_left]
   have e2:cs'.take (k * R.sz)=cs.take (k * R.sz):=by
    rw [hcs',Ck]
    have:=List.take_left (l₁:=cs.take (k * R.sz)) (l₂:=cx'++cs.drop (k * R.sz+R.sz))
    rw [hkt] at this
    exact this
   have e3:cs'.drop (k * R.sz+R.sz)=cs.drop (k * R.sz+R.sz):=by
    rw [hcs']
    have:=List.drop_left (l₁:=cs.take (k * R.sz)++cx') (l₂:=cs.drop (k * R.sz+R.sz))
    rw [AV,hkt,hln] at this
    exact this
   have hk':K ds A n0 (Bv env o.dst undef) (blk g (.cells (cur.toList.take (k * R.sz+off)++v.cells.toList++cur.toList.drop (k * R.sz+off+v.cells.toList.length)).toArray T (0,0)) :: H0 :: l) (wpList P ops Q rest) :=
    K5 fun hap=>hk _ ⟨_,H0,cs',rfl,hap,YZ,hkl,by rw [e1,hcx'],by rw [← hcx'];exact hln,fun x' Hx' cx2 h' ha'=>by rw [e2,e3];exact hc x' Hx' cx2 h' ha'⟩
   exact hk' _ _ (ha.Bv _ hd) (hw.setRow _)
end
def D5 {α:Type} (R:FX α):FX (Option α) where
 sz:=R.sz
 own x H cs:=match x with | some u=>R.own u H cs | none=>cs.length=R.sz∧∀ u ∈ cs,u.oneCell'=true
 rd x H cs:=match x with | some u=>R.rd u H cs | none=>cs.length=R.sz∧∀ u ∈ cs,u.oneCell'=true
 len:=by
  intro x H cs h
  cases x with
  | none=>exact h
  | some u=>exact R.len h
 lenr:=by
  intro x H cs h
  cases x with
  | none=>exact h
  | some u=>exact R.lenr h
 Ow:=by
  intro x H H' cs h hi
  cases x with
  | none=>exact h
  | some u=>exact R.Ow h hi
theorem Cn.opt {α:Type} {R:FX α}:∀ {l:List α} {H:Ab} {cs:List Value},Cn (D5 R) (l.map some) H cs ↔ Cn R l H cs
 | [],H,cs=>Iff.rfl
 | x :: l,H,cs=>by
  constructor
  ·rintro ⟨H1,H2,c1,c2,h1,h2,h3,h4,h5⟩
   exact ⟨H1,H2,c1,c2,h1,h2,h3,h4,Cn.opt.1 h5⟩
  ·rintro ⟨H1,H2,c1,c2,h1,h2,h3,h4,h5⟩
   exact ⟨H1,H2,c1,c2,h1,h2,h3,h4,Cn.opt.2 h5⟩
theorem AK.opt {α:Type} {R:FX α} {T:TypeId} {h:Ab} {v:Value} {l:List α}:AK (D5 R) T h v (l.map some) ↔ AK R T h v l:=by
 constructor
 ·rintro ⟨Ho,Hi,cs,h1,h2,h3,h4⟩
  exact ⟨Ho,Hi,cs,h1,h2,by rw [List.length_map] at h3;exact h3,Cn.opt.1 h4⟩
 ·rintro ⟨Ho,Hi,cs,h1,h2,h3,h4⟩
  exact ⟨Ho,Hi,cs,h1,h2,by rw [List.length_map];exact h3,Cn.opt.2 h4⟩
theorem Cn.split {α:Type} {R:FX α}:∀ {l:List α} {H:Ab} {cs:List Value} (m:Nat),Cn R l H cs→∃ H1 H2,H=H1.or H2∧H1.Apart H2∧Cn R (l.take m) H1 (cs.take (m * R.sz))
 | l,H,cs,0,_=>⟨none_,H,(Ab.none_or H).symm,Ab.W9 H,by simp [Cn]⟩
 | [],H,cs,m+1,h=>⟨none_,H,(Ab.none_or H).symm,Ab.W9 H,by
  have h:cs=[]:=h
  subst h
  simp [Cn]⟩
 | x :: l,H,cs,m+1,h=>by
  obtain ⟨H1,H2,c1,c2,rfl,ha,rfl,h1,h2⟩:=h
  obtain ⟨H3,H4,rfl,hb,h3⟩:=Cn.split m h2
  obtain ⟨a1,a2⟩:=Ab.Apart.RA hb ha
  have hl:=(R.len h1).1
  refine ⟨H1.or H3,H4,(Ab.or_assoc ..).symm,Ab.Apart.N5 a2 hb,?_⟩
  rw [List.take_succ_cons,Nat.add_mul,Nat.one_mul,Nat.add_comm,← hl,List.take_length_add_append]
  rw [hl]
  exact ⟨H1,H3,c1,_,rfl,a1,rfl,h1,h3⟩
theorem AK.take {α:Type} {R:FX α} {T:TypeId} {h:Ab} {A':Option Addr} {c m:Nat} {l:List α} (ho:AK R T h (.slice A' l.length c) l) (hm:m≤l.length) :
  ∃ h',h'.In h∧AK R T h' (.slice A' (l.take m).length c) (l.take m):=by
 obtain ⟨Ho,Hi,cs,rfl,ha,h1,h2⟩:=ho
 obtain ⟨H1,H2,rfl,hb,h3⟩:=h2.split m
 obtain ⟨a1,a2⟩:=Ab.Apart.RA hb ha
 refine ⟨Ho.or H1,?_,Ho,H1,_,rfl,a1,?_,h3⟩
 ·intro k o e
  rw [← Ab.or_assoc]
  exact Ab.RC e
 ·rw [List.length_take,Nat.min_eq_left hm]
  exact Own.take h1 hm
section
variable {A:World} {ds:List Deferred} {n0:Nat} {env env':Env} {l l' X:List Ab} {q:Act→World→Prop} {P:Program} {Q:Exit→Act→World→Prop} {ops:Array Oper} {os rest:List Oper} {o:Oper} {α:Type} {R:FX α}
theorem Bjr {T:TypeId} {Hr:Ab} {A':Option Addr} {c k:Nat} {xs:List α} {cx:List Value} {x':α} (hH:I6 R T Hr A' c xs k cx) (h':R.own x' none_ cx)
  (hk:AK R T Hr (.slice A' (xs.set k x').length c) (xs.set k x')→K ds A n0 env (Hr :: l) q):K ds A n0 env (Hr :: l) q :=
 hk (hH.close h' (Ab.W9 _))
theorem Bkk {xs:List α} {k:Nat} {Hr Hx:Ab} {A':Option Addr} {c:Nat} {cx:List Value} {x':α} {T T1:TypeId} {p v:Value} {s y:Operand} (ho:o.op=.store T1 s y) (hg:Cy ops env o=some true) (hd:inB n0 o.dst=true)
  (hs:Ch env s=some p) (hy:Ch env y=some v) (hsz:(P.info? T1).map (·.size)=some v.cells.size) (hp:Place A' (k * R.sz) p) (hH:I6 R T Hr A' c xs k cx) (hown:R.own x' Hx v.cells.toList)
  (hk:∀ h',AK R T h' (.slice A' (xs.set k x').length c) (xs.set k x')→K ds A n0 (Bv env o.dst undef) (h' :: l) (wpList P ops Q rest)):K ds A n0 env (Hr :: Hx :: l) (wpList P ops Q (o :: rest)):=by
 obtain ⟨hl,h1⟩:=R.len hown
 have hcl:cx.length=R.sz:=by obtain ⟨Ho,H0,cs,_,_,_,_,_,h,_⟩:=hH;exact h
 refine Bkj (off:=0) ho hg hd hs hy hsz hp hH (by omega) h1 fun Hr' hH'=>?_
 rw [List.take_zero,List.nil_append,Nat.zero_add,hl,List.drop_eq_nil_of_le (by omega),List.append_nil] at hH'
 refine K.An (K5 fun ha=>hk _ (hH'.close hown ha))
theorem Ye {β γ:Type} {x:Option (Option β)} {g:β→Option γ} {r:γ} (h:(x.bind fun y=>y.bind g)=some r):∃ u,x=some (some u)∧g u=some r:=by
 cases x with
 | none=>cases h
 | some y =>
  cases y with
  | none=>cases h
  | some u=>exact ⟨u,rfl,h⟩
theorem Asr {xs xs':List α} {ix:Int} {x':α} (h:EW xs ix x'=some xs'):xs'=xs.set ix.toNat x':=(As (Kt h).2).symm
theorem Afa {u:α} {H H':Ab} {cs:List Value} (h:R.own u H cs):(D5 R).own none H' cs:=R.len h
theorem Aaz {T:TypeId} {Hr:Ab} {A':Option Addr} {c:Nat} {ix:Int} {xs xs':List α} {cx:List Value} {x':α} (hs:EW xs ix x'=some xs') (hH:I6 R T Hr A' c xs ix.toNat cx) (h':R.own x' none_ cx)
  (hk:AK R T Hr (.slice A' xs'.length c) xs'→K ds A n0 env (Hr :: l) q):K ds A n0 env (Hr :: l) q:=by
 have e:=Asr hs
 subst e
 exact Bjr hH h' hk
theorem Aa3 {xs xs':List α} {ix:Int} {Hr Hx:Ab} {A':Aq} {c:Nat} {cx:List Value} {x':α} {T T1:TypeId} {p v:Value} {s y:Operand} (ho:o.op=.store T1 s y) (hg:Cy ops env o=some true) (hd:inB n0 o.dst=true)
  (hs:Ch env s=some p) (hy:Ch env y=some v) (hsz:(P.info? T1).map (·.size)=some v.cells.size) (hp:Place A' (ix.toNat * R.sz) p) (hset:EW xs ix x'=some xs') (hH:I6 R T Hr A' c xs ix.toNat cx) (hown:R.own x' Hx v.cells.toList)
  (hk:∀ h',AK R T h' (.slice A' xs'.length c) xs'→K ds A n0 (Bv env o.dst undef) (h' :: l) (wpList P ops Q rest)):K ds A n0 env (Hr :: Hx :: l) (wpList P ops Q (o :: rest)):=by
 have e:=Asr hset
 subst e
 exact Bkk ho hg hd hs hy hsz hp hH hown hk
theorem Aa0 {xs xs':List α} {h:Ab} {A':Aq} {c:Nat} {T TS:TypeId} {x y:Operand} {k:IntKind} (H:Int) (ho:o.op=.slice TS x none (some y) none) (hg:Cy ops env o=some true) (hd:inB n0 o.dst=true) (hx:Ch env x=some (.slice A' xs.length c))
  (hy:Ch env y=some (.int k H)) (h1:P.underlying TS=some (.slice T)) (h2:(P.info? T).map (·.size)=some R.sz) (hs:DR xs 0 H=some xs') (hO:AK R T h (.slice A' xs.length c) xs)
  (hk:∀ h',AK R T h' (.slice A' xs'.length c) xs'→K ds A n0 (Bv env o.dst (.slice A' xs'.length c)) (h' :: l) (wpList P ops Q rest)):K ds A n0 env (h :: l) (wpList P ops Q (o :: rest)):=by
 obtain ⟨hb,hxs⟩:=Kt hs
 obtain ⟨hL,hLH,hH⟩:=of_decide_eq_true hb
 have hxs:xs.take H.toNat=xs':=by
  have:=As hxs
  rw [← this]
  simp
 subst hxs
 have hm:H.toNat≤xs.length:=by omega
 obtain ⟨h',hin,hT⟩:=hO.take hm
 obtain ⟨Ho,Hi,cs,rfl,ha0,hO,_⟩:=hO
 have hA:A'=none∨∃ g,A'=some ⟨g,0,none⟩:=by
  rcases hO.2.2 with ⟨h3,h4⟩ | ⟨g,cap,cur,h3,_⟩
  ·simp only [Value.slice.injEq] at h3;exact .inl h3.1
  ·simp only [Value.slice.injEq] at h3;exact .inr ⟨g,h3.1⟩
 have hcap:xs.length≤c:=by
  rcases hO.2.2 with ⟨h3,h4⟩ | ⟨g,cap,cur,h3,h4,h5,_⟩
  ·simp only [Value.slice.injEq] at h3;omega
  ·simp only [Value.slice.injEq] at h3
   obtain ⟨_,_,rfl⟩:=h3
   omega
 have hlen:(xs.take H.toNat).length=H.toNat:=by rw [List.length_take];omega
 refine Bjq hin ?_
 refine FS hg fun a w ha hw=>?_
 cases hif:P.info? T with
 | none=>rw [hif] at h2;cases h2
 | some i =>
  have h5:0≤H:=by omega
  have h6:H≤c:=by omega
  have hrun:(Instr.sliceAt TS (.slice A' xs.length c) none (some (.int k H)) none).run P w=.ok (.slice A' H.toNat c) w:=by
   simp [Instr.sliceAt,Instr.slice,Instr.sliceBounds,Instr.sliceBound,asIntOf,run_underlying h1,sizeOf,typeInfo,hif,h5,h6]
   all_goals (rcases hA with rfl | ⟨g,rfl⟩ <;> simp [Addr.add])
  unfold Oper.wp execOp
  simp only [ho,ha.eval hx,Option.map_none,Option.map_some,ha.eval hy,Sem.run_bind,hrun,Result.andThen_ok,Sem.run_pure]
  have hk:=hk h'
  rw [hlen] at hk hT
  exact hk hT _ _ (ha.Bv _ hd) hw
end
section
variable {P:Program} {Q:Exit→Act→World→Prop} {S:World→Prop} {E:List Nat}
def M7 (ops:Array Oper) (E:List Nat) (e:Array Bool→Bool):List (Nat×Nat)→Array Bool→Bool
 | [],listed=>e listed
 | (i,0) :: rest,listed=>decide (i < ops.size) && (Region.ready .any ops listed).contains i && Region.free .any ops listed i && M7 ops E e rest (listed.setIfInBounds i true)
 | (i,k+1) :: rest,listed=>decide (k=2) && E.contains i && decide (i < ops.size) && (Region.ready .any ops listed).contains i && Region.free .any ops listed i && M7 ops E e rest (listed.setIfInBounds i true)
theorem X5 (l:List Oper) (hsel:Region.noSelect l.toArray=true) (hQ:∀ c a d v w,Q (.panic c) (Act.put a d v) w→Q (.panic c) a w) (e:Array Bool→Bool) (T:Act→World→Prop) (g:Nat)
  (hT:∀ listed a w,Closed .any l.toArray listed→e listed=true→T a w→wpAnyS P .any l.toArray Q S E g listed a w) :
  ∀ (plan:List (Nat×Nat)) (listed:Array Bool) (a:Act) (w:World),Closed .any l.toArray listed→M7 l.toArray E e plan listed=true→(plan.any (·.2 == 3)=true→S w) →
   Cf P l.toArray Q S T (Eg l.toArray plan) a w→wpAnyS P .any l.toArray Q S E (plan.length+g) listed a w
 | [],listed,a,w,hcl,hB,_,h=>by
  simp only [M7] at hB
  rw [Br,Nat.zero_add]
  exact hT listed a w hcl hB h
 | (i,0) :: rest,listed,a,w,hcl,hB,hS,h=>by
  simp only [M7,Bool.and_eq_true,decide_eq_true_eq] at hB
  obtain ⟨⟨⟨hi,hr⟩,hf⟩,hB'⟩:=hB
  have ho:l.toArray[i]? = some l.toArray[i]:=by simp
  simp only [Eg,List.filterMap_cons,ho,Option.map_some,Cf] at h
  obtain ⟨v,hy,h⟩:=h
  have hr':i ∈ Region.ready .any l.toArray listed:=by simpa using hr
  rw [show (((i,0) :: rest:List (Nat×Nat)).length+g)=(rest.length+g)+1 by simp only [AI];omega]
  exact wpAnyS_first ho (Region.noSelect_spec hsel) (fun c a w=>hQ c a _ v w) (.inl fun _=>trivial) _ listed a w hcl (Region.free_spec ho hf) hr' hy (.inl fun _=>trivial)
   (X5 l hsel hQ e T g hT rest _ _ w (hcl.set hr') hB' (fun h=>hS (by simpa using h)) h)
 | (i,k+1) :: rest,listed,a,w,hcl,hB,hS,h=>by
  simp only [M7,Bool.and_eq_true,decide_eq_true_eq] at hB
  obtain ⟨⟨⟨⟨⟨hk,hE⟩,hi⟩,hr⟩,hf⟩,hB'⟩:=hB
  subst hk
  have ho:l.toArray[i]? = some l.toArray[i]:=by simp
  simp only [Eg,List.filterMap_cons,ho,Option.map_some,Cf] at h
  obtain ⟨v,hy,h⟩:=h
  have hr':i ∈ Region.ready .any l.toArray listed:=by simpa using hr
  have hSw:S w:=hS (by simp)
  rw [show (((i,2+1) :: rest:List (Nat×Nat)).length+g)=(rest.length+g)+1 by simp only [AI];omega]
  exact wpAnyS_first (T:=S) ho (Region.noSelect_spec hsel) (fun c a w=>hQ c a _ v w) (.inr ⟨by simpa using hE,fun _ h=>h⟩) _ listed a w hcl (Region.free_spec ho hf) hr' hy (.inr hSw)
   (X5 l hsel hQ e T g hT rest _ _ w (hcl.set hr') hB' (fun _=>hSw) h)
def VF (ops:Array Oper) (E:List Nat) (i j m:Nat) (listed:Array Bool):Bool :=
 (decide (Region.ready .any ops listed=[i,j]) && !M1 .any ops E i && !(Nat.beq i j)) &&
 (decide (Region.ready .any ops (listed.setIfInBounds i true)=[j]) && (decide (Region.ready .any ops (listed.setIfInBounds j true)=[i]) &&
 (NB .any ops E (ops.size - m) m ((listed.setIfInBounds i true).setIfInBounds j true))))
def VH (P:Program) (os:List Oper) (Q:Exit→Act→World→Prop) (S:World→Prop) (i j m:Nat) (a:Act) (w:World):Prop :=
 wpOp P os.toArray Q i (fun a w=>wpOp P os.toArray Q j (fun a' w'=>(S w→S w')∧wpList P os.toArray Q (os.drop m) a' w') a w) a w ∧
 wpOp P os.toArray Q j (fun a' w'=>(S w→S w')∧wpOp P os.toArray Q i (wpList P os.toArray Q (os.drop m)) a' w') a w
theorem Bv3 (l:List Oper) {i j m:Nat} (listed:Array Bool) (a:Act) (w:World) (hB:VF l.toArray E i j m listed=true) (h:VH P l Q S i j m a w):wpAnyS P .any l.toArray Q S E (l.toArray.size - m+2) listed a w:=by
 simp only [VF,Bool.and_eq_true,decide_eq_true_eq,Bool.not_eq_true'] at hB
 obtain ⟨⟨⟨h0,hn⟩,hij⟩,h1,h2,h3⟩:=hB
 have hne:i≠j:=fun e=>by rw [e,Nat.beq_refl] at hij;cases hij
 have tail:∀ a w,wpList P l.toArray Q (l.drop m) a w→wpAnyS P .any l.toArray Q S E (l.toArray.size - m) ((listed.setIfInBounds i true).setIfInBounds j true) a w:=fun a w hl=>by
  have hd:(l.drop m).length=l.toArray.size - m:=by simp
  have:=Ag1 (S:=S) (E:=E) (l.drop m) m ((listed.setIfInBounds i true).setIfInBounds j true) a w (fun j=>by simp) (by rw [hd];exact h3) hl
  rw [hd] at this
  exact this
 refine ⟨fun hc=>(by rw [h0] at hc;cases hc),fun t ht=>?_⟩
 rw [h0] at ht
 have ht:t=i∨t=j:=by simpa using ht
 rcases ht with rfl | rfl
 ·refine wpOp_mono (fun a' w' h'=>⟨fun hc=>(by rw [hn] at hc;cases hc),?_⟩) h.1
  refine ⟨fun hc=>(by rw [h1] at hc;cases hc),fun t' ht'=>?_⟩
  rw [h1] at ht'
  have ht':t'=j:=by simpa using ht'
  subst ht'
  exact wpOp_mono (fun a'' w'' h''=>⟨fun _ hS=>h''.1 hS,tail _ _ h''.2⟩) h'
 ·refine wpOp_mono (fun a' w' h'=>⟨fun _ hS=>h'.1 hS,?_⟩) h.2
  refine ⟨fun hc=>(by rw [h2] at hc;cases hc),fun t' ht'=>?_⟩
  rw [h2] at ht'
  have ht':t'=i:=by simpa using ht'
  subst ht'
  refine wpOp_mono (fun a'' w'' h''=>⟨fun hc=>(by rw [hn] at hc;cases hc),?_⟩) h'.2
  rw [Array.setIfInBounds_comm _ _ (Ne.symm hne)]
  exact tail _ _ h''
def VG (ops:Array Oper) (E:List Nat) (i j m:Nat) (pl:List (Nat×Nat)) (listed:Array Bool):Bool :=
 (decide (Region.ready .any ops listed=[i,j]) && !(Nat.beq i j)) &&
 (decide (Region.ready .any ops (listed.setIfInBounds i true)=[j]) && (decide (Region.ready .any ops (listed.setIfInBounds j true)=[i]) &&
 (pl.all (fun x=>Nat.beq x.2 1) && Ia ops E m pl ((listed.setIfInBounds i true).setIfInBounds j true))))
abbrev OW (P:Program) (os:List Oper) (Q:Exit→Act→World→Prop) (S:World→Prop) (m:Nat) (pl:List (Nat×Nat)):Act→World→Prop:=Cf P os.toArray Q S (wpList P os.toArray Q (os.drop m)) (Eg os.toArray pl)
def VI (P:Program) (os:List Oper) (Q:Exit→Act→World→Prop) (S:World→Prop) (i j m:Nat) (pl:List (Nat×Nat)) (a:Act) (w:World):Prop :=
 wpOp P os.toArray Q i (fun a' w'=>(S w→S w')∧wpOp P os.toArray Q j (fun a'' w''=>(S w'→S w'')∧OW P os Q S m pl a'' w'') a' w') a w ∧
 wpOp P os.toArray Q j (fun a' w'=>(S w→S w')∧wpOp P os.toArray Q i (fun a'' w''=>(S w'→S w'')∧OW P os Q S m pl a'' w'') a' w') a w
theorem Bv4 (l:List Oper) (hsel:Region.noSelect l.toArray=true) (hQ:∀ c a d v w,Q (.panic c) (Act.put a d v) w→Q (.panic c) a w) {i j m:Nat} {pl:List (Nat×Nat)} (listed:Array Bool) (a:Act) (w:World) (hcl:Closed .any l.toArray listed) (hB:VG l.toArray E i j m pl listed=true) (h:VI P l Q S i j m pl a w):wpAnyS P .any l.toArray Q S E (pl.length+(l.toArray.size - m)+2) listed a w:=by
 simp only [VG,Bool.and_eq_true,decide_eq_true_eq,Bool.not_eq_true'] at hB
 obtain ⟨⟨h0,hij⟩,h1,h2,hp,h3⟩:=hB
 have hne:i≠j:=fun e=>by rw [e,Nat.beq_refl] at hij;cases hij
 have hp3:¬ pl.any (·.2 == 3)=true:=fun hc=>by
  obtain ⟨x,hx,he⟩:=List.any_eq_true.1 hc
  have h1:=Nat.eq_of_beq_eq_true (List.all_eq_true.1 hp x hx)
  rw [h1] at he
  cases he
 have tail:∀ a w,OW P l Q S m pl a w→wpAnyS P .any l.toArray Q S E (pl.length+(l.toArray.size - m)) ((listed.setIfInBounds i true).setIfInBounds j true) a w:=fun a w hl =>
  Sn l m hsel hQ pl _ a w ((hcl.set (by rw [h0];simp)).set (by rw [h1];simp)) h3 (fun hc=>absurd hc hp3) hl
 refine ⟨fun hc=>(by rw [h0] at hc;cases hc),fun t ht=>?_⟩
 rw [h0] at ht
 have ht:t=i∨t=j:=by simpa using ht
 rcases ht with rfl | rfl
 ·refine wpOp_mono (fun a' w' h'=>⟨fun _ hS=>h'.1 hS,?_⟩) h.1
  refine ⟨fun hc=>(by rw [h1] at hc;cases hc),fun t' ht'=>?_⟩
  rw [h1] at ht'
  have ht':t'=j:=by simpa using ht'
  subst ht'
  exact wpOp_mono (fun a'' w'' h''=>⟨fun _ hS=>h''.1 hS,tail _ _ h''.2⟩) h'.2
 ·refine wpOp_mono (fun a' w' h'=>⟨fun _ hS=>h'.1 hS,?_⟩) h.2
  refine ⟨fun hc=>(by rw [h2] at hc;cases hc),fun t' ht'=>?_⟩
  rw [h2] at ht'
  have ht':t'=i:=by simpa using ht'
  subst ht'
  refine wpOp_mono (fun a'' w'' h''=>⟨fun _ hS=>h''.1 hS,?_⟩) h'.2
  rw [Array.setIfInBounds_comm _ _ (Ne.symm hne)]
  exact tail _ _ h''.2
theorem Bv8 {id:Nat} {a:Act} {w:World} {l:List Oper} (plan:List (Nat×Nat)) (i j m:Nat) (pl:List (Nat×Nat)) (S:World→Prop) (hm:P.follows .mixedOrders=true)
  (hB:(Region.noSelect l.toArray && Nat.beq (plan.length+2+pl.length) m && decide (m≤l.length) && M7 l.toArray (Ku plan) (VG l.toArray (Ku plan) i j m pl) plan (Array.replicate l.toArray.size false))=true)
  (hQ:∀ c a d v w,Q (.panic c) (Act.put a d v) w→Q (.panic c) a w) (hS:S w.drew)
  (h:Cf P l.toArray Q S (VI P l Q S i j m pl) (Eg l.toArray plan) a w.drew):(Code.region id l.toArray true).wp P Q a w:=by
 simp only [Bool.and_eq_true,decide_eq_true_eq] at hB
 obtain ⟨⟨⟨hsel,hpm⟩,hlen⟩,hB⟩:=hB
 have hpm:=Nat.eq_of_beq_eq_true hpm
 refine wp_region_any hm ?_
 have hcl:Closed .any l.toArray (Array.replicate l.toArray.size false):=fun j oj _ hl=>by
  rw [show (Array.replicate l.toArray.size false).getD j false=false by
   rcases Nat.lt_or_ge j l.toArray.size with h' | h' <;> (simp [Array.getD_eq_getD_getElem?,Array.getElem?_replicate];try split <;> rfl)] at hl
  cases hl
 have:=X5 (P:=P) (Q:=Q) (S:=S) (E:=Ku plan) l hsel hQ _ _ (pl.length+(l.toArray.size - m)+2) (fun listed a w hcl he h=>Bv4 l hsel hQ listed a w hcl he h) plan _ a w.drew hcl hB (fun _=>hS) h
 have:=X6 _ _ _ _ this
 rw [show plan.length+(pl.length+(l.toArray.size - m)+2)=l.toArray.size by simp only [List.size_toArray];omega] at this
 exact this
theorem Bv6 {id:Nat} {a:Act} {w:World} {l:List Oper} (plan:List (Nat×Nat)) (i j m:Nat) (S:World→Prop) (hm:P.follows .mixedOrders=true)
  (hB:(Region.noSelect l.toArray && Nat.beq (plan.length+2) m && decide (m≤l.length) && M7 l.toArray (Ku plan) (VF l.toArray (Ku plan) i j m) plan (Array.replicate l.toArray.size false))=true)
  (hQ:∀ c a d v w,Q (.panic c) (Act.put a d v) w→Q (.panic c) a w) (hS:S w.drew)
  (h:Cf P l.toArray Q S (VH P l Q S i j m) (Eg l.toArray plan) a w.drew):(Code.region id l.toArray true).wp P Q a w:=by
 simp only [Bool.and_eq_true,decide_eq_true_eq] at hB
 obtain ⟨⟨⟨hsel,hpm⟩,hlen⟩,hB⟩:=hB
 have hpm:=Nat.eq_of_beq_eq_true hpm
 refine wp_region_any hm ?_
 have hcl:Closed .any l.toArray (Array.replicate l.toArray.size false):=fun j oj _ hl=>by
  rw [show (Array.replicate l.toArray.size false).getD j false=false by
   rcases Nat.lt_or_ge j l.toArray.size with h' | h' <;> (simp [Array.getD_eq_getD_getElem?,Array.getElem?_replicate];try split <;> rfl)] at hl
  cases hl
 have:=X5 (P:=P) (Q:=Q) (S:=S) (E:=Ku plan) l hsel hQ _ _ (l.toArray.size - m+2) (fun listed a w _ he h=>Bv3 l listed a w he h) plan _ a w.drew hcl hB (fun _=>hS) h
 have:=X6 _ _ _ _ this
 rw [show plan.length+(l.toArray.size - m+2)=l.toArray.size by simp only [List.size_toArray];omega] at this
 exact this
end
section
variable {A:World} {ds:List Deferred} {n:Nat} {env:Env} {l X:List Ab} {q:Act→World→Prop} {P:Program} {Q:Exit→Act→World→Prop} {S:World→Prop} {o:Oper}
theorem Bjn {id:Nat} {os:List Oper} (plan:List (Nat×Nat)) (i j m:Nat) (S:World→Prop) (hm:P.follows .mixedOrders=true)
  (hB:(Region.noSelect os.toArray && Nat.beq (plan.length+2) m && decide (m≤os.length) && M7 os.toArray (Ku plan) (VF os.toArray (Ku plan) i j m) plan (Array.replicate os.toArray.size false))=true)
  (hQ:∀ c a d v w,Q (.panic c) (Act.put a d v) w→Q (.panic c) a w) (hS:∀ w,St A l w→S w)
  (h:K ds A n env l (Cf P os.toArray Q S (VH P os Q S i j m) (Eg os.toArray plan))):K ds A n env l ((Code.region id os.toArray true).wp P Q):=fun a w ha hw =>
 Bv6 plan i j m S hm hB hQ (hS _ hw.drew) (h a _ ha hw.drew)
theorem Arx {ops:Array Oper} {i:Nat} {next:Act→World→Prop} (hi:ops[i]? = some o) (hg:Cy ops env o=some true) (h:K ds A n env l (fun a w=>o.wp P a w next Q)):K ds A n env l (wpOp P ops Q i next):=fun a w ha hw=>by
 unfold wpOp
 rw [hi]
 simp only
 rw [if_pos (I3 ha hg)]
 exact .inl (h a w ha hw)
theorem Ra {ops:Array Oper} {i:Nat} {next:Act→World→Prop} (ob:Obj) (v:Nat→Value) (hi:ops[i]? = some o) (hSA:∀ w,S w→S (w.alloc ob)) (hg:Cy ops env o=some true) (hs:(Ek o.op && allB o.op.operands.toList env && inB n o.dst)=true) (hf:∀ b,follow P (execOp (rho env) o) [.num b]=some (.value (v b),[.nw ob b]))
  (h:∀ b,K ds A n (Bv env o.dst (v b)) (blk b ob :: l) next):K ds A n env l (fun a w=>wpOp P ops Q i (fun a' w'=>(S w→S w')∧next a' w') a w):=fun a w ha hw=>by
 simp only [Bool.and_eq_true] at hs
 unfold wpOp
 rw [hi]
 simp only
 rw [if_pos (I3 ha hg)]
 refine .inl ?_
 unfold Oper.wp
 rw [execOp_congr a.eval (rho env) o hs.1.1 (ha.rho hs.1.2),JL (w':=w.alloc ob) (hf w.heap.size) ⟨rfl,rfl⟩]
 exact ⟨fun h=>hSA _ h,h _ _ _ (ha.Bv _ hs.2) (hw.new ob)⟩
theorem Bjk {os:List Oper} {i j m:Nat} (h1:K ds A n env l (fun a w=>wpOp P os.toArray Q i (fun a w=>wpOp P os.toArray Q j (fun a' w'=>(S w→S w')∧wpList P os.toArray Q (os.drop m) a' w') a w) a w))
  (h2:K ds A n env l (fun a w=>wpOp P os.toArray Q j (fun a' w'=>(S w→S w')∧wpOp P os.toArray Q i (wpList P os.toArray Q (os.drop m)) a' w') a w)):K ds A n env l (VH P os Q S i j m):=fun a w ha hw=>⟨h1 a w ha hw,h2 a w ha hw⟩
theorem Bjo {id:Nat} {os:List Oper} (plan:List (Nat×Nat)) (i j m:Nat) (pl:List (Nat×Nat)) (S:World→Prop) (hm:P.follows .mixedOrders=true)
  (hB:(Region.noSelect os.toArray && Nat.beq (plan.length+2+pl.length) m && decide (m≤os.length) && M7 os.toArray (Ku plan) (VG os.toArray (Ku plan) i j m pl) plan (Array.replicate os.toArray.size false))=true)
  (hQ:∀ c a d v w,Q (.panic c) (Act.put a d v) w→Q (.panic c) a w) (hS:∀ w,St A l w→S w)
  (h:K ds A n env l (Cf P os.toArray Q S (VI P os Q S i j m pl) (Eg os.toArray plan))):K ds A n env l ((Code.region id os.toArray true).wp P Q):=fun a w ha hw =>
 Bv8 plan i j m pl S hm hB hQ (hS _ hw.drew) (h a _ ha hw.drew)
theorem Bjl {os:List Oper} {i j m:Nat} {pl:List (Nat×Nat)} (h1:K ds A n env l (fun a w=>wpOp P os.toArray Q i (fun a' w'=>(S w→S w')∧wpOp P os.toArray Q j (fun a'' w''=>(S w'→S w'')∧OW P os Q S m pl a'' w'') a' w') a w))
  (h2:K ds A n env l (fun a w=>wpOp P os.toArray Q j (fun a' w'=>(S w→S w')∧wpOp P os.toArray Q i (fun a'' w''=>(S w'→S w'')∧OW P os Q S m pl a'' w'') a' w') a w)):K ds A n env l (VI P os Q S i j m pl):=fun a w ha hw=>⟨h1 a w ha hw,h2 a w ha hw⟩
theorem TG {tail:Act→World→Prop} {pl:List (Oper×Nat)} {ops:Array Oper} {v:Value} (vs:List Orc) (es:List Ev) (hg:Cy ops env o=some true) (hs:(Ek o.op && allB o.op.operands.toList env && inB n o.dst)=true) (hf:follow P (execOp (rho env) o) vs=some (.value v,es)) (hS:∀ w,S w→∃ s,Fj s w∧Kp s es)
  (h:K ds A n (Bv env o.dst v) l (Cf P ops Q S tail pl)):K ds A n env l (Cf P ops Q S tail ((o,3) :: pl)):=Ar7 vs es hg hs hf (fun w hw=>by obtain ⟨s,h1,h2⟩:=hS w hw;exact h1.evs h2) h
theorem Fj.alloc {ob:Obj}:∀ {l:List Ab} {w:World},Fj l w→Fj l (w.alloc ob)
 | [],_,_=>trivial
 | f :: l,w,h=>⟨fun k o e=>by
  have:=h.1 k o e
  simp only [World.alloc]
  rw [Array.getElem?_push]
  split
  ·rename_i hk
   rw [hk,Array.getElem?_eq_none (Nat.le_refl _)] at this
   cases this
  ·exact this,Fj.alloc h.2⟩
end
end
end Go.Proofs.YtkdjiehclahliaaGreatDoor
