/- Texts of mine for genBlocks_card, part 8. -/
import Derived.Test.YtkdjiehclahliaaGreatDoorGkG
set_option linter.unusedSimpArgs false
set_option linter.unusedVariables false
set_option linter.unusedSectionVars false
namespace Go.Proofs.YtkdjiehclahliaaGreatDoor
set_option maxRecDepth 100000
section
open Go Go.RowKit
theorem A6r:Gy Tryz.prog 22 41 5 80 Tryz.t41 (.agg #[sv noS,iv 0,iv 0,nS,nS]):=⟨by kernel_rfl,by kernel_rfl,by kernel_rfl,by kernel_rfl,by kernel_rfl,by kernel_rfl,by decide⟩
def Gb.l0:Nat→(J28:TyU→Option (TyU×Ae×Int×Int))→(Ju:List (Option (ByteArray×Int×Int×Int×Bg)))→(l89:List (Option (ByteArray×Int×Int×Int×Bg)))→(x94:Int)→(Rn:TyU)→Option (TyU×Ae×Int×Int)
 | 0,_,_,_,_,_=>none
 | TU+1,J28,Ju,l89,x94,Rn=>cond (decide (x94 < ((Ju.length:Nat):Int))) ((Bh l89 x94).bind fun x102=>x102.bind fun x104=>(EW l89 x94 none).bind fun Nv=>(apd 80 Rn [(some (x104.1,x104.2.2.1,x104.2.2.2.1,x104.2.2.2.2,[]))]).bind fun Wu=>Gb.l0 TU J28 Ju Nv (IntKind.i64.wrap (x94+1)) Wu) (J28 Rn)
def Gb.f (k:Nat) (a0:ByteArray):Option (TyU×Ae×Int×Int):=(ON.f k a0).bind fun r3=>cond (r3.2.2.1 != 0) (some ([],[],r3.2.2.1,r3.2.2.2)) ((LY.f k a0).bind fun BS=>cond (BS.2.2.2.2.2.1 != 0) (some ([],[],BS.2.2.2.2.2.1,BS.2.2.2.2.2.2)) (BG (fun (l23:TyU)=>(Bh l23 0).bind fun x30=>x30.bind fun x32=>(EW l23 0 none).bind fun l51=>(FM.f k x32.2.2.2.1 x32.2.2.2.2 a0 r3.2.1 ([]) ([]) 1 l51 BS.1 BS.2.1 BS.2.2.1 BS.2.2.2.1 BS.2.2.2.2.1).bind fun Ib=>(Bh Ib.2.2.2.2 0).bind fun x71=>(EW Ib.2.2.2.2 0 (some (x32.1,x32.2.1,x32.2.2.1,x32.2.2.2.1,Ib.1))).bind fun K_=>some (K_,r3.2.1,0,0)) (fun J28=>(some (List.map some r3.1)).bind fun Ju=>Gb.l0 k J28 Ju Ju 0 ([]))))
theorem Gb.ok {k:Nat} {a0:ByteArray} {G:Ab} {r:TyU×Ae×Int×Int} (h:Gb.f k a0=some r) (hG:EE G): Ct Tryz.prog 7 #[sv a0] [] [G] (fun e l1=>∃ (H0_:Ab) (A0_:Aq) (c0_:Nat) (H1_:Ab) (D1:Aq) (D3:Nat),AK (D5 Dr) 41 H0_ (Aa A0_ r.1 c0_) r.1∧Ah encS 9 1 H1_ (Aa D1 r.2.1 D3) r.2.1∧e=.returned (.tuple #[.agg #[Aa A0_ r.1 c0_,Aa D1 r.2.1 D3],.agg #[iv r.2.2.1,iv r.2.2.2]])∧l1=[H0_,H1_]):=by
 refine C3 (args:=[sv a0]) Tryz.func7 rfl (By rfl) ?_
 intro A X hh_
 obtain ⟨BU,_⟩:=hh_
 unfold Gb.f at h
 refine ksr (knp #[nS,nS] 25 fun b1=>(knp #[iv 0,iv 0] 28 fun b2=>(Ba (kx 1 (bnd h fun r3 hr3 h=>(Bz (ON.ok hr3 hG) rfl ⟨(t2 BU),trivial⟩ ?_))))))
 rintro _ _ ⟨h4,A5,k6,h8,A9,k10,o7,HU,rfl,rfl⟩
 refine Bi (kx 3 (knp #[nS,nS] 33 fun b12=>(knp #[iv 0,iv 0] 28 fun b13=>(K.An (AQ 0 2 #[Aa A5 r3.1 k6,Aa A9 r3.2.1 k10] (K.An (AQ 0 2 #[iv r3.2.2.1,iv r3.2.2.2] (Ad (B8 (ksr ?_))))))))))
 refine kx 1 (kld 0 0 rfl (kx 1 (Ad ?_)))
 refine AU h (fun h=>?_) fun h=>?_
 ·refine B8 (kpr [(0,0),(1,3),(2,1)] [0] (Ar 1 (GR 0 0 2 rfl (kpt (K.mv5 (ost 0 2 #[nS,nS] (Dm [1] rfl (Ca (K.mv5 (AQ 0 2 #[iv r3.2.2.1,iv r3.2.2.2] ?_))))))))))
  refine K.Al (K.drop (K.Al (K.drop (K.Al (K.drop (K.Al (K.drop (Ad (C9 (DH ?_))))))))))
  obtain rfl:=As h
  exact P2 (v:=.tuple #[.agg #[nS,nS],.agg #[iv r3.2.2.1,iv r3.2.2.2]]) [.val (nS),.val (nS),.val (iv r3.2.2.1),.val (iv r3.2.2.2)] [.ld ⟨b1,0,none⟩ (nS),.ld ⟨b1,1,none⟩ (nS),.ld ⟨b2,0,none⟩ (iv r3.2.2.1),.ld ⟨b2,1,none⟩ (iv r3.2.2.2)] [none_,none_] (by kernel_rfl) (by kernel_rfl) ⟨⟨1,_,_,_,rfl,rfl,rfl⟩,⟨1,_,_,_,rfl,rfl,rfl⟩,⟨0,_,_,_,rfl,rfl,rfl⟩,⟨0,_,_,_,rfl,rfl,rfl⟩,trivial⟩ (Dl (Dl (K.Al (K.drop (K.Al (K.drop (BH ⟨none_,none,0,none_,none,0,(AK.nil (D5 Dr) 41 none_),(Ah.nil encS 9 1 none_),rfl,rfl⟩)))))))
 ·refine BV (AM (ksr (kx 1 (bnd h fun BS LG h=>(Bz (LY.ok LG hG) rfl ⟨(t6 BU),trivial⟩ ?_)))))
  rintro _ _ ⟨h16,Jl,k18,o19,rfl,rfl⟩
  refine Fy (kx 3 (knp #[iv 0,sv noS,iv 0,iv 0,nS] 54 fun b20=>(AQ 0 5 #[iv BS.1,sv BS.2.1,iv BS.2.2.1,iv BS.2.2.2.1,Aa Jl BS.2.2.2.2.1 k18] (K.Al (AQ 0 2 #[iv BS.2.2.2.2.2.1,iv BS.2.2.2.2.2.2] (Ad (B8 (ksr (kx 1 (kld 0 0 rfl ?_))))))))))
  refine kx 1 (Ad ?_)
  refine AU h (fun h=>?_) fun h=>?_
  ·refine B8 (kpr [(0,0),(1,3),(2,1)] [0] (Ar 1 (GR 0 0 2 rfl (kpt (K.mv7 (ost 0 2 #[nS,nS] (Dm [1] rfl (Ca (K.mv7 (AQ 0 2 #[iv BS.2.2.2.2.2.1,iv BS.2.2.2.2.2.2] ?_))))))))))
   refine K.Al (K.drop (K.Al (K.drop (K.Al (K.drop (K.Al (K.drop (K.Al (K.drop (K.Al ?_))))))))))
   refine K.drop (Ad (C9 (DH ?_)))
   obtain rfl:=As h
   exact P2 (v:=.tuple #[.agg #[nS,nS],.agg #[iv BS.2.2.2.2.2.1,iv BS.2.2.2.2.2.2]]) [.val (nS),.val (nS),.val (iv BS.2.2.2.2.2.1),.val (iv BS.2.2.2.2.2.2)] [.ld ⟨b1,0,none⟩ (nS),.ld ⟨b1,1,none⟩ (nS),.ld ⟨b2,0,none⟩ (iv BS.2.2.2.2.2.1),.ld ⟨b2,1,none⟩ (iv BS.2.2.2.2.2.2)] [none_,none_] (by kernel_rfl) (by kernel_rfl) ⟨⟨1,_,_,_,rfl,rfl,rfl⟩,⟨1,_,_,_,rfl,rfl,rfl⟩,⟨0,_,_,_,rfl,rfl,rfl⟩,⟨0,_,_,_,rfl,rfl,rfl⟩,trivial⟩ (Dl (Dl (K.Al (K.drop (K.Al (K.drop (BH ⟨none_,none,0,none_,none,0,(AK.nil (D5 Dr) 41 none_),(Ah.nil encS 9 1 none_),rfl,rfl⟩)))))))
  ·refine BV (AM (ksr (kx 1 (kld 3 1 rfl (K.drop (kx 1 (knp #[nS,nS] 25 fun b22=>(AQ 0 2 #[nS,Aa A9 r3.2.1 k10] (Ad ?_)))))))))
   obtain ⟨J28,YW,h⟩:=De h
   refine Df (τ:=TyU×Ab×Aq×Nat) (fun t=>[(0,sv a0),(2,pt b1),(3,pt b2),(6,pt b20),(7,pt b22)]) (fun t=>bk b22 #[Aa t.2.2.1 t.1 t.2.2.2,Aa A9 r3.2.1 k10] 25 :: bk b20 #[iv BS.1,sv BS.2.1,iv BS.2.2.1,iv BS.2.2.2.1,Aa Jl BS.2.2.2.2.1 k18] 54 :: h16 :: h8 :: bk b2 #[iv 0,iv 0] 28 :: bk b1 #[nS,nS] 25 :: t.2.1 :: X) (fun t=>J28 t.1=some r∧AK (D5 Dr) 41 t.2.1 (Aa t.2.2.1 t.1 t.2.2.2) t.1) ?_ ?_
   ·rintro ⟨l23,h24,A25,k26⟩ ⟨h,K9⟩
    subst YW
    refine ksr (knp #[iv 0] 3 fun b29=>(AQ 0 1 #[iv 1] (Ad ?_)))
    obtain ⟨x32,i31,h⟩:=Ye h
    refine K.mv7 (Q_ (R:=(D5 Dr)) K9 (LQ i31).2.2 fun h33 h34 c35 _ _ Jj e37=>?_)
    obtain ⟨JC,k39,Qq,k42,h45,h46,rfl,rfl,p44,M2,R3⟩:=Av7 Jj
    refine Og p44 (B8 (kpr [(0,0),(1,3),(2,0),(3,3),(4,0),(5,0),(6,3),(7,0)] [2,4] (Ar 1 (AP 1 0 rfl (GT (T:=41) (kd:=.i64) (R:=(D5 Dr)) rfl i31 (AK.rd K9) fun p47 _ _ _ y48=>?_)))))
    have e49:Elem h34 p47 [sv x32.1,iv x32.2.1,iv x32.2.2.1,Aa JC x32.2.2.2.1 k39,Aa Qq x32.2.2.2.2 k42]:=I6.elem e37 y48
    refine IE rfl e49 (fun w h_=>h_.mem _ (.head _)) (Ar 2 (AP 1 1 rfl (Ar 1 (Ca (kx 1 (knp #[sv x32.1,iv x32.2.1,iv x32.2.2.1,Aa JC x32.2.2.2.1 k39,Aa Qq x32.2.2.2.2 k42,sv a0,Aa A9 r3.2.1 k10,nS,pt b29,pt b22,nS,nS] 66 fun b50=>(kx 1 (knl (bnd h fun l51 Aop h=>(K.mv3 ?_))))))))))
    refine Aaz Aop e37 (Afa (U0 M2 R3 p44)) fun R5=>?_
    have g53:=IF Aop
    refine K.weak (env':=[(2,pt b1),(3,pt b2),(6,pt b20),(7,pt b22),(11,pt b50)]) ?_ ⟨gr,gr,gr,gr,gr,trivial⟩
    refine K.eq (l':=h34 :: bk b50 #[sv x32.1,iv x32.2.1,iv x32.2.2.1,Aa JC x32.2.2.2.1 k39,Aa Qq x32.2.2.2.2 k42,sv a0,Aa A9 r3.2.1 k10,nS,pt b29,pt b22,nS,nS] 66 :: h45 :: h46 :: bk b29 #[iv 1] 3 :: bk b22 #[Aa A25 l51 k26,Aa A9 r3.2.1 k10] 25 :: bk b20 #[iv BS.1,sv BS.2.1,iv BS.2.2.1,iv BS.2.2.2.1,Aa Jl BS.2.2.2.2.1 k18] 54 :: h16 :: h8 :: bk b2 #[iv 0,iv 0] 28 :: bk b1 #[nS,nS] 25 :: X) rfl (by first | rfl | (unfold Aa;rw [g53];first | done | rfl)) (AM (ksr (kx 1 (CV 6 0 5 rfl (K.mv6 (K.drop (Dl (Dl (K.Al (K.mv7 ?_))))))))))
    refine K.mv7 (K.mv3 (K.Bx (K.mv7 (K.mv6 (bnd h fun Ib Tj h=>(Bz (FM.ok Tj (Ah.rd M2) R3 (Ah.rd HU) (Ah.nil encS 9 1 none_) (AK.nil E5 81 none_) R5 (AK.rd o19) hG) rfl ⟨(.head _),(.tail _ (.tail _ (.head _))),(.tail _ (.head _)),(t5 BU),trivial⟩ ?_))))))
    rintro _ _ ⟨h55,U_,Wb,h59,S2,T2,h63,A64,k65,N_,Hh,k69,o58,Ub,o66,KA,rfl,rfl⟩
    refine E4 (K.CM (K.drop (Ad (bnd h fun x71 i72 h=>(K.mv6 (Q_ (R:=(D5 Dr)) KA (LQ i72).2.2 fun h73 h74 c75 _ _ R7 e77=>(K.drop (B8 (kpr [(0,0),(1,3),(2,0),(3,0),(4,0),(5,3)] [1,6] (Ar 1 ?_))))))))))
    refine AP 1 0 rfl (Ar 3 (GR 0 0 5 rfl (Ca (DI (T:=41) (kd:=.i64) (R:=(D5 Dr)) rfl i72 (AK.rd KA) fun p78 _ _ _ y79=>(K.An (K.drop (K.Al (K.drop (K.Al (K.drop ?_))))))))))
    refine K.Al (K.drop (K.An (K.mv3 (K5 fun p81=>(K.An (bnd h fun K_ VT h=>(Aa3 (R:=(D5 Dr)) (v:=.agg #[sv x32.1,iv x32.2.1,iv x32.2.2.1,Aa JC x32.2.2.2.1 k39,Aa U_ Ib.1 Wb]) (x':=(some (x32.1,x32.2.1,x32.2.2.1,x32.2.2.2.1,Ib.1))) rfl (by kernel_rfl) (by kernel_rfl) (by kernel_rfl) (by kernel_rfl) (by kernel_rfl) y79 VT e77 (U0 (x:=(x32.1,x32.2.1,x32.2.2.1,x32.2.2.2.1,Ib.1)) M2 o58 p81) fun OZ Ud=>?_)))))))
    have g85:=IF VT
    refine K.weak (env':=[(2,pt b1),(3,pt b2),(7,pt b22),(75,.agg #[sv x32.1,iv x32.2.1,iv x32.2.2.1,Aa JC x32.2.2.2.1 k39,Aa U_ Ib.1 Wb])]) ?_ ⟨gr,gr,gr,(by first | rfl | (unfold Aa;rw [g85];rfl)),trivial⟩
    refine K.eq (l':=OZ :: bk b22 #[Aa Hh K_ k69,Aa A9 r3.2.1 k10] 25 :: h8 :: bk b2 #[iv 0,iv 0] 28 :: bk b1 #[nS,nS] 25 :: X) rfl (by first | rfl | (unfold Aa;rw [g85];first | done | rfl)) (Ba (CV 1 0 2 rfl (K.An (K.drop (kx 1 (K.mv3 (AQ 0 2 #[Aa Hh K_ k69,Aa A9 r3.2.1 k10] (K.mv3 (AQ 0 2 #[iv 0,iv 0] (Ad ?_))))))))))
    refine C9 ?_
    obtain rfl:=As h
    exact P2 (v:=.tuple #[.agg #[Aa Hh K_ k69,Aa A9 r3.2.1 k10],.agg #[iv 0,iv 0]]) [.val (Aa Hh K_ k69),.val (Aa A9 r3.2.1 k10),.val (iv 0),.val (iv 0)] [.ld ⟨b1,0,none⟩ (Aa Hh K_ k69),.ld ⟨b1,1,none⟩ (Aa A9 r3.2.1 k10),.ld ⟨b2,0,none⟩ (iv 0),.ld ⟨b2,1,none⟩ (iv 0)] [OZ,h8] (by kernel_rfl) (by kernel_rfl) ⟨⟨1,_,_,_,rfl,rfl,rfl⟩,⟨1,_,_,_,rfl,rfl,rfl⟩,⟨0,_,_,_,rfl,rfl,rfl⟩,⟨0,_,_,_,rfl,rfl,rfl⟩,trivial⟩ (K.drop (K.drop (BH ⟨OZ,Hh,k69,h8,A9,k10,Ud,HU,rfl,rfl⟩)))
   ·skip
    refine bnd h fun Ju Aos h=>?_
    have g88:Ju.length=r3.1.length:=by rw [← As Aos,List.length_map]
    have o87:AK (D5 FU) 43 h4 (Aa A5 Ju k6) Ju:=by unfold Aa;rw [g88,← As Aos];exact AK.opt.2 o7
    refine K.weak (env':=[(0,sv a0),(2,pt b1),(3,pt b2),(4,pt b12),(6,pt b20),(7,pt b22)]) ?_ ⟨gr,gr,gr,gr,gr,gr,trivial⟩
    refine K.eq (l':=bk b22 #[nS,Aa A9 r3.2.1 k10] 25 :: bk b20 #[iv BS.1,sv BS.2.1,iv BS.2.2.1,iv BS.2.2.2.1,Aa Jl BS.2.2.2.2.1 k18] 54 :: h16 :: bk b12 #[Aa A5 Ju k6,Aa A9 r3.2.1 k10] 33 :: h4 :: h8 :: bk b2 #[iv 0,iv 0] 28 :: bk b1 #[nS,nS] 25 :: X) rfl (by first | rfl | (unfold Aa;rw [g88];first | done | rfl)) (ksr (kx 1 (kld 3 0 rfl (K.mv3 (K.drop (kx 2 (Ad (C1 (Dl (K.Bx ?_))))))))))
    refine K.mv7 (K.mv7 (K.mv7 (K.mv7 (K.mv7 (K.mv7 (Fx (τ:=(List (Option (ByteArray×Int×Int×Int×Bg)))×Int×TyU×Ab×Aq×Nat×Ab×Aq×Nat) (fun t=>[(0,sv a0),(2,pt b1),(3,pt b2),(6,pt b20),(7,pt b22),(36,Aa t.2.2.2.2.1 t.1 t.2.2.2.2.2.1),(37,iv ((Ju.length:Nat):Int)),(38,iv t.2.1)]) (fun t=>bk b22 #[Aa t.2.2.2.2.2.2.2.1 t.2.2.1 t.2.2.2.2.2.2.2.2,Aa A9 r3.2.1 k10] 25 :: bk b20 #[iv BS.1,sv BS.2.1,iv BS.2.2.1,iv BS.2.2.2.1,Aa Jl BS.2.2.2.2.1 k18] 54 :: h16 :: h8 :: bk b2 #[iv 0,iv 0] 28 :: bk b1 #[nS,nS] 25 :: t.2.2.2.1 :: t.2.2.2.2.2.2.1 :: X) (fun m t=>Gb.l0 m J28 Ju t.1 t.2.1 t.2.2.1=some r∧AK (D5 FU) 43 t.2.2.2.1 (Aa t.2.2.2.2.1 t.1 t.2.2.2.2.2.1) t.1∧AK (D5 Dr) 41 t.2.2.2.2.2.2.1 (Aa t.2.2.2.2.2.2.2.1 t.2.2.1 t.2.2.2.2.2.2.2.2) t.2.2.1) k (Ju,0,[],h4,A5,k6,none_,none,0) ⟨h,o87,(AK.nil (D5 Dr) 41 none_)⟩ sb rfl ?_))))))
    clear h
    rintro TU ⟨l89,x94,Rn,h90,NH,Of,h96,KL,KW⟩ ⟨h,Oo,Lc⟩
    cases TU with
    | zero=>simp [Gb.l0] at h
    | succ TU =>
     simp only [Gb.l0] at h
     refine ksr (kx 1 (Ad (B8 ?_)))
     refine AU h (fun h=>?_) fun h=>?_
     ·refine BV (AM (B8 (C1 ?_)))
      obtain ⟨x104,Ao5,h⟩:=Ye h
      refine K.mv6 (Q_ (R:=(D5 FU)) Oo (LQ Ao5).2.2 fun A8x VK c107 _ _ Bmv e109=>?_)
      obtain ⟨Qn,QT,rfl,WD⟩:=Bmv
      refine ksr (DI (T:=43) (kd:=.i64) (R:=(D5 FU)) rfl Ao5 (AK.rd Oo) fun Adm _ _ _ y114=>?_)
      have e115:Elem VK Adm [sv x104.1,iv x104.2.1,iv x104.2.2.1,iv x104.2.2.2.1,Aa Qn x104.2.2.2.2 QT]:=I6.elem e109 y114
      refine Fq rfl e115 (.tail _ (.head _)) (knp #[sv noS,iv 0,iv 0,iv 0,nS] 43 fun Ajj=>(AQ 0 5 #[sv x104.1,iv x104.2.1,iv x104.2.2.1,iv x104.2.2.2.1,Aa Qn x104.2.2.2.2 QT] (knl (bnd h fun Nv VP h=>(K.Al (Aaz VP e109 (Afa (Xm (x:=x104) WD)) fun Acg=>?_))))))
      have Ami:=IF VP
      refine K.weak (env':=[(0,sv a0),(2,pt b1),(3,pt b2),(6,pt b20),(7,pt b22),(36,Aa NH Nv Of),(37,iv ((Ju.length:Nat):Int)),(38,iv x94),(9,pt Ajj)]) ?_ ⟨gr,gr,gr,gr,gr,(by first | rfl | (unfold Aa;rw [Ami];rfl)),gr,gr,gr,trivial⟩
      refine K.eq (l':=VK :: bk Ajj #[sv x104.1,iv x104.2.1,iv x104.2.2.1,iv x104.2.2.2.1,Aa Qn x104.2.2.2.2 QT] 43 :: A8x :: bk b22 #[Aa KL Rn KW,Aa A9 r3.2.1 k10] 25 :: bk b20 #[iv BS.1,sv BS.2.1,iv BS.2.2.1,iv BS.2.2.2.1,Aa Jl BS.2.2.2.2.1 k18] 54 :: h16 :: h8 :: bk b2 #[iv 0,iv 0] 28 :: bk b1 #[nS,nS] 25 :: h96 :: X) rfl (by first | rfl | (unfold Aa;rw [Ami];first | done | rfl)) (AM (Bu (kx 1 (kld 3 0 rfl (kx 1 (kld 1 0 rfl (kx 1 (kld 1 2 rfl (kx 1 (kld 1 3 rfl ?_))))))))))
      refine kx 1 (kld 1 4 rfl (K.An (K.drop (kx 1 (Dh #[sv x104.1,iv x104.2.2.1,iv x104.2.2.2.1,Aa Qn x104.2.2.2.2 QT,nS] 41 1 fun Ajk=>(Dl (K.mv3 (K5 fun Bpu=>(K.An (DP (T:=41) (n:=1) (xs:=[(some (x104.1,x104.2.2.1,x104.2.2.2.1,x104.2.2.2.2,[]))]) (Cn.one (R:=(D5 Dr)) (x:=(some (x104.1,x104.2.2.1,x104.2.2.2.1,x104.2.2.2.2,[]))) (U0 (x:=(x104.1,x104.2.2.1,x104.2.2.2.1,x104.2.2.2.2,[])) WD (Ah.nil e48 48 4 none_) Bpu)) rfl rfl (By rfl) fun h122 PA=>?_))))))))))
      refine K.CM (bnd h fun Wu Bbu h=>(FQ rfl A6r rfl Bbu Lc PA fun YH UW VY Ack=>(kx 1 (K.Al (AQ 0 1 #[Aa UW Wu VY,Aa A9 r3.2.1 k10] (knl (B7 (AM (Bu (kx 2 ?_))))))))))
      exact Ad (K.An (K.Al (K.mv7 (K.mv7 (K.mv7 (K.mv7 (K.mv7 (K.mv7 (E3 TU (Nv,IntKind.i64.wrap (x94+1),Wu,VK,NH,Of,YH,UW,VY) (Nat.lt_succ_self _) ⟨h,Acg,Ack⟩ sb rfl)))))))))
     ·exact Fv (Dg (Dg (Fw (AM (K.mv6 (K.drop (B4 (Rn,h96,KL,KW) ⟨h,Lc⟩ sb rfl)))))))
def SA {α:Type}:List (Option α)→Option (List α)
 | []=>some []
 | none :: _=>none
 | some x :: l=>(SA l).bind fun r=>some (x :: r)
theorem Ai9 {α:Type}:∀ {l:List (Option α)} {r:List α},SA l=some r→l=r.map some
 | [],r,h=>by cases h;rfl
 | none :: _,r,h=>by cases h
 | some x :: l,r,h=>by
  obtain ⟨r',h1,h2⟩:=Vw h
  cases h2
  rw [List.map_cons,Ai9 h1]
theorem Ai7 {α:Type}:∀ (l:List α),SA (l.map some)=some l
 | []=>rfl
 | x :: l=>by rw [List.map_cons,SA,Ai7 l];rfl
abbrev Dp:=ByteArray×Int×Int×List (Int×Int×ByteArray)×List (Int×Int×Int×Int)
def Gb.fS (k:Nat) (a0:ByteArray):Option (List Dp×List ByteArray×Int×Int):=(Gb.f k a0).bind fun r=>(SA r.1).bind fun l=>some (l,r.2)
theorem Gb.okS {k:Nat} {a0:ByteArray} {G:Ab} {r:List Dp×Ae×Int×Int} (h:Gb.fS k a0=some r) (hG:EE G):Ct Tryz.prog 7 #[.string a0] [] [G] (fun e l1=>∃ (H0_:Ab) (A0_:Aq) (c0_:Nat) (H1_:Ab) (D1:Aq) (D3:Nat),AK Dr 41 H0_ (Aa A0_ r.1 c0_) r.1∧Ah encS 9 1 H1_ (Aa D1 r.2.1 D3) r.2.1∧e=.returned (.tuple #[.agg #[Aa A0_ r.1 c0_,Aa D1 r.2.1 D3],.agg #[.int .i64 r.2.2.1,.int .i64 r.2.2.2]])∧l1=[H0_,H1_]):=by
 obtain ⟨r0,h1,h⟩:=Vw h
 obtain ⟨l,h2,h⟩:=Vw h
 cases h
 have e:=Ai9 h2
 intro A w X hh hw
 refine (Gb.ok h1 hG A w X hh hw).mono fun e' w' ⟨l1,⟨H0,A0,c0,H1,A1,c1,o1,o2,e1,e2⟩,h3⟩=>⟨l1,⟨H0,A0,c0,H1,A1,c1,?_,o2,?_,e2⟩,h3⟩
 ·unfold Aa at o1;rw [e,List.length_map] at o1
  exact AK.opt.1 o1
 ·unfold Aa at e1;rw [e,List.length_map] at e1
  exact e1
end
section
open Go Go.RowKit Lx
abbrev Ins:=Int×Int×Int×Int
abbrev Cd:=List Ins
def i0 (op:Int):Ins:=(op,0,0,0)
def i1 (op a:Int):Ins:=(op,a,0,0)
def i2 (op a b:Int):Ins:=(op,a,b,0)
def i3 (op a b c:Int):Ins:=(op,a,b,c)
def Im (X:ByteArray) (L:List ByteArray):Int:=KH X.toList (L.map (·.toList)) 0
def ND (v:V3):List V3→Int→Int
 | [],_=>-1
 | x :: l,i=>if ((v.1 == x.1) && ((v.2.1 == x.2.1) && ((v.2.2.toList == x.2.2.toList) && true)))=true then i else ND v l (i+1)
def QA (cs:List V3) (v:V3):Int:=ND v cs 0+1
def glN (gl:List ByteArray) (t:ByteArray):Int:=Im t gl+1
def Mx (lo:List ByteArray) (t:ByteArray):Int:=((My lo.reverse t:Nat):Int)
def Xy:List ByteArray:=[(⟨#[]⟩:ByteArray),(⟨#[110,111,116]⟩:ByteArray),(⟨#[35]⟩:ByteArray),(⟨#[45]⟩:ByteArray)]
def opL:Ae:=[(⟨#[]⟩:ByteArray),(⟨#[43]⟩:ByteArray),(⟨#[45]⟩:ByteArray),(⟨#[42]⟩:ByteArray),(⟨#[47,47]⟩:ByteArray),(⟨#[37]⟩:ByteArray),(⟨#[46,46]⟩:ByteArray),(⟨#[61,61]⟩:ByteArray),(⟨#[126,61]⟩:ByteArray),(⟨#[60]⟩:ByteArray),(⟨#[60,61]⟩:ByteArray),(⟨#[62]⟩:ByteArray),(⟨#[62,61]⟩:ByteArray)]
def CP (f:Nat→Tree→Cd):Nat→List Tree→Cd
 | _,[]=>[]
 | p,x :: l=>f p x++CP f (p+(f p x).length) l
def Jy (f:Int→Nat→Tree→Cd):Nat→List Tree→Cd
 | _,[]=>[]
 | p,[x]=>f (-1) p x
 | p,x :: y :: l=>f 1 p x++Jy f (p+(f 1 p x).length) (y :: l)
def SI (f:Int→Nat→Tree→Cd) (res:Int) (p:Nat) (l:List Tree):Cd :=
 f 1 p (BN l 0)++i0 22 :: (Jy f (p+(f 1 p (BN l 0)).length+1) (l.drop 1)++[i1 24 res])
def Hy (l:List Tree):Bool:=match l.getLast? with | some x=>x.kind == 13 && (BN x.kids 0).kind == 8 | none=>false
def LK (rest:Bool):List Tree→Nat
 | []=>0
 | x :: l=>(if x.kind=14 then 0 else if (rest && l.isEmpty)=true then 0 else 1)+LK rest l
def L9:List Tree→Nat
 | []=>0
 | x :: l=>(if x.kind=14 then 1 else 0)+L9 l
def Ic (w key:Int):Cd:=if w > 0 then [i2 28 w key] else []
def I0 (f:Int→Nat→Tree→Cd) (rest:Bool):Nat→Int→Int→List Tree→Cd
 | _,w,key,[]=>Ic w key
 | p,w,key,x :: l =>
  if x.kind=14 then CP (f 1) p x.kids++i1 27 w :: I0 f rest (p+(CP (f 1) p x.kids).length+1) w key l
  else if (rest && l.isEmpty)=true then
   Ic w key++i0 22 :: (f (-1) (p+(Ic w key).length+1) (BN x.kids 0)++[i1 29 (if w > 0 then key+w else key)])
  else if w+1=50 then f 1 p (BN x.kids 0)++i2 28 50 key :: I0 f rest (p+(f 1 p (BN x.kids 0)).length+1) 0 (key+50) l
  else f 1 p (BN x.kids 0)++I0 f rest (p+(f 1 p (BN x.kids 0)).length) (w+1) key l
structure GCx where
 cs:List V3
 gl:List ByteArray
 src:ByteArray
def W5 (cx:GCx) (lo:List ByteArray) (t:ByteArray):Ins:=if Mx lo t > 0 then i1 6 (Mx lo t) else i1 8 (glN cx.gl t)
def orB:ByteArray:=⟨#[111,114]⟩
def AL (cx:GCx) (lo:List ByteArray):Nat→Int→Nat→Tree→Cd
 | 0,_,_,_=>[]
 | d+1,res,p,.mk k t n _ l =>
  if k=1 then [i0 3] else if k=2 then [i0 4] else if k=3 then [i0 5]
  else if k=4 then [i1 2 (QA cx.cs (2,n,⟨#[]⟩))]
  else if k=5 then [i1 2 (QA cx.cs (3,0,t))]
  else if k=6 then [W5 cx lo t]
  else if k=7 then
   if (BN l 0).kind=6∧Jg (BN l 0).text=true then [i1 10 (Jv ((BN l 0).text++SC++(BN l 1).text).toList)]
   else CP (AL cx lo d 1) p l++[i0 12]
  else if k=8 then SI (AL cx lo d) res p l
  else if k=9 then AL cx lo d 1 p (BN l 0)
  else if k=10 then AL cx lo d 1 p (BN l 0)++[i1 16 (Im t Xy)]
  else if k=11 then
   let c:=AL cx lo d 1 p (BN l 0)
   if Im t opL > 0 then c++AL cx lo d 1 (p+c.length) (BN l 1)++[i1 17 (Im t opL)]
   else
    let e:=AL cx lo d 1 (p+c.length+1) (BN l 1)
    c++i1 (if t.toList == orB.toList then 21 else 20) ((p+c.length+1+e.length:Nat):Int) :: e
  else if k=12 then i2 26 (LK (Hy l) l:Nat) (L9 l:Nat) :: I0 (AL cx lo d) (Hy l) (p+1) 0 1 l
  else []
theorem Ay4 (X:Bs):∀ (l:List Bs) (i:Int),(KH X l i=-1∧X ∉ l)∨(X ∈ l∧i≤KH X l i∧KH X l i < i+l.length)
 | [],i=>.inl ⟨rfl,by simp⟩
 | y :: l,i=>by
  unfold KH
  by_cases h:(X == y)=true
  ·rw [if_pos h]
   exact .inr ⟨by rw [beq_iff_eq.1 h];exact CB ..,Int.le_refl _,by simp only [AI];omega⟩
  ·rw [if_neg h]
   have h':X≠y:=fun e=>h (by simp [e])
   rcases Ay4 X l (i+1) with ⟨h1,h2⟩ | ⟨h1,h2,h3⟩
   ·exact .inl ⟨h1,by simp [h',h2]⟩
   ·exact .inr ⟨Db _ h1,by omega,by simp only [AI];omega⟩
theorem Api (L:List ByteArray) (hL:L.length≤1000000) (s:ByteArray):∀ (d i k:Nat),L.length - i≤d→i≤L.length→d < k →
  Fe.l0 k L s (fun _=>some (-1)) (i:Int)=some (KH s.toList ((L.drop i).map (·.toList)) i)
 | d,i,k,hd,hi,hk=>by
  obtain ⟨k,rfl⟩:∃ m,k=m+1:=⟨k - 1,by omega⟩
  simp only [Fe.l0]
  rcases Nat.lt_or_ge i L.length with h | h
  ·obtain ⟨d,rfl⟩:∃ m,d=m+1:=⟨d - 1,by omega⟩
   rw [decide_eq_true (p:=(i:Int) < L.length) (by omega),Aa9 h,wiC ((i:Int)+1) (by omega) (by omega),show (i:Int)+1=((i+1:Nat):Int) by omega,List.drop_eq_getElem_cons h,List.map_cons]
   simp only [cond_true,Aj]
   unfold KH
   cases hq:s.toList == L[i].toList with
   | true=>rfl
   | false =>
    rw [cond_false,Api L hL s d (i+1) k (by omega) (by omega) (by omega)]
    rfl
  ·rw [decide_eq_false (p:=(i:Int) < L.length) (by omega),List.drop_of_length_le h]
   rfl
theorem Aaa (k:Nat) (L:List ByteArray) (a:ByteArray) (hL:L.length≤1000000) (hk:L.length < k):Fe.f k L a=some (Im a L):=by
 unfold Fe.f BG Im
 have:=Api L hL a L.length 0 k (by omega) (by omega) hk
 rw [List.drop_zero] at this
 exact this
theorem Aph (a0 a1:Int) (a2:ByteArray):∀ (t pre:List V3) (m:Nat),pre.length+t.length≤1000000→t.length < m →
  GH.l0 m (pre++t) a0 a1 a2 (fun _=>some (-1)) (pre.length:Int)=some (ND (a0,a1,a2) t pre.length)
 | [],pre,m,hl,hm=>by
  obtain ⟨m,rfl⟩:∃ m',m=m'+1:=⟨m - 1,by omega⟩
  simp only [GH.l0]
  rw [ltF (by simp)]
  rfl
 | x :: t,pre,m,hl,hm=>by
  obtain ⟨m,rfl⟩:∃ m',m=m'+1:=⟨m - 1,by omega⟩
  simp only [AI] at hl hm
  simp only [GH.l0]
  rw [Ir (by simp;omega),DW]
  simp only [cond_true,Aj]
  unfold ND
  simp only
  cases hq:(a0 == x.1) && ((a1 == x.2.1) && ((a2.toList == x.2.2.toList) && true)) with
  | true=>rfl
  | false =>
   rw [cond_false,wiC _ (by omega) (by omega)]
   have ih:=Aph a0 a1 a2 t (pre++[x]) m (by simp;omega) (by omega)
   rw [Ck,AV] at ih
   exact ih
theorem Ay7 (v:V3):∀ (l:List V3) (i:Int),(ND v l i=-1∧Ob l v=false)∨(Ob l v=true∧i≤ND v l i∧ND v l i < i+l.length)
 | [],i=>.inl ⟨rfl,rfl⟩
 | x :: l,i=>by
  unfold ND Ob
  rw [List.any_cons]
  cases hq:(v.1 == x.1) && ((v.2.1 == x.2.1) && ((v.2.2.toList == x.2.2.toList) && true)) with
  | true=>exact .inr ⟨rfl,by simp only [if_true];omega,by simp only [if_true,AI];omega⟩
  | false =>
   simp only [Bool.false_eq_true,if_false,Bool.false_or]
   rcases Ay7 v l (i+1) with ⟨h1,h2⟩ | ⟨h1,h2,h3⟩
   ·exact .inl ⟨h1,h2⟩
   ·exact .inr ⟨h1,by omega,by simp only [AI];omega⟩
def mx:Nat:=1000000
theorem add_eq (k:Nat) (c:Cd) (op:Int) (l:List Int) (hl:l.length≤3) (hc:c.length≤mx):BA.f k c op l=some ((c.length:Int),c++[(op,cp3 l 0,cp3 l 1,cp3 l 2)]):=by
 unfold mx at hc
 unfold BA.f
 rw [decide_eq_true hl,cond_true,KP (by simp;omega),Aj,wiC _ (by simp only [AV,AI,Br];omega) (by simp only [AV,AI,Br];omega)]
 congr 2
 simp
theorem add0 (k:Nat) (c:Cd) (op:Int) (hc:c.length≤mx):BA.f k c op []=some ((c.length:Int),c++[i0 op]):=add_eq k c op [] (by decide) hc
theorem add1 (k:Nat) (c:Cd) (op a:Int) (hc:c.length≤mx):BA.f k c op [a]=some ((c.length:Int),c++[i1 op a]):=add_eq k c op [a] (By rfl) hc
theorem XZ (k:Nat) (c:Cd) (op a b:Int) (hc:c.length≤mx):BA.f k c op [a,b]=some ((c.length:Int),c++[i2 op a b]):=add_eq k c op [a,b] (By rfl) hc
theorem Ai6 (k:Nat) (c:Cd) (op a b e:Int) (hc:c.length≤mx):BA.f k c op [a,b,e]=some ((c.length:Int),c++[i3 op a b e]):=add_eq k c op [a,b,e] (By rfl) hc
theorem YF (k:Nat) (gl:List ByteArray) (t:ByteArray) (hg:gl.length≤400000) (hk:500000≤k):LC.f k gl t=some (glN gl t):=by
 unfold LC.f glN
 rw [Aaa k gl t (by omega) (by omega),Aj]
 have:=Ay4 t.toList (gl.map (·.toList)) 0
 rw [List.length_map] at this
 rw [wiC _ (by unfold Im;omega) (by unfold Im;omega)]
theorem Ako (k:Nat) (cs:List V3) (c:Cd) (v0 v1:Int) (v2:ByteArray) (hs:cs.length≤400000) (hk:500000≤k) (hc:c.length≤mx):LB.f k cs c v0 v1 v2=some (c++[i1 2 (QA cs (v0,v1,v2))]):=by
 unfold LB.f GH.f BG QA
 have hv:GH.l0 k cs v0 v1 v2 (fun _=>some (-1)) (0:Int)=some (ND (v0,v1,v2) cs 0):=Aph v0 v1 v2 cs [] k (by simpa using (by omega)) (by omega)
 have:=Ay7 (v0,v1,v2) cs 0
 simp only [hv,Aj]
 rw [wiC _ (by omega) (by omega),add1 k c _ _ hc]
 rfl
theorem Aka:∀ (t pre:List Tree) (lo:List ByteArray) (m:Nat),pre.length+t.length≤400000→lo.length+t.length≤900000→t.length < m →
  HJ.l0 m (pre++t) (pre.length:Int) lo=some (lo++t.map (·.text))
 | [],pre,lo,m,hl,ho,hm=>by
  obtain ⟨m,rfl⟩:∃ m',m=m'+1:=⟨m - 1,by omega⟩
  simp only [HJ.l0]
  rw [ltF (by simp)]
  simp
 | x :: t,pre,lo,m,hl,ho,hm=>by
  obtain ⟨m,rfl⟩:∃ m',m=m'+1:=⟨m - 1,by omega⟩
  simp only [AI] at hl ho hm
  simp only [HJ.l0]
  rw [Ir (by simp;omega),DW]
  simp only [cond_true,Aj]
  rw [KP (by simp;omega),wiC _ (by omega) (by omega)]
  have ih:=Aka t (pre++[x]) (lo++[x.text]) m (by simp;omega) (by simp;omega) (by omega)
  rw [Ck,AV] at ih
  simp only [Aj]
  refine ih.trans ?_
  simp
theorem Yp (k:Nat) (lo:List ByteArray) (l:List Tree) (hl:l.length≤400000) (ho:lo.length≤400000) (hk:500000≤k):HJ.f k lo l=some (lo++l.map (·.text)) :=
 Aka l [] lo k (by simpa using hl) (by omega) (by omega)
theorem JX {α:Type} (pre:List α) (x y:α) (t:List α):EW (pre++x :: t) (pre.length:Int) y=some (pre++y :: t):=by
 unfold EW
 rw [decide_eq_true (by simp;omega),cond_true,Int.toNat_natCast,List.set_append_right _ _ (Nat.le_refl _),Nat.sub_self]
 rfl
theorem JK {f:Nat→Tree→Cd}:∀ {l:List Tree} {p:Nat},(∀ p x,x ∈ l→(f p x).length≤4 * sz x)→(CP f p l).length≤4 * Au l
 | [],_,_=>Nat.zero_le _
 | x :: l,p,h=>by
  have h1:=h p x (CB ..)
  have h2:=JK (l:=l) (p:=p+(f p x).length) fun p y hy=>h p y (Db _ hy)
  simp only [CP,AV,Au]
  omega
theorem PI {f:Int→Nat→Tree→Cd}:∀ {l:List Tree} {p:Nat},(∀ r p x,x ∈ l→(f r p x).length≤4 * sz x)→(Jy f p l).length≤4 * Au l
 | [],_,_=>Nat.zero_le _
 | [x],p,h=>by
  have h1:=h (-1) p x (CB ..)
  simp only [Jy,Au]
  omega
 | x :: y :: l,p,h=>by
  have h1:=h 1 p x (CB ..)
  have h2:=PI (l:=y :: l) (p:=p+(f 1 p x).length) fun r p y hy=>h r p y (Db _ hy)
  simp only [Jy,AV,Au] at h2 ⊢
  omega
theorem Xv (w key:Int):(Ic w key).length≤1:=by unfold Ic;split <;> simp
theorem QR {x:Tree} (h:Ko x):(∃ t n a y,x=.mk 13 t n a [y]∧IsE y)∨∃ t n a y z,x=.mk 14 t n a [y,z]∧IsE y∧IsE z:=by
 cases h with
 | item h=>exact .inl ⟨_,_,_,_,rfl,h⟩
 | field h h'=>exact .inr ⟨_,_,_,_,_,rfl,h,h'⟩
theorem Axq {f:Int→Nat→Tree→Cd} {rest:Bool}:∀ {l:List Tree} {p:Nat} {w key:Int},(∀ x ∈ l,Ko x)→(∀ r p x y,x ∈ l→y ∈ x.kids→(f r p y).length≤4 * sz y)→(I0 f rest p w key l).length≤4 * Au l+1
 | [],p,w,key,_,_=>by simp only [I0,Au];have:=Xv w key;omega
 | x :: l,p,w,key,hF,h=>by
  have ih:=fun p w key=>Axq (f:=f) (rest:=rest) (l:=l) (p:=p) (w:=w) (key:=key) (fun y hy=>hF y (Db _ hy)) fun r p y z hy=>h r p y z (Db _ hy)
  have hx:=fun r p y=>h r p x y (CB ..)
  have hs:=Xv w key
  rcases QR (hF x (CB ..)) with ⟨t,n,a,y,rfl,hy⟩ | ⟨t,n,a,y,z,rfl,hy,hz⟩
  ·have h1:=fun r p=>hx r p y (CB ..)
   simp only [I0,Tree.kind,Tree.kids,show BN [y] 0=y from rfl,Au,sz]
   rw [if_neg (by decide)]
   split
   ·have:=h1 (-1) (p+(Ic w key).length+1)
    simp only [AV,AI,Br]
    omega
   split
   ·have:=h1 1 p
    have:=ih (p+(f 1 p y).length+1) 0 (key+50)
    simp only [AV,AI]
    omega
   ·have:=h1 1 p
    have:=ih (p+(f 1 p y).length) (w+1) key
    simp only [AV]
    omega
  ·have h1:(CP (f 1) p [y,z]).length≤4 * Au [y,z]:=JK fun p u hu=>hx 1 p u hu
   have:=ih (p+(CP (f 1) p [y,z]).length+1) w key
   simp only [I0,Tree.kind,Tree.kids,if_pos,Au,sz] at h1 ⊢
   simp only [AV,AI]
   omega
section
variable {cx:GCx} {lo:List ByteArray}
theorem A6w {d:Nat} {r:Int} {p:Nat} {n a:Int} {t:ByteArray} {l:List Tree}:AL cx lo (d+1) r p (.mk 1 t n a l)=[i0 3]:=rfl
theorem A6x {d:Nat} {r:Int} {p:Nat} {n a:Int} {t:ByteArray} {l:List Tree}:AL cx lo (d+1) r p (.mk 2 t n a l)=[i0 4]:=rfl
theorem A6y {d:Nat} {r:Int} {p:Nat} {n a:Int} {t:ByteArray} {l:List Tree}:AL cx lo (d+1) r p (.mk 3 t n a l)=[i0 5]:=rfl
theorem YA {d:Nat} {r:Int} {p:Nat} {n a:Int} {t:ByteArray} {l:List Tree}:AL cx lo (d+1) r p (.mk 4 t n a l)=[i1 2 (QA cx.cs (2,n,⟨#[]⟩))]:=rfl
theorem YB {d:Nat} {r:Int} {p:Nat} {n a:Int} {t:ByteArray} {l:List Tree}:AL cx lo (d+1) r p (.mk 5 t n a l)=[i1 2 (QA cx.cs (3,0,t))]:=rfl
theorem V8 {d:Nat} {r:Int} {p:Nat} {n a:Int} {t:ByteArray} {l:List Tree}:AL cx lo (d+1) r p (.mk 6 t n a l)=[W5 cx lo t]:=rfl
theorem V9 {d:Nat} {r:Int} {p:Nat} {n a:Int} {t:ByteArray} {l:List Tree}:AL cx lo (d+1) r p (.mk 7 t n a l)=if (BN l 0).kind=6∧Jg (BN l 0).text=true then [i1 10 (Jv ((BN l 0).text++SC++(BN l 1).text).toList)] else CP (AL cx lo d 1) p l++[i0 12]:=rfl
theorem VA {d:Nat} {r:Int} {p:Nat} {n a:Int} {t:ByteArray} {l:List Tree}:AL cx lo (d+1) r p (.mk 8 t n a l)=SI (AL cx lo d) r p l:=rfl
theorem YC {d:Nat} {r:Int} {p:Nat} {n a:Int} {t:ByteArray} {x:Tree}:AL cx lo (d+1) r p (.mk 9 t n a [x])=AL cx lo d 1 p x:=rfl
theorem V7 {d:Nat} {r:Int} {p:Nat} {n a:Int} {t:ByteArray} {x:Tree}:AL cx lo (d+1) r p (.mk 10 t n a [x])=AL cx lo d 1 p x++[i1 16 (Im t Xy)]:=rfl
def SF (f:Nat→Tree→Cd) (p:Nat) (t:ByteArray) (x y:Tree):Cd :=
 if Im t opL > 0 then f p x++f (p+(f p x).length) y++[i1 17 (Im t opL)]
 else f p x++i1 (if t.toList == orB.toList then 21 else 20) ((p+(f p x).length+1+(f (p+(f p x).length+1) y).length:Nat):Int) :: f (p+(f p x).length+1) y
theorem Y8 {d:Nat} {r:Int} {p:Nat} {n a:Int} {t:ByteArray} {x y:Tree}:AL cx lo (d+1) r p (.mk 11 t n a [x,y])=SF (AL cx lo d 1) p t x y:=rfl
theorem Y9 {d:Nat} {r:Int} {p:Nat} {n a:Int} {t:ByteArray} {l:List Tree}:AL cx lo (d+1) r p (.mk 12 t n a l)=i2 26 (LK (Hy l) l:Nat) (L9 l:Nat) :: I0 (AL cx lo d) (Hy l) (p+1) 0 1 l:=rfl
theorem E1:∀ (d:Nat) (r:Int) (p:Nat) (t:Tree),IsE t→(AL cx lo d r p t).length≤4 * sz t
 | 0,_,_,_,_=>Nat.zero_le _
 | d+1,r,p,t,h=>by
  have ih:=fun r p t h=>E1 d r p t h
  cases h with
  | atom h1 h2 =>
   rename_i k n a t
   simp only [sz,Au]
   obtain rfl | rfl | rfl | rfl | rfl | rfl:k=1∨k=2∨k=3∨k=4∨k=5∨k=6:=by omega
   ·rw [A6w];exact By rfl
   ·rw [A6x];exact By rfl
   ·rw [A6y];exact By rfl
   ·rw [YA];exact By rfl
   ·rw [YB];exact By rfl
   ·rw [V8];exact By rfl
  | index h1 h2 =>
   rename_i n a t x y
   rw [V9]
   split
   ·simp only [AI,Br,sz];omega
   ·have:(CP (AL cx lo d 1) p [x,y]).length≤4 * Au [x,y]:=JK fun p z hz=>by
     rcases List.mem_cons.1 hz with rfl | hz
     ·exact ih _ _ _ h1
     ·obtain rfl:=F7.1 hz;exact ih _ _ _ h2
    simp only [AV,AI,Br,sz,Au] at this ⊢
    omega
  | call h1 h2 =>
   rename_i n a t x l
   rw [VA]
   have e1:=ih 1 p x h1
   have e2:=PI (f:=AL cx lo d) (l:=l) (p:=p+(AL cx lo d 1 p x).length+1) fun r p y hy=>ih r p y (h2 y hy)
   simp only [SI,show BN (x :: l) 0=x from rfl,List.drop_succ_cons,List.drop_zero,AV,AI,Br,sz,Au]
   omega
  | paren h1=>rw [YC];have:=ih 1 p _ h1;simp only [sz,Au];omega
  | unary h1=>rw [V7];have:=ih 1 p _ h1;simp only [sz,Au,AV,AI,Br];omega
  | binary h1 h2 =>
   rename_i n a t x y
   rw [Y8]
   have e1:=ih 1 p x h1
   have e2:=ih 1 (p+(AL cx lo d 1 p x).length) y h2
   have e3:=ih 1 (p+(AL cx lo d 1 p x).length+1) y h2
   unfold SF
   split <;> simp only [sz,Au,AV,AI,Br] <;> omega
  | table h1 =>
   rename_i n a t l
   rw [Y9]
   have:=Axq (f:=AL cx lo d) (rest:=Hy l) (l:=l) (p:=p+1) (w:=0) (key:=1) h1 fun r p x y hx hy=>by
    rcases QR (h1 x hx) with ⟨_,_,_,z,rfl,hz⟩ | ⟨_,_,_,z,u,rfl,hz,hu⟩
    ·obtain rfl:=F7.1 hy;exact ih _ _ _ hz
    ·rcases List.mem_cons.1 hy with rfl | hy
     ·exact ih _ _ _ hz
     ·obtain rfl:=F7.1 hy;exact ih _ _ _ hu
   simp only [AI,sz]
   omega
theorem A7b {d:Nat} {r:Int} {p:Nat} {t:Tree} (h:t.kind≠8):AL cx lo d r p t=AL cx lo d 1 p t:=by
 cases d with
 | zero=>rfl
 | succ d =>
  cases t with
  | mk k t n a l =>
   have h:k≠8:=h
   simp only [AL,if_neg h]
theorem WJ {f:Int→Nat→Tree→Cd} {x:Tree}:∀ {m:List Tree} {p:Nat},Jy f p (m++[x])=CP (f 1) p m++f (-1) (p+(CP (f 1) p m).length) x
 | [],p=>rfl
 | [y],p=>by
  show f 1 p y++Jy f (p+(f 1 p y).length) ([]++[x])=_
  rw [WJ (m:=[])]
  simp [CP]
 | y :: z :: m,p=>by
  show f 1 p y++Jy f (p+(f 1 p y).length) ((z :: m)++[x])=_
  rw [WJ (m:=z :: m)]
  simp only [CP,Ck,AV]
  rw [Nat.add_assoc,Nat.add_assoc]
theorem Akz {f:Nat→Tree→Cd} {x:Tree}:∀ {m:List Tree} {p:Nat},CP f p (m++[x])=CP f p m++f (p+(CP f p m).length) x
 | [],p=>by simp [CP]
 | y :: m,p=>by
  show f p y++CP f (p+(f p y).length) (m++[x])=_
  rw [Akz (m:=m)]
  simp only [CP,Ck,AV]
  rw [Nat.add_assoc]
end
section
variable {cx:GCx} {lo:List ByteArray}
structure Lo (cx:GCx) (lo:List ByteArray):Prop where
 cs:cx.cs.length≤400000
 gl:cx.gl.length≤400000
 lo:lo.length≤400000
def EX (R:GE) (cx:GCx) (lo:List ByteArray) (d:Nat):Prop:=∀ (c:Cd) (t:Tree),IsE t→gw t→sz t≤d→c.length+4 * sz t≤mx →
 R.Dk cx.cs c cx.gl lo t.kind t.text t.n t.at_ t.kids=some (c++AL cx lo d 1 c.length t)
def CL (R:GE) (cx:GCx) (lo:List ByteArray) (d:Nat):Prop:=∀ (res:Int) (c:Cd) (t:Tree),IsE t→t.kind=8→gw t→sz t≤d→c.length+4 * sz t≤mx →
 R.ET cx.cs c cx.gl lo t.kind t.text t.n t.at_ t.kids res=some (c++AL cx lo d res c.length t)
def EA (R:GE) (cx:GCx) (lo:List ByteArray) (d:Nat):Prop:=∀ (c:Cd) (l:List Tree),E8 l→EH l→Au l≤d→c.length+4 * Au l≤mx →
 R.DD cx.cs c cx.gl lo l=some (c++CP (AL cx lo d 1) c.length l)
def OP (R:GE) (cx:GCx) (lo:List ByteArray) (d:Nat):Prop:=∀ (c:Cd) (l:List Tree),E8 l→EH l→Au l≤d→c.length+4 * Au l≤mx →
 R.FO cx.cs c cx.gl lo l=some (c++Jy (AL cx lo d) c.length l)
def BI (R:GE) (cx:GCx) (lo:List ByteArray) (d:Nat):Prop:=∀ (c:Cd) (t:ByteArray) (n a:Int) (x y:Tree),IsE x→IsE y→gw x→gw y→sz x+sz y≤d→c.length+4 * (sz x+sz y)+2≤mx →
 R.Ij cx.cs c cx.gl lo 11 t n a [x,y]=some (c++SF (AL cx lo d 1) c.length t x y)
def TA (R:GE) (cx:GCx) (lo:List ByteArray) (d:Nat):Prop:=∀ (c:Cd) (l:List Tree),(∀ x ∈ l,Ko x)→EH l→Au l≤d→c.length+4 * Au l+3≤mx →
 R.FP cx.cs c cx.gl lo l=some (c++i2 26 (LK (Hy l) l:Nat) (L9 l:Nat) :: I0 (AL cx lo d) (Hy l) (c.length+1) 0 1 l)
theorem JO (c e:Cd) (x:Ins):(c++e++[x]).length=c.length+e.length+1:=by simp [Nat.add_assoc]
theorem Ak2 {R:GE} {d:Nat} (h:EX R cx lo d):∀ (t pre:List Tree) (c:Cd) (m:Nat),pre.length+t.length≤400000→t.length < m→E8 t→EH t→Au t≤d→c.length+4 * Au t≤mx →
  DD.l0 m R cx.cs cx.gl lo (pre++t) (pre.length:Int) c=some (c++CP (AL cx lo d 1) c.length t)
 | [],pre,c,m,hl,hm,hE,hg,hd,hb=>by
  obtain ⟨m,rfl⟩:∃ m',m=m'+1:=⟨m - 1,by omega⟩
  simp only [DD.l0]
  rw [ltF (by simp)]
  simp [CP]
 | x :: t,pre,c,m,hl,hm,hE,hg,hd,hb=>by
  obtain ⟨m,rfl⟩:∃ m',m=m'+1:=⟨m - 1,by omega⟩
  simp only [AI] at hl hm
  simp only [Au] at hd hb
  simp only [DD.l0]
  rw [Ir (by simp;omega),DW]
  simp only [cond_true,Aj]
  have hx:=hE x (CB ..)
  have e0:=E1 (cx:=cx) (lo:=lo) d 1 c.length x hx
  rw [h c x hx hg.1 (by omega) (by omega),Aj,wiC _ (by omega) (by omega)]
  have ih:=Ak2 h t (pre++[x]) (c++AL cx lo d 1 c.length x) m (by simp;omega) (by omega) (fun y hy=>hE y (Db _ hy)) hg.2 (by omega) (by rw [AV];omega)
  rw [show (pre++[x])++t=pre++x :: t by simp,show ((pre++[x]).length:Int)=(pre.length:Int)+1 by simp] at ih
  refine ih.trans ?_
  simp only [CP,Ck,AV]
theorem Y6 {k d:Nat} (hk:500000≤k) (h:EX (GE.at k) cx lo d):EA (GE.at (k+1)) cx lo d:=fun c l hE hg hd hb=>by
 have:=Em l
 unfold mx at hb
 exact Ak2 h l [] c k (by simp only [Br];omega) (by omega) hE hg hd hb
theorem Ou {α:Type} (l:List α):l=[]∨∃ m x,l=m++[x]:=by
 rcases List.eq_nil_or_concat l with h | ⟨m,x,h⟩
 ·exact .inl h
 ·exact .inr ⟨m,x,by simpa using h⟩
theorem OX {l m:List Tree}:EH (l++m) ↔ EH l∧EH m:=by
 simp only [QG,EQ]
 exact ⟨fun h=>⟨fun x hx=>h x (.inl hx),fun x hx=>h x (.inr hx)⟩,fun h x hx=>hx.elim (h.1 x) (h.2 x)⟩
theorem A5y {l m:List Tree}:E8 (l++m) ↔ E8 l∧E8 m:=by
 simp only [E8,EQ]
 exact ⟨fun h=>⟨fun x hx=>h x (.inl hx),fun x hx=>h x (.inr hx)⟩,fun h x hx=>hx.elim (h.1 x) (h.2 x)⟩
theorem Abf {α:Type} (m:List α) (x:α) (h:m.length≤400000):IntKind.i64.wrap ((((m++[x]).length:Nat):Int) - 1)=(m.length:Int):=by
 rw [AV,AI,Br,wiC _ (by omega) (by omega)]
 omega
theorem Aup {k d:Nat} (h:EA (GE.at k) cx lo d) (h':CL (GE.at k) cx lo d):OP (GE.at (k+1)) cx lo d:=fun c l hE hg hd hb=>by
 show FO.g (GE.at k) k cx.cs c cx.gl lo l=_
 have hn:=Em l
 unfold mx at hb
 unfold FO.g
 rcases Ou l with rfl | ⟨m,x,rfl⟩
 ·rw [wiC _ (by simp) (by simp),decide_eq_false (by simp),cond_false,Aj,cond_false,h c [] le_nil hg hd hb]
  rfl
 ·rw [AV,AI,Br] at hn
  obtain ⟨h1,h2⟩:=A5y.1 hE
  obtain ⟨g1,g2⟩:=OX.1 hg
  have hx:=h2 x (CB ..)
  have hx2:=g2.1
  simp only [DB,Au] at hd hb hn
  rw [Abf m x (by omega),decide_eq_true (by omega),cond_true,DW,Aj,Aj]
  have e0:=JK (f:=AL cx lo d 1) (l:=m) (p:=c.length) fun p y hy=>E1 d 1 p y (h1 y hy)
  by_cases hk8:x.kind=8
  ·rw [eqC hk8,cond_true,GI 0 m.length (show (0:Int)=((0:Nat):Int) from rfl) rfl (by omega) (by simp),Aj,show ((m++[x]).drop 0).take (m.length - 0)=m by simp,h c m h1 g1 (by omega) (by unfold mx;omega),Aj,Aj]
   rw [h' (-1) _ x hx hk8 hx2 (by omega) (by unfold mx;rw [AV];omega),Aj,WJ,Ck,AV]
  ·rw [DK hk8,cond_false,h c _ hE hg (by rw [DB];simp only [Au];omega) (by rw [DB];simp only [Au];unfold mx;omega),Aj,WJ,Akz,A7b (r:=-1) hk8]
theorem Bh8 {t:Tree} (h:IsE t) (hk:t.kind=8):∃ tx n a x l,t=.mk 8 tx n a (x :: l)∧IsE x∧E8 l:=by
 cases h with
 | call h1 h2=>exact ⟨_,_,_,_,_,rfl,h1,h2⟩
 | _=>simp only [Tree.kind] at hk;omega
theorem A3x {k d:Nat} (h:EX (GE.at k) cx lo d) (h':OP (GE.at k) cx lo d):CL (GE.at (k+1)) cx lo (d+1):=fun res c t hE hk8 hg hd hb=>by
 obtain ⟨tx,n,a,x,l,rfl,hx,hl⟩:=Bh8 hE hk8
 show ET.g (GE.at k) k cx.cs c cx.gl lo 8 tx n a (x :: l) res=_
 simp only [sz,Au] at hd hb
 obtain ⟨_,g1,g2⟩:=hg
 have e0:=E1 (cx:=cx) (lo:=lo) d 1 c.length x hx
 have e1:=PI (f:=AL cx lo d) (l:=l) (p:=c.length+(AL cx lo d 1 c.length x).length+1) fun r p y hy=>E1 d r p y (hl y hy)
 have hn:=Em l
 unfold mx at hb
 unfold ET.g
 rw [show Bh (x :: l) (0:Int)=some x from rfl,Aj,h c x hx g1 (by omega) (by unfold mx;omega),Aj,add0 _ _ _ (by unfold mx;rw [AV];omega),Aj]
 rw [GI 1 (l.length+1) (show (1:Int)=((1:Nat):Int) from rfl) (by simp) (by omega) (by simp),Aj,show ((x :: l).drop 1).take (l.length+1 - 1)=l by simp]
 rw [h' _ l hl g2 (by omega) (by unfold mx;rw [JO];omega),Aj,JO,add1 _ _ _ _ (by unfold mx;rw [AV,JO];omega),Aj,VA]
 simp only [SI,show BN (x :: l) 0=x from rfl,List.drop_succ_cons,List.drop_zero,Ck,List.cons_append,List.nil_append]
theorem ix0 (x:Tree) (l:List Tree):Bh (x :: l) (0:Int)=some x:=rfl
theorem Tv (x y:Tree) (l:List Tree):Bh (x :: y :: l) (1:Int)=some y:=rfl
theorem A2x {k d:Nat} (hk:500000≤k) (h:EX (GE.at k) cx lo d):BI (GE.at (k+1)) cx lo d:=fun c t n a x y hx hy gx gy hd hb=>by
 show Ij.g (GE.at k) k cx.cs c cx.gl lo 11 t n a [x,y]=_
 have e0:=E1 (cx:=cx) (lo:=lo) d 1 c.length x hx
 have e1:=E1 (cx:=cx) (lo:=lo) d 1 (c.length+(AL cx lo d 1 c.length x).length) y hy
 have e2:=E1 (cx:=cx) (lo:=lo) d 1 (c.length+(AL cx lo d 1 c.length x).length+1) y hy
 unfold mx at hb
 unfold Ij.g SF orB
 rw [ix0,Aj,h c x hx gx (by omega) (by unfold mx;omega),Aj,Aaa k _ t (by decide) (by show 13 < k;omega),Aj]
 show cond (decide (Im t opL > 0)) _ _=_
 by_cases hp:Im t opL > 0
 ·rw [decide_eq_true hp,if_pos hp,cond_true,Tv,Aj,h _ y hy gy (by omega) (by unfold mx;rw [AV];omega),Aj,AV]
  rw [add1 _ _ _ _ (by unfold mx;simp only [AV];omega),Aj]
  show some ((c++_++_)++[i1 17 (Im t opL)])=_
  simp only [Ck]
 ·rw [decide_eq_false hp,if_neg hp,cond_false]
  unfold BG
  have key:∀ o:Int,((BA.f k (c++AL cx lo d 1 c.length x) o []).bind fun Gs=>(Bh [x,y] (1:Int)).bind fun x46=>((GE.at k).Dk cx.cs Gs.2 cx.gl lo x46.kind x46.text x46.n x46.at_ x46.kids).bind fun r55=>(EU.f k r55).bind fun r60=>(Bh r55 Gs.1).bind fun x61=>(EW r55 Gs.1 (x61.1,r60,x61.2.2.1,x61.2.2.2)).bind fun Rm=>some Rm) =
    some (c++(AL cx lo d 1 c.length x++i1 o ((c.length+(AL cx lo d 1 c.length x).length+1+(AL cx lo d 1 (c.length+(AL cx lo d 1 c.length x).length+1) y).length:Nat):Int) :: AL cx lo d 1 (c.length+(AL cx lo d 1 c.length x).length+1) y)):=fun o=>by
   rw [add0 _ _ _ (by unfold mx;rw [AV];omega),Aj,Tv,Aj,h _ y hy gy (by omega) (by unfold mx;rw [JO];omega),Aj,JO]
   unfold EU.f
   rw [Aj,show ∀ (A B:Cd) (z:Ins),A++[z]++B=A++z :: B by simp,DW,Aj,JX,Aj,Ck]
   simp only [i0,i1,AV,AI,Nat.add_assoc,Nat.add_comm 1]
  cases t.toList == (⟨#[111,114]⟩:ByteArray).toList with
  | true=>exact key 21
  | false=>exact key 20
theorem Wn {k n a:Int} {t:ByteArray} {l:List Tree}:(Tree.mk k t n a l).kind=k:=rfl
theorem Wm {k n a:Int} {t:ByteArray} {l:List Tree}:(Tree.mk k t n a l).kids=l:=rfl
theorem Afs (k:Nat) (w key:Int) (c:Cd) (hw0:0≤w) (hw:w≤50) (hk0:0≤key) (hk:key≤1000000000) (hc:c.length≤mx) :
  KO.f k w c key=some (if w > 0 then 0 else w,c++Ic w key,if w > 0 then key+w else key):=by
 unfold KO.f Ic
 by_cases h:w > 0
 ·rw [decide_eq_true h,cond_true,XZ _ _ _ _ _ hc,Aj,wiC _ (by omega) (by omega),if_pos h,if_pos h,if_pos h]
 ·rw [decide_eq_false h,cond_false,if_neg h,if_neg h,if_neg h,List.append_nil]
theorem Axs {R:GE} {d:Nat} (hE:EX R cx lo d) (hA:EA R cx lo d) (hC:CL R cx lo d) (rest:Bool) (J:Int→Int→Int→Int→Cd→Option Cd) (fin:Int→Int→Cd→Option Cd)
  (hJ:∀ it fd key w c,0≤w→w≤50→0≤key→key≤1000000000→c.length≤mx→J it fd key w c=fin it fd (c++Ic w key)) :
  ∀ (t pre:List Tree) (m it fd:Nat) (key w:Int) (c:Cd),pre.length+t.length≤400000→t.length < m→it+t.length≤1000000→fd+t.length≤1000000→0≤w→w < 50→0≤key→key+100 * (t.length+1)≤1000000000 →
  (∀ x ∈ t,Ko x)→EH t→Au t≤d→c.length+4 * Au t+1≤mx→(rest=true→t=[]∨Hy t=true) →
  FP.l0 m R cx.cs cx.gl lo (pre++t) rest J (it:Int) (fd:Int) (pre.length:Int) key w c=fin ((it+LK rest t:Nat):Int) ((fd+L9 t:Nat):Int) (c++I0 (AL cx lo d) rest c.length w key t)
 | [],pre,m,it,fd,key,w,c,hl,hm,hi,hf,hw0,hw,hk0,hk,hF,hg,hd,hb,hr=>by
  obtain ⟨m,rfl⟩:∃ m',m=m'+1:=⟨m - 1,by omega⟩
  simp only [FP.l0]
  rw [ltF (by simp),cond_false,hJ _ _ _ _ _ hw0 (by omega) hk0 (by omega) (by omega)]
  rfl
 | x :: t,pre,m,it,fd,key,w,c,hl,hm,hi,hf,hw0,hw,hk0,hk,hF,hg,hd,hb,hr=>by
  obtain ⟨m,rfl⟩:∃ m',m=m'+1:=⟨m - 1,by omega⟩
  simp only [AI] at hl hm hi hf hk
  simp only [Au] at hd hb
  have ih:=fun m it fd key w c h1 h2 h3 h4 h5 h6 h7 h8=>Axs hE hA hC rest J fin hJ t (pre++[x]) m it fd key w c (by simp;omega) h1 h2 h3 h4 h5 h6 h7 (fun y hy=>hF y (Db _ hy)) hg.2 (by omega) h8 (fun h=>by
   rcases hr h with h | h
   ·cases h
   ·cases t with
    | nil=>exact .inl rfl
    | cons y t=>exact .inr (by rw [← h];unfold Hy;rw [List.getLast?_cons_cons]))
  rw [show (pre++[x])++t=pre++x :: t by simp,show ((pre++[x]).length:Int)=(pre.length:Int)+1 by simp] at ih
  simp only [FP.l0]
  rw [Ir (by simp;omega),cond_true]
  dsimp only [BG]
  rw [DW,Aj,wiC ((pre.length:Int)+1) (by omega) (by omega)]
  have hFx:=hF x (CB ..)
  rcases QR hFx with ⟨tx,n,a,y,rfl,hy⟩ | ⟨tx,n,a,y,z,rfl,hy,hz⟩
  ·have hgy:gw y:=hg.1.2.1
   simp only [sz,Au] at hd hb
   simp only [Wn,Wm,LK,L9,I0,show BN [y] 0=y from rfl,ix0,Aj,Int.reduceEq,if_false,Nat.zero_add]
   rw [show ((13:Int) == 14)=false from rfl,cond_false]
   have e1:∀ p,(AL cx lo d 1 p y).length≤4 * sz y:=fun p=>E1 d 1 p y hy
   have eL:((pre.length:Int) == IntKind.i64.wrap ((((pre++Tree.mk 13 tx n a [y] :: t).length:Nat):Int) - 1))=t.isEmpty:=by
    rw [AV,AI,wiC _ (by omega) (by omega)]
    cases t with
    | nil=>simp only [Br,List.isEmpty_nil];rw [beq_iff_eq];omega
    | cons u v=>simp only [AI,List.isEmpty_cons];rw [beq_eq_false_iff_ne];omega
   rw [eL]
   have eq:(cond rest (some t.isEmpty) (some false):Option Bool)=some (rest && t.isEmpty):=by cases rest <;> rfl
   rw [eq,Aj]
   by_cases hlast:(rest && t.isEmpty)=true
   ·rw [hlast,cond_true,if_pos rfl,if_pos rfl]
    obtain ⟨hre,hte⟩:rest=true∧t=[]:=by simpa using hlast
    subst hte
    have h8:y.kind=8:=by
     rcases hr hre with h | h
     ·cases h
     ·unfold Hy at h
      simpa [Tree.kids,Tree.kind,BN] using h
    rw [Afs _ _ _ _ hw0 (by omega) hk0 (by omega) (by omega),Aj]
    have hs:=Xv w key
    rw [add0 _ _ _ (by rw [AV];omega),Aj,hC (-1) _ y hy h8 hgy (by omega) (by rw [JO];omega),Aj,JO]
    have e2:=E1 (cx:=cx) (lo:=lo) d (-1) (c.length+(Ic w key).length+1) y hy
    have ek:(if w > 0 then key+w else key)≤1000000000∧0≤(if w > 0 then key+w else key):=by split <;> omega
    rw [add1 _ _ _ _ (by rw [AV,JO];omega),Aj]
    have ih:=ih m it fd (if w > 0 then key+w else key) (if w > 0 then 0 else w) (c++Ic w key++[i0 22]++AL cx lo d (-1) (c.length+(Ic w key).length+1) y++[i1 29 (if w > 0 then key+w else key)]) (by simp only [Br];omega) (by omega) (by omega) (by split <;> omega) (by split <;> omega) ek.2 (by simp only [Br];split <;> omega) (by simp only [AV,AI,Br,Au];omega)
    refine ih.trans ?_
    have e3:(if w > 0 then 0 else w:Int)=0:=by split <;> omega
    simp only [LK,L9,I0,e3,Nat.add_zero]
    congr 1
    simp [Ic]
   ·rw [Bool.not_eq_true] at hlast
    rw [hlast,cond_false]
    simp only [Bool.false_eq_true,if_false]
    rw [hE c y hy hgy (by omega) (by omega),Aj,wiC (w+1) (by omega) (by omega),wiC ((it:Int)+1) (by omega) (by omega)]
    have e1c:=e1 c.length
    by_cases h50:w+1=50
    ·rw [eqC h50,cond_true,if_pos h50,h50,Afs _ _ _ _ (by omega) (by omega) hk0 (by omega) (by rw [AV];omega),Aj]
     have ih:=ih m (it+1) fd (key+50) 0 (c++AL cx lo d 1 c.length y++[i2 28 50 key]) (by omega) (by omega) (by omega) (by omega) (by omega) (by omega) (by omega) (by rw [JO];omega)
     refine ih.trans ?_
     rw [JO]
     simp only [Ck,List.cons_append,List.nil_append,Nat.add_assoc]
    ·rw [DK h50,cond_false,if_neg h50]
     have ih:=ih m (it+1) fd key (w+1) (c++AL cx lo d 1 c.length y) (by omega) (by omega) (by omega) (by omega) (by omega) (by omega) (by omega) (by rw [AV];omega)
     refine ih.trans ?_
     rw [AV]
     simp only [Ck,Nat.add_assoc]
  ·have hgs:EH [y,z]:=hg.1.2
   have hes:E8 [y,z]:=fun u hu=>by
    rcases List.mem_cons.1 hu with rfl | hu
    ·exact hy
    ·obtain rfl:=F7.1 hu;exact hz
   simp only [sz] at hd hb
   have e1:=JK (f:=AL cx lo d 1) (l:=[y,z]) (p:=c.length) fun p u hu=>E1 d 1 p u (hes u hu)
   simp only [Wn,Wm,LK,L9,I0,if_true]
   rw [show ((14:Int) == 14)=true from rfl,cond_true,hA c _ hes hgs (by omega) (by omega),Aj,add1 _ _ _ _ (by rw [AV];omega),Aj,wiC ((fd:Int)+1) (by omega) (by omega)]
   have ih:=ih m it (fd+1) key w (c++CP (AL cx lo d 1) c.length [y,z]++[i1 27 w]) (by omega) (by omega) (by omega) hw0 hw hk0 (by omega) (by rw [JO];omega)
   refine ih.trans ?_
   rw [JO,Nat.zero_add]
   simp only [Ck,List.cons_append,List.nil_append,Nat.add_assoc]
theorem Bup {k d:Nat} (hk:500000≤k) (hE:EX (GE.at k) cx lo d) (hA:EA (GE.at k) cx lo d) (hC:CL (GE.at k) cx lo d):TA (GE.at (k+1)) cx lo d:=fun c l hF hg hd hb=>by
 show FP.g (GE.at k) k cx.cs c cx.gl lo l=_
 have hn:=Em l
 unfold mx at hb
 unfold FP.g
 have hq:∀ f:Bool→Option Cd,((cond (decide (((l.length:Nat):Int) > 0)) ((Bh l (IntKind.i64.wrap (((l.length:Nat):Int) - 1))).bind fun NE=>cond (NE.kind == (13:Int)) ((Bh l (IntKind.i64.wrap (((l.length:Nat):Int) - 1))).bind fun x158=>(Bh x158.kids (0:Int)).bind fun NF=>some (NF.kind == (8:Int))) (some false)) (some false):Option Bool).bind f)=f (Hy l):=fun f=>by
  rcases Ou l with rfl | ⟨m,x,rfl⟩
  ·rfl
  ·rw [AV,AI,Br] at hn
   rw [Abf m x (by omega),decide_eq_true (by simp),cond_true,DW,Aj]
   have hx:=hF x (by simp)
   unfold Hy
   rw [List.getLast?_append,List.getLast?_singleton]
   rcases QR hx with ⟨_,_,_,y,rfl,_⟩ | ⟨_,_,_,y,z,rfl,_,_⟩
   ·rfl
   ·rfl
 rw [hq,add0 _ _ _ (by unfold mx;omega),Aj]
 dsimp only [BG]
 have hfin:=Axs hE hA hC (Hy l) (fun (x10:Int) (x11:Int) (x12:Int) (GX:Int) (Wv:Cd)=>(KO.f k GX Wv x12).bind fun r20=>(Bh r20.2.1 (c.length:Int)).bind fun x25=>(EW r20.2.1 (c.length:Int) (x25.1,x10,x25.2.2.1,x25.2.2.2)).bind fun l32=>(Bh l32 (c.length:Int)).bind fun x36=>(EW l32 (c.length:Int) (x36.1,x36.2.1,x11,x36.2.2.2)).bind fun EI=>some EI)
  (fun x10 x11 b=>(Bh b (c.length:Int)).bind fun x25=>(EW b (c.length:Int) (x25.1,x10,x25.2.2.1,x25.2.2.2)).bind fun l32=>(Bh l32 (c.length:Int)).bind fun x36=>(EW l32 (c.length:Int) (x36.1,x36.2.1,x11,x36.2.2.2)).bind fun EI=>some EI)
  (fun it fd key w c h1 h2 h3 h4 h5=>by rw [Afs k w key c h1 h2 h3 h4 h5];rfl)
  l [] k 0 0 1 0 (c++[i0 26]) (by simp only [Br];omega) (by omega) (by omega) (by omega) (by omega) (by omega) (by omega) (by omega) hF hg hd (by unfold mx;simp only [AV,AI,Br];omega) (fun h=>.inr h)
 refine hfin.trans ?_
 rw [Nat.zero_add,Nat.zero_add,show ∀ (z:Ins) (B:Cd),c++[z]++B=c++z :: B by simp,DW,Aj,JX,Aj,DW,Aj,JX,AV]
 rfl
theorem A7j {k d:Nat} (hk:500000≤k) (hB:Lo cx lo) (hE:EX (GE.at k) cx lo d) (hA:EA (GE.at k) cx lo d) (hC:CL (GE.at k) cx lo (d+1)) (hI:BI (GE.at k) cx lo d) (hT:TA (GE.at k) cx lo d):EX (GE.at (k+1)) cx lo (d+1):=fun c t hIs hg hd hb=>by
 have Bac:=hIs
 cases hIs with
 | atom h1 h2 =>
  rename_i kk n a t
  show Dk.g (GE.at k) k cx.cs c cx.gl lo kk t n a []=_
  have hc:c.length≤mx:=by omega
  unfold Dk.g
  obtain rfl | rfl | rfl | rfl | rfl | rfl:kk=1∨kk=2∨kk=3∨kk=4∨kk=5∨kk=6:=by omega
  ·show (BA.f k c 3 []).bind _=_
   rw [add0 _ _ _ hc];rfl
  ·show (BA.f k c 4 []).bind _=_
   rw [add0 _ _ _ hc];rfl
  ·show (BA.f k c 5 []).bind _=_
   rw [add0 _ _ _ hc];rfl
  ·show (LB.f k cx.cs c 2 n _).bind _=_
   rw [Ako _ _ _ _ _ _ hB.cs hk hc];rfl
  ·show (LB.f k cx.cs c 3 0 t).bind _=_
   rw [Ako _ _ _ _ _ _ hB.cs hk hc];rfl
  ·simp only [Int.reduceBEq,cond_false,cond_true]
   rw [V8]
   unfold NY.f W5
   rw [Aj]
   show cond (decide (Mx lo t > 0)) ((BA.f k c 6 [Mx lo t]).bind _) _=_
   by_cases h:Mx lo t > 0
   ·rw [decide_eq_true h,if_pos h,cond_true,add1 _ _ _ _ hc];rfl
   ·rw [decide_eq_false h,if_neg h,cond_false,YF k _ _ hB.gl hk,Aj,add1 _ _ _ _ hc];rfl
 | index h1 h2 =>
  rename_i n a t x y
  show Dk.g (GE.at k) k cx.cs c cx.gl lo 7 t n a [x,y]=_
  have hc:c.length≤mx:=by omega
  obtain ⟨_,gx,gy,_⟩:=hg
  have hsx:x.text.size≤30000:=by cases x;exact gx.1.1
  have hsy:y.text.size≤30000:=by cases y;exact gy.1.1
  unfold Dk.g
  simp only [Int.reduceBEq,cond_false,cond_true]
  rw [ix0,Aj,V9]
  have hq:(cond (x.kind == (6:Int)) (cond (x.text.toList == (⟨#[116,97,98,108,101]⟩:ByteArray).toList) (some true) (some (x.text.toList == (⟨#[117,116,102,56]⟩:ByteArray).toList))) (some false):Option Bool)=some (x.kind == 6 && Jg x.text):=by
   unfold Jg
   cases x.kind == 6 with
   | false=>rfl
   | true=>cases x.text.toList == Yd.toList <;> rfl
  rw [hq,Aj,show BN [x,y] 0=x from rfl,show BN [x,y] 1=y from rfl]
  by_cases h:x.kind=6∧Jg x.text=true
  ·rw [if_pos h,h.2,eqC h.1]
   show (KF x.text SC).bind _=_
   rw [Q9 (by show x.text.size+1≤_;omega),Aj,Tv,Aj,Q9 (by rw [ByteArray.size_append];show x.text.size+1+_≤_;omega),Aj,As6 k (by omega),Aj,add1 _ _ _ _ hc]
   rfl
  ·have:(x.kind == 6 && Jg x.text)=false:=by
    rw [Bool.eq_false_iff];intro h';exact h (by simpa using h')
   rw [if_neg h,this,cond_false]
   have hes:E8 [x,y]:=fun u hu=>by
    rcases List.mem_cons.1 hu with rfl | hu
    ·exact h1
    ·obtain rfl:=F7.1 hu;exact h2
   simp only [sz] at hd hb
   have e1:=JK (f:=AL cx lo d 1) (l:=[x,y]) (p:=c.length) fun p u hu=>E1 d 1 p u (hes u hu)
   rw [hA c [x,y] hes ⟨gx,gy,trivial⟩ (by omega) (by omega),Aj,add0 _ _ _ (by rw [AV];omega),Aj,Ck]
 | call h1 h2 =>
  rename_i n a t x l
  show Dk.g (GE.at k) k cx.cs c cx.gl lo 8 t n a (x :: l)=_
  unfold Dk.g
  show ((GE.at k).ET cx.cs c cx.gl lo 8 t n a (x :: l) 1).bind _=_
  rw [show (GE.at k).ET cx.cs c cx.gl lo 8 t n a (x :: l) 1=_ from hC 1 c _ Bac rfl hg hd hb]
  rfl
 | paren h1 =>
  rename_i n a t x
  simp only [sz,Au] at hd hb
  show Dk.g (GE.at k) k cx.cs c cx.gl lo 9 t n a [x]=_
  unfold Dk.g
  simp only [Int.reduceBEq,cond_false,cond_true]
  rw [ix0,Aj,hE c x h1 hg.2.1 (by omega) (by omega)]
  rfl
 | unary h1 =>
  rename_i n a t x
  simp only [sz,Au] at hd hb
  have e0:=E1 (cx:=cx) (lo:=lo) d 1 c.length x h1
  show Dk.g (GE.at k) k cx.cs c cx.gl lo 10 t n a [x]=_
  unfold Dk.g
  simp only [Int.reduceBEq,cond_false,cond_true]
  rw [ix0,Aj,hE c x h1 hg.2.1 (by omega) (by omega),Aj,Aaa k _ t (by decide) (by show 4 < k;omega),Aj,add1 _ _ _ _ (by rw [AV];omega),Aj,V7,Ck]
  rfl
 | binary h1 h2 =>
  rename_i n a t x y
  simp only [sz,Au] at hd hb
  show Dk.g (GE.at k) k cx.cs c cx.gl lo 11 t n a [x,y]=_
  unfold Dk.g
  show ((GE.at k).Ij cx.cs c cx.gl lo 11 t n a [x,y]).bind _=_
  rw [hI c t n a x y h1 h2 hg.2.1 hg.2.2.1 (by omega) (by omega)]
  rfl
 | table h1 =>
  rename_i n a t l
  simp only [sz,Au] at hd hb
  show Dk.g (GE.at k) k cx.cs c cx.gl lo 12 t n a l=_
  unfold Dk.g
  show ((GE.at k).FP cx.cs c cx.gl lo l).bind _=_
  rw [hT c l h1 hg.2 (by omega) (by omega)]
  rfl
theorem OT (hB:Lo cx lo):∀ (d k:Nat),500004+4 * d≤k→EX (GE.at k) cx lo d∧CL (GE.at (k - 1)) cx lo d
 | 0,k,_=>⟨fun _ t _ _ h=>by have:=G5 t;omega,fun _ _ t _ _ _ h=>by have:=G5 t;omega⟩
 | d+1,k,hk=>by
  have Tt:∀ j,500004+4 * d≤j→EX (GE.at j) cx lo d:=fun j hj=>(OT hB d j hj).1
  have ihC:∀ j,500003+4 * d≤j→CL (GE.at j) cx lo d:=fun j hj=>(OT hB d (j+1) (by omega)).2
  obtain ⟨j,rfl⟩:∃ j,k=j+4:=⟨k - 4,by omega⟩
  have hA:∀ i,500005+4 * d≤i→EA (GE.at i) cx lo d:=fun i hi=>by
   obtain ⟨i,rfl⟩:∃ m,i=m+1:=⟨i - 1,by omega⟩
   exact Y6 (by omega) (Tt i (by omega))
  have hC:CL (GE.at (j+3)) cx lo (d+1):=A3x (Tt _ (by omega)) (Aup (hA _ (by omega)) (ihC _ (by omega)))
  exact ⟨A7j (by omega) hB (Tt _ (by omega)) (hA _ (by omega)) hC (A2x (by omega) (Tt _ (by omega))) (Bup (by omega) (Tt _ (by omega)) (hA _ (by omega)) (ihC _ (by omega))),hC⟩
end
abbrev Hx:=List (Option Ins)
def BY (e:Int) (X:Hx):Cd:=X.map fun o=>o.getD (18,e,0,0)
def Dy (c:Cd):Hx:=c.map some
def holes:Nat→Hx→List Int
 | _,[]=>[]
 | p,none :: X=>(p:Int) :: holes (p+1) X
 | p,some _ :: X=>holes (p+1) X
theorem NV {e:Int} {X Y:Hx}:BY e (X++Y)=BY e X++BY e Y:=List.map_append ..
theorem GC {e:Int} {X:Hx}:(BY e X).length=X.length:=List.length_map ..
theorem OU {e:Int}:∀ {c:Cd},BY e (Dy c)=c
 | []=>rfl
 | x :: c=>congrArg (x :: ·) (OU (c:=c))
theorem JU {c:Cd}:(Dy c).length=c.length:=List.length_map ..
theorem ID:∀ {X Y:Hx} {p:Nat},holes p (X++Y)=holes p X++holes (p+X.length) Y
 | [],Y,p=>rfl
 | none :: X,Y,p=>by
  show (p:Int) :: holes (p+1) (X++Y)=_
  rw [ID (X:=X),AI,Nat.add_assoc,Nat.add_comm 1];rfl
 | some _ :: X,Y,p=>by
  show holes (p+1) (X++Y)=_
  rw [ID (X:=X),AI,Nat.add_assoc,Nat.add_comm 1];rfl
theorem Jq:∀ {c:Cd} {p:Nat},holes p (Dy c)=[]
 | [],_=>rfl
 | x :: c,p=>Jq (c:=c) (p:=p+1)
theorem RF {β:Type} (g:Nat→List Int→Int→Cd→Option β) (J:Cd→Option β)
  (hg:∀ m hs x c,g (m+1) hs x c=cond (decide (x < ((hs.length:Nat):Int))) ((Bh hs x).bind fun i=>(EU.f m c).bind fun r=>(Bh c i).bind fun z=>(EW c i (z.1,r,z.2.2.1,z.2.2.2)).bind fun l=>g m hs (IntKind.i64.wrap (x+1)) l) (J c)) (e:Nat) (T:Cd) :
  ∀ (X:Hx) (pre:List Int) (A:Cd) (m:Nat),pre.length+X.length≤2000000→X.length < m→e=A.length+X.length+T.length →
   g m (pre++holes A.length X) (pre.length:Int) (A++BY 0 X++T)=J (A++BY (e:Int) X++T)
 | [],pre,A,m,hl,hm,he=>by
  obtain ⟨m,rfl⟩:∃ m',m=m'+1:=⟨m - 1,by omega⟩
  rw [hg,ltF (by simp [holes]),cond_false]
  rfl
 | some i :: X,pre,A,m,hl,hm,he=>by
  rw [AI] at hl hm he
  have ih:=RF g J hg e T X pre (A++[i]) m (by omega) (by omega) (by rw [AV];simp only [AI,Br];omega)
  rw [AV] at ih
  simp only [Ck,List.cons_append,List.nil_append] at ih
  simpa [BY,holes] using ih
 | none :: X,pre,A,m,hl,hm,he=>by
  obtain ⟨m,rfl⟩:∃ m',m=m'+1:=⟨m - 1,by omega⟩
  rw [AI] at hl hm he
  rw [hg]
  show cond (decide ((pre.length:Int) < (((pre++(A.length:Int) :: holes (A.length+1) X).length:Nat):Int))) ((Bh (pre++(A.length:Int) :: holes (A.length+1) X) (pre.length:Int)).bind fun i=>_) _=_
  rw [Ir (by simp;omega),cond_true,DW,Aj]
  unfold EU.f
  rw [Aj,show A++BY 0 (none :: X)++T=A++(18,0,0,0) :: (BY 0 X++T) by simp [BY],DW,Aj,JX,Aj,wiC _ (by omega) (by omega)]
  have ih:=RF g J hg e T X (pre++[(A.length:Int)]) (A++[(18,(e:Int),0,0)]) m (by simp;omega) (by omega) (by rw [AV];simp only [AI,Br];omega)
  have eA:(A++[((18:Int),(e:Int),(0:Int),(0:Int))]).length=A.length+1:=by simp
  rw [eA,show (pre++[(A.length:Int)])++holes (A.length+1) X=pre++(A.length:Int) :: holes (A.length+1) X by simp,show ((pre++[(A.length:Int)]).length:Int)=(pre.length:Int)+1 by simp] at ih
  rw [show ((A++(18,0,0,0) :: (BY 0 X++T)).length:Int)=(e:Int) by simp only [AV,AI,GC];omega]
  have e1:∀ Z:Cd,A++[(18,(e:Int),0,0)]++Z++T=A++(18,(e:Int),0,0) :: (Z++T):=fun Z=>by simp
  rw [e1,e1] at ih
  refine ih.trans ?_
  rw [show A++BY (e:Int) (none :: X)++T=A++(18,(e:Int),0,0) :: (BY e X++T) by simp [BY]]
def GN (bs:List (List Int)) (h:List Int):List (List Int):=match bs.getLast? with | none=>bs | some b=>bs.dropLast++[b++h]
theorem Mo {m:List (List Int)} {b h:List Int}:GN (m++[b]) h=m++[b++h]:=by simp [GN]
theorem Vx {bs:List (List Int)}:GN bs []=bs:=by
 rcases Ou bs with rfl | ⟨m,x,rfl⟩
 ·rfl
 ·rw [Mo,List.append_nil]
theorem Ys {bs:List (List Int)} {h h':List Int}:GN (GN bs h) h'=GN bs (h++h'):=by
 rcases Ou bs with rfl | ⟨m,x,rfl⟩
 ·rfl
 ·rw [Mo,Mo,Mo,Ck]
theorem A3q {bs:List (List Int)} {h:List Int} (hb:bs≠[]):GN bs h≠[]:=by
 rcases Ou bs with rfl | ⟨m,x,rfl⟩
 ·exact absurd rfl hb
 ·rw [Mo];simp
def K6:Nat→Bs→Int→Int→Int
 | 0,_,_,x=>x
 | f+1,l,r,x=>if l=[] then x else if r≤0 then x else K6 f (l.drop (Cl l).2) (r - (Cl l).2) (if (Cl l).1=10 then x+1 else x)
def EJ (src:ByteArray) (at_:Int):Int:=if at_ < 0∨at_ > (src.size:Int) then 0 else K6 (src.size+1) (bs src) at_ 1
theorem Ad4 (src:ByteArray) (hs:src.size≤400000) (at_:Int) (J:Int→Int→Option (Int×Int×Int)):∀ (f p m:Nat) (x y:Int),src.size - p < f→src.size - p < m→0≤x→x≤p+1→0≤y→y≤p+1→p≤src.size →
  ∃ y',Jk.l0 m src at_ J x y p=J (K6 f ((bs src).drop p) (at_ - p) x) y'
 | 0,p,m,x,y,hf,hm,_,_,_,_,_=>by omega
 | f+1,p,m,x,y,hf,hm,hx,hx1,hy,hy1,hp=>by
  obtain ⟨m,rfl⟩:∃ m',m=m'+1:=⟨m - 1,by omega⟩
  simp only [Jk.l0]
  by_cases hlt:p < src.size
  ·rw [decide_eq_true hlt,cond_true]
   have hne:(bs src).drop p≠[]:=fun h=>by
    have:=congrArg List.length h
    rw [BX,Br,C_] at this
    omega
   unfold K6
   rw [if_neg hne]
   by_cases hge:((p:Nat):Int) ≥ at_
   ·rw [decide_eq_true hge,cond_true,if_pos (by omega)]
    exact ⟨y,rfl⟩
   ·rw [decide_eq_false hge,cond_false,if_neg (by omega)]
    have hw:=JI ((bs src).drop p)
    have hle:=hw.2.2 hne
    rw [BX,C_] at hle
    have e1:PX src p=p+(Cl ((bs src).drop p)).2:=by unfold PX;rw [decode_eq]
    have e2:Xi src p=(((Cl ((bs src).drop p)).1:Nat):Int):=by unfold Xi;rw [decode_eq]
    rw [e1,e2,List.drop_drop,show at_ - (p:Int) - ((Cl ((bs src).drop p)).2:Nat)=at_ - ((p+(Cl ((bs src).drop p)).2:Nat):Int) by omega]
    by_cases h10:(Cl ((bs src).drop p)).1=10
    ·rw [if_pos h10,h10,wiC (x+1) (by omega) (by omega)]
     exact Ad4 src hs at_ J f _ m (x+1) 1 (by omega) (by omega) (by omega) (by omega) (by omega) (by omega) (by omega)
    ·rw [if_neg h10,DK (by omega:(((Cl ((bs src).drop p)).1:Nat):Int)≠10),cond_false,wiC (y+1) (by omega) (by omega)]
     exact Ad4 src hs at_ J f _ m x (y+1) (by omega) (by omega) (by omega) (by omega) (by omega) (by omega) (by omega)
  ·rw [decide_eq_false hlt,cond_false]
   have:(bs src).drop p=[]:=List.drop_of_length_le (by rw [C_];omega)
   unfold K6
   rw [this,if_pos rfl]
   exact ⟨y,rfl⟩
theorem Au6 (k:Nat) (src:ByteArray) (at_:Int) (hs:src.size≤400000) (hk:500000≤k):∃ y z,Jk.f k src at_=some (EJ src at_,y,z):=by
 unfold Jk.f EJ BG
 by_cases h0:at_ < 0
 ·rw [decide_eq_true h0,cond_true,if_pos (.inl h0)]
  exact ⟨_,_,rfl⟩
 ·rw [decide_eq_false h0,cond_false,Aj]
  by_cases h1:at_ > (src.size:Int)
  ·rw [decide_eq_true h1,cond_true,if_pos (.inr h1)]
   exact ⟨_,_,rfl⟩
  ·rw [decide_eq_false h1,cond_false,if_neg (by omega)]
   obtain ⟨y,hy⟩:=Ad4 src hs at_ (fun x3 x4=>some (x3,x4,(0:Int))) (src.size+1) 0 k 1 1 (by omega) (by omega) (by omega) (by omega) (by omega) (by omega) (by omega)
   rw [List.drop_zero,show at_ - ((0:Nat):Int)=at_ by omega] at hy
   exact ⟨y,0,hy⟩
section
variable (cx:GCx)
def FK (f:Int→Nat→Tree→Cd) (p:Nat) (l:List Tree) (n:Nat):Cd :=
 if l.length=n then CP (f 1) p l else if l=[] then List.replicate n (i0 3) else i0 22 :: (Jy f (p+1) l++[i1 23 (n:Int)])
def MD (there:Nat):Nat→Cd
 | 0=>[]
 | i+1=>i1 7 ((there+(i+1):Nat):Int) :: MD there i
def I1 (f:Nat→List Tree→Cd):Nat→List Tree→Cd
 | _,[]=>[]
 | p,x :: l=>if x.kind=7 then f p x.kids++I1 f (p+(f p x.kids).length) l else I1 f p l
def Hz:List Tree→Nat
 | []=>0
 | x :: l=>if x.kind=7 then 2+Hz l else Hz l
def Oj (lo:List ByteArray) (t:ByteArray):Ins:=if Mx lo t > 0 then i1 7 (Mx lo t) else i1 9 (glN cx.gl t)
def LZ (lo:List ByteArray) (n:Nat):List Tree→Cd
 | []=>[]
 | x :: l=>if x.kind=7 then i2 13 ((n+Hz l:Nat):Int) (l.length:Nat) :: LZ lo n l else i1 14 (l.length:Nat) :: Oj cx lo x.text :: LZ lo n l
def OG (lo:List ByteArray) (f:Int→Nat→Tree→Cd) (p:Nat) (l m:List Tree):Cd :=
 I1 (CP (f 1)) p l++(FK f (p+(I1 (CP (f 1)) p l).length) m l.length++(LZ cx lo l.length l++[i1 15 ((l.length+Hz l:Nat):Int)]))
def Uy (f:Int→Nat→Tree→Cd) (p:Nat) (l:List Tree):Cd:=i0 22 :: (Jy f (p+1) l++[i0 25])
abbrev SG:=List ByteArray→Nat→Tree→Hx×List ByteArray
def FZ (f:SG):List ByteArray→Nat→List Tree→Hx
 | _,_,[]=>[]
 | lo,p,x :: l=>some (i1 1 (EJ cx.src x.at_)) :: ((f lo (p+1) x).1++FZ f (f lo (p+1) x).2 (p+1+(f lo (p+1) x).1.length) l)
def Jw (X:Hx) (back:Ins) (p:Nat):Cd:=BY ((p+X.length+1:Nat):Int) X++[back]
def brX (e:Nat→Tree→Cd) (b:Nat→Tree→Hx):Nat→List Tree→List (Option (Option Ins))
 | _,[]=>[]
 | p,[x]=>(b p x).map some
 | p,x :: y :: l =>
  let E:=e p x
  let B:=b (p+E.length+1) y
  let m:Nat:=if l.isEmpty then 0 else 1
  E.map (fun i=>some (some i))++some (some (i1 19 ((p+E.length+1+B.length+m:Nat):Int))) :: (B.map some++(if l.isEmpty then [] else [none])++brX e b (p+E.length+1+B.length+m) l)
def ifH (e:Nat→Tree→Cd) (b:Nat→Tree→Hx) (p:Nat) (l:List Tree):Hx:=(brX e b p l).map fun o=>o.getD (some (i1 18 ((p+(brX e b p l).length:Nat):Int)))
def FH (lo:List ByteArray) (l:List Tree):List ByteArray:=lo++List.replicate 3 ⟨#[]⟩++l.map (·.text)
def BZ:Nat→SG
 | 0,lo,_,_=>([],lo)
 | d+1,lo,p,.mk k t n a l =>
  let f:=AL cx lo d
  let B:=fun lo p (x:Tree)=>FZ cx (BZ d) lo p x.kids
  if k=21 then (Dy (FK f p (l.drop n.toNat) n.toNat++MD lo.length n.toNat),lo++(l.take n.toNat).map (·.text))
  else if k=22 then (Dy (OG cx lo f p (l.take n.toNat) (l.drop n.toNat)),lo)
  else if k=23 then (Dy (f 0 p (BN l 0)),lo)
  else if k=24 then (ifH (f 1) (B lo) p l,lo)
  else if k=25 then
   let E:=f 1 p (BN l 0)
   let L:=Jw (B lo (p+E.length+2) (BN l 1)) (i1 18 p) (p+E.length+2)
   (Dy (E++i1 19 ((p+E.length+2+L.length:Nat):Int) :: i0 34 :: L),lo)
  else if k=26 then
   let m:=l.length - 2
   let E:=CP (f 1) p ((l.drop 1).take m)
   let L:=Jw (B (FH lo (l.take 1)) (p+E.length+1) (BN l (m+1))) (i2 31 ((lo.length+1:Nat):Int) ((p+E.length+1:Nat):Int)) (p+E.length+1)
   (Dy (E++i3 30 ((lo.length+1:Nat):Int) ((p+E.length+1+L.length:Nat):Int) ((m:Nat) - 2:Int) :: L),lo)
  else if k=27 then
   let s:Int:=((lo.length+1:Nat):Int)
   let E:=FK f p ((l.drop n.toNat).take (l.length - 1 - n.toNat)) 3
   let q:=p+E.length
   let L:=Jw (B (FH lo (l.take n.toNat)) (q+7) (BN l (l.length - 1))) (i1 18 ((q+1:Nat):Int)) (q+7)
   (Dy (E++i1 32 s :: i1 6 s :: i0 22 :: i1 6 (s+1) :: i1 6 (s+2) :: i1 24 n :: i3 33 s ((q+7+L.length:Nat):Int) n :: L),lo)
  else if k=28 then (B lo p (BN l 0),lo)
  else if k=29 then ([none],lo)
  else if k=30 then (Dy (Uy f p l),lo)
  else ([],lo)
end
section
variable {cx:GCx}
abbrev CE (cx:GCx) (d:Nat) (lo:List ByteArray) (p:Nat) (x:Tree):Hx:=FZ cx (BZ cx d) lo p x.kids
def X4 (E:Cd) (X:Hx) (p:Nat):Cd:=E++i1 19 ((p+E.length+2+(X.length+1):Nat):Int) :: i0 34 :: Jw X (i1 18 p) (p+E.length+2)
def VE (E:Cd) (X:Hx) (s m:Nat) (p:Nat):Cd :=
 E++i3 30 (s:Int) ((p+E.length+1+(X.length+1):Nat):Int) ((m:Int) - 2) :: Jw X (i2 31 (s:Int) ((p+E.length+1:Nat):Int)) (p+E.length+1)
def inG (E:Cd) (X:Hx) (s:Nat) (n:Int) (p:Nat):Cd :=
 E++i1 32 (s:Int) :: i1 6 (s:Int) :: i0 22 :: i1 6 ((s:Int)+1) :: i1 6 ((s:Int)+2) :: i1 24 n :: i3 33 (s:Int) ((p+E.length+7+(X.length+1):Nat):Int) n :: Jw X (i1 18 ((p+E.length+1:Nat):Int)) (p+E.length+7)
theorem N0 {X:Hx} {i:Ins} {p:Nat}:(Jw X i p).length=X.length+1:=by simp [Jw,GC]
variable {d:Nat} {lo:List ByteArray} {p:Nat} {n a:Int} {t:ByteArray}
theorem RU {l m:List Tree}:BZ cx (d+1) lo p (.mk 21 t (l.length:Nat) a (l++m))=(Dy (FK (AL cx lo d) p m l.length++MD lo.length l.length),lo++l.map (·.text)):=by
 simp only [BZ,if_true,Int.toNat_natCast,List.drop_left,List.take_left]
theorem RQ {l m:List Tree}:BZ cx (d+1) lo p (.mk 22 t (l.length:Nat) a (l++m))=(Dy (OG cx lo (AL cx lo d) p l m),lo):=by
 simp only [BZ,Int.reduceEq,if_false,if_true,Int.toNat_natCast,List.drop_left,List.take_left]
theorem RW {x:Tree}:BZ cx (d+1) lo p (.mk 23 t n a [x])=(Dy (AL cx lo d 0 p x),lo):=by
 simp only [BZ,Int.reduceEq,if_false,if_true];rfl
theorem Qf {l:List Tree}:BZ cx (d+1) lo p (.mk 24 t n a l)=(ifH (AL cx lo d 1) (CE cx d lo) p l,lo):=by
 simp only [BZ,Int.reduceEq,if_false,if_true]
theorem RX {x b:Tree}:BZ cx (d+1) lo p (.mk 25 t n a [x,b])=(Dy (X4 (AL cx lo d 1 p x) (CE cx d lo (p+(AL cx lo d 1 p x).length+2) b) p),lo):=by
 simp only [BZ,Int.reduceEq,if_false,if_true,N0];rfl
theorem RS {x b:Tree} {l:List Tree}:BZ cx (d+1) lo p (.mk 26 t n a (x :: l++[b]))=(Dy (VE (CP (AL cx lo d 1) p l) (CE cx d (FH lo [x]) (p+(CP (AL cx lo d 1) p l).length+1) b) (lo.length+1) l.length p),lo):=by
 have e1:(x :: l++[b]).length - 2=l.length:=by simp
 have e2:((x :: l++[b]).drop 1).take l.length=l:=by simp
 have e3:BN (x :: l++[b]) (l.length+1)=b:=by simp [BN]
 have e4:(x :: l++[b]).take 1=[x]:=rfl
 simp only [BZ,Int.reduceEq,if_false,if_true,e1,e2,e3,e4,N0];rfl
theorem RT {b:Tree} {l m:List Tree}:BZ cx (d+1) lo p (.mk 27 t (l.length:Nat) a (l++m++[b]))=(Dy (inG (FK (AL cx lo d) p m 3) (CE cx d (FH lo l) (p+(FK (AL cx lo d) p m 3).length+7) b) (lo.length+1) (l.length:Nat) p),lo):=by
 have e1:(l++m++[b]).length - 1 - l.length=m.length:=by simp
 have e2:((l++m++[b]).drop l.length).take m.length=m:=by simp
 have e3:BN (l++m++[b]) ((l++m++[b]).length - 1)=b:=by simp [BN]
 have e4:(l++m++[b]).take l.length=l:=by simp
 simp only [BZ,Int.reduceEq,if_false,if_true,Int.toNat_natCast,e1,e2,e3,e4,N0];rfl
theorem Qe {b:Tree}:BZ cx (d+1) lo p (.mk 28 t n a [b])=(CE cx d lo p b,lo):=by
 simp only [BZ,Int.reduceEq,if_false,if_true];rfl
theorem RR {l:List Tree}:BZ cx (d+1) lo p (.mk 29 t n a l)=([none],lo):=by
 simp only [BZ,Int.reduceEq,if_false,if_true]
theorem RV {l:List Tree}:BZ cx (d+1) lo p (.mk 30 t n a l)=(Dy (Uy (AL cx lo d) p l),lo):=by
 simp only [BZ,Int.reduceEq,if_false,if_true]
theorem Qj {l:List Tree} {n:Nat} (h:E8 l):(FK (AL cx lo d) p l n).length≤4 * Au l+n+2:=by
 unfold FK
 split
 ·have:=JK (f:=AL cx lo d 1) (l:=l) (p:=p) fun p y hy=>E1 d 1 p y (h y hy)
  omega
 split
 ·rw [List.length_replicate];omega
 ·have:=PI (f:=AL cx lo d) (l:=l) (p:=p+1) fun r p y hy=>E1 d r p y (h y hy)
  simp only [AI,AV,Br]
  omega
theorem Awu {m:Nat}:∀ {i:Nat},(MD m i).length=i
 | 0=>rfl
 | i+1=>by simp only [MD,AI,Awu (i:=i)]
theorem Bh7 {t:Tree} (h:IsE t) (hk:t.kind=7):∃ tx n a x y,t=.mk 7 tx n a [x,y]∧IsE x∧IsE y:=by
 cases h with
 | index h1 h2=>exact ⟨_,_,_,_,_,rfl,h1,h2⟩
 | _=>simp only [Tree.kind] at hk;omega
theorem Z_ {t:Tree} (h:IsE t) (hk:t.kind=7):E8 t.kids∧Au t.kids+1=sz t:=by
 obtain ⟨tx,n,a,x,y,rfl,hx,hy⟩:=Bh7 h hk
 refine ⟨fun u hu=>?_,by simp only [Tree.kids,sz]⟩
 rcases List.mem_cons.1 hu with rfl | hu
 ·exact hx
 ·obtain rfl:=F7.1 hu;exact hy
theorem Xw:∀ {l:List Tree} {p:Nat},E8 l→(I1 (CP (AL cx lo d 1)) p l).length+4 * l.length≤4 * Au l
 | [],_,_=>Nat.le_refl _
 | x :: l,p,h=>by
  have ih:=fun p=>Xw (l:=l) (p:=p) fun y hy=>h y (Db _ hy)
  unfold I1
  split
  ·rename_i h7
   have hk:=Z_ (h x (CB ..)) h7
   have:=JK (f:=AL cx lo d 1) (l:=x.kids) (p:=p) fun p y hy=>E1 d 1 p y (hk.1 y hy)
   have:=ih (p+(CP (AL cx lo d 1) p x.kids).length)
   simp only [AV,AI,Au]
   omega
  ·have:=ih p
   have:=G5 x
   simp only [AI,Au]
   omega
theorem Af0:∀ (l:List Tree),Hz l≤2 * l.length
 | []=>Nat.le_refl _
 | x :: l=>by
  have:=Af0 l
  unfold Hz
  split <;> simp only [AI] <;> omega
theorem Aeb {n:Nat}:∀ (l:List Tree),(LZ cx lo n l).length≤2 * l.length
 | []=>Nat.le_refl _
 | x :: l=>by
  have:=Aeb (n:=n) l
  unfold LZ
  split <;> simp only [AI] <;> omega
theorem A1i {l m:List Tree} (hl:E8 l) (hm:E8 m):(OG cx lo (AL cx lo d) p l m).length+l.length≤4 * Au l+4 * Au m+3:=by
 have h1:=Xw (cx:=cx) (lo:=lo) (d:=d) (p:=p) hl
 have h2:=Qj (cx:=cx) (lo:=lo) (d:=d) (p:=p+(I1 (CP (AL cx lo d 1)) p l).length) (n:=l.length) hm
 have h3:=Aeb (cx:=cx) (lo:=lo) (n:=l.length) l
 unfold OG
 simp only [AV,AI,Br]
 omega
theorem Yh {f:SG}:∀ {l:List Tree} {lo:List ByteArray} {p:Nat},(∀ lo p x,x ∈ l→(f lo p x).1.length+1≤5 * sz x)→(FZ cx f lo p l).length≤5 * Au l
 | [],_,_,_=>Nat.zero_le _
 | x :: l,lo,p,h=>by
  have h1:=h lo (p+1) x (CB ..)
  have h2:=Yh (l:=l) (lo:=(f lo (p+1) x).2) (p:=p+1+(f lo (p+1) x).1.length) fun lo p y hy=>h lo p y (Db _ hy)
  simp only [FZ,AI,AV,Au]
  omega
theorem Ym {e:Nat→Tree→Cd} {b:Nat→Tree→Hx} (he:∀ p x,IsE x→(e p x).length≤4 * sz x):∀ {l:List Tree} {p:Nat},IsR l→(∀ p x,x ∈ l→E7 x→(b p x).length+5≤5 * sz x)→(brX e b p l).length≤5 * Au l
 | _,_,.nil,_=>Nat.zero_le _
 | _,p,.last hb,h=>by
  have:=h p _ (CB ..) hb
  simp only [brX,List.length_map,Au]
  omega
 | _,p,.more (e:=x) (b:=y) (l:=l) hx hy hr,h=>by
  have ih:=fun p=>Ym (b:=b) he (p:=p) hr fun p z hz=>h p z (Db _ (Db _ hz))
  have h1:=he p x hx
  have h2:=h (p+(e p x).length+1) y (Db _ (CB ..)) hy
  have h3:=ih (p+(e p x).length+1+(b (p+(e p x).length+1) y).length+if l.isEmpty then 0 else 1)
  have h4:(if l.isEmpty then [] else [none]:List (Option (Option Ins))).length≤1:=by split <;> simp
  simp only [brX,AV,AI,List.length_map,Au] at h3 ⊢
  omega
theorem VX {b:Tree} (h:E7 b):(∀ x ∈ b.kids,IsS x)∧sz b=Au b.kids+1∧b.kind=20:=by
 cases h with
 | block h=>exact ⟨h,by simp only [sz,Tree.kids],rfl⟩
theorem Qg:∀ (d:Nat) (lo:List ByteArray) (p:Nat) (t:Tree),IsS t→(BZ cx d lo p t).1.length+1≤5 * sz t
 | 0,_,_,t,_=>by have:=G5 t;show 0+1≤_;omega
 | d+1,lo,p,t,h=>by
  have hB:∀ lo p b,E7 b→(CE cx d lo p b).length+5≤5 * sz b:=fun lo p b hb=>by
   obtain ⟨h1,h2,_⟩:=VX hb
   have:=Yh (cx:=cx) (f:=BZ cx d) (l:=b.kids) (lo:=lo) (p:=p) fun lo p x hx=>Qg d lo p x (h1 x hx)
   show (FZ cx (BZ cx d) lo p b.kids).length+5≤_
   omega
  cases h with
  | loc hl hm =>
   rename_i a t l m
   rw [RU]
   have h1:=Qj (cx:=cx) (lo:=lo) (d:=d) (p:=p) (n:=l.length) hm
   have h2:=Em l
   simp only [JU,AV,Awu,sz,DB]
   omega
  | asg hl hx hm hy =>
   rename_i a t l m
   rw [RQ]
   have h1:=A1i (cx:=cx) (lo:=lo) (d:=d) (p:=p) (l:=l) (m:=m) (fun x h=>(hx x h).1) hy
   have h2:=Em l
   simp only [JU,sz,DB]
   omega
  | run hx h8 =>
   rename_i n a t x
   rw [RW]
   have h1:=E1 (cx:=cx) (lo:=lo) d 0 p x hx
   simp only [JU,sz,Au]
   omega
  | if_ hr =>
   rename_i n a t l
   rw [Qf]
   have h1:=Ym (e:=AL cx lo d 1) (b:=CE cx d lo) (fun p x hx=>E1 d 1 p x hx) (p:=p) hr fun p x _ hx=>hB lo p x hx
   simp only [ifH,List.length_map,sz]
   omega
  | while_ hx hb =>
   rename_i n a t x b
   rw [RX]
   have h1:=E1 (cx:=cx) (lo:=lo) d 1 p x hx
   have h2:=hB lo (p+(AL cx lo d 1 p x).length+2) b hb
   simp only [JU,X4,AV,AI,N0,sz,Au]
   omega
  | for_ hl hx hb =>
   rename_i n a t x b l
   rw [RS]
   have h1:=JK (f:=AL cx lo d 1) (l:=l) (p:=p) fun p y hy=>E1 d 1 p y (hx y hy)
   have h2:=hB (FH lo [x]) (p+(CP (AL cx lo d 1) p l).length+1) b hb
   simp only [JU,VE,AV,AI,N0,sz,Au,DB]
   omega
  | forIn hl hm hx hb =>
   rename_i a t b l m
   rw [RT]
   have h1:=Qj (cx:=cx) (lo:=lo) (d:=d) (p:=p) (n:=3) hx
   have h2:=hB (FH lo l) (p+(FK (AL cx lo d) p m 3).length+7) b hb
   have h3:=Em l
   have h4:=List.length_pos_iff.2 hl
   simp only [JU,inG,AV,AI,N0,sz,Au,DB]
   omega
  | do_ hb =>
   rename_i n a t b
   rw [Qe]
   have h2:=hB lo p b hb
   simp only [sz,Au]
   omega
  | break_ =>
   rw [RR]
   simp only [sz,Au,AI,Br]
   omega
  | ret hx =>
   rename_i n a t l
   rw [RV]
   have h1:=PI (f:=AL cx lo d) (l:=l) (p:=p+1) fun r p y hy=>E1 d r p y (hx y hy)
   simp only [JU,Uy,AV,AI,Br,sz]
   omega
end
section
variable {cx:GCx} {lo:List ByteArray} {d k:Nat}
theorem Alj (hB:Lo cx lo) (hk:500010+4 * d≤k) {c:Cd} {t:Tree} (hE:IsE t) (hg:gw t) (hd:sz t≤d) (hb:c.length+4 * sz t≤mx):Dk.f k cx.cs c cx.gl lo t.kind t.text t.n t.at_ t.kids=some (c++AL cx lo d 1 c.length t) :=
 (OT hB d (k+1) (by omega)).1 c t hE hg hd hb
theorem Y5 (hB:Lo cx lo) (hk:500010+4 * d≤k) {c:Cd} {l:List Tree} (hE:E8 l) (hg:EH l) (hd:Au l≤d) (hb:c.length+4 * Au l≤mx):DD.f k cx.cs c cx.gl lo l=some (c++CP (AL cx lo d 1) c.length l) :=
 Y6 (by omega) (OT hB d k (by omega)).1 c l hE hg hd hb
theorem Auo (hB:Lo cx lo) (hk:500010+4 * d≤k) {c:Cd} {l:List Tree} (hE:E8 l) (hg:EH l) (hd:Au l≤d) (hb:c.length+4 * Au l≤mx):FO.f k cx.cs c cx.gl lo l=some (c++Jy (AL cx lo d) c.length l):=by
 obtain ⟨j,rfl⟩:∃ j,k=j+1:=⟨k - 1,by omega⟩
 exact Aup (Y6 (by omega) (OT hB d j (by omega)).1) (OT hB d (j+2) (by omega)).2 c l hE hg hd hb
theorem A3w (hB:Lo cx lo) (hk:500010+4 * d≤k) (res:Int) {c:Cd} {t:Tree} (hE:IsE t) (h8:t.kind=8) (hg:gw t) (hd:sz t≤d) (hb:c.length+4 * sz t≤mx):ET.f k cx.cs c cx.gl lo t.kind t.text t.n t.at_ t.kids res=some (c++AL cx lo d res c.length t) :=
 (OT hB d (k+2) (by omega)).2 res c t hE h8 hg hd hb
theorem Atq (n:Nat) (hn:n≤400000):∀ (i m:Nat) (c:Cd),i≤n→n - i < m→c.length+(n - i)≤mx→Hl.l0 m (n:Int) (i:Int) c=some (c++List.replicate (n - i) (i0 3))
 | i,0,c,hi,hm,hb=>by omega
 | i,m+1,c,hi,hm,hb=>by
  simp only [Hl.l0]
  by_cases h:i < n
  ·rw [Ir (by omega),cond_true,add0 _ _ _ (by omega),Aj,wiC _ (by omega) (by omega)]
   have ih:=Atq n hn (i+1) m (c++[i0 3]) (by omega) (by omega) (by rw [AV];simp only [AI,Br];omega)
   refine (show _=_ from ih).trans ?_
   rw [show n - i=(n - (i+1))+1 by omega,List.replicate_succ,Ck]
   rfl
  ·rw [ltF (by omega),cond_false,show n - i=0 by omega]
   simp
theorem Agn (hB:Lo cx lo) (hk:500010+4 * d≤k) {c:Cd} {l:List Tree} {n:Nat} (hE:E8 l) (hg:EH l) (hd:Au l≤d) (hn:n≤400000) (hb:c.length+4 * Au l+n+3≤mx):Hl.f k cx.cs c cx.gl lo l (n:Int)=some (c++FK (AL cx lo d) c.length l n):=by
 have hs:=Em l
 unfold Hl.f FK
 by_cases h1:l.length=n
 ·rw [if_pos h1,eqC (by omega),cond_true,Y5 hB hk hE hg hd (by omega)]
  rfl
 ·rw [if_neg h1,DK (by omega),cond_false]
  by_cases h2:l=[]
  ·subst h2
   rw [if_pos rfl,eqC (by simp),cond_true]
   have:=Atq n hn 0 k c (by omega) (by omega) (by omega)
   exact this
  ·have:=List.length_pos_iff.2 h2
   rw [if_neg h2,DK (by omega),cond_false,add0 _ _ _ (by omega),Aj]
   have e1:=PI (f:=AL cx lo d) (l:=l) (p:=c.length+1) fun r p y hy=>E1 d r p y (hE y hy)
   have e2:(c++[i0 22]).length=c.length+1:=by simp
   rw [Auo hB hk hE hg hd (by rw [e2];omega),Aj,e2,add1 _ _ _ _ (by rw [AV,e2];omega),Aj]
   simp only [Ck,List.cons_append,List.nil_append]
theorem Awx (bs:List (List Int)) (nx:Int) (us:List (Option Dp)) (r:List ByteArray) (hl:lo.length≤400000):∀ (i m:Nat) (c:Cd),i < m→i≤400000→c.length+i≤mx →
  Dz.l0 m lo bs nx us r (i:Int) c=some (c++MD lo.length i,r,bs,nx,us)
 | i,0,c,hm,_,_=>by omega
 | 0,m+1,c,hm,_,hb=>by
  simp only [Dz.l0]
  rw [show decide (((0:Nat):Int) > 0)=false from rfl,cond_false]
  simp [MD]
 | i+1,m+1,c,hm,hi,hb=>by
  simp only [Dz.l0]
  rw [decide_eq_true (by omega),cond_true,wiC (((lo.length:Nat):Int)+_) (by omega) (by omega),add1 _ _ _ _ (by omega),Aj,wiC _ (by omega) (by omega),show ((i+1:Nat):Int) - 1=(i:Int) by omega]
  have ih:=Awx bs nx us r hl i m (c++[i1 7 (((lo.length:Nat):Int)+((i+1:Nat):Int))]) (by omega) (by omega) (by rw [AV];simp only [AI,Br];omega)
  refine (show _=_ from ih).trans ?_
  rw [Ck,show ((lo.length:Nat):Int)+((i+1:Nat):Int)=((lo.length+(i+1):Nat):Int) by omega]
  rfl
theorem Axx (hB:Lo cx lo) (J:Int→Cd→Option Cd):∀ (t pre:List Tree) (m z:Nat) (c:Cd),500010+4 * d+t.length≤m→pre.length+t.length≤400000→E8 t→EH t→Au t≤d→c.length+4 * Au t≤mx→z+2 * t.length≤1000000 →
  Gc.l1 m cx.cs cx.gl lo (pre++t) J (z:Int) (pre.length:Int) c=J ((z+Hz t:Nat):Int) (c++I1 (CP (AL cx lo d 1)) c.length t)
 | [],pre,m,z,c,hm,hl,hE,hg,hd,hb,hz=>by
  obtain ⟨m,rfl⟩:∃ m',m=m'+1:=⟨m - 1,by omega⟩
  simp only [Gc.l1]
  rw [ltF (by simp),cond_false]
  simp [I1,Hz]
 | x :: t,pre,m,z,c,hm,hl,hE,hg,hd,hb,hz=>by
  obtain ⟨m,rfl⟩:∃ m',m=m'+1:=⟨m - 1,by omega⟩
  simp only [AI] at hl hm hz
  simp only [Au] at hd hb
  have ih:=fun z c h1 h2=>Axx hB J t (pre++[x]) m z c (by omega) (by simp;omega) (fun y hy=>hE y (Db _ hy)) hg.2 (by omega) h1 h2
  rw [show (pre++[x])++t=pre++x :: t by simp,show ((pre++[x]).length:Int)=(pre.length:Int)+1 by simp] at ih
  simp only [Gc.l1]
  rw [Ir (by simp;omega),cond_true]
  dsimp only [BG]
  rw [DW,Aj,wiC ((pre.length:Int)+1) (by omega) (by omega)]
  unfold Hz I1
  by_cases h7:x.kind=7
  ·have hk:=Z_ (hE x (CB ..)) h7
   have hgx:EH x.kids:=by cases x;exact hg.1.2
   have e1:=JK (f:=AL cx lo d 1) (l:=x.kids) (p:=c.length) fun p y hy=>E1 d 1 p y (hk.1 y hy)
   rw [eqC h7,cond_true,Y5 (d:=d) hB (by omega) hk.1 hgx (by omega) (by omega),Aj,wiC _ (by omega) (by omega),if_pos h7,if_pos h7]
   refine (show _=_ from ih (z+2) _ (by rw [AV];omega) (by omega)).trans ?_
   rw [Ck,AV,Nat.add_assoc z 2]
  ·rw [DK h7,cond_false,if_neg h7,if_neg h7]
   exact ih z c (by omega) (by omega)
theorem Avd (hB:Lo cx lo) (N:Nat) (J:Cd→Option Cd):∀ (t pre:List Tree) (m:Nat) (c:Cd),500010+t.length≤m→pre.length+t.length=N→N≤400000→c.length+2 * t.length≤mx →
  Gc.l0 m cx.gl lo (pre++t) J (Hz t:Nat) (pre.length:Int) c=J (c++LZ cx lo N t)
 | [],pre,m,c,hm,hl,hN,hb=>by
  obtain ⟨m,rfl⟩:∃ m',m=m'+1:=⟨m - 1,by omega⟩
  simp only [Gc.l0]
  rw [ltF (by simp),cond_false]
  simp [LZ]
 | x :: t,pre,m,c,hm,hl,hN,hb=>by
  obtain ⟨m,rfl⟩:∃ m',m=m'+1:=⟨m - 1,by omega⟩
  simp only [AI] at hl hm hb
  have ih:=fun c h1=>Avd hB N J t (pre++[x]) m c (by omega) (by simp;omega) hN h1
  rw [show (pre++[x])++t=pre++x :: t by simp,show ((pre++[x]).length:Int)=(pre.length:Int)+1 by simp] at ih
  have ht:=Af0 t
  have eN:((pre++x :: t).length:Int)=(N:Int):=by rw [AV,AI];omega
  simp only [Gc.l0]
  rw [eN,Ir (by omega),cond_true]
  dsimp only [BG]
  rw [DW,Aj,wiC ((pre.length:Int)+1) (by omega) (by omega),wiC ((N:Int) - 1) (by omega) (by omega),wiC ((N:Int) - 1 - (pre.length:Int)) (by omega) (by omega),show (N:Int) - 1 - (pre.length:Int)=(t.length:Int) by omega]
  unfold Hz LZ
  by_cases h7:x.kind=7
  ·rw [eqC h7,cond_true,if_pos h7,if_pos h7,show ((2+Hz t:Nat):Int) - 2=(Hz t:Int) by omega,wiC (Hz t:Int) (by omega) (by omega),wiC ((N:Int)+(Hz t:Int)) (by omega) (by omega),XZ _ _ _ _ _ (by omega),Aj]
   refine (show _=_ from ih (c++[i2 13 ((N:Int)+(Hz t:Int)) (t.length:Int)]) (by rw [AV];simp only [AI,Br];omega)).trans ?_
   rw [Ck]
   rfl
  ·rw [DK h7,cond_false,if_neg h7,if_neg h7,add1 _ _ _ _ (by omega),Aj]
   have e2:∀ z:Ins,(c++[z]).length=c.length+1:=fun z=>by simp
   unfold NY.f Oj
   rw [Aj]
   have hq:∀ i:Ins,(c++[i1 14 (t.length:Int)]++[i]).length+2 * t.length≤mx:=fun i=>by rw [AV,e2];simp only [AI,Br];omega
   show cond (decide (Mx lo x.text > 0)) _ _=_
   by_cases h:Mx lo x.text > 0
   ·rw [decide_eq_true h,cond_true,if_pos h]
    show (BA.f m (c++[i1 14 (t.length:Int)]) 7 [Mx lo x.text]).bind _=_
    rw [add1 _ _ _ _ (by rw [e2];omega),Aj]
    refine (show _=_ from ih _ (hq _)).trans ?_
    simp only [Ck,List.cons_append,List.nil_append]
   ·rw [decide_eq_false h,cond_false,if_neg h,YF m _ _ hB.gl (by omega),Aj,add1 _ _ _ _ (by rw [e2];omega),Aj]
    refine (show _=_ from ih _ (hq _)).trans ?_
    simp only [Ck,List.cons_append,List.nil_append]
theorem A1h (hB:Lo cx lo) {l m:List Tree} (hk:500010+4 * d+l.length≤k) {c:Cd} (hl:E8 l) (hm:E8 m) (gl:EH l) (gm:EH m) (hd:Au l+Au m≤d) (hb:c.length+4 * Au l+4 * Au m+3 * l.length+5≤mx) (hn:l.length≤400000) :
  Gc.f k cx.cs c cx.gl lo l m=some (c++OG cx lo (AL cx lo d) c.length l m):=by
 unfold Gc.f
 dsimp only [BG]
 have ht:=Af0 l
 have h1:=Xw (cx:=cx) (lo:=lo) (d:=d) (p:=c.length) hl
 have h2:=Qj (cx:=cx) (lo:=lo) (d:=d) (p:=c.length+(I1 (CP (AL cx lo d 1)) c.length l).length) (n:=l.length) hm
 have h3:=Aeb (cx:=cx) (lo:=lo) (n:=l.length) l
 have e:=Axx (d:=d) hB (fun (x1:Int) (l2:Cd)=>(Hl.f k cx.cs l2 cx.gl lo m ((l.length:Nat):Int)).bind fun r8=>Gc.l0 k cx.gl lo l (fun (l13:Cd)=>(BA.f k l13 (15:Int) ([IntKind.i64.wrap (((l.length:Nat):Int)+x1)])).bind fun r20=>some (r20.2)) x1 (0:Int) r8) l [] k 0 c (by omega) (by simp only [Br];omega) hl gl (by omega) (by omega) (by omega)
 refine (show _=_ from e).trans ?_
 rw [Agn (d:=d) hB (by omega) hm gm (by omega) hn (by rw [AV];omega),Aj,Nat.zero_add,AV]
 have e2:=Avd hB l.length (fun (l13:Cd)=>(BA.f k l13 (15:Int) ([IntKind.i64.wrap (((l.length:Nat):Int)+(Hz l:Int))])).bind fun r20=>some (r20.2)) l [] k (c++I1 (CP (AL cx lo d 1)) c.length l++FK (AL cx lo d) (c.length+(I1 (CP (AL cx lo d 1)) c.length l).length) m l.length) (by omega) (by simp) hn (by simp only [AV];omega)
 refine (show _=_ from e2).trans ?_
 rw [wiC _ (by omega) (by omega),add1 _ _ _ _ (by simp only [AV];omega),Aj]
 unfold OG
 simp only [Ck]
 rfl
end
def bw (bs:List (List Int)):Nat:=bs.length+(bs.map List.length).sum
theorem Akj {bs:List (List Int)} {h:List Int}:bw (GN bs h)≤bw bs+h.length:=by
 rcases Ou bs with rfl | ⟨m,x,rfl⟩
 ·show 0+0≤_;omega
 ·rw [Mo]
  simp only [bw,AV,List.map_append,List.sum_append,List.map_cons,List.map_nil,List.sum_cons,List.sum_nil,AI,Br]
  omega
theorem V0 (bs:List (List Int)):bs.length≤bw bs:=by unfold bw;omega
theorem A3u {m:List (List Int)} {b:List Int}:b.length≤bw (m++[b]):=by
 simp only [bw,List.map_append,List.sum_append,List.map_cons,List.map_nil,List.sum_cons,List.sum_nil]
 omega
theorem Tf:∀ {X:Hx} {p:Nat},(holes p X).length≤X.length
 | [],_=>Nat.le_refl _
 | none :: X,p=>by have:=Tf (X:=X) (p:=p+1);simp only [holes,AI];omega
 | some _ :: X,p=>by have:=Tf (X:=X) (p:=p+1);simp only [holes,AI];omega
structure BdX (cx:GCx) (lo:List ByteArray) (c:Nat) (bs:List (List Int)) (n:Nat):Prop where
 cs:cx.cs.length≤400000
 gl:cx.gl.length≤400000
 src:cx.src.size≤400000
 lo:lo.length+4 * n≤400000
 c:c+5 * n≤450000
 bs:bw bs+5 * n≤2000000
theorem BdX.b {cx:GCx} {lo:List ByteArray} {c:Nat} {bs:List (List Int)} {n:Nat} (h:BdX cx lo c bs n):Lo cx lo:=⟨h.cs,h.gl,by have:=h.lo;omega⟩
theorem BdX.to {cx:GCx} {lo lo':Ae} {c c':Nat} {bs bs':TyL} {n n':Nat} (h:BdX cx lo c bs n) (h1:lo'.length+4 * n'≤lo.length+4 * n) (h2:c'+5 * n'≤c+5 * n) (h3:bw bs'+5 * n'≤bw bs+5 * n):BdX cx lo' c' bs' n' :=
 ⟨h.cs,h.gl,h.src,by have:=h.lo;omega,by have:=h.c;omega,by have:=h.bs;omega⟩
abbrev NO:=Option (Cd×List ByteArray×List (List Int)×Int×List (Option Dp))
def ST (R:GS) (cx:GCx) (d:Nat):Prop:=∀ (lo:Ae) (c:Cd) (bs:TyL) (nx:Int) (us:List (Option Dp)) (t:Tree),IsS t→gw t→sz t≤d→BdX cx lo (c.length - 1) bs (sz t)→(bs≠[]∨holes c.length (BZ cx d lo c.length t).1=[]) →
 R.Dz cx.cs c cx.src cx.gl lo bs nx us t.kind t.text t.n t.at_ t.kids=some (c++BY 0 (BZ cx d lo c.length t).1,(BZ cx d lo c.length t).2,GN bs (holes c.length (BZ cx d lo c.length t).1),nx,us)
def BK (R:GS) (cx:GCx) (d:Nat):Prop:=∀ (lo:Ae) (c:Cd) (bs:TyL) (nx:Int) (us:List (Option Dp)) (b:Tree),E7 b→gw b→sz b≤d+1→BdX cx lo c.length bs (sz b - 1)→(bs≠[]∨holes c.length (CE cx d lo c.length b)=[]) →
 R.D4 cx.cs c cx.src cx.gl lo bs nx us b.kind b.text b.n b.at_ b.kids=some (c++BY 0 (CE cx d lo c.length b),lo,GN bs (holes c.length (CE cx d lo c.length b)),nx,us)
section
variable {cx:GCx} {d k:Nat}
theorem Aw8:∀ (d:Nat) (lo:List ByteArray) (p:Nat) (t:Tree),IsS t→lo <+: (BZ cx d lo p t).2∧(BZ cx d lo p t).2.length≤lo.length+sz t
 | 0,lo,p,t,_=>⟨List.prefix_refl _,Nat.le_add_right _ _⟩
 | d+1,lo,p,t,h=>by
  have same:∀ l:List ByteArray,lo=l→lo <+: l∧l.length≤lo.length+sz t:=fun l h=>by subst h;exact ⟨List.prefix_refl _,Nat.le_add_right _ _⟩
  cases h with
  | loc hl hm =>
   rename_i a t l m
   rw [RU]
   have h2:=Em l
   refine ⟨⟨_,rfl⟩,?_⟩
   simp only [AV,List.length_map,sz,DB]
   omega
  | asg=>rw [RQ];exact same _ rfl
  | run=>rw [RW];exact same _ rfl
  | if_=>rw [Qf];exact same _ rfl
  | while_=>rw [RX];exact same _ rfl
  | for_=>rw [RS];exact same _ rfl
  | forIn=>rw [RT];exact same _ rfl
  | do_=>rw [Qe];exact same _ rfl
  | break_=>rw [RR];exact same _ rfl
  | ret=>rw [RV];exact same _ rfl
theorem Abu {bs:List (List Int)} {h1 h2:List Int} (h:bs≠[]∨h1++h2=[]):(bs≠[]∨h1=[])∧(GN bs h1≠[]∨h2=[]):=by
 rcases h with h | h
 ·exact ⟨.inl h,.inl (A3q h)⟩
 ·have:=List.append_eq_nil_iff.1 h
  exact ⟨.inr this.1,.inr this.2⟩
theorem Aj4 {R:GS} (hS:ST R cx d) (J:Cd→Ae→TyL→Int→List (Option Dp)→NO) (nx:Int) (us:List (Option Dp)):∀ (t pre:List Tree) (lo:Ae) (c:Cd) (bs:TyL) (m:Nat),500000+t.length≤m→pre.length+t.length≤400000→(∀ x ∈ t,IsS x)→EH t→Au t≤d→BdX cx lo c.length bs (Au t) →
  (bs≠[]∨holes c.length (FZ cx (BZ cx d) lo c.length t)=[]) →
  ∃ lo',lo <+: lo'∧D4.l0 m R cx.cs cx.src cx.gl (pre++t) J (pre.length:Int) c lo bs nx us=J (c++BY 0 (FZ cx (BZ cx d) lo c.length t)) lo' (GN bs (holes c.length (FZ cx (BZ cx d) lo c.length t))) nx us
 | [],pre,lo,c,bs,m,hm,hl,hS',hg,hd,hB,hn=>by
  obtain ⟨m,rfl⟩:∃ m',m=m'+1:=⟨m - 1,by omega⟩
  refine ⟨lo,List.prefix_refl _,?_⟩
  simp only [D4.l0]
  rw [ltF (by simp),cond_false]
  simp only [FZ,holes,Vx]
  simp [BY]
 | x :: t,pre,lo,c,bs,m,hm,hl,hI,hg,hd,hB,hn=>by
  obtain ⟨m,rfl⟩:∃ m',m=m'+1:=⟨m - 1,by omega⟩
  simp only [AI] at hl hm
  simp only [Au] at hd hB
  have hx:=hI x (CB ..)
  obtain ⟨y,z,hp⟩:=Au6 m cx.src x.at_ hB.src (by omega)
  have hc:=hB.c
  have e1:∀ i:Ins,(c++[i]).length=c.length+1:=fun i=>by simp
  have hX:=Qg (cx:=cx) d lo (c.length+1) x hx
  obtain ⟨hlo,hlo2⟩:=Aw8 (cx:=cx) d lo (c.length+1) x hx
  have hlen:(c++[i1 1 (EJ cx.src x.at_)]++BY 0 (BZ cx d lo (c.length+1) x).1).length=c.length+1+(BZ cx d lo (c.length+1) x).1.length:=by rw [AV,e1,GC]
  simp only [FZ] at hn ⊢
  rw [show holes c.length (some (i1 1 (EJ cx.src x.at_)) :: ((BZ cx d lo (c.length+1) x).1++FZ cx (BZ cx d) (BZ cx d lo (c.length+1) x).2 (c.length+1+(BZ cx d lo (c.length+1) x).1.length) t))=holes (c.length+1) (BZ cx d lo (c.length+1) x).1++holes (c.length+1+(BZ cx d lo (c.length+1) x).1.length) (FZ cx (BZ cx d) (BZ cx d lo (c.length+1) x).2 (c.length+1+(BZ cx d lo (c.length+1) x).1.length) t) from ID] at hn ⊢
  obtain ⟨hn1,hn2⟩:=Abu hn
  have hst:=hS lo (c++[i1 1 (EJ cx.src x.at_)]) bs nx us x hx hg.1 (by omega) (hB.to (by omega) (by rw [e1];omega) (by omega)) (by rw [e1];exact hn1)
  rw [e1] at hst
  simp only [D4.l0]
  rw [Ir (by simp;omega),cond_true,DW,Aj,hp,Aj,add1 _ _ _ _ (by unfold mx;omega),Aj]
  have hh:=Tf (X:=(BZ cx d lo (c.length+1) x).1) (p:=c.length+1)
  have hbw:=Akj (bs:=bs) (h:=holes (c.length+1) (BZ cx d lo (c.length+1) x).1)
  obtain ⟨lo',h1,h2⟩:=Aj4 hS J nx us t (pre++[x]) (BZ cx d lo (c.length+1) x).2 (c++[i1 1 (EJ cx.src x.at_)]++BY 0 (BZ cx d lo (c.length+1) x).1) (GN bs (holes (c.length+1) (BZ cx d lo (c.length+1) x).1)) m (by omega) (by simp;omega) (fun y hy=>hI y (Db _ hy)) hg.2 (by omega) (hB.to (by omega) (by rw [hlen];omega) (by omega)) (by rw [hlen];exact hn2)
  refine ⟨lo',hlo.trans h1,?_⟩
  rw [show (pre++[x])++t=pre++x :: t by simp,show ((pre++[x]).length:Int)=(pre.length:Int)+1 by simp,hlen,Ys] at h2
  refine (congrArg (fun z=>Option.bind z _) hst).trans ?_
  rw [Aj,wiC _ (by omega) (by omega)]
  refine h2.trans ?_
  rw [show BY 0 (some (i1 1 (EJ cx.src x.at_)) :: ((BZ cx d lo (c.length+1) x).1++FZ cx (BZ cx d) (BZ cx d lo (c.length+1) x).2 (c.length+1+(BZ cx d lo (c.length+1) x).1.length) t))=i1 1 (EJ cx.src x.at_) :: (BY 0 (BZ cx d lo (c.length+1) x).1++BY 0 (FZ cx (BZ cx d) (BZ cx d lo (c.length+1) x).2 (c.length+1+(BZ cx d lo (c.length+1) x).1.length) t)) from congrArg (i1 1 (EJ cx.src x.at_) :: ·) NV]
  simp only [Ck,List.cons_append,List.nil_append]
theorem Aj5 (hk:500020+4 * d≤k) (hS:ST (GS.at k) cx d):BK (GS.at (k+1)) cx d:=fun lo c bs nx us b hb hg hd hB hn=>by
 show D4.g (GS.at k) k cx.cs c cx.src cx.gl lo bs nx us b.kind b.text b.n b.at_ b.kids=_
 obtain ⟨h1,h2,h3⟩:=VX hb
 have hs:=Em b.kids
 have hlo:=hB.lo
 unfold D4.g
 dsimp only [BG]
 obtain ⟨lo',e1,e2⟩:=Aj4 hS (fun (l2:Cd) (l7:Ae) (l12:TyL) (x17:Int) (l18:List (Option Dp))=>(DR l7 (0:Int) ((lo.length:Nat):Int)).bind fun l24=>some (l2,l24,l12,x17,l18)) nx us b.kids [] lo c bs k (by omega) (by simp only [Br];omega) h1 (by cases b;exact hg.2) (by omega) (hB.to (by omega) (by omega) (by omega)) hn
 refine (show _=_ from e2).trans ?_
 rw [U7 e1,Aj,U9 e1]
theorem Bqr (J:Cd→NO) (X:Hx) (A T:Cd) (m e:Nat) (h1:X.length≤1000000) (h2:X.length < m) (he:e=A.length+X.length+T.length):Gd.l0 m (holes A.length X) J 0 (A++BY 0 X++T)=J (A++BY (e:Int) X++T) :=
 RF (fun m hs x c=>Gd.l0 m hs J x c) J (fun _ _ _ _=>rfl) e T X [] A m (by simp only [Br];omega) h2 he
theorem Bqv (J:Cd→NO) (X:Hx) (A T:Cd) (m e:Nat) (h1:X.length≤1000000) (h2:X.length < m) (he:e=A.length+X.length+T.length):Ge.l0 m (holes A.length X) J 0 (A++BY 0 X++T)=J (A++BY (e:Int) X++T) :=
 RF (fun m hs x c=>Ge.l0 m hs J x c) J (fun _ _ _ _=>rfl) e T X [] A m (by simp only [Br];omega) h2 he
theorem Bql (J:Cd→NO) (X:Hx) (A T:Cd) (m e:Nat) (h1:X.length≤1000000) (h2:X.length < m) (he:e=A.length+X.length+T.length):FN.l0 m (holes A.length X) J 0 (A++BY 0 X++T)=J (A++BY (e:Int) X++T) :=
 RF (fun m hs x c=>FN.l0 m hs J x c) J (fun _ _ _ _=>rfl) e T X [] A m (by simp only [Br];omega) h2 he
theorem Au1 (lo:Ae) (bs:TyL) (nx:Int) (us:List (Option Dp)) (X:Hx) (A T:Cd) (m e:Nat) (h1:X.length≤1000000) (h2:X.length < m) (he:e=A.length+X.length+T.length):DO.l0 m (holes A.length X) lo bs nx us 0 (A++BY 0 X++T)=some (A++BY (e:Int) X++T,lo,bs,nx,us) :=
 RF (fun m hs x c=>DO.l0 m hs lo bs nx us x c) (fun c=>some (c,lo,bs,nx,us)) (fun _ _ _ _=>rfl) e T X [] A m (by simp only [Br];omega) h2 he
theorem NS {b:Tree} (hb:E7 b) (lo:List ByteArray) (p:Nat):(CE cx d lo p b).length+5≤5 * sz b:=by
 obtain ⟨h1,h2,_⟩:=VX hb
 have:=Yh (cx:=cx) (f:=BZ cx d) (l:=b.kids) (lo:=lo) (p:=p) fun lo p x hx=>Qg d lo p x (h1 x hx)
 show (FZ cx (BZ cx d) lo p b.kids).length+5≤_
 omega
theorem lastB (bs:List (List Int)) (h:List Int) (hb:bs.length≤2000000):IntKind.i64.wrap ((((bs++[h]).length:Nat):Int) - 1)=(bs.length:Int):=by
 rw [AV,AI,Br,wiC _ (by omega) (by omega)]
 omega
def LP (F:Cd→Ae→TyL→Int→List (Option Dp)→Tree→NO) (cx:GCx) (d:Nat) (back:Ins):Prop:=∀ (lo:Ae) (c:Cd) (bs:TyL) (nx:Int) (us:List (Option Dp)) (b:Tree),E7 b→gw b→sz b≤d+1→BdX cx lo (c.length+2) (bs++[[]]) (sz b - 1) →
 F c lo bs nx us b=some (c++Jw (CE cx d lo c.length b) back c.length,lo,bs,nx,us)
theorem Blx (hk:500020+4 * d≤k) (hK:BK (GS.at k) cx d) (top:Int):LP (fun c lo bs nx us b=>(GS.at (k+1)).Gd cx.cs c cx.src cx.gl lo bs nx us b.kind b.text b.n b.at_ b.kids top) cx d (i1 18 top):=fun lo c bs nx us b hb hg hd hB=>by
 show Gd.g (GS.at k) k cx.cs c cx.src cx.gl lo bs nx us b.kind b.text b.n b.at_ b.kids top=_
 have hX:=NS (cx:=cx) (d:=d) hb lo c.length
 have h1:=hB.bs;have h2:=hB.c
 have h3:=V0 (bs++[[]])
 rw [AV,AI,Br] at h3
 unfold Gd.g
 rw [KP (by simp only [AI,Br];omega),Aj,hK lo c (bs++[[]]) nx us b hb hg hd (hB.to (by omega) (by omega) (by omega)) (.inl (by simp)),Aj]
 unfold Q3.f
 rw [add1 _ _ _ _ (by rw [AV,GC];unfold mx;omega),Aj,Aj]
 dsimp only [BG]
 rw [Mo,lastB bs _ (by omega),DW,Aj,List.nil_append]
 refine (Bqr _ _ c [i1 18 top] k (c.length+(CE cx d lo c.length b).length+1) (by omega) (by omega) (by simp)).trans ?_
 rw [GI 0 bs.length (show (0:Int)=((0:Nat):Int) from rfl) rfl (by omega) (by simp),Aj]
 unfold Jw
 simp
theorem Bly (hk:500020+4 * d≤k) (hK:BK (GS.at k) cx d) (s pr:Int) (hpr:0≤pr∧pr≤1000000):LP (fun c lo bs nx us b=>(GS.at (k+1)).Ge cx.cs c cx.src cx.gl lo bs nx us b.kind b.text b.n b.at_ b.kids s pr) cx d (i2 31 s (pr+1)):=fun lo c bs nx us b hb hg hd hB=>by
 show Ge.g (GS.at k) k cx.cs c cx.src cx.gl lo bs nx us b.kind b.text b.n b.at_ b.kids s pr=_
 have hX:=NS (cx:=cx) (d:=d) hb lo c.length
 have h1:=hB.bs;have h2:=hB.c
 have h3:=V0 (bs++[[]])
 rw [AV,AI,Br] at h3
 unfold Ge.g
 rw [KP (by simp only [AI,Br];omega),Aj,hK lo c (bs++[[]]) nx us b hb hg hd (hB.to (by omega) (by omega) (by omega)) (.inl (by simp)),Aj]
 unfold Q4.f
 rw [wiC (pr+1) (by omega) (by omega),XZ _ _ _ _ _ (by rw [AV,GC];unfold mx;omega),Aj,Aj]
 dsimp only [BG]
 rw [Mo,lastB bs _ (by omega),DW,Aj,List.nil_append]
 refine (Bqv _ _ c [i2 31 s (pr+1)] k (c.length+(CE cx d lo c.length b).length+1) (by omega) (by omega) (by simp)).trans ?_
 rw [GI 0 bs.length (show (0:Int)=((0:Nat):Int) from rfl) rfl (by omega) (by simp),Aj]
 unfold Jw
 simp
theorem Blv (hk:500020+4 * d≤k) (hK:BK (GS.at k) cx d) (top:Int):LP (fun c lo bs nx us b=>(GS.at (k+1)).FN cx.cs c cx.src cx.gl lo bs nx us b.kind b.text b.n b.at_ b.kids top) cx d (i1 18 top):=fun lo c bs nx us b hb hg hd hB=>by
 show FN.g (GS.at k) k cx.cs c cx.src cx.gl lo bs nx us b.kind b.text b.n b.at_ b.kids top=_
 have hX:=NS (cx:=cx) (d:=d) hb lo c.length
 have h1:=hB.bs;have h2:=hB.c
 have h3:=V0 (bs++[[]])
 rw [AV,AI,Br] at h3
 unfold FN.g
 rw [KP (by simp only [AI,Br];omega),Aj,hK lo c (bs++[[]]) nx us b hb hg hd (hB.to (by omega) (by omega) (by omega)) (.inl (by simp)),Aj]
 unfold Q0.f
 rw [add1 _ _ _ _ (by rw [AV,GC];unfold mx;omega),Aj,Aj]
 dsimp only [BG]
 rw [Mo,lastB bs _ (by omega),DW,Aj,List.nil_append]
 refine (Bql _ _ c [i1 18 top] k (c.length+(CE cx d lo c.length b).length+1) (by omega) (by omega) (by simp)).trans ?_
 rw [GI 0 bs.length (show (0:Int)=((0:Nat):Int) from rfl) rfl (by omega) (by simp),Aj]
 unfold Jw
 simp
end
abbrev HHx:=List (Option (Option Ins))
def v1 (X:HHx):Hx:=X.map fun o=>o.map fun i=>i.getD (18,0,0,0)
def v2 (e:Int) (X:HHx):Hx:=X.map fun o=>o.getD (some (i1 18 e))
theorem VD {e:Int}:∀ {X:HHx},BY e (v1 X)=BY 0 (v2 e X)
 | []=>rfl
 | none :: X=>congrArg ((18,e,0,0) :: ·) (VD (X:=X))
 | some none :: X=>congrArg ((18,0,0,0) :: ·) (VD (X:=X))
 | some (some i) :: X=>congrArg (i :: ·) (VD (X:=X))
theorem QN {e:Int}:∀ {X:HHx} {p:Nat},holes p (v2 e X)=holes p (v2 0 X)
 | [],_=>rfl
 | none :: X,p=>QN (X:=X) (p:=p+1)
 | some none :: X,p=>congrArg ((p:Int) :: ·) (QN (X:=X) (p:=p+1))
 | some (some i) :: X,p=>QN (X:=X) (p:=p+1)
theorem Agc {X Y:HHx}:v1 (X++Y)=v1 X++v1 Y:=List.map_append ..
theorem Sa {e:Int} {X Y:HHx}:v2 e (X++Y)=v2 e X++v2 e Y:=List.map_append ..
theorem Agd:∀ {B:Hx},v1 (B.map some)=Dy (BY 0 B)
 | []=>rfl
 | o :: B=>congrArg (some (o.getD (18,0,0,0)) :: ·) (Agd (B:=B))
theorem Sb {e:Int}:∀ {B:Hx},v2 e (B.map some)=B
 | []=>rfl
 | o :: B=>congrArg (o :: ·) (Sb (B:=B))
theorem Ayd:∀ {E:Cd},v1 (E.map fun i=>some (some i))=Dy E
 | []=>rfl
 | i :: E=>congrArg (some i :: ·) (Ayd (E:=E))
theorem Agg {e:Int}:∀ {E:Cd},v2 e (E.map fun i=>some (some i))=Dy E
 | []=>rfl
 | i :: E=>congrArg (some i :: ·) (Agg (E:=E))
section
variable {cx:GCx} {d k:Nat}
def BR (R:GS) (cx:GCx) (d:Nat):Prop:=∀ (lo:Ae) (c:Cd) (bs:TyL) (nx:Int) (us:List (Option Dp)) (l:List Tree),IsR l→EH l→Au l≤d→BdX cx lo c.length bs (Au l)→(bs≠[]∨holes c.length (ifH (AL cx lo d 1) (CE cx d lo) c.length l)=[]) →
 R.DO cx.cs c cx.src cx.gl lo bs nx us l=some (c++BY 0 (ifH (AL cx lo d 1) (CE cx d lo) c.length l),lo,GN bs (holes c.length (ifH (AL cx lo d 1) (CE cx d lo) c.length l)),nx,us)
theorem Yn {R:GS} (hK:BK R cx d) (lo:List ByteArray) (nx:Int) (us:List (Option Dp)) (k:Nat) (hk:500020+4 * d≤k)
  (J:List Tree→List Int→Cd→List ByteArray→List (List Int)→Int→List (Option Dp)→NO)
  (hJ0:∀ ends c bs,J [] ends c lo bs nx us=DO.l0 k ends lo bs nx us 0 c)
  (hJ1:∀ b ends c bs,J [b] ends c lo bs nx us=(R.D4 cx.cs c cx.src cx.gl lo bs nx us b.kind b.text b.n b.at_ b.kids).bind fun FC=>DO.l0 k ends FC.2.1 FC.2.2.1 FC.2.2.2.1 FC.2.2.2.2 0 FC.1) :
  ∀ (l:List Tree),IsR l→∀ (A:Cd) (Y:Hx) (bs:List (List Int)) (m:Nat),500020+4 * d+l.length≤m→EH l→Au l≤d→BdX cx lo (A.length+Y.length) bs (Au l)→Y.length≤450000 →
   (bs≠[]∨holes (A.length+Y.length) (v2 0 (brX (AL cx lo d 1) (CE cx d lo) (A.length+Y.length) l))=[]) →
   DO.l1 m R cx.cs cx.src cx.gl J l (holes A.length Y) (A++BY 0 Y) lo bs nx us =
    some (A++BY ((A.length+Y.length+(brX (AL cx lo d 1) (CE cx d lo) (A.length+Y.length) l).length:Nat):Int) (Y++v1 (brX (AL cx lo d 1) (CE cx d lo) (A.length+Y.length) l)),lo,GN bs (holes (A.length+Y.length) (v2 0 (brX (AL cx lo d 1) (CE cx d lo) (A.length+Y.length) l))),nx,us)
 | [],_,A,Y,bs,m,hm,hg,hd,hB,hY,hn=>by
  obtain ⟨m,rfl⟩:∃ m',m=m'+1:=⟨m - 1,by omega⟩
  simp only [DO.l1]
  rw [show decide ((([]:List Tree).length:Int) > 1)=false from rfl,cond_false,hJ0]
  have:=Au1 lo bs nx us Y A [] k (A.length+Y.length) (by omega) (by omega) (by simp)
  rw [List.append_nil,List.append_nil] at this
  refine this.trans ?_
  simp only [brX,v1,v2,List.map_nil,holes,Vx,List.append_nil,Br,Nat.add_zero]
 | [b],hr,A,Y,bs,m,hm,hg,hd,hB,hY,hn=>by
  obtain ⟨m,rfl⟩:∃ m',m=m'+1:=⟨m - 1,by omega⟩
  have hb:E7 b:=by cases hr with | last h=>exact h
  simp only [Au] at hd hB
  have hl:(A++BY 0 Y).length=A.length+Y.length:=by rw [AV,GC]
  have eX:brX (AL cx lo d 1) (CE cx d lo) (A.length+Y.length) [b]=(CE cx d lo (A.length+Y.length) b).map some:=rfl
  rw [eX,Sb] at hn
  rw [eX,Sb,Agd]
  simp only [DO.l1]
  rw [show decide ((([b]:List Tree).length:Int) > 1)=false from rfl,cond_false,hJ1,hK lo _ bs nx us b hb hg.1 (by omega) (hB.to (by omega) (by rw [hl];omega) (by omega)) (by rw [hl];exact hn),Aj,hl]
  have:=Au1 lo (GN bs (holes (A.length+Y.length) (CE cx d lo (A.length+Y.length) b))) nx us Y A (BY 0 (CE cx d lo (A.length+Y.length) b)) k (A.length+Y.length+(CE cx d lo (A.length+Y.length) b).length) (by omega) (by omega) (by rw [GC])
  refine this.trans ?_
  rw [NV,OU,List.length_map,Ck]
 | x :: y :: l,hr,A,Y,bs,m,hm,hg,hd,hB,hY,hn=>by
  obtain ⟨m,rfl⟩:∃ m',m=m'+1:=⟨m - 1,by omega⟩
  obtain ⟨hx,hy,hl⟩:IsE x∧E7 y∧IsR l:=by cases hr with | more h1 h2 h3=>exact ⟨h1,h2,h3⟩
  obtain ⟨gx,gy,gl⟩:=hg
  simp only [Au] at hd hB
  simp only [AI] at hm
  have hc:=hB.c
  have hxp:=G5 x
  have hlC:(A++BY 0 Y).length=A.length+Y.length:=by rw [AV,GC]
  generalize hC:A++BY 0 Y=C at hlC ⊢
  generalize hp:A.length+Y.length=p at hB hn hlC hc ⊢
  generalize hE:AL cx lo d 1 p x=E
  have hEl:E.length≤4 * sz x:=by rw [← hE];exact E1 d 1 p x hx
  generalize hBk:CE cx d lo (p+E.length+1) y=B
  have hBl:B.length+5≤5 * sz y:=by rw [← hBk];exact NS hy lo _
  have hBh:=Tf (X:=B) (p:=p+E.length+1)
  have hbw:=Akj (bs:=bs) (h:=holes (p+E.length+1) B)
  have hlE:(C++E++[i0 19]).length=p+E.length+1:=by rw [JO,hlC]
  have hexp:Dk.f m cx.cs C cx.gl lo x.kind x.text x.n x.at_ x.kids=some (C++E):=by
   have:=Alj (d:=d) hB.b (by omega:500010+4 * d≤m) (c:=C) hx gx (by omega) (by rw [hlC];unfold mx;omega)
   rw [hlC,hE] at this
   exact this
  -- what the pair lays, and the rest
  have key:∀ (mo:Nat) (ho:HHx),mo=(if l.isEmpty then 0 else 1)→ho=(if l.isEmpty then [] else [none]) →
    brX (AL cx lo d 1) (CE cx d lo) p (x :: y :: l)=E.map (fun i=>some (some i))++some (some (i1 19 ((p+E.length+1+B.length+mo:Nat):Int))) :: (B.map some++ho++brX (AL cx lo d 1) (CE cx d lo) (p+E.length+1+B.length+mo) l):=fun mo ho h1 h2=>by
   subst h1 h2 hE hBk;rfl
  simp only [DO.l1]
  rw [decide_eq_true (by simp only [AI];omega),cond_true,ix0,Aj,hexp,Aj,add0 _ _ _ (by rw [AV,hlC];unfold mx;omega),Aj,Tv,Aj]
  have An8:∀ (mo:Nat) (ho:HHx),mo=(if l.isEmpty then 0 else 1)→ho=(if l.isEmpty then [] else [none])→holes p (v2 0 (brX (AL cx lo d 1) (CE cx d lo) p (x :: y :: l)))=holes (p+E.length+1) B++holes (p+E.length+1+B.length+mo) (v2 0 (brX (AL cx lo d 1) (CE cx d lo) (p+E.length+1+B.length+mo) l)):=fun mo ho h1 h2=>by
   rw [key mo ho h1 h2,Sa,Agg,ID,Jq,List.nil_append,JU]
   show holes (p+E.length+1) (v2 0 (B.map some++ho++_))=_
   rw [Sa,Sa,Sb,Ck,ID]
   congr 1
   rw [ID]
   cases l with
   | nil=>subst h1 h2;rfl
   | cons u v=>subst h1 h2;rfl
  have Aov:∀ (mo:Nat) (ho:HHx),mo=(if l.isEmpty then 0 else 1)→ho=(if l.isEmpty then [] else [none])→p+(brX (AL cx lo d 1) (CE cx d lo) p (x :: y :: l)).length=p+E.length+1+B.length+mo+(brX (AL cx lo d 1) (CE cx d lo) (p+E.length+1+B.length+mo) l).length:=fun mo ho h1 h2=>by
   have hm:ho.length=mo:=by subst h1 h2;cases l <;> rfl
   rw [key mo ho h1 h2]
   simp only [AV,List.length_map,AI]
   omega
  have hv:∀ (mo:Nat) (ho:HHx),mo=(if l.isEmpty then 0 else 1)→ho=(if l.isEmpty then [] else [none])→v1 (brX (AL cx lo d 1) (CE cx d lo) p (x :: y :: l))=Dy E++some (i1 19 ((p+E.length+1+B.length+mo:Nat):Int)) :: (Dy (BY 0 B)++v1 ho++v1 (brX (AL cx lo d 1) (CE cx d lo) (p+E.length+1+B.length+mo) l)):=fun mo ho h1 h2=>by
   rw [key mo ho h1 h2,Agc,Ayd]
   show Dy E++some (i1 19 ((p+E.length+1+B.length+mo:Nat):Int)) :: v1 (B.map some++ho++_)=_
   rw [Agc,Agc,Agd]
  have hblk:∀ h2:(bs≠[]∨holes (p+E.length+1) B=[]),R.D4 cx.cs (C++E++[i0 19]) cx.src cx.gl lo bs nx us y.kind y.text y.n y.at_ y.kids=some (C++E++[i0 19]++BY 0 B,lo,GN bs (holes (p+E.length+1) B),nx,us):=fun h2=>by
   have:=hK lo (C++E++[i0 19]) bs nx us y hy gy (by omega) (hB.to (by omega) (by rw [hlE];omega) (by omega)) (by rw [hlE,hBk];exact h2)
   rw [hlE,hBk] at this
   exact this
  have hsub:DR (x :: y :: l) (2:Int) (((x :: y :: l).length:Nat):Int)=some l:=by
   rw [GI 2 (l.length+2) (show (2:Int)=((2:Nat):Int) from rfl) (by simp only [AI]) (by omega) (by simp)]
   simp
  cases l with
  | nil =>
   have hh:=An8 0 [] rfl rfl
   rw [hh] at hn
   obtain ⟨hn1,hn2⟩:=Abu hn
   rw [hblk hn1,Aj,hsub,Aj]
   dsimp only [BG]
   rw [show decide ((([]:List Tree).length:Int) > 0)=false from rfl,cond_false]
   unfold EU.f
   rw [Aj,Ck (C++E),show ∀ Z:Cd,C++E++([i0 19]++Z)=(C++E)++i0 19 :: Z from fun _=>rfl,DW,Aj,JX,Aj]
   have eY:∀ q:Int,(C++E)++i1 19 q :: BY 0 B=A++BY 0 (Y++Dy E++some (i1 19 q) :: Dy (BY 0 B)):=fun q=>by
    rw [NV,NV,OU,show BY 0 (some (i1 19 q) :: Dy (BY 0 B))=i1 19 q :: BY 0 (Dy (BY 0 B)) from rfl,OU,← hC]
    simp only [Ck]
   have eQ:(((C++E++i0 19 :: BY 0 B).length:Nat):Int)=((p+E.length+1+B.length+0:Nat):Int):=by
    simp only [AV,AI,GC,hlC];omega
   have eH:holes A.length Y=holes A.length (Y++Dy E++some (i1 19 ((p+E.length+1+B.length+0:Nat):Int)) :: Dy (BY 0 B)):=by
    rw [ID,ID,Jq,List.append_nil]
    show _=_++holes _ (Dy _)
    rw [Jq,List.append_nil]
   have eL:A.length+(Y++Dy E++some (i1 19 ((p+E.length+1+B.length+0:Nat):Int)) :: Dy (BY 0 B)).length=p+E.length+1+B.length+0:=by
    simp only [AV,AI,JU,GC];omega
   have ih:=Yn hK lo nx us k hk J hJ0 hJ1 [] hl A (Y++Dy E++some (i1 19 ((p+E.length+1+B.length+0:Nat):Int)) :: Dy (BY 0 B)) (GN bs (holes (p+E.length+1) B)) m (by omega) gl (by omega) (hB.to (by omega) (by rw [eL];simp only [Au];omega) (by simp only [Au];omega)) (by simp only [AV,AI,JU,GC];omega) (by rw [eL];exact hn2)
   rw [eL,← eY,← eH,Ys,← hh] at ih
   rw [eQ]
   refine (show _=_ from ih).trans ?_
   rw [hv 0 [] rfl rfl,Aov 0 [] rfl rfl]
   simp only [Ck,List.cons_append,show v1 []=[] from rfl,List.nil_append]
  | cons u v =>
   have hh:=An8 1 [none] rfl rfl
   rw [hh] at hn
   obtain ⟨hn1,hn2⟩:=Abu hn
   rw [hblk hn1,Aj,hsub,Aj]
   dsimp only [BG]
   have hYh:=Tf (X:=Y) (p:=A.length)
   have lB:(C++E++[i0 19]++BY 0 B).length=p+E.length+1+B.length:=by rw [AV,hlE,GC]
   rw [decide_eq_true (by simp only [AI];omega),cond_true,add0 _ _ _ (by rw [lB];unfold mx;omega),Aj,lB,KP (by simp only [AI,Br];omega),Aj]
   unfold EU.f
   rw [Aj,show ∀ Z:Cd,C++E++[i0 19]++Z++[i0 18]=(C++E)++i0 19 :: (Z++[i0 18]) from fun Z=>by simp,DW,Aj,JX,Aj]
   have eY:∀ q:Int,(C++E)++i1 19 q :: (BY 0 B++[i0 18])=A++BY 0 (Y++Dy E++some (i1 19 q) :: (Dy (BY 0 B)++[none])):=fun q=>by
    rw [NV,NV,OU,show BY 0 (some (i1 19 q) :: (Dy (BY 0 B)++[none]))=i1 19 q :: BY 0 (Dy (BY 0 B)++[none]) from rfl,NV,OU,← hC]
    simp only [Ck]
    rfl
   have eQ:(((C++E++i0 19 :: (BY 0 B++[i0 18])).length:Nat):Int)=((p+E.length+1+B.length+1:Nat):Int):=by
    simp only [AV,AI,Br,GC,hlC];omega
   have eH:holes A.length Y++[((p+E.length+1+B.length:Nat):Int)]=holes A.length (Y++Dy E++some (i1 19 ((p+E.length+1+B.length+1:Nat):Int)) :: (Dy (BY 0 B)++[none])):=by
    rw [ID,ID,Jq,List.append_nil]
    show _=_++holes _ (Dy _++[none])
    rw [ID,Jq,List.nil_append]
    show _=_++[_]
    congr 3
    simp only [AV,JU,GC];omega
   have eL:A.length+(Y++Dy E++some (i1 19 ((p+E.length+1+B.length+1:Nat):Int)) :: (Dy (BY 0 B)++[none])).length=p+E.length+1+B.length+1:=by
    simp only [AV,AI,Br,JU,GC];omega
   have ih:=Yn hK lo nx us k hk J hJ0 hJ1 (u :: v) hl A (Y++Dy E++some (i1 19 ((p+E.length+1+B.length+1:Nat):Int)) :: (Dy (BY 0 B)++[none])) (GN bs (holes (p+E.length+1) B)) m (by omega) gl (by omega) (hB.to (by omega) (by rw [eL];omega) (by omega)) (by simp only [AV,AI,Br,JU,GC];omega) (by rw [eL];exact hn2)
   rw [eL,← eY,← eH,Ys,← hh] at ih
   rw [eQ]
   refine (show _=_ from ih).trans ?_
   rw [hv 1 [none] rfl rfl,Aov 1 [none] rfl rfl]
   simp only [Ck,List.cons_append,show v1 [none]=[none] from rfl,List.nil_append]
theorem A3p (hk:500020+5 * d≤k) (hK:BK (GS.at k) cx d):BR (GS.at (k+1)) cx d:=fun lo c bs nx us l hr hg hd hB hn=>by
 show DO.g (GS.at k) k cx.cs c cx.src cx.gl lo bs nx us l=_
 have hs:=Em l
 have eI:ifH (AL cx lo d 1) (CE cx d lo) c.length l=v2 ((c.length+(brX (AL cx lo d 1) (CE cx d lo) c.length l).length:Nat):Int) (brX (AL cx lo d 1) (CE cx d lo) c.length l):=rfl
 rw [eI,QN] at hn
 have hh:∀ (J:List Tree→List Int→Cd→Ae→TyL→Int→List (Option Dp)→NO) (_:∀ ends c bs,J [] ends c lo bs nx us=DO.l0 k ends lo bs nx us 0 c) (_:∀ b ends c bs,J [b] ends c lo bs nx us=((GS.at k).D4 cx.cs c cx.src cx.gl lo bs nx us b.kind b.text b.n b.at_ b.kids).bind fun FC=>DO.l0 k ends FC.2.1 FC.2.2.1 FC.2.2.2.1 FC.2.2.2.2 0 FC.1),
   DO.l1 k (GS.at k) cx.cs cx.src cx.gl J l [] c lo bs nx us=some (c++BY ((c.length+(brX (AL cx lo d 1) (CE cx d lo) c.length l).length:Nat):Int) (v1 (brX (AL cx lo d 1) (CE cx d lo) c.length l)),lo,GN bs (holes c.length (v2 0 (brX (AL cx lo d 1) (CE cx d lo) c.length l))),nx,us):=fun J h0 h1=>by
  have h:=Yn hK lo nx us k (by omega) J h0 h1 l hr c [] bs k (by omega) hg hd hB (by simp) hn
  rw [show c++BY 0 []=c by simp [BY]] at h
  exact h
 unfold DO.g
 dsimp only [BG]
 refine (hh _ ?_ ?_).trans ?_
 ·intro ends c bs;rfl
 ·intro b ends c bs;rfl
 ·rw [eI,← VD,QN (e:=((c.length+(brX (AL cx lo d 1) (CE cx d lo) c.length l).length:Nat):Int))]
theorem Alb (hk:500000≤k) {lo:List ByteArray} {l:List Tree} (hl:l.length≤400000) (ho:lo.length+3≤400000):Ms.f k lo l=some (((lo.length+1:Nat):Int),FH lo l):=by
 unfold Ms.f
 have:OF 16 lo (⟨#[]⟩:ByteArray) (3:Int)=some (lo++List.replicate 3 ⟨#[]⟩):=by
  unfold OF
  rw [decide_eq_true (⟨by omega,by show (lo.length+3) * 16≤_;omega⟩),cond_true]
  rfl
 rw [this,Aj,Yp k _ _ hl (by simp;omega) hk,Aj,wiC _ (by omega) (by omega)]
 rfl
theorem As3 {lo:List ByteArray} {l:List Tree} (ho:lo.length+3≤400000):Nc.f k (FH lo l) ((lo.length+1:Nat):Int)=some lo:=by
 unfold Nc.f
 rw [wiC _ (by omega) (by omega),show ((lo.length+1:Nat):Int) - 1=(lo.length:Int) by omega]
 have hp:lo <+: FH lo l:=⟨_,by unfold FH;rw [Ck]⟩
 rw [U7 hp,Aj,U9 hp]
theorem Atd {lo:List ByteArray} {l:List Tree}:(FH lo l).length=lo.length+3+l.length:=by simp [FH];omega
theorem Yt {bs:List (List Int)}:bw (bs++[[]])=bw bs+1:=by
 simp only [bw,AV,List.map_append,List.sum_append,List.map_cons,List.map_nil,List.sum_cons,List.sum_nil,AI,Br]
 omega
theorem A8b (hk:500020+5 * d≤k) (hL:∀ top,LP (fun c lo bs nx us b=>(GS.at k).FN cx.cs c cx.src cx.gl lo bs nx us b.kind b.text b.n b.at_ b.kids top) cx d (i1 18 top))
  (lo:Ae) (c:Cd) (bs:TyL) (nx:Int) (us:List (Option Dp)) (t:ByteArray) (a:Int) (l m:List Tree) (b:Tree) (hm:E8 m) (hb:E7 b) (gm:EH m) (gb:gw b) (hd:Au l+Au m+sz b≤d) (hB:BdX cx lo (c.length - 1) bs (Au l+Au m+sz b+1)) (hl1:l≠[]) :
  (GS.at (k+1)).Ik cx.cs c cx.src cx.gl lo bs nx us 27 t (l.length:Nat) a (l++m++[b]) ((l++m++[b]).length - 1:Nat) =
   some (c++inG (FK (AL cx lo d) c.length m 3) (CE cx d (FH lo l) (c.length+(FK (AL cx lo d) c.length m 3).length+7) b) (lo.length+1) (l.length:Nat) c.length,lo,bs,nx,us):=by
 show Ik.g (GS.at k) k cx.cs c cx.src cx.gl lo bs nx us 27 t (l.length:Nat) a (l++m++[b]) ((l++m++[b]).length - 1:Nat)=_
 have hs:=Em l
 have hlo:=hB.lo;have hc:=hB.c;have hbs:=hB.bs
 have hlp:=List.length_pos_iff.2 hl1
 have hbp:=G5 b
 have hv:=Qj (cx:=cx) (lo:=lo) (d:=d) (p:=c.length) (n:=3) hm
 have hX:=NS (cx:=cx) (d:=d) hb (FH lo l) (c.length+(FK (AL cx lo d) c.length m 3).length+7)
 have hle:(l++m++[b]).length - 1=l.length+m.length:=by simp
 rw [hle]
 unfold Ik.g
 rw [GI l.length (l.length+m.length) rfl rfl (by omega) (by simp),Aj,show ((l++m++[b]).drop l.length).take (l.length+m.length - l.length)=m by simp]
 rw [show ((3:Int))=((3:Nat):Int) from rfl,Agn (d:=d) hB.b (by omega) hm gm (by omega) (by omega) (by unfold mx;omega),Aj]
 rw [GI 0 l.length (show (0:Int)=((0:Nat):Int) from rfl) rfl (by omega) (by simp),Aj,show ((l++m++[b]).drop 0).take (l.length - 0)=l by simp,Alb (by omega) (by omega) (by omega),Aj]
 generalize hE:FK (AL cx lo d) c.length m 3=E at hv hX ⊢
 have lE:(c++E).length=c.length+E.length:=AV
 generalize hC:c++E=C at lE ⊢
 have l1:∀ (D:Cd) (i:Ins),(D++[i]).length=D.length+1:=fun D i=>by simp
 dsimp only
 rw [add1 _ _ _ _ (by unfold mx;omega),Aj]
 dsimp only
 rw [add1 _ _ _ _ (by rw [l1];unfold mx;omega),Aj]
 dsimp only
 rw [add0 _ _ _ (by rw [l1,l1];unfold mx;omega),Aj]
 dsimp only
 rw [add1 _ _ _ _ (by rw [l1,l1,l1];unfold mx;omega),Aj]
 dsimp only
 rw [add1 _ _ _ _ (by rw [l1,l1,l1,l1];unfold mx;omega),Aj]
 dsimp only
 rw [add1 _ _ _ _ (by rw [l1,l1,l1,l1,l1];unfold mx;omega),Aj]
 dsimp only
 rw [Ai6 _ _ _ _ _ _ (by rw [l1,l1,l1,l1,l1,l1];unfold mx;omega),Aj]
 dsimp only
 rw [show Bh (l++m++[b]) ((l.length+m.length:Nat):Int)=some b by rw [← AV];exact DW (l++m) b [],Aj]
 rw [wiC (((lo.length+1:Nat):Int)+1) (by omega) (by omega),wiC (((lo.length+1:Nat):Int)+2) (by omega) (by omega)]
 generalize hsI:((lo.length+1:Nat):Int)=s
 generalize hnI:((l.length:Nat):Int)=n
 have hloop:=hL (((C++[i1 32 s]).length:Nat):Int) (FH lo l) (C++[i1 32 s]++[i1 6 s]++[i0 22]++[i1 6 (s+1)]++[i1 6 (s+2)]++[i1 24 n]++[i3 33 s 0 n]) bs nx us b hb gb (by omega) (hB.to (by rw [Atd];omega) (by simp only [l1];omega) (by rw [Yt];omega))
 have hlen:(C++[i1 32 s]++[i1 6 s]++[i0 22]++[i1 6 (s+1)]++[i1 6 (s+2)]++[i1 24 n]++[i3 33 s 0 n]).length=c.length+E.length+7:=by simp only [l1];omega
 rw [hlen] at hloop
 refine (congrArg (fun z=>Option.bind z _) hloop).trans ?_
 rw [Aj]
 unfold EU.f
 rw [Aj,show ∀ (Q L:Cd) (z:Ins),Q++[z]++L=Q++z :: L from fun Q L z=>by simp,DW,Aj,JX,Aj,← hsI,As3 (by omega),Aj]
 unfold inG
 rw [l1,lE,← hC]
 simp only [AV,AI,Br,N0,Ck,List.cons_append,List.nil_append,i3,hsI]
 rw [show ∀ x:Nat,c.length+(E.length+(x+1+1+1+1+1+1+1+1))=c.length+E.length+7+(x+1) from fun x=>by omega]
theorem Buh (hk:500020+5 * d≤k) (hK:BK (GS.at k) cx d) (hR:BR (GS.at k) cx d)
  (Ba7:∀ top,LP (fun c lo bs nx us b=>(GS.at k).Gd cx.cs c cx.src cx.gl lo bs nx us b.kind b.text b.n b.at_ b.kids top) cx d (i1 18 top))
  (Ba8:∀ s pr,0≤pr∧pr≤1000000→LP (fun c lo bs nx us b=>(GS.at k).Ge cx.cs c cx.src cx.gl lo bs nx us b.kind b.text b.n b.at_ b.kids s pr) cx d (i2 31 s (pr+1)))
  (hF:∀ (lo:Ae) (c:Cd) (bs:TyL) (nx:Int) (us:List (Option Dp)) (t:ByteArray) (a:Int) (l m:List Tree) (b:Tree),E8 m→E7 b→EH m→gw b→Au l+Au m+sz b≤d→BdX cx lo (c.length - 1) bs (Au l+Au m+sz b+1)→l≠[] →
   (GS.at k).Ik cx.cs c cx.src cx.gl lo bs nx us 27 t (l.length:Nat) a (l++m++[b]) ((l++m++[b]).length - 1:Nat) =
   some (c++inG (FK (AL cx lo d) c.length m 3) (CE cx d (FH lo l) (c.length+(FK (AL cx lo d) c.length m 3).length+7) b) (lo.length+1) (l.length:Nat) c.length,lo,bs,nx,us)) :
  ST (GS.at (k+1)) cx (d+1):=fun lo c bs nx us t hI hg hd hB hn=>by
 have hP:∀ (G:Cd) (lo':List ByteArray) (p:Nat),some (c++G,lo',bs,nx,us)=some (c++BY 0 (Dy G),lo',GN bs (holes p (Dy G)),nx,us):=fun G lo' p=>by rw [OU,Jq,Vx]
 have hlo:=hB.lo;have hc:=hB.c;have hbs:=hB.bs
 have l1:∀ (D:Cd) (i:Ins),(D++[i]).length=D.length+1:=fun D i=>by simp
 cases hI with
 | loc hl hm =>
  rename_i a t l m
  obtain ⟨_,hg⟩:=hg
  obtain ⟨_,gm⟩:=OX.1 hg
  simp only [sz,DB] at hd hlo hc hbs
  have hs:=Em l
  have hv:=Qj (cx:=cx) (lo:=lo) (d:=d) (p:=c.length) (n:=l.length) hm
  show Dz.g (GS.at k) k cx.cs c cx.src cx.gl lo bs nx us 21 t (l.length:Nat) a (l++m)=_
  unfold Dz.g
  simp only [Int.reduceBEq,cond_true,cond_false]
  rw [GI l.length (l++m).length rfl rfl (by simp) (by simp),Aj,show ((l++m).drop l.length).take ((l++m).length - l.length)=m by simp,Agn (d:=d) hB.b (by omega) hm gm (by omega) (by omega) (by unfold mx;omega),Aj]
  rw [GI 0 l.length (show (0:Int)=((0:Nat):Int) from rfl) rfl (by omega) (by simp),Aj,show ((l++m).drop 0).take (l.length - 0)=l by simp,Yp k _ _ (by omega) (by omega) (by omega),Aj]
  rw [Awx bs nx us _ (by omega) l.length k _ (by omega) (by omega) (by rw [AV];unfold mx;omega),RU,Ck]
  exact hP _ _ _
 | asg hl hx hm hy =>
  rename_i a t l m
  obtain ⟨_,hg⟩:=hg
  obtain ⟨gl,gm⟩:=OX.1 hg
  simp only [sz,DB] at hd hlo hc hbs
  have hs:=Em l
  show Dz.g (GS.at k) k cx.cs c cx.src cx.gl lo bs nx us 22 t (l.length:Nat) a (l++m)=_
  unfold Dz.g
  simp only [Int.reduceBEq,cond_true,cond_false]
  rw [GI 0 l.length (show (0:Int)=((0:Nat):Int) from rfl) rfl (by omega) (by simp),Aj,show ((l++m).drop 0).take (l.length - 0)=l by simp,GI l.length (l++m).length rfl rfl (by simp) (by simp),Aj,show ((l++m).drop l.length).take ((l++m).length - l.length)=m by simp]
  rw [A1h (d:=d) hB.b (by omega) (fun x h=>(hx x h).1) hy gl gm (by omega) (by unfold mx;omega) (by omega),Aj,RQ]
  exact hP _ _ _
 | run hx h8 =>
  rename_i n a t x
  simp only [sz,Au] at hd hlo hc hbs
  show Dz.g (GS.at k) k cx.cs c cx.src cx.gl lo bs nx us 23 t n a [x]=_
  unfold Dz.g
  simp only [Int.reduceBEq,cond_true,cond_false]
  rw [ix0,Aj,A3w (d:=d) hB.b (by omega) 0 hx h8 hg.2.1 (by omega) (by unfold mx;omega),Aj,RW]
  exact hP _ _ _
 | if_ hr =>
  rename_i n a t l
  simp only [sz] at hd hlo hc hbs
  rw [Qf] at hn
  show Dz.g (GS.at k) k cx.cs c cx.src cx.gl lo bs nx us 24 t n a l=_
  unfold Dz.g
  simp only [Int.reduceBEq,cond_true,cond_false]
  rw [hR lo c bs nx us l hr hg.2 (by omega) (hB.to (by simp only [sz];omega) (by simp only [sz];omega) (by simp only [sz];omega)) hn,Aj,Qf]
 | while_ hx hb =>
  rename_i n a t x b
  obtain ⟨_,gx,gb,_⟩:=hg
  simp only [sz,Au] at hd hlo hc hbs
  have hxl:=E1 (cx:=cx) (lo:=lo) d 1 c.length x hx
  have hbp:=G5 b
  show Dz.g (GS.at k) k cx.cs c cx.src cx.gl lo bs nx us 25 t n a [x,b]=_
  unfold Dz.g EU.f
  simp only [Int.reduceBEq,cond_true,cond_false]
  rw [Aj,ix0,Aj,Alj (d:=d) hB.b (by omega) hx gx (by omega) (by unfold mx;omega),Aj,RX]
  generalize hE:AL cx lo d 1 c.length x=E at hxl ⊢
  rw [add0 _ _ _ (by rw [AV];unfold mx;omega),Aj,add0 _ _ _ (by rw [l1,AV];unfold mx;omega),Aj,Tv,Aj]
  have hlen:(c++E++[i0 19]++[i0 34]).length=c.length+E.length+2:=by rw [l1,l1,AV]
  have hloop:=Ba7 (c.length:Int) lo (c++E++[i0 19]++[i0 34]) bs nx us b hb gb (by omega) (hB.to (by simp only [sz,Au];omega) (by rw [hlen];simp only [sz,Au];omega) (by rw [Yt];simp only [sz,Au];omega))
  rw [hlen] at hloop
  refine (congrArg (fun z=>Option.bind z _) hloop).trans ?_
  rw [Aj,Aj,show ∀ (Q L:Cd) (z w:Ins),Q++[z]++[w]++L=Q++z :: (w :: L) from fun Q L z w=>by simp,DW,Aj,JX,Aj]
  refine Eq.trans ?_ (hP _ _ c.length)
  unfold X4
  simp only [AV,AI,N0,Ck]
  rw [show ∀ x:Nat,c.length+(E.length+(x+1+1+1))=c.length+E.length+2+(x+1) from fun x=>by omega]
  rfl
 | for_ hl hx hb =>
  rename_i n a t x b l
  obtain ⟨_,gx,hg⟩:=hg
  obtain ⟨gl,gb,_⟩:=OX.1 (show EH (l++[b]) from hg)
  simp only [sz,Au,DB] at hd hlo hc hbs
  have hxl:=JK (f:=AL cx lo d 1) (l:=l) (p:=c.length) fun p y hy=>E1 d 1 p y (hx y hy)
  have hbp:=G5 b
  have hxp:=G5 x
  have hX:=NS (cx:=cx) (d:=d) hb (FH lo [x]) (c.length+(CP (AL cx lo d 1) c.length l).length+1)
  show Dz.g (GS.at k) k cx.cs c cx.src cx.gl lo bs nx us 26 t n a (x :: l++[b])=_
  have hlen0:(x :: l++[b]).length=l.length+2:=by simp
  have eW:IntKind.i64.wrap ((((x :: l++[b]).length:Nat):Int) - 1)=((l.length+1:Nat):Int):=by rw [hlen0,wiC _ (by omega) (by omega)];omega
  unfold Dz.g EU.f
  simp only [Int.reduceBEq,cond_true,cond_false]
  rw [eW,GI 1 (l.length+1) (show (1:Int)=((1:Nat):Int) from rfl) rfl (by omega) (by simp),Aj,show ((x :: l++[b]).drop 1).take (l.length+1 - 1)=l by simp]
  rw [Y5 (d:=d) hB.b (by omega) hx gl (by omega) (by unfold mx;omega),Aj]
  dsimp only [BG]
  rw [GI 0 1 (show (0:Int)=((0:Nat):Int) from rfl) (show (1:Int)=((1:Nat):Int) from rfl) (by omega) (by simp),Aj,show ((x :: l++[b]).drop 0).take (1 - 0)=[x] from rfl,Alb (by omega) (by simp) (by omega),Aj,RS]
  generalize hE:CP (AL cx lo d 1) c.length l=E at hxl hX ⊢
  rw [wiC (((l.length+1:Nat):Int) - 3) (by omega) (by omega),show ((l.length+1:Nat):Int) - 3=(l.length:Int) - 2 by omega]
  rw [Ai6 _ _ _ _ _ _ (by rw [AV];unfold mx;omega),Aj,show Bh (x :: l++[b]) ((l.length+1:Nat):Int)=some b from DW (x :: l) b [],Aj]
  generalize hsI:((lo.length+1:Nat):Int)=s
  have hlen:(c++E++[i3 30 s 0 ((l.length:Int) - 2)]).length=c.length+E.length+1:=JO ..
  have hloop:=Ba8 s (((c++E).length:Nat):Int) ⟨by omega,by rw [AV];omega⟩ (FH lo [x]) (c++E++[i3 30 s 0 ((l.length:Int) - 2)]) bs nx us b hb gb (by omega) (hB.to (by rw [Atd];simp only [sz,Au,DB,AI,Br];omega) (by rw [hlen];simp only [sz,Au,DB];omega) (by rw [Yt];simp only [sz,Au,DB];omega))
  rw [hlen] at hloop
  refine (congrArg (fun z=>Option.bind z _) hloop).trans ?_
  rw [Aj,Aj,show ∀ (Q L:Cd) (z:Ins),Q++[z]++L=Q++z :: L from fun Q L z=>by simp,DW,Aj,JX,Aj,← hsI,As3 (by omega),Aj]
  refine Eq.trans ?_ (hP _ _ c.length)
  unfold VE
  simp only [AV,AI,N0,Ck]
  rw [show ∀ x:Nat,c.length+(E.length+(x+1+1))=c.length+E.length+1+(x+1) from fun x=>by omega]
  rfl
 | forIn hl hm hx hb =>
  rename_i a t b l m
  obtain ⟨_,hg⟩:=hg
  obtain ⟨hg,gb,_⟩:=OX.1 hg
  obtain ⟨_,gm⟩:=OX.1 hg
  simp only [sz,Au,DB] at hd hlo hc hbs
  show Dz.g (GS.at k) k cx.cs c cx.src cx.gl lo bs nx us 27 t (l.length:Nat) a (l++m++[b])=_
  have hs:=Em (l++m++[b])
  simp only [DB,Au] at hs
  have eW:IntKind.i64.wrap ((((l++m++[b]).length:Nat):Int) - 1)=(((l++m++[b]).length - 1:Nat):Int):=by
   have:1≤(l++m++[b]).length:=by simp;omega
   rw [wiC _ (by omega) (by omega)];omega
  unfold Dz.g
  simp only [Int.reduceBEq,cond_true,cond_false]
  rw [eW,hF lo c bs nx us t a l m b hx hb gm gb (by omega) (hB.to (by simp only [sz,Au,DB];omega) (by simp only [sz,Au,DB];omega) (by simp only [sz,Au,DB];omega)) hl,Aj,RT]
  exact hP _ _ _
 | do_ hb =>
  rename_i n a t b
  simp only [sz,Au] at hd hlo hc hbs
  rw [Qe] at hn
  show Dz.g (GS.at k) k cx.cs c cx.src cx.gl lo bs nx us 28 t n a [b]=_
  unfold Dz.g
  simp only [Int.reduceBEq,cond_true,cond_false]
  rw [ix0,Aj,hK lo c bs nx us b hb hg.2.1 (by omega) (hB.to (by simp only [sz,Au];omega) (by simp only [sz,Au];omega) (by simp only [sz,Au];omega)) hn,Aj,Qe]
 | break_ =>
  rename_i n a t
  rw [RR] at hn
  simp only [sz,Au] at hd hlo hc hbs
  show Dz.g (GS.at k) k cx.cs c cx.src cx.gl lo bs nx us 29 t n a []=_
  unfold Dz.g
  simp only [Int.reduceBEq,cond_true,cond_false]
  rcases Ou bs with rfl | ⟨M,h,rfl⟩
  ·rcases hn with hn | hn
   ·exact absurd rfl hn
   ·cases hn
  ·have h1:=V0 (M++[h])
   have h2:=A3u (m:=M) (b:=h)
   rw [AV,AI,Br] at h1
   rw [lastB M h (by omega),DW,Aj,add0 _ _ _ (by unfold mx;omega),Aj]
   rw [KP (by simp only [AI,Br];omega),Aj,JX,Aj,RR,Mo]
   rfl
 | ret hx =>
  rename_i n a t l
  simp only [sz] at hd hlo hc hbs
  have e1:=PI (f:=AL cx lo d) (l:=l) (p:=c.length+1) fun r p y hy=>E1 d r p y (hx y hy)
  show Dz.g (GS.at k) k cx.cs c cx.src cx.gl lo bs nx us 30 t n a l=_
  unfold Dz.g
  simp only [Int.reduceBEq,cond_true,cond_false]
  rw [add0 _ _ _ (by unfold mx;omega),Aj,Auo (d:=d) hB.b (by omega) hx hg.2 (by omega) (by rw [l1];unfold mx;omega),Aj,l1,add0 _ _ _ (by rw [AV,l1];unfold mx;omega),Aj,RV]
  refine Eq.trans ?_ (hP _ _ c.length)
  unfold Uy
  simp only [Ck,List.cons_append,List.nil_append]
theorem Xu:∀ (d k:Nat),500040+5 * d≤k→ST (GS.at k) cx d∧BK (GS.at (k+1)) cx d
 | 0,k,hk=>by
  have h:ST (GS.at k) cx 0:=fun _ _ _ _ _ t _ _ h=>by have:=G5 t;omega
  exact ⟨h,Aj5 (by omega) h⟩
 | d+1,k,hk=>by
  obtain ⟨j,rfl⟩:∃ j,k=j+5:=⟨k - 5,by omega⟩
  have hS:=fun i (hi:500040+5 * d≤i)=>(Xu d i hi).1
  have hK:∀ i,500041+5 * d≤i→BK (GS.at i) cx d:=fun i hi=>by
   obtain ⟨i,rfl⟩:∃ m,i=m+1:=⟨i - 1,by omega⟩
   exact (Xu d i (by omega)).2
  have Ba6:∀ top,LP (fun c lo bs nx us b=>(GS.at (j+3)).FN cx.cs c cx.src cx.gl lo bs nx us b.kind b.text b.n b.at_ b.kids top) cx d (i1 18 top):=fun top=>Blv (by omega) (hK _ (by omega)) top
  have h:ST (GS.at (j+5)) cx (d+1):=Buh (by omega) (hK _ (by omega)) (A3p (by omega) (hK _ (by omega))) (fun top=>Blx (by omega) (hK _ (by omega)) top) (fun s pr h=>Bly (by omega) (hK _ (by omega)) s pr h) (fun lo c bs nx us t a l m b=>A8b (by omega) Ba6 lo c bs nx us t a l m b)
  exact ⟨h,Aj5 (by omega) h⟩
end
mutual
/-- Does a node of the tree begin at a? -/
def Vv (a:Int):Tree→Prop
 | .mk _ _ _ p l=>p=a∨SE a l
def SE (a:Int):List Tree→Prop
 | []=>False
 | x :: l=>Vv a x∨SE a l
end
theorem Ajo {a:Int}:∀ {l:List Tree},SE a l ↔ ∃ x ∈ l,Vv a x
 | []=>by simp [SE]
 | x :: l=>by simp [SE,Ajo (l:=l)]
theorem A2v (x:Tree):Vv x.at_ x:=by cases x;exact .inl rfl
def Flt (e:Int×Int) (t:Tree):Prop:=(e.1=5∨e.1=6)∧Vv e.2 t
theorem Flt.kid {e:Int×Int} {k n a:Int} {t:ByteArray} {l:List Tree} {x:Tree} (hx:x ∈ l) (h:Flt e x):Flt e (.mk k t n a l):=⟨h.1,.inr (Ajo.2 ⟨x,hx,h.2⟩)⟩
theorem Flt.at5 {k n a:Int} {t:ByteArray} {l:List Tree}:Flt (5,a) (.mk k t n a l):=⟨.inl rfl,.inl rfl⟩
theorem Flt.at6 {k n a:Int} {t:ByteArray} {l:List Tree}:Flt (6,a) (.mk k t n a l):=⟨.inr rfl,.inl rfl⟩
theorem QD {a c m:Int} {e:Int×Int} (h:Ga a c m=.bad e):e=(6,a):=by
 unfold Ga at h
 split at h
 ·cases h;rfl
 ·cases h
theorem Atn {e:Int×Int}:∀ {l:List Tree} {lo:List ByteArray},K7 lo l=.bad e→∃ x ∈ l,e=(5,x.at_)
 | [],_,h=>by cases h
 | x :: l,lo,h=>by
  unfold K7 at h
  split at h
  ·cases h;exact ⟨x,CB ..,rfl⟩
  ·obtain ⟨y,hy,e⟩:=Atn h
   exact ⟨y,Db _ hy,e⟩
theorem Yq {a sl:Int} {lo:List ByteArray} {l:List Tree} {e:Int×Int} (h:JG a sl lo l=.bad e):(∃ x ∈ l,e=(5,x.at_))∨e=(6,a):=by
 unfold JG at h
 rcases FE h with h | ⟨lo',_,h⟩
 ·exact .inl (Atn h)
 rcases FE h with h | ⟨_,_,h⟩
 ·exact .inr (QD h)
 ·cases h
theorem Atu {f:BF→Tree→PC BF} {e:Int×Int}:∀ {l:List Tree} {s:BF},DL f s l=.bad e→∃ x ∈ l,∃ s,f s x=.bad e
 | [],_,h=>by cases h
 | x :: l,s,h=>by
  unfold DL at h
  rcases FE h with h | ⟨s1,_,h⟩
  ·exact ⟨x,CB ..,s,h⟩
  ·obtain ⟨y,hy,e⟩:=Atu h
   exact ⟨y,Db _ hy,e⟩
theorem Ajc {f:BF→Tree→Bool→PC BF} {n:Int} {e:Int×Int}:∀ {l:List Tree} {i:Nat} {s:BF},Jo f n i s l=.bad e→∃ x ∈ l,∃ s b,f s x b=.bad e
 | [],_,_,h=>by cases h
 | x :: l,i,s,h=>by
  unfold Jo at h
  rcases FE h with h | ⟨s1,_,h⟩
  ·exact ⟨x,CB ..,s,_,h⟩
  ·obtain ⟨y,hy,e⟩:=Ajc h
   exact ⟨y,Db _ hy,e⟩
theorem Bl0 {f:BF→Tree→PC BF} {a:Int} {s:BF} {names:List Tree} {b:Tree} {more:Nat} {e:Int×Int} (h:IH f a s names b more=.bad e):(∃ x ∈ names,e=(5,x.at_))∨e=(6,a)∨∃ s,f s b=.bad e:=by
 unfold IH at h
 rcases FE h with h | ⟨r,_,h⟩
 ·split at h
  ·rcases Yq h with h | h
   ·exact .inl h
   ·exact .inr (.inl h)
  ·cases h
 rcases FE h with h | ⟨_,_,h⟩
 ·exact .inr (.inr ⟨_,h⟩)
 ·cases h
theorem A7c {f:BF→List Tree→PC BF} {ab:List ByteArray} {s:BF} {k n a:Int} {t:ByteArray} {l:List Tree} {tg:Bool} {e:Int×Int} (h:Kw f ab s k t n a l tg=.bad e):e=(5,a)∨e=(6,a)∨∃ s,f s l=.bad e:=by
 unfold Kw at h
 have cst:∀ {v:V3},KR a s.cs v=.bad e→e=(6,a):=fun h=>by
  unfold KR at h
  split at h
  ·cases h
  rcases FE h with h | ⟨_,_,h⟩
  ·exact QD h
  ·cases h
 have nme:Mz a t s.gl s.lo ab=.bad e→e=(5,a):=fun h=>by
  unfold Mz at h
  split at h
  ·cases h;rfl
  split at h
  ·cases h
  split at h
  ·cases h;rfl
  ·cases h
 split at h
 ·rcases FE h with h | ⟨_,_,h⟩
  ·exact .inr (.inl (QD h))
  ·exact .inr (.inr ⟨_,h⟩)
 split at h
 ·rcases FE h with h | ⟨_,_,h⟩
  ·exact .inr (.inl (QD h))
  ·exact .inr (.inr ⟨_,h⟩)
 split at h
 ·rcases FE h with h | ⟨_,_,h⟩
  ·exact .inr (.inl (QD h))
  ·exact .inr (.inr ⟨_,h⟩)
 split at h
 ·rcases FE h with h | ⟨_,_,h⟩
  ·exact .inr (.inl (cst h))
  ·exact .inr (.inr ⟨_,h⟩)
 split at h
 ·rcases FE h with h | ⟨_,_,h⟩
  ·exact .inr (.inl (cst h))
  ·exact .inr (.inr ⟨_,h⟩)
 split at h
 ·rcases FE h with h | ⟨_,_,h⟩
  ·exact .inl (nme h)
  ·exact .inr (.inr ⟨_,h⟩)
 split at h
 ·split at h
  ·cases h;exact .inl rfl
  ·cases h
 ·exact .inr (.inr ⟨_,h⟩)
theorem Aby {e:Int×Int}:∀ {d:Nat} {ab:List ByteArray} {s:BF} {t:Tree} {tg:Bool},sz t≤d→gw t→Cm d ab s t tg=.bad e→Flt e t
 | 0,_,_,t,_,hd,_,_=>by have:=G5 t;omega
 | d+1,ab,s,.mk k t n a l,tg,hd,hw,h=>by
  obtain ⟨⟨hs1,hs7,Nl,Nm,Pr,Nn,Tp⟩,hw⟩:=hw
  rw [QG] at hw
  simp only [sz] at hd
  have hlen:=Em l
  have K:∀ {x:Tree} {ab s tg},x ∈ l→Cm d ab s x tg=.bad e→Flt e (.mk k t n a l):=fun hx h=>Flt.kid hx (Aby (by have:=FJ hx;omega) (hw _ hx) h)
  have L:∀ {m:List Tree} {ab s},(∀ x ∈ m,x ∈ l)→DL (fun s x=>Cm d ab s x false) s m=.bad e→Flt e (.mk k t n a l):=fun hm h=>by
   obtain ⟨x,hx,s,h⟩:=Atu h
   exact K (hm x hx) h
  have N:∀ {m:List Tree},(∀ x ∈ m,x ∈ l)→((∃ x ∈ m,e=(5,x.at_))∨e=(6,a))→Flt e (.mk k t n a l):=fun hm h=>by
   rcases h with ⟨x,hx,rfl⟩ | rfl
   ·exact Flt.kid (hm x hx) ⟨.inl rfl,A2v x⟩
   ·exact Flt.at6
  have P:∀ {m:List Tree} {b:Tree} {more ab s},(∀ x ∈ m,x ∈ l)→b ∈ l→IH (fun s x=>Cm d ab s x false) a s m b more=.bad e→Flt e (.mk k t n a l):=fun hm hb h=>by
   rcases Bl0 h with h | h | ⟨s,h⟩
   ·exact N hm (.inl h)
   ·exact N hm (.inr h)
   ·exact K hb h
  have F:∀ {c m:Int},Ga a c m=.bad e→Flt e (.mk k t n a l):=fun h=>by rw [QD h];exact Flt.at6
  unfold Cm at h
  split at h
  ·rcases FE h with h | ⟨_,_,h⟩
   ·exact L (fun _ h=>h) h
   ·cases h
  split at h
  ·rename_i hk
   obtain ⟨m,rfl,hm⟩:=Tp hk
   rcases FE h with h | ⟨_,_,h⟩
   ·exact F h
   split at h
   ·cases h;exact Flt.at5
   rcases FE h with h | ⟨_,_,h⟩
   ·exact F h
   rcases FE h with h | ⟨_,_,h⟩
   ·exact N (fun x hx=>List.mem_of_mem_take hx) (Yq h)
   rcases FE h with h | ⟨_,_,h⟩
   ·exact K (FR (by rw [Int.toNat_natCast];omega)).2 h
   ·cases h
  split at h
  ·rcases FE h with h | ⟨_,_,h⟩
   ·exact F h
   rcases FE h with h | ⟨_,_,h⟩
   ·exact F h
   rcases FE h with h | ⟨_,_,h⟩
   ·exact L (fun x hx=>List.mem_of_mem_drop hx) h
   rcases FE h with h | ⟨_,_,h⟩
   ·exact N (fun x hx=>List.mem_of_mem_take hx) (Yq h)
   ·cases h
  split at h
  ·rcases FE h with h | ⟨_,_,h⟩
   ·exact F h
   rcases FE h with h | ⟨_,_,h⟩
   ·exact F h
   obtain ⟨x,hx,s,b,h⟩:=Ajc h
   exact K hx h
  split at h
  ·rename_i hk
   have h2:=Nl hk
   rcases FE h with h | ⟨_,_,h⟩
   ·exact K (FR (by omega)).2 h
   ·exact P (m:=[]) (fun x hx=>absurd hx List.not_mem_nil) (FR (by omega)).2 h
  split at h
  ·rename_i hk
   have h2:=Nm hk
   rcases FE h with h | ⟨_,_,h⟩
   ·exact L (fun x hx=>List.mem_of_mem_drop (List.mem_of_mem_take hx)) h
   ·exact P (fun x hx=>List.mem_of_mem_take hx) (FR (by omega)).2 h
  split at h
  ·rename_i hk
   obtain ⟨m,rfl,hm⟩:=Nn hk
   rcases FE h with h | ⟨_,_,h⟩
   ·exact F h
   rcases FE h with h | ⟨_,_,h⟩
   ·exact F h
   rcases FE h with h | ⟨_,_,h⟩
   ·exact L (fun x hx=>List.mem_of_mem_drop (List.mem_of_mem_take hx)) h
   ·exact P (fun x hx=>List.mem_of_mem_take hx) (FR (by omega)).2 h
  split at h
  ·split at h
   ·cases h;exact Flt.at5
   ·cases h
  ·rcases A7c h with rfl | rfl | ⟨s,h⟩
   ·exact Flt.at5
   ·exact Flt.at6
   ·exact L (fun _ h=>h) h
theorem Rw:∀ {d:Nat} {ab:List ByteArray} {s s':BF} {t:Tree} {tg:Bool},wfT t→Cm d ab s t tg=.ok s'→s'.fs=s.fs
 | 0,_,_,_,_,_,_,h=>by unfold Cm at h;cases h
 | d+1,ab,s,s',.mk k t n a l,tg,hw,h=>by
  obtain ⟨⟨hs1,h31,hs7,Nl,Nm,Pr,Nn⟩,hw⟩:=hw
  rw [Qk] at hw
  have hN:∀ {m:List Tree} {ab s s'},(∀ x ∈ m,x ∈ l)→DL (fun s x=>Cm d ab s x false) s m=.ok s'→s'.fs=s.fs:=by
   intro m
   induction m with
   | nil=>intro ab s s' _ h;cases h;rfl
   | cons x m ihm =>
    intro ab s s' hm h
    unfold DL at h
    obtain ⟨s1,h1,h⟩:=BM h
    rw [ihm (fun y hy=>hm y (Db _ hy)) h,Rw (hw _ (hm _ (CB ..))) h1]
  have hA:∀ {m:List Tree} {n i ab s s'},(∀ x ∈ m,x ∈ l)→Jo (fun s x b=>Cm d ab s x b) n i s m=.ok s'→s'.fs=s.fs:=by
   intro m
   induction m with
   | nil=>intro n i ab s s' _ h;cases h;rfl
   | cons x m ihm =>
    intro n i ab s s' hm h
    unfold Jo at h
    obtain ⟨s1,h1,h⟩:=BM h
    rw [ihm (fun y hy=>hm y (Db _ hy)) h,Rw (hw _ (hm _ (CB ..))) h1]
  have hP:∀ {a:Int} {names:List Tree} {b:Tree} {more:Nat} {ab s s'},b ∈ l→IH (fun s x=>Cm d ab s x false) a s names b more=.ok s'→s'.fs=s.fs:=by
   intro a names b more ab s s' hb h
   unfold IH at h
   obtain ⟨r,_,h⟩:=BM h
   obtain ⟨s1,h1,h⟩:=BM h
   cases h
   have h2:=Rw (hw _ hb) (show Cm d ab _ b false=_ from h1)
   exact h2
  unfold Cm at h
  split at h
  ·obtain ⟨s1,h1,h⟩:=BM h;cases h;have h2:=hN (fun _ h=>h) h1;exact h2
  split at h
  ·obtain ⟨_,_,h⟩:=BM h
   obtain ⟨_,_,h⟩:=BM h
   obtain ⟨s1,h1,h⟩:=BM h
   obtain ⟨r,_,h⟩:=BM h
   cases h;have h2:=hN (fun x hx=>List.mem_of_mem_drop hx) h1;exact h2
  split at h
  ·obtain ⟨_,_,h⟩:=BM h
   obtain ⟨_,_,h⟩:=BM h
   exact hA (fun _ h=>h) h
  split at h
  ·rename_i hk
   have h2:=Nl hk
   obtain ⟨s1,h1,h⟩:=BM h
   rw [hP (FR (by omega)).2 h,Rw (hw _ (FR (by omega)).2) h1]
  split at h
  ·rename_i hk
   have h2:=Nm hk
   obtain ⟨s1,h1,h⟩:=BM h
   rw [hP (FR (by omega)).2 h,hN (fun x hx=>List.mem_of_mem_drop (List.mem_of_mem_take hx)) h1]
  split at h
  ·rename_i hk
   obtain ⟨m,rfl,hm⟩:=Nn hk
   obtain ⟨_,_,h⟩:=BM h
   obtain ⟨_,_,h⟩:=BM h
   obtain ⟨s1,h1,h⟩:=BM h
   rw [hP (FR (by omega)).2 h,hN (fun x hx=>List.mem_of_mem_drop (List.mem_of_mem_take hx)) h1]
  split at h
  ·split at h
   ·cases h
   ·cases h;rfl
  ·have X:∀ {s s':BF},DL (fun s x=>Cm d ab s x false) s l=.ok s'→s'.fs=s.fs:=fun h=>hN (fun _ h=>h) h
   unfold Kw at h
   (repeat' split at h) <;> first
    | (cases h;done)
    | (cases h;rfl)
    | exact X h
    | (obtain ⟨_,_,h⟩:=BM h;have h2:=X (show DL (fun s x=>Cm d ab s x false) _ l=_ from h);exact h2)
theorem Ab1 {cx:GCx} {d:Nat} (ih:∀ (lo:List ByteArray) (p:Nat) (t:Tree),IsS t→∀ (d':Nat) (ab:List ByteArray) (s s':BF),gw t→Cm d' ab s t false=.ok s'→s.lp=0→holes p (BZ cx d lo p t).1=[]) :
  ∀ (l:List Tree) (lo:List ByteArray) (p:Nat) (d':Nat) (ab:List ByteArray) (s s':BF),(∀ x ∈ l,IsS x)→EH l→DL (fun s x=>Cm d' ab s x false) s l=.ok s'→s.lp=0→holes p (FZ cx (BZ cx d) lo p l)=[]
 | [],_,_,_,_,_,_,_,_,_,_=>rfl
 | x :: l,lo,p,d',ab,s,s',hI,hg,h,h0=>by
  unfold DL at h
  obtain ⟨s1,h1,h⟩:=BM h
  have hp:=Hs hg.1 h1
  show holes (p+1) (_++_)=[]
  rw [ID,ih lo (p+1) x (hI x (CB ..)) d' ab s s1 hg.1 h1 h0,List.nil_append]
  exact Ab1 ih l _ _ d' ab s1 s' (fun y hy=>hI y (Db _ hy)) hg.2 h (by rw [hp.lp];exact h0)
theorem W8 {cx:GCx} {d:Nat} (ih:∀ (lo:List ByteArray) (p:Nat) (t:Tree),IsS t→∀ (d':Nat) (ab:List ByteArray) (s s':BF),gw t→Cm d' ab s t false=.ok s'→s.lp=0→holes p (BZ cx d lo p t).1=[])
  (b:Tree) (lo:List ByteArray) (p:Nat) (d':Nat) (ab:List ByteArray) (s s':BF) (hb:E7 b) (hg:gw b) (h:Cm d' ab s b false=.ok s') (h0:s.lp=0):holes p (CE cx d lo p b)=[]:=by
 cases hb with
 | block hl =>
  cases d' with
  | zero=>unfold Cm at h;cases h
  | succ d' =>
   unfold Cm at h
   rw [if_pos rfl] at h
   obtain ⟨s1,h1,_⟩:=BM h
   exact Ab1 ih _ lo p d' ab s s1 hl hg.2 h1 h0
theorem At1 {cx:GCx} {d:Nat} {e:Nat→Tree→Cd} (ih:∀ (lo:Ae) (p:Nat) (t:Tree),IsS t→∀ (d':Nat) (ab:Ae) (s s':BF),gw t→Cm d' ab s t false=.ok s'→s.lp=0→holes p (BZ cx d lo p t).1=[]) (lo:Ae) :
  ∀ (l:List Tree) (p:Nat) (d':Nat) (ab:List ByteArray) (s s':BF),IsR l→EH l→DL (fun s x=>Cm d' ab s x false) s l=.ok s'→s.lp=0→holes p (v2 0 (brX e (CE cx d lo) p l))=[]
 | [],_,_,_,_,_,_,_,_,_=>rfl
 | [b],p,d',ab,s,s',hr,hg,h,h0=>by
  have hb:E7 b:=by cases hr with | last h=>exact h
  unfold DL at h
  obtain ⟨s1,h1,h⟩:=BM h
  show holes p (v2 0 ((CE cx d lo p b).map some))=[]
  rw [Sb]
  exact W8 ih b lo p d' ab s s1 hb hg.1 h1 h0
 | x :: y :: l,p,d',ab,s,s',hr,hg,h,h0=>by
  obtain ⟨hx,hy,hl⟩:IsE x∧E7 y∧IsR l:=by cases hr with | more h1 h2 h3=>exact ⟨h1,h2,h3⟩
  unfold DL at h
  obtain ⟨s1,h1,h⟩:=BM h
  unfold DL at h
  obtain ⟨s2,h2,h⟩:=BM h
  have p1:=(Hs hg.1 h1).lp.trans h0
  have p2:=(Hs hg.2.1 h2).lp.trans p1
  have e1:=W8 ih y lo (p+(e p x).length+1) d' ab s1 s2 hy hg.2.1 h2 p1
  have e2:=fun q=>At1 (e:=e) ih lo l q d' ab s2 s' hl hg.2.2 h p2
  simp only [brX]
  rw [Sa,Agg,ID,Jq,List.nil_append,JU]
  show holes (p+(e p x).length+1) (v2 0 ((CE cx d lo (p+(e p x).length+1) y).map some++_++_))=[]
  rw [Sa,Sa,Sb,Ck,ID,e1,List.nil_append,ID]
  cases l with
  | nil=>rfl
  | cons u v=>exact e2 _
theorem W7 {cx:GCx}:∀ (d:Nat) (lo:List ByteArray) (p:Nat) (t:Tree),IsS t→∀ (d':Nat) (ab:List ByteArray) (s s':BF),gw t→Cm d' ab s t false=.ok s'→s.lp=0→holes p (BZ cx d lo p t).1=[]
 | 0,_,_,_,_,_,_,_,_,_,_,_=>rfl
 | d+1,lo,p,t,hI,0,ab,s,s',hg,h,h0=>by unfold Cm at h;cases h
 | d+1,lo,p,t,hI,d'+1,ab,s,s',hg,h,h0=>by
  have ih:=fun lo p t h=>W7 (cx:=cx) d lo p t h
  cases hI with
  | loc=>rw [RU];exact Jq
  | asg=>rw [RQ];exact Jq
  | run=>rw [RW];exact Jq
  | if_ hr =>
   rw [Qf]
   unfold Cm at h
   simp only [Int.reduceEq,if_false] at h
   unfold Kw at h
   simp only [Int.reduceEq,if_false,false_and] at h
   show holes p (v2 _ (brX _ _ p _))=[]
   rw [QN]
   exact At1 ih lo _ p d' ab s s' hr hg.2 h h0
  | while_=>rw [RX];exact Jq
  | for_=>rw [RS];exact Jq
  | forIn=>rw [RT];exact Jq
  | do_ hb =>
   rw [Qe]
   unfold Cm at h
   simp only [Int.reduceEq,if_false] at h
   unfold Kw at h
   simp only [Int.reduceEq,if_false,false_and] at h
   unfold DL at h
   obtain ⟨s1,h1,h⟩:=BM h
   exact W8 ih _ lo p d' ab s s1 hb hg.2.1 h1 h0
  | break_ =>
   unfold Cm at h
   simp only [Int.reduceEq,if_false,if_true] at h
   rw [if_pos h0] at h
   cases h
  | ret=>rw [RV];exact Jq
def Ql (u:Dp) (c:Cd):Dp:=(u.1,u.2.1,u.2.2.1,u.2.2.2.1,c)
def Lj (r:Km):Dp:=(r.1,r.2.2.1,r.2.2.2.1,r.2.2.2.2,[])
def OK (gl:List ByteArray) (src:ByteArray) (d:Nat) (cs:List V3) (x:Tree):Hx:=CE ⟨cs,gl,src⟩ d ((x.kids.take x.n.toNat).map (·.text)) 0 (BN x.kids x.n.toNat)
def OV (gl:List ByteArray) (src:ByteArray) (d:Nat) (cs:List V3) (x:Tree):Cd:=BY 0 (OK gl src d cs x)++[i0 22]++[i0 25]
def Gx (cx:GCx) (d:Nat):List ByteArray→Nat→Nat→List Tree→Hx
 | _,_,_,[]=>[]
 | lo,p,nx,x :: l =>
  if x.kind=31 then some (i1 1 (EJ cx.src x.at_)) :: some (i1 11 (nx:Int)) :: some (i1 9 (glN cx.gl x.text)) :: Gx cx d lo (p+3) (nx+1) l
  else some (i1 1 (EJ cx.src x.at_)) :: ((BZ cx d lo (p+1) x).1++Gx cx d (BZ cx d lo (p+1) x).2 (p+1+(BZ cx d lo (p+1) x).1.length) nx l)
def Jd (gl:List ByteArray) (src:ByteArray) (d:Nat):List Tree→List Dp→List Dp
 | [],U=>U
 | x :: l,U=>if x.kind=31 then (match U with | []=>[] | u :: U=>Ql u (OV gl src d u.2.2.2.1 x) :: Jd gl src d l U) else Jd gl src d l U
def okU (gl:List ByteArray) (src:ByteArray) (d:Nat):List Tree→List Dp→Prop
 | [],_=>True
 | x :: l,U=>if x.kind=31 then ∃ u V,U=u :: V∧u.2.2.2.2=[]∧u.2.2.2.1.length≤400000∧holes 0 (OK gl src d u.2.2.2.1 x)=[]∧okU gl src d l V else okU gl src d l U
theorem Apd {t:Tree} (h:IsS t):t.kind≠31:=by cases h <;> (simp only [Tree.kind];decide)
theorem QS {t:Tree} (h:Lt t):∃ a tx l b,t=.mk 31 tx (l.length:Nat) a (l++[b])∧E7 b:=by
 cases h with | fn hb=>exact ⟨_,_,_,_,rfl,hb⟩
section
variable {cx:GCx} {d k:Nat}
theorem A8h (hk:500000≤k) (hK:BK (GS.at k) cx d) (lo:Ae) (c:Cd) (bs:TyL) (nx:Int) (us:List (Option Dp)) (b:Tree) (hb:E7 b) (hg:gw b) (hd:sz b≤d+1) (hB:BdX cx lo c.length bs (sz b - 1)) (hn:bs≠[]∨holes c.length (CE cx d lo c.length b)=[]) :
  (GS.at (k+1)).FM cx.cs c cx.src cx.gl lo bs nx us b.kind b.text b.n b.at_ b.kids=some (c++BY 0 (CE cx d lo c.length b)++[i0 22]++[i0 25],lo,GN bs (holes c.length (CE cx d lo c.length b)),nx,us):=by
 show FM.g (GS.at k) k cx.cs c cx.src cx.gl lo bs nx us b.kind b.text b.n b.at_ b.kids=_
 have hX:=NS (cx:=cx) (d:=d) hb lo c.length
 have hc:=hB.c
 unfold FM.g
 rw [hK lo c bs nx us b hb hg hd hB hn,Aj,add0 _ _ _ (by rw [AV,GC];unfold mx;omega),Aj,add0 _ _ _ (by rw [AV,AV,GC];simp only [AI,Br];unfold mx;omega),Aj]
theorem Bh6 {gl:Ae} {src:ByteArray} (hk:500050+5 * d≤k) (D T:List (Option Dp)) (u:Dp) (t:ByteArray) (a:Int) (l:List Tree) (b:Tree) (hb:E7 b) (hg:gw b) (hd:sz b≤d) (hu:u.2.2.2.2=[]) (hus:u.2.2.2.1.length≤400000) (hgl:gl.length≤400000) (hsrc:src.size≤400000) (hl:l.length+4 * sz b≤400000) (hl5:5 * sz b≤450000) (hD:D.length≤1000000)
  (hn:holes 0 (OK gl src d u.2.2.2.1 (.mk 31 t (l.length:Nat) a (l++[b])))=[]) :
  (GS.at (k+3)).IC src gl (D.length:Int) (D++some u :: T) 31 t (l.length:Nat) a (l++[b])=some (((D.length+1:Nat):Int),D++some (Ql u (OV gl src d u.2.2.2.1 (.mk 31 t (l.length:Nat) a (l++[b])))) :: T):=by
 show IC.g (GS.at (k+2)) (k+2) src gl (D.length:Int) (D++some u :: T) 31 t (l.length:Nat) a (l++[b])=_
 obtain ⟨u0,u1,u2,cs,cd⟩:=u
 have hu:cd=[]:=hu
 subst hu
 have e1:(l++[b]).take l.length=l:=by simp
 have e2:BN (l++[b]) l.length=b:=by simp [BN]
 have eb:OK gl src d cs (.mk 31 t (l.length:Nat) a (l++[b]))=CE ⟨cs,gl,src⟩ d (l.map (·.text)) 0 b:=by
  show CE ⟨cs,gl,src⟩ d (((l++[b]).take ((l.length:Nat):Int).toNat).map (·.text)) 0 (BN (l++[b]) ((l.length:Nat):Int).toNat)=_
  rw [Int.toNat_natCast,e1,e2]
 have hn:holes 0 (OK gl src d cs (.mk 31 t (l.length:Nat) a (l++[b])))=[]:=hn
 rw [eb] at hn
 have hbp:=G5 b
 unfold IC.g
 rw [DW,Aj,Aj,JX,Aj,GI 0 l.length (show (0:Int)=((0:Nat):Int) from rfl) rfl (by omega) (by simp),Aj,show ((l++[b]).drop 0).take (l.length - 0)=l by simp,Yp _ _ _ (by omega) (by simp) (by omega),Aj,List.nil_append,DW,Aj,wiC _ (by omega) (by omega)]
 have hf:=A8h (cx:=⟨cs,gl,src⟩) (d:=d) (k:=k+1) (by omega) (Xu d k (by omega)).2 (l.map (·.text)) [] [] ((D.length:Int)+1) (D++none :: T) b hb hg (by omega) ⟨hus,hgl,hsrc,by rw [List.length_map];omega,by simp only [Br];omega,by show 0+0+_≤_;omega⟩ (.inr hn)
 refine (congrArg (fun z=>Option.bind z _) hf).trans ?_
 rw [Aj,DW,Aj,JX,Aj]
 unfold Ql OV
 rw [eb,List.nil_append,show ((D.length+1:Nat):Int)=(D.length:Int)+1 by omega]
 rfl
theorem A8f (hk:500060+5 * d≤k) (lo:List ByteArray) (c:Cd) (D T:List (Option Dp)) (u:Dp) (x:Tree) (hx:Lt x) (hg:gw x) (hd:sz x≤d) (hu:u.2.2.2.2=[]) (hus:u.2.2.2.1.length≤400000) (hD:D.length≤900000)
  (hB:BdX cx lo (c.length - 1) [] (sz x)) (hn:holes 0 (OK cx.gl cx.src d u.2.2.2.1 x)=[]) :
  (GS.at (k+4)).Dz cx.cs c cx.src cx.gl lo [] (D.length:Int) (D++some u :: T) x.kind x.text x.n x.at_ x.kids=some (c++[i1 11 (D.length:Int)]++[i1 9 (glN cx.gl x.text)],lo,[],((D.length+1:Nat):Int),D++some (Ql u (OV cx.gl cx.src d u.2.2.2.1 x)) :: T):=by
 obtain ⟨a,t,l,b,rfl,hb⟩:=QS hx
 obtain ⟨_,hg⟩:=hg
 obtain ⟨_,gb,_⟩:=OX.1 hg
 have hc:=hB.c
 have hlo:=hB.lo
 simp only [sz,Au,DB] at hd hc hlo
 have hs:=Em l
 show Dz.g (GS.at (k+3)) (k+3) cx.cs c cx.src cx.gl lo [] (D.length:Int) (D++some u :: T) 31 t (l.length:Nat) a (l++[b])=_
 unfold Dz.g
 simp only [Int.reduceBEq,cond_true,cond_false]
 rw [add1 _ _ _ _ (by unfold mx;omega),Aj,YF _ _ _ hB.gl (by omega),Aj,add1 _ _ _ _ (by rw [AV];simp only [AI,Br];unfold mx;omega),Aj]
 have hi:=Bh6 (gl:=cx.gl) (src:=cx.src) (d:=d) (k:=k) (by omega) D T u t a l b hb gb (by omega) hu hus hB.gl hB.src (by omega) (by omega) (by omega) hn
 refine (congrArg (fun z=>Option.bind z _) hi).trans ?_
 rw [Aj]
 rfl
theorem Af5 {R:GS} (hS:ST R cx d)
  (hF:∀ (lo:Ae) (c:Cd) (D T:List (Option Dp)) (u:Dp) (x:Tree),Lt x→gw x→sz x≤d→u.2.2.2.2=[]→u.2.2.2.1.length≤400000→D.length≤900000→BdX cx lo (c.length - 1) [] (sz x)→holes 0 (OK cx.gl cx.src d u.2.2.2.1 x)=[] →
   R.Dz cx.cs c cx.src cx.gl lo [] (D.length:Int) (D++some u :: T) x.kind x.text x.n x.at_ x.kids=some (c++[i1 11 (D.length:Int)]++[i1 9 (glN cx.gl x.text)],lo,[],((D.length+1:Nat):Int),D++some (Ql u (OV cx.gl cx.src d u.2.2.2.1 x)) :: T))
  (J:Cd→List ByteArray→List (List Int)→Int→List (Option Dp)→NO) :
  ∀ (t pre:List Tree) (lo:Ae) (c:Cd) (D:List (Option Dp)) (U:List Dp) (m:Nat),500000+t.length≤m→pre.length+t.length≤400000→(∀ x ∈ t,IsS x∨Lt x)→EH t→Au t≤d→D.length+t.length≤900000→okU cx.gl cx.src d t U→BdX cx lo c.length [] (Au t) →
   holes c.length (Gx cx d lo c.length D.length t)=[] →
   ∃ lo' nx',lo <+: lo'∧D4.l0 m R cx.cs cx.src cx.gl (pre++t) J (pre.length:Int) c lo [] (D.length:Int) (D++U.map some)=J (c++BY 0 (Gx cx d lo c.length D.length t)) lo' [] nx' (D++(Jd cx.gl cx.src d t U).map some)
 | [],pre,lo,c,D,U,m,hm,hl,hI,hg,hd,hD,hU,hB,hn=>by
  obtain ⟨m,rfl⟩:∃ m',m=m'+1:=⟨m - 1,by omega⟩
  refine ⟨lo,(D.length:Int),List.prefix_refl _,?_⟩
  simp only [D4.l0]
  rw [ltF (by simp),cond_false]
  simp [Gx,BY,Jd]
 | x :: t,pre,lo,c,D,U,m,hm,hl,hI,hg,hd,hD,hU,hB,hn=>by
  obtain ⟨m,rfl⟩:∃ m',m=m'+1:=⟨m - 1,by omega⟩
  simp only [AI] at hl hm hD
  simp only [Au] at hd hB
  obtain ⟨y,z,hp⟩:=Au6 m cx.src x.at_ hB.src (by omega)
  have hc:=hB.c
  have hxp:=G5 x
  have l1:∀ (D:Cd) (i:Ins),(D++[i]).length=D.length+1:=fun D i=>by simp
  have e2:(pre++[x])++t=pre++x :: t:=by simp
  have e3:((pre++[x]).length:Int)=(pre.length:Int)+1:=by simp
  simp only [D4.l0]
  rw [Ir (by simp;omega),cond_true,DW,Aj,hp,Aj,add1 _ _ _ _ (by unfold mx;omega),Aj]
  rcases hI x (CB ..) with hx | hx
  ·have h31:=Apd hx
   simp only [Gx,if_neg h31] at hn ⊢
   simp only [Jd,okU,if_neg h31] at hU ⊢
   have hX:=Qg (cx:=cx) d lo (c.length+1) x hx
   obtain ⟨hlo,hlo2⟩:=Aw8 (cx:=cx) d lo (c.length+1) x hx
   have hlen:(c++[i1 1 (EJ cx.src x.at_)]++BY 0 (BZ cx d lo (c.length+1) x).1).length=c.length+1+(BZ cx d lo (c.length+1) x).1.length:=by rw [AV,l1,GC]
   rw [show holes c.length (some (i1 1 (EJ cx.src x.at_)) :: ((BZ cx d lo (c.length+1) x).1++Gx cx d (BZ cx d lo (c.length+1) x).2 (c.length+1+(BZ cx d lo (c.length+1) x).1.length) D.length t))=holes (c.length+1) (BZ cx d lo (c.length+1) x).1++holes (c.length+1+(BZ cx d lo (c.length+1) x).1.length) (Gx cx d (BZ cx d lo (c.length+1) x).2 (c.length+1+(BZ cx d lo (c.length+1) x).1.length) D.length t) from ID] at hn
   obtain ⟨hn1,hn2⟩:=List.append_eq_nil_iff.1 hn
   have hst:=hS lo (c++[i1 1 (EJ cx.src x.at_)]) [] (D.length:Int) (D++U.map some) x hx hg.1 (by omega) (hB.to (by omega) (by rw [l1];omega) (by omega)) (by rw [l1];exact .inr hn1)
   rw [l1,hn1,Vx] at hst
   obtain ⟨lo',nx',h1,h2⟩:=Af5 hS hF J t (pre++[x]) (BZ cx d lo (c.length+1) x).2 (c++[i1 1 (EJ cx.src x.at_)]++BY 0 (BZ cx d lo (c.length+1) x).1) D U m (by omega) (by simp;omega) (fun y hy=>hI y (Db _ hy)) hg.2 (by omega) (by omega) hU (hB.to (by omega) (by rw [hlen];omega) (by omega)) (by rw [hlen];exact hn2)
   refine ⟨lo',nx',hlo.trans h1,?_⟩
   rw [e2,e3,hlen] at h2
   refine (congrArg (fun z=>Option.bind z _) hst).trans ?_
   rw [Aj,wiC _ (by omega) (by omega)]
   refine h2.trans ?_
   rw [show BY 0 (some (i1 1 (EJ cx.src x.at_)) :: ((BZ cx d lo (c.length+1) x).1++Gx cx d (BZ cx d lo (c.length+1) x).2 (c.length+1+(BZ cx d lo (c.length+1) x).1.length) D.length t))=i1 1 (EJ cx.src x.at_) :: (BY 0 (BZ cx d lo (c.length+1) x).1++BY 0 (Gx cx d (BZ cx d lo (c.length+1) x).2 (c.length+1+(BZ cx d lo (c.length+1) x).1.length) D.length t)) from congrArg (i1 1 (EJ cx.src x.at_) :: ·) NV]
   simp only [Ck,List.cons_append,List.nil_append]
  ·have h31:x.kind=31:=by obtain ⟨_,_,_,_,rfl,_⟩:=QS hx;rfl
   simp only [Gx,if_pos h31] at hn ⊢
   simp only [Jd,okU,if_pos h31] at hU ⊢
   obtain ⟨u,V,rfl,hu,hus,hh,hV⟩:=hU
   have hst:=hF lo (c++[i1 1 (EJ cx.src x.at_)]) D (V.map some) u x hx hg.1 (by omega) hu hus (by omega) (hB.to (by omega) (by rw [l1];omega) (by omega)) hh
   have hlen:(c++[i1 1 (EJ cx.src x.at_)]++[i1 11 (D.length:Int)]++[i1 9 (glN cx.gl x.text)]).length=c.length+3:=by rw [l1,l1,l1]
   have lD:(D++[some (Ql u (OV cx.gl cx.src d u.2.2.2.1 x))]).length=D.length+1:=by simp
   obtain ⟨lo',nx',h1,h2⟩:=Af5 hS hF J t (pre++[x]) lo (c++[i1 1 (EJ cx.src x.at_)]++[i1 11 (D.length:Int)]++[i1 9 (glN cx.gl x.text)]) (D++[some (Ql u (OV cx.gl cx.src d u.2.2.2.1 x))]) V m (by omega) (by simp;omega) (fun y hy=>hI y (Db _ hy)) hg.2 (by omega) (by rw [lD];omega) hV (hB.to (by omega) (by rw [hlen];omega) (by omega)) (by rw [hlen,lD];exact hn)
   refine ⟨lo',nx',h1,?_⟩
   rw [e2,e3,hlen,lD,show ∀ (A B:List (Option Dp)) (z:Option Dp),A++[z]++B=A++z :: B from fun A B z=>by simp,show ∀ (A B:List (Option Dp)) (z:Option Dp),A++[z]++B=A++z :: B from fun A B z=>by simp] at h2
   refine (congrArg (fun z=>Option.bind z _) hst).trans ?_
   rw [Aj,wiC _ (by omega) (by omega)]
   refine h2.trans ?_
   simp only [BY,List.map_cons,Option.getD_some,Ck,List.cons_append,List.nil_append]
end
theorem Ad1 (s:ByteArray):(∃ c a,c≠0∧Iv s=M6 c a)∨∃ n,Iv s=JZ n∧wfC n∧sz n≤80010∧IsC n∧s.size≤20000:=by
 cases hs:G4 (bs s) with
 | inl x =>
  obtain ⟨c,p⟩:=x
  exact .inl ⟨c,p,Xq _ _ _ hs,Ad2 hs⟩
 | inr t =>
  have hT:=U2 s t hs
  rcases Agh hT with ⟨b,r,hb,hB,⟨_,he⟩ | ⟨_,he⟩⟩ | ⟨j,hb,he⟩
  ·refine .inr ⟨b,WU hs he,?_,?_,Bu5 hb,?_⟩
   ·obtain ⟨⟨a,l,rfl,hl⟩,_⟩:=(wS (fu _)).block true _ (Awp hs) _ _ (val_ok hb)
    exact ⟨rfl,Gn,fun x hx=>Or.elim (hl x hx) .inl (fun h=>.inr h.2)⟩
   ·have:=hB.size;have:=hT.len;omega
   ·unfold G4 at hs
    split at hs
    ·cases hs
    ·have:=C_ s
     omega
  ·exact .inl ⟨4,_,by decide,Uk hs he⟩
  ·exact .inl ⟨4,_,by decide,Uk hs he⟩
theorem Af6 {gl:Ae} {src:ByteArray} {d:Nat}:∀ (l:List Tree) (d':Nat) (s s':BF),(∀ x ∈ l,IsS x∨Lt x)→(∀ x ∈ l,Ax6 x)→EH l→DL (fun s x=>Cm d' [] s x false) s l=.ok s'→s.lp=0→pot s+4 * Au l+100≤400000 →
  ∃ HI,s'.fs=s.fs++HI∧okU gl src d l (HI.map Lj)∧∀ cs lo p nx,holes p (Gx ⟨cs,gl,src⟩ d lo p nx l)=[]
 | [],d',s,s',_,_,_,h,_,_=>by cases h;exact ⟨[],by simp,trivial,fun _ _ _ _=>rfl⟩
 | x :: l,d',s,s',hI,hT,hg,h,h0,hp=>by
  unfold DL at h
  obtain ⟨s1,h1,h⟩:=BM h
  have post:=Hs hg.1 h1
  have Bzr:=post.pot
  simp only [Au] at hp
  obtain ⟨HI,e1,e2,e3⟩:=Af6 (gl:=gl) (src:=src) (d:=d) l d' s1 s' (fun y hy=>hI y (Db _ hy)) (fun y hy=>hT y (Db _ hy)) hg.2 h (by rw [post.lp];exact h0) (by omega)
  rcases hI x (CB ..) with hx | hx
  ·have h31:=Apd hx
   have hw:wfT x:=(hT x (CB ..)).elim id fun h=>absurd (by cases x;exact h.2.1) h31
   refine ⟨HI,by rw [e1,Rw hw h1],?_,fun cs lo p nx=>?_⟩
   ·simp only [okU,if_neg h31];exact e2
   ·simp only [Gx,if_neg h31]
    show holes (p+1) (_++_)=[]
    rw [ID,W7 d lo (p+1) x hx d' [] s s1 hg.1 h1 h0,List.nil_append]
    exact e3 _ _ _ _
  ·have hfn:fnT x:=(hT x (CB ..)).elim (fun h=>by obtain ⟨_,_,_,_,rfl,_⟩:=QS hx;exact absurd rfl h.1.2.1) id
   obtain ⟨a,t,m,b,rfl,hb⟩:=QS hx
   obtain ⟨_,_,_,hws⟩:=hfn
   have hwb:wfT b:=by rw [Qk] at hws;exact hws b (by simp)
   have hgb:gw b:=X3 hwb
   have hk:BN (m++[b]) m.length=b:=by simp [BN]
   have h1':=h1
   cases d' with
   | zero=>unfold Cm at h1;cases h1
   | succ d' =>
    unfold Cm at h1
    rw [if_neg (by decide),if_pos rfl] at h1
    obtain ⟨_,_,h1⟩:=BM h1
    split at h1
    ·cases h1
    obtain ⟨_,_,h1⟩:=BM h1
    obtain ⟨r,hr,h1⟩:=BM h1
    obtain ⟨sb,h2,h1⟩:=BM h1
    rw [Int.toNat_natCast,hk] at h2
    cases h1
    have hfs:=Rw hwb h2
    have pb:=Hs hgb h2
    have hpb:=pb.pot
    have hbr:=Q8 hr
    have hgl:=Vp s.gl t
    refine ⟨(t,a,(m.length:Nat),sb.sl,sb.cs) :: HI,by rw [e1,hfs];simp,?_,fun cs lo p nx=>?_⟩
    ·simp only [okU,Tree.kind,if_true,List.map_cons]
     refine ⟨_,_,rfl,rfl,?_,?_,e2⟩
     ·show sb.cs.length≤400000
      simp only [pot,Br] at hpb hp
      simp only [sz,Au,DB] at hp
      omega
     ·show holes 0 (CE ⟨_,gl,src⟩ d _ 0 (BN (m++[b]) ((m.length:Nat):Int).toNat))=[]
      rw [Int.toNat_natCast,hk]
      exact W8 (fun lo p t h=>W7 d lo p t h) b _ 0 d' s.lo _ sb hb hgb h2 rfl
    ·simp only [Gx,Tree.kind,if_true]
     exact e3 _ _ _ _
def dG:Nat:=80010
def NX (src:ByteArray) (n:Tree) (s:BF):List Dp :=
 (⟨#[]⟩,0,s.sl,s.cs,BY 0 (Gx ⟨s.cs,s.gl,src⟩ dG [] 0 1 n.kids)++[i0 22]++[i0 25]) :: Jd s.gl src dG n.kids (s.fs.tail.map Lj)
def Mr (src:ByteArray):List Dp×List ByteArray×Int×Int :=
 match Iv src with
 | (kd,tx,n,a,l,c,p)=>if c≠0 then ([],[],c,p) else
  match JY 100000 (.mk kd tx n a l) with
  | .bad e=>([],[],e.1,e.2)
  | .ok s=>(NX src (.mk kd tx n a l) s,s.gl,0,0)
theorem Ayc (J:List (Option Dp)→Option (List (Option Dp)×Ae×Int×Int)) (l0:List (Option Km)):∀ (t:List Km) (D:List (Option Km)) (m:Nat) (r:List (Option Dp)),D.length+t.length=l0.length→t.length < m→l0.length≤400000→r.length+t.length≤400000 →
  Gb.l0 m J l0 (D++t.map some) (D.length:Int) r=J (r++t.map fun x=>some (Lj x))
 | [],D,m,r,hl,hm,h1,h2=>by
  obtain ⟨m,rfl⟩:∃ m',m=m'+1:=⟨m - 1,by omega⟩
  simp only [Gb.l0]
  rw [ltF (by simp only [Br] at hl;omega),cond_false]
  simp
 | x :: t,D,m,r,hl,hm,h1,h2=>by
  obtain ⟨m,rfl⟩:∃ m',m=m'+1:=⟨m - 1,by omega⟩
  simp only [AI] at hl hm h2
  simp only [Gb.l0,List.map_cons]
  rw [Ir (by omega),cond_true,DW,Aj,Aj,JX,Aj,KP (by simp only [AI,Br];omega),Aj,wiC _ (by omega) (by omega)]
  have ih:=Ayc J l0 t (D++[none]) m (r++[some (Lj x)]) (by simp;omega) (by omega) h1 (by simp;omega)
  rw [show D++[none]++t.map some=D++none :: t.map some by simp,show ((D++[(none:Option Km)]).length:Int)=(D.length:Int)+1 by simp] at ih
  refine (show _=_ from ih).trans ?_
  rw [Ck]
  rfl
theorem Af4 {cx:GCx} {d:Nat}:∀ (l:List Tree) (lo:List ByteArray) (p nx:Nat),(∀ x ∈ l,IsS x∨Lt x)→(Gx cx d lo p nx l).length≤5 * Au l
 | [],_,_,_,_=>Nat.zero_le _
 | x :: l,lo,p,nx,hI=>by
  have ih:=fun lo p nx=>Af4 (cx:=cx) (d:=d) l lo p nx fun y hy=>hI y (Db _ hy)
  have hxp:=G5 x
  unfold Gx
  simp only [Au]
  split
  ·have:=ih lo (p+3) (nx+1)
   simp only [AI]
   omega
  ·rename_i h31
   have hx:IsS x:=(hI x (CB ..)).elim id fun h=>by obtain ⟨_,_,_,_,rfl,_⟩:=QS h;exact absurd rfl h31
   have:=Qg (cx:=cx) d lo (p+1) x hx
   have:=ih (BZ cx d lo (p+1) x).2 (p+1+(BZ cx d lo (p+1) x).1.length) nx
   simp only [AI,AV]
   omega
theorem A4e {cx:GCx} {d j kk:Nat} (hk:500070+5 * d≤j) (l:List Tree) (t:ByteArray) (n a:Int) (U:List Dp) (hI:∀ x ∈ l,IsS x∨Lt x) (hg:EH l) (hd:Au l≤d) (hd9:d≤85000) (hU:okU cx.gl cx.src d l U) (hcs:cx.cs.length≤400000) (hgl:cx.gl.length≤400000) (hsrc:cx.src.size≤400000)
  (hn:holes 0 (Gx cx d [] 0 1 l)=[]):∃ nx',FM.g (GS.at (j+1)) kk cx.cs [] cx.src cx.gl [] [] 1 (none :: U.map some) 20 t n a l=some (BY 0 (Gx cx d [] 0 1 l)++[i0 22]++[i0 25],[],[],nx',none :: (Jd cx.gl cx.src d l U).map some):=by
 have hs:=Em l
 have hB:BdX cx [] ([]:Cd).length [] (Au l):=⟨hcs,hgl,hsrc,by show 0+_≤_;omega,by show 0+_≤_;omega,by show 0+0+_≤_;omega⟩
 obtain ⟨i,rfl⟩:∃ i,j=i+4:=⟨j - 4,by omega⟩
 have hlen:=Af4 (cx:=cx) (d:=d) l [] 0 1 hI
 obtain ⟨lo',nx',e1,e2⟩:=Af5 (Xu d (i+4) (by omega)).1 (fun lo c D T u x h1 h2 h3 h4 h5 h6 h7 h8=>A8f (by omega) lo c D T u x h1 h2 h3 h4 h5 h6 h7 h8) (fun (l2:Cd) (l7:Ae) (l12:TyL) (x17:Int) (l18:List (Option Dp))=>(DR l7 (0:Int) ((([]:Ae).length:Nat):Int)).bind fun l24=>some (l2,l24,l12,x17,l18)) l [] [] [] [none] U (i+4) (by omega) (by simp only [Br];omega) hI hg hd (by simp only [AI,Br];omega) hU hB hn
 refine ⟨nx',?_⟩
 unfold FM.g
 have hblk:(GS.at (i+4+1)).D4 cx.cs [] cx.src cx.gl [] [] 1 (none :: U.map some) 20 t n a l=some (BY 0 (Gx cx d [] 0 1 l),[],[],nx',none :: (Jd cx.gl cx.src d l U).map some):=by
  show D4.g (GS.at (i+4)) (i+4) cx.cs [] cx.src cx.gl [] [] 1 (none :: U.map some) 20 t n a l=_
  unfold D4.g
  dsimp only [BG]
  refine (show _=_ from e2).trans ?_
  rw [U7 e1,Aj,U9 e1]
  rfl
 rw [hblk,Aj,add0 _ _ _ (by rw [GC];unfold mx;omega),Aj,add0 _ _ _ (by rw [AV,GC];simp only [AI,Br];unfold mx;omega),Aj]
theorem gen_eq (k:Nat) (hk:950000≤k) (s:ByteArray):Gb.fS k s=some (Mr s):=by
 unfold Gb.fS Gb.f Mr
 rw [check_eq k (by omega),Aea k (by omega),Aj,Aj]
 rcases Ad1 s with ⟨c,p,hc,he⟩ | ⟨n,he,hw,hz,hI,hs⟩
 ·rw [he]
  unfold M6
  simp only
  rw [if_pos hc,if_pos hc]
  simp only
  rw [show (c != 0)=true by rw [bne_iff_ne];exact hc,cond_true]
  rfl
 ·rw [he]
  unfold JZ
  simp only [ne_eq,not_true_eq_false,if_false]
  obtain ⟨hg,_⟩:=Agv hw
  have e:Tree.mk n.kind n.text n.n n.at_ n.kids=n:=by cases n;rfl
  rw [e]
  cases hn:JY 100000 n with
  | bad e =>
   have he:e.1≠0:=by
    unfold JY at hn
    split at hn
    ·cases hn;show (6:Int)≠0;decide
    ·have:=(Aby (by omega) hg hn).1
     omega
   simp only [Afb]
   rw [show (e.1 != 0)=true by rw [bne_iff_ne];exact he,cond_true]
   rfl
  | ok s' =>
   have hn':=hn
   unfold JY at hn
   split at hn
   ·cases hn
   cases hI with
   | chunk hI =>
    rename_i t0 l _ _
    obtain ⟨_,_,hT⟩:=hw
    have hg':=hg
    obtain ⟨_,hgl⟩:=hg
    have h20:=hn
    unfold Cm at h20
    rw [if_pos rfl] at h20
    obtain ⟨s1,h1,h20⟩:=BM h20
    simp only [sz] at hz
    have hpp:=(Hs hg' hn).pot
    obtain ⟨HI,e1,e2,e3⟩:=Af6 (gl:=s'.gl) (src:=s) (d:=dG) _ _ st0 s1 hI hT hgl h1 rfl (by show 1+0+0+0+_+_≤_;omega)
    cases h20
    obtain ⟨fs,gl,sl,cs,lo,lp⟩:=s1
    have e1:fs=(⟨#[]⟩,0,0,0,[]) :: HI:=e1
    subst e1
    simp only [pot,sz,st0,AI,Br] at hpp
    obtain ⟨j,rfl⟩:∃ j,k=j+1:=⟨k - 1,by omega⟩
    obtain ⟨nx',hc⟩:=A4e (cx:=⟨cs,gl,s⟩) (d:=dG) (j:=j) (kk:=j+1) (by unfold dG;omega) l t0 _ _ (HI.map Lj) hI hgl (by unfold dG;omega) (by decide) e2 (by show cs.length≤_;omega) (by show gl.length≤_;omega) (by show s.size≤_;omega) (e3 cs [] 0 1)
    have hu:=fun (a:Int) J=>Ayc J ((((⟨#[]⟩,a,0,sl,cs) :: HI:List Km)).map some) ((⟨#[]⟩,a,0,sl,cs) :: HI) [] (j+1) [] (by simp) (by simp only [AI];omega) (by simp only [AI,List.length_map];omega) (by simp only [AI,Br];omega)
    simp only [Afb,bne_self_eq_false,cond_false,Aj,BG]
    refine (congrArg (fun z=>Option.bind z _) (hu _ _)).trans ?_
    have i0':∀ (x:Option Dp) (T:List (Option Dp)),Bh (x :: T) (0:Int)=some x:=fun _ _=>rfl
    have s0':∀ (x y:Option Dp) (T:List (Option Dp)),EW (x :: T) (0:Int) y=some (y :: T):=fun x y T=>JX [] x y T
    simp only [List.map_cons,List.nil_append,i0',s0',Aj]
    rw [show (HI.map fun x=>some (Lj x))=(HI.map Lj).map some by simp]
    refine (congrArg (fun z=>Option.bind (Option.bind z _) _) hc).trans ?_
    simp only [i0',s0',Aj]
    rw [show ∀ (u:Dp) (U:List Dp),some u :: U.map some=(u :: U).map some from fun _ _=>rfl,Ai7]
    rfl
end
section
open Go Go.RowKit
variable {Rl:Int→Int→Prop}
def Oq (Rl:Int→Int→Prop) (p p':Tk):Prop:=p.1=p'.1∧p.2.1=p'.2.1∧p.2.2.1=p'.2.2.1∧Rl p.2.2.2 p'.2.2.2
def D2 (Rl:Int→Int→Prop):List Tk→List Tk→Prop
 | [],[]=>True
 | p :: P,p' :: P'=>Oq Rl p p'∧D2 Rl P P'
 | _,_=>False
mutual
/-- The same tree, at other places. -/
def Dw (Rl:Int→Int→Prop):Tree→Tree→Prop
 | .mk k t n a l,.mk k' t' n' a' l'=>(k=20∨k=11∨Rl a a')∧k=k'∧t=t'∧n=n'∧CW Rl l l'
def CW (Rl:Int→Int→Prop):List Tree→List Tree→Prop
 | [],[]=>True
 | x :: l,x' :: l'=>Dw Rl x x'∧CW Rl l l'
 | _,_=>False
end
theorem GW:∀ {l l':List Tree},(CW Rl) l l'→l.length=l'.length
 | [],[],_=>rfl
 | _ :: _,_ :: _,h=>congrArg (·+1) (GW h.2)
theorem Gu:∀ {l l' m m':List Tree},(CW Rl) l l'→(CW Rl) m m'→(CW Rl) (l++m) (l'++m')
 | [],[],_,_,_,h=>h
 | _ :: _,_ :: _,_,_,h,h'=>⟨h.1,Gu h.2 h'⟩
theorem Gv {x x':Tree} (h:(Dw Rl) x x'):(CW Rl) [x] [x']:=⟨h,trivial⟩
theorem MF {x x':Tree} (h:(Dw Rl) x x'):x.kind=x'.kind:=by cases x;cases x';exact h.2.1
theorem Afm {x x':Tree} (h:(Dw Rl) x x') (h1:x.kind≠20) (h2:x.kind≠11):Rl x.at_ x'.at_:=by
 cases x;cases x'
 rcases h.1 with e | e | e
 ·exact absurd e h1
 ·exact absurd e h2
 ·exact e
theorem MG {x x':Tree} (h:(Dw Rl) x x'):x.text=x'.text:=by cases x;cases x';exact h.2.2.1
structure Stp (X:List Tk):Prop where
 binds:D_ X=0
 lb:AB T7 X=false
 dot:AB Aau X=false
 lp:AB Pz X=false
 comma:AB G0 X=false
 eq:AB G1 X=false
 eq5:¬ ((hd X).1=5∧(hd X).2.1.toList=G1.toList)
section
variable {E:Tk} (hE:E.1=6) {X:List Tk} (hX:Stp X)
def LR_ (Rl:Int→Int→Prop) {α:Type} (E:Tk) (X:List Tk) (S:α→α→Prop) (x x':Option (PV α)):Prop:=∀ a r,x=some (.ok a r)→∃ R R' a',r=R++[E]∧(D2 Rl) R R'∧Good (R++[E])∧S a a'∧x'=some (.ok a' (R'++X))
variable {α β:Type} {S:α→α→Prop} {S':β→β→Prop}
theorem LR_.bind {x x':Option (PV α)} {f f':α→List Tk→Option (PV β)} (h:(LR_ Rl) E X S x x') (hf:∀ a a' R R',S a a'→(D2 Rl) R R'→Good (R++[E])→(LR_ Rl) E X S' (f a (R++[E])) (f' a' (R'++X))):(LR_ Rl) E X S' (PV.bind x f) (PV.bind x' f'):=fun b s hb=>by
 rcases bind_some hb with ⟨i,_,he⟩ | ⟨a,r,hx,hfa⟩
 ·cases he
 ·obtain ⟨R,R',a',rfl,hS,hG,ha,hx'⟩:=h a r hx
  obtain ⟨R2,R2',b',h1,h2,h3,h4,h5⟩:=hf a a' R R' ha hS hG b s hfa
  exact ⟨R2,R2',b',h1,h2,h3,h4,by rw [hx'];exact h5⟩
theorem LR_.ok {a a':α} {R R':List Tk} (ha:S a a') (hS:(D2 Rl) R R') (hG:Good (R++[E])):(LR_ Rl) E X S (some (.ok a (R++[E]))) (some (.ok a' (R'++X))):=fun _ _ h=>by
 cases h;exact ⟨R,R',a',rfl,hS,hG,ha,rfl⟩
theorem LR_.bad {i:Int} {x':Option (PV α)}:(LR_ Rl) E X S (some (.bad i)) x':=fun _ _ h=>by cases h
theorem LR_.none {x':Option (PV α)}:(LR_ Rl) E X S none x':=fun _ _ h=>by cases h
theorem LR_.ite {c c':Prop} [Decidable c] [Decidable c'] {x y x' y':Option (PV α)} (hc:c ↔ c') (h1:c→(LR_ Rl) E X S x x') (h2:¬ c→(LR_ Rl) E X S y y'):(LR_ Rl) E X S (if c then x else y) (if c' then x' else y'):=by
 by_cases h:c
 ·rw [if_pos h,if_pos (hc.1 h)];exact h1 h
 ·rw [if_neg h,if_neg (fun h'=>h (hc.2 h'))];exact h2 h
theorem LR_.noE {n:Nat} {x x':Option (PV α)} (hg:Good [E]) (hs:Step (n+1) [E] x):(LR_ Rl) E X S x x':=fun a r h=>by
 have:=hs hg _ h
 obtain ⟨h1,h2,_⟩:=this
 simp only [AI,Br] at h2
 have:r=[]:=List.eq_nil_of_length_eq_zero (by omega)
 subst this
 exact h1.elim
theorem Good.cons {p:Tk} {R:List Tk} (h:Good (p :: (R++[E]))):p.1≠6∧Good (R++[E]):=by
 cases R with
 | nil=>exact h
 | cons q R=>exact h
include hE in
theorem Hm (w:ByteArray):AB w [E]=false:=by
 cases h:AB w [E] with
 | false=>rfl
 | true=>exact absurd hE (AW h)
include hE in
theorem Ajt:D_ [E]=0:=by
 by_cases h:D_ [E]=0
 ·exact h
 ·exact absurd hE (OI h)
include hE in
theorem Od {R R':List Tk} (hS:(D2 Rl) R R') (w:ByteArray) (hw:AB w X=false):AB w (R++[E])=AB w (R'++X):=by
 cases R with
 | nil=>cases R' with
  | nil=>exact (Hm hE w).trans hw.symm
  | cons=>exact hS.elim
 | cons p R=>cases R' with
  | nil=>exact hS.elim
  | cons p' R' =>
   obtain ⟨h1,h2,_⟩:=hS.1
   show isT w p=isT w p'
   unfold isT
   rw [h1,h2]
theorem Bib {p p':Tk} (h:(Oq Rl) p p') (w:ByteArray):isT w p=isT w p':=by
 obtain ⟨h1,h2,_⟩:=h
 unfold isT
 rw [h1,h2]
theorem GZ {p p':Tk} (h:(Oq Rl) p p') (w:ByteArray) (r r':List Tk):AB w (p :: r)=AB w (p' :: r'):=Bib h w
theorem Aju {p p':Tk} (h:(Oq Rl) p p') (r r':List Tk):D_ (p :: r)=D_ (p' :: r'):=by
 unfold D_
 simp only [GZ h _ r r']
include hE hX in
theorem A2y {R R':List Tk} (hS:(D2 Rl) R R'):D_ (R++[E])=D_ (R'++X):=by
 cases R with
 | nil=>cases R' with
  | nil=>exact (Ajt hE).trans hX.binds.symm
  | cons=>exact hS.elim
 | cons p R=>cases R' with
  | nil=>exact hS.elim
  | cons p' R'=>exact Aju hS.1 _ _
theorem D2.cases' {R R':List Tk} (hS:(D2 Rl) R R'):(R=[]∧R'=[])∨∃ p p' Q Q',R=p :: Q∧R'=p' :: Q'∧(Oq Rl) p p'∧(D2 Rl) Q Q':=by
 cases R with
 | nil=>cases R' with
  | nil=>exact .inl ⟨rfl,rfl⟩
  | cons=>exact hS.elim
 | cons p R=>cases R' with
  | nil=>exact hS.elim
  | cons p' R'=>exact .inr ⟨p,p',R,R',rfl,rfl,hS.1,hS.2⟩
theorem IG {w:ByteArray} {R R':List Tk} (hE:E.1=6) (hS:(D2 Rl) R R') (hG:Good (R++[E])):(LR_ Rl) E X (fun _ _=>True) (E_ w (R++[E])) (E_ w (R'++X)):=by
 rcases hS.cases' with ⟨rfl,rfl⟩ | ⟨p,p',Q,Q',rfl,rfl,hp,hS⟩
 ·exact LR_.noE hE (Ew w _)
 ·unfold E_
  refine LR_.ite (by rw [List.cons_append,List.cons_append,GZ hp]) (fun _=>?_) fun _=>LR_.bad
  exact LR_.ok trivial hS hG.cons.2
theorem Ro {k:Int} {R R':List Tk} (hE:E.1=6) (hS:(D2 Rl) R R') (hG:Good (R++[E])):(LR_ Rl) E X (Dw Rl) (It k (R++[E])) (It k (R'++X)):=by
 rcases hS.cases' with ⟨rfl,rfl⟩ | ⟨p,p',Q,Q',rfl,rfl,hp,hS⟩
 ·exact LR_.noE hE (J6 k _)
 ·unfold It
  refine LR_.ite (by show p.1=1 ↔ p'.1=1;rw [hp.1]) (fun _=>?_) fun _=>LR_.bad
  exact LR_.ok ⟨.inr (.inr hp.2.2.2),rfl,hp.2.1,rfl,trivial⟩ hS hG.cons.2
include hE hX in
theorem Abb:∀ (f:Nat) (acc acc':List Tree) (R R':List Tk),(CW Rl) acc acc'→(D2 Rl) R R'→Good (R++[E])→(LR_ Rl) E X (CW Rl) (G3 f acc (R++[E])) (G3 f acc' (R'++X))
 | 0,_,_,_,_,_,_,_=>LR_.none
 | f+1,acc,acc',R,R',ha,hS,hG=>by
  unfold G3
  refine LR_.ite (by rw [Od hE hS _ hX.comma]) (fun hc=>?_) fun _=>LR_.ok ha hS hG
  rcases hS.cases' with ⟨rfl,rfl⟩ | ⟨p,p',Q,Q',rfl,rfl,hp,hS⟩
  ·rw [List.nil_append,Hm hE] at hc;cases hc
  ·exact LR_.bind (Ro hE hS hG.cons.2) fun a a' R R' hs hS hG=>Abb f _ _ R R' (Gu ha (Gv hs)) hS hG
include hE hX in
theorem Asm (f:Nat) {R R':List Tk} (hS:(D2 Rl) R R') (hG:Good (R++[E])):(LR_ Rl) E X (CW Rl) (LX f (R++[E])) (LX f (R'++X)) :=
 LR_.bind (Ro hE hS hG) fun _ _ R R' hs hS hG=>Abb hE hX f _ _ R R' (Gv hs) hS hG
structure A0o (Rl:Int→Int→Prop) (E:Tk) (X:List Tk) (f:Nat):Prop where
 exp:∀ least R R',0≤least→(D2 Rl) R R'→Good (R++[E])→(LR_ Rl) E X (Dw Rl) (D7 f least (R++[E])) (D7 f least (R'++X))
 loop:∀ least n n' R R',0≤least→(Dw Rl) n n'→(D2 Rl) R R'→Good (R++[E])→(LR_ Rl) E X (Dw Rl) (F1 f least n (R++[E])) (F1 f least n' (R'++X))
 operand:∀ R R',(D2 Rl) R R'→Good (R++[E])→(LR_ Rl) E X (Dw Rl) (Fs f (R++[E])) (Fs f (R'++X))
 fields:∀ acc acc' R R',(CW Rl) acc acc'→(D2 Rl) R R'→Good (R++[E])→(LR_ Rl) E X (CW Rl) (Fr f acc (R++[E])) (Fr f acc' (R'++X))
 field:∀ R R',(D2 Rl) R R'→Good (R++[E])→(LR_ Rl) E X (Dw Rl) (F8 f (R++[E])) (F8 f (R'++X))
 El:∀ R R',(D2 Rl) R R'→Good (R++[E])→(LR_ Rl) E X (Dw Rl) (EL f (R++[E])) (EL f (R'++X))
 DA:∀ at_ at' n n' R R',Rl at_ at'→(Dw Rl) n n'→(D2 Rl) R R'→Good (R++[E])→(LR_ Rl) E X (Dw Rl) (EB f at_ n (R++[E])) (EB f at' n' (R'++X))
 Do:∀ R R',(D2 Rl) R R'→Good (R++[E])→(LR_ Rl) E X (CW Rl) (DT f (R++[E])) (DT f (R'++X))
 Gz:∀ acc acc' R R',(CW Rl) acc acc'→(D2 Rl) R R'→Good (R++[E])→(LR_ Rl) E X (CW Rl) (F0 f acc (R++[E])) (F0 f acc' (R'++X))
include hE hX in
theorem loE:∀ f,(A0o Rl) E X f
 | 0=>by constructor <;> intros <;> (first | unfold D7 | unfold F1 | unfold Fs | unfold Fr | unfold F8 | unfold EL | unfold EB | unfold DT | unfold F0) <;> exact LR_.none
 | f+1=>by
  have ih:=loE f
  have is:=KG f
  have it:=KG (f+1)
  constructor
  ·intro least R R' hl hS hG;unfold D7
   exact LR_.bind (ih.operand R R' hS hG) fun a a' R R' hs hS hG=>ih.loop _ _ _ R R' hl hs hS hG
  ·intro least n n' R R' hl hn hS hG;unfold F1
   refine LR_.ite (by rw [A2y hE hX hS]) (fun _=>LR_.ok hn hS hG) fun hc=>?_
   rcases hS.cases' with ⟨rfl,rfl⟩ | ⟨p,p',Q,Q',rfl,rfl,hp,hS⟩
   ·rw [List.nil_append,Ajt hE] at hc;exact absurd hl hc
   ·have hb:=Yf ((p :: Q)++[E])
    have e:D_ (p' :: Q'++X)=D_ (p :: Q++[E]):=(Aju hp _ _).symm
    rw [e]
    refine LR_.bind (ih.exp _ Q Q' (by split <;> omega) hS hG.cons.2) fun a a' R R' hs hS hG=>ih.loop _ _ _ R R' hl ⟨.inr (.inl rfl),rfl,hp.2.1,rfl,hn,hs,trivial⟩ hS hG
  ·intro R R' hS hG
   rcases hS.cases' with ⟨rfl,rfl⟩ | ⟨p,p',Q,Q',rfl,rfl,hp,hS⟩
   ·exact LR_.noE hE (it.operand _)
   have hG':=hG.cons.2
   unfold Fs
   simp only [List.cons_append,hd,List.headD_cons,List.tail_cons,GZ hp _ (Q++[E]) (Q'++X)]
   refine LR_.ite (by rw [hp.1]) (fun _=>LR_.ok ⟨.inr (.inr hp.2.2.2),rfl,rfl,hp.2.2.1,trivial⟩ hS hG') fun _=>?_
   refine LR_.ite (by rw [hp.1]) (fun _=>LR_.ok ⟨.inr (.inr hp.2.2.2),rfl,hp.2.1,rfl,trivial⟩ hS hG') fun _=>?_
   refine LR_.ite Iff.rfl (fun _=>LR_.ok ⟨.inr (.inr hp.2.2.2),rfl,rfl,rfl,trivial⟩ hS hG') fun _=>?_
   refine LR_.ite Iff.rfl (fun _=>LR_.ok ⟨.inr (.inr hp.2.2.2),rfl,rfl,rfl,trivial⟩ hS hG') fun _=>?_
   refine LR_.ite Iff.rfl (fun _=>LR_.ok ⟨.inr (.inr hp.2.2.2),rfl,rfl,rfl,trivial⟩ hS hG') fun _=>?_
   refine LR_.ite Iff.rfl (fun _=>LR_.bind (ih.exp _ Q Q' (by decide) hS hG') fun a a' R R' hs hS hG=>LR_.ok ⟨.inr (.inr hp.2.2.2),rfl,hp.2.1,rfl,hs,trivial⟩ hS hG) fun _=>?_
   refine LR_.ite Iff.rfl (fun _=>LR_.bind (ih.fields _ _ Q Q' trivial hS hG') fun a a' R R' hs hS hG=>LR_.ok ⟨.inr (.inr hp.2.2.2),rfl,rfl,rfl,hs⟩ hS hG) fun _=>?_
   exact ih.El (p :: Q) (p' :: Q') ⟨hp,hS⟩ hG
  ·intro acc acc' R R' ha hS hG
   rcases hS.cases' with ⟨rfl,rfl⟩ | ⟨p,p',Q,Q',rfl,rfl,hp,hS⟩
   ·exact LR_.noE hE (it.fields _ _)
   have hG':=hG.cons.2
   unfold Fr
   refine LR_.ite (by rw [List.cons_append,List.cons_append,GZ hp]) (fun _=>LR_.ok ha hS hG') fun _=>?_
   refine LR_.bind (ih.field (p :: Q) (p' :: Q') ⟨hp,hS⟩ hG) fun x x' R R' hx hS hG=>?_
   rcases hS.cases' with ⟨rfl,rfl⟩ | ⟨p,p',Q,Q',rfl,rfl,hp,hS⟩
   ·simp only [List.nil_append,Hm hE,Bool.false_eq_true,if_false]
    intro a r h
    rcases bind_some h with ⟨i,_,he⟩ | ⟨_,_,hx,_⟩
    ·cases he
    ·unfold E_ at hx
     rw [Hm hE] at hx
     simp at hx
   ·have hG':=hG.cons.2
    simp only [List.cons_append,GZ hp _ (Q++[E]) (Q'++X)]
    refine LR_.ite Iff.rfl (fun _=>ih.fields _ _ Q Q' (Gu ha (Gv hx)) hS hG') fun _=>?_
    refine LR_.ite Iff.rfl (fun _=>ih.fields _ _ Q Q' (Gu ha (Gv hx)) hS hG') fun _=>?_
    exact LR_.bind (IG (R:=p :: Q) (R':=p' :: Q') hE ⟨hp,hS⟩ hG) fun _ _ R R' _ hS hG=>LR_.ok (Gu ha (Gv hx)) hS hG
  ·intro R R' hS hG
   rcases hS.cases' with ⟨rfl,rfl⟩ | ⟨p,p',Q,Q',rfl,rfl,hp,hS⟩
   ·exact LR_.noE (n:=0) hE (it.field _)
   have hG':=hG.cons.2
   unfold F8
   refine LR_.ite (by rw [List.cons_append,List.cons_append,GZ hp]) (fun _=>?_) fun _=>?_
   ·refine LR_.bind (ih.exp _ Q Q' (by decide) hS hG') fun k k' R R' hk hS hG=>LR_.bind (IG hE hS hG) fun _ _ R R' _ hS hG=>LR_.bind (IG hE hS hG) fun _ _ R R' _ hS hG=>LR_.bind (ih.exp _ R R' (by decide) hS hG) fun v v' R R' hv hS hG=>?_
    exact LR_.ok ⟨.inr (.inr hp.2.2.2),rfl,rfl,rfl,hk,hv,trivial⟩ hS hG
   refine LR_.ite ?_ (fun hc=>?_) fun _=>LR_.bind (ih.exp _ (p :: Q) (p' :: Q') (by decide) ⟨hp,hS⟩ hG) fun v v' R R' hv hS hG=>LR_.ok ⟨.inr (.inr hp.2.2.2),rfl,rfl,rfl,hv,trivial⟩ hS hG
   ·rcases hS.cases' with ⟨rfl,rfl⟩ | ⟨q,q',Q,Q',rfl,rfl,hq,hS⟩
    ·constructor
     ·rintro ⟨_,h,_⟩;exact absurd (h.symm.trans hE) (by decide)
     ·rintro ⟨_,h⟩;exact absurd h hX.eq5
    ·show (p.1=1∧q.1=5∧q.2.1.toList=G1.toList) ↔ (p'.1=1∧q'.1=5∧q'.2.1.toList=G1.toList)
     rw [hp.1,hq.1,hq.2.1]
   ·rcases hS.cases' with ⟨rfl,rfl⟩ | ⟨q,q',Q,Q',rfl,rfl,hq,hS⟩
    ·obtain ⟨_,h,_⟩:=hc
     exact absurd (h.symm.trans hE) (by decide)
    ·exact LR_.bind (ih.exp _ Q Q' (by decide) hS hG'.cons.2) fun v v' R R' hv hS hG=>LR_.ok ⟨.inr (.inr hp.2.2.2),rfl,rfl,rfl,⟨.inr (.inr hp.2.2.2),rfl,hp.2.1,rfl,trivial⟩,hv,trivial⟩ hS hG
  ·intro R R' hS hG
   rcases hS.cases' with ⟨rfl,rfl⟩ | ⟨p,p',Q,Q',rfl,rfl,hp,hS⟩
   ·exact LR_.noE hE (it.El _)
   have hG':=hG.cons.2
   unfold EL
   refine LR_.ite (by rw [List.cons_append,List.cons_append,GZ hp]) (fun _=>?_) fun _=>?_
   ·exact LR_.bind (ih.exp _ Q Q' (by decide) hS hG') fun e e' R R' he hS hG=>LR_.bind (IG hE hS hG) fun _ _ R R' _ hS hG=>ih.DA _ _ _ _ R R' hp.2.2.2 ⟨.inr (.inr hp.2.2.2),rfl,rfl,rfl,he,trivial⟩ hS hG
   ·exact LR_.bind (Ro (R:=p :: Q) (R':=p' :: Q') hE ⟨hp,hS⟩ hG) fun n n' R R' hn hS hG=>ih.DA _ _ _ _ R R' hp.2.2.2 hn hS hG
  ·intro at_ at' n n' R R' hat hn hS hG
   rcases hS.cases' with ⟨rfl,rfl⟩ | ⟨p,p',Q,Q',rfl,rfl,hp,hS⟩
   ·unfold EB
    simp only [List.nil_append,Hm hE,hX.lb,hX.dot,hX.lp,Bool.false_eq_true,if_false]
    exact LR_.ok (R:=[]) (R':=[]) hn trivial hE
   have hG':=hG.cons.2
   unfold EB
   refine LR_.ite (by rw [List.cons_append,List.cons_append,GZ hp]) (fun _=>?_) fun _=>?_
   ·exact LR_.bind (ih.exp _ Q Q' (by decide) hS hG') fun e e' R R' he hS hG=>LR_.bind (IG hE hS hG) fun _ _ R R' _ hS hG=>ih.DA _ _ _ _ R R' hat ⟨.inr (.inr hat),rfl,rfl,rfl,hn,he,trivial⟩ hS hG
   refine LR_.ite (by rw [List.cons_append,List.cons_append,GZ hp]) (fun _=>?_) fun _=>?_
   ·exact LR_.bind (Ro hE hS hG') fun e e' R R' he hS hG=>ih.DA _ _ _ _ R R' hat ⟨.inr (.inr hat),rfl,rfl,rfl,hn,he,trivial⟩ hS hG
   refine LR_.ite (by rw [List.cons_append,List.cons_append,GZ hp]) (fun _=>?_) fun _=>LR_.ok (R:=p :: Q) (R':=p' :: Q') hn ⟨hp,hS⟩ hG
   refine LR_.bind (S:=(CW Rl)) ?_ fun l l' R R' hl hS hG=>LR_.bind (IG hE hS hG) fun _ _ R R' _ hS hG=>ih.DA _ _ _ _ R R' hat ⟨.inr (.inr hat),rfl,rfl,rfl,hn,hl⟩ hS hG
   rcases hS.cases' with ⟨rfl,rfl⟩ | ⟨q,q',Q,Q',rfl,rfl,hq,hS⟩
   ·rw [List.cons_append,List.nil_append,List.tail_cons,Hm hE]
    exact LR_.noE hE (is.Do _)
   ·refine LR_.ite (by rw [List.cons_append,List.cons_append,List.cons_append,List.cons_append,List.tail_cons,List.tail_cons,GZ hq]) (fun _=>LR_.ok (R:=q :: Q) (R':=q' :: Q') trivial ⟨hq,hS⟩ hG') fun _=>ih.Do (q :: Q) (q' :: Q') ⟨hq,hS⟩ hG'
  ·intro R R' hS hG;unfold DT
   exact LR_.bind (ih.exp _ R R' (by decide) hS hG) fun e e' R R' he hS hG=>ih.Gz _ _ R R' (Gv he) hS hG
  ·intro acc acc' R R' ha hS hG;unfold F0
   refine LR_.ite (by rw [Od hE hS _ hX.comma]) (fun hc=>?_) fun _=>LR_.ok ha hS hG
   rcases hS.cases' with ⟨rfl,rfl⟩ | ⟨p,p',Q,Q',rfl,rfl,hp,hS⟩
   ·rw [List.nil_append,Hm hE] at hc;cases hc
   ·exact LR_.bind (ih.exp _ Q Q' (by decide) hS hG.cons.2) fun e e' R R' he hS hG=>ih.Gz _ _ R R' (Gu ha (Gv he)) hS hG
end
end
end Go.Proofs.YtkdjiehclahliaaGreatDoor
