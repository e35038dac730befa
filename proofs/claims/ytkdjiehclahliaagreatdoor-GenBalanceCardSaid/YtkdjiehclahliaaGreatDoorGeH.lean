/- Texts of mine for genBalance_card, part 8. -/
import Derived.Test.YtkdjiehclahliaaGreatDoorGeG
set_option linter.unusedSimpArgs false
set_option linter.unusedVariables false
set_option linter.unusedSectionVars false
namespace Go.Proofs.YtkdjiehclahliaaGreatDoor
set_option maxRecDepth 100000
section
open Go Go.RowKit
theorem A5f:Ft Tryz.prog 22 41 5 80 Tryz.t41 (.agg #[sv noS,iv 0,iv 0,nS,nS]):=⟨by kernel_rfl,by kernel_rfl,by kernel_rfl,by kernel_rfl,by kernel_rfl,by kernel_rfl,by decide⟩
def Gq.l0:Nat→(J28:TyU→Option (TyU×Ag×Int×Int))→(Eg:List (Option (ByteArray×Int×Int×Int×Bl)))→(l89:List (Option (ByteArray×Int×Int×Int×Bl)))→(x94:Int)→(QS:TyU)→Option (TyU×Ag×Int×Int)
 | 0,_,_,_,_,_=>none
 | TF+1,J28,Eg,l89,x94,QS=>cond (decide (x94 < ((Eg.length:Nat):Int))) ((AZ l89 x94).bind fun x102=>x102.bind fun x104=>(Du l89 x94 none).bind fun MW=>(apd 80 QS [(some (x104.1,x104.2.2.1,x104.2.2.2.1,x104.2.2.2.2,[]))]).bind fun Wl=>Gq.l0 TF J28 Eg MW (IntKind.i64.wrap (x94+1)) Wl) (J28 QS)
def Gq.f (k:Nat) (a0:ByteArray):Option (TyU×Ag×Int×Int):=(O1.f k a0).bind fun r3=>cond (r3.2.2.1 != 0) (some ([],[],r3.2.2.1,r3.2.2.2)) ((Nh.f k a0).bind fun BQ=>cond (BQ.2.2.2.2.2.1 != 0) (some ([],[],BQ.2.2.2.2.2.1,BQ.2.2.2.2.2.2)) (BA (fun (l23:TyU)=>(AZ l23 0).bind fun x30=>x30.bind fun x32=>(Du l23 0 none).bind fun l51=>(F3.f k x32.2.2.2.1 x32.2.2.2.2 a0 r3.2.1 ([]) ([]) 1 l51 BQ.1 BQ.2.1 BQ.2.2.1 BQ.2.2.2.1 BQ.2.2.2.2.1).bind fun Ht=>(AZ Ht.2.2.2.2 0).bind fun x71=>(Du Ht.2.2.2.2 0 (some (x32.1,x32.2.1,x32.2.2.1,x32.2.2.2.1,Ht.1))).bind fun KJ=>some (KJ,r3.2.1,0,0)) (fun J28=>(some (List.map some r3.1)).bind fun Eg=>Gq.l0 k J28 Eg Eg 0 ([]))))
theorem Gq.ok {k:Nat} {a0:ByteArray} {G:Ab} {r:TyU×Ag×Int×Int} (h:Gq.f k a0=some r) (hG:E2 G): Ct Tryz.prog 7 #[sv a0] [] [G] (fun e l1=>∃ (H0_:Ab) (A0_:Ar) (c0_:Nat) (H1_:Ab) (Dz:Ar) (D0:Nat),AL (D3 D4) 41 H0_ (Aa A0_ r.1 c0_) r.1∧Ah encS 9 1 H1_ (Aa Dz r.2.1 D0) r.2.1∧e=.returned (.tuple #[.agg #[Aa A0_ r.1 c0_,Aa Dz r.2.1 D0],.agg #[iv r.2.2.1,iv r.2.2.2]])∧l1=[H0_,H1_]):=by
 refine Cz (args:=[sv a0]) Tryz.func7 rfl (B0 rfl) ?_
 intro A X hh_
 obtain ⟨BU,_⟩:=hh_
 unfold Gq.f at h
 refine ksr (knp #[nS,nS] 25 fun b1=>(knp #[iv 0,iv 0] 28 fun b2=>(AY (kx 1 (bnd h fun r3 hr3 h=>(B6 (O1.ok hr3 hG) rfl ⟨(t2 BU),trivial⟩ ?_))))))
 rintro _ _ ⟨h4,A5,k6,h8,A9,k10,o7,GJ,rfl,rfl⟩
 refine Bn (kx 3 (knp #[nS,nS] 33 fun b12=>(knp #[iv 0,iv 0] 28 fun b13=>(K.Ao (AQ 0 2 #[Aa A5 r3.1 k6,Aa A9 r3.2.1 k10] (K.Ao (AQ 0 2 #[iv r3.2.2.1,iv r3.2.2.2] (Ad (Bz (ksr ?_))))))))))
 refine kx 1 (kld 0 0 rfl (kx 1 (Ad ?_)))
 refine AF h (fun h=>?_) fun h=>?_
 ·refine Bz (kpr [(0,0),(1,3),(2,1)] [0] (Ax 1 (Gt 0 0 2 rfl (kpt (K.mv5 (ost 0 2 #[nS,nS] (Dp [1] rfl (BY (K.mv5 (AQ 0 2 #[iv r3.2.2.1,iv r3.2.2.2] ?_))))))))))
  refine K.Ak (K.drop (K.Ak (K.drop (K.Ak (K.drop (K.Ak (K.drop (Ad (Cr (CZ ?_))))))))))
  obtain rfl:=Ap h
  exact Ma (v:=.tuple #[.agg #[nS,nS],.agg #[iv r3.2.2.1,iv r3.2.2.2]]) [.val (nS),.val (nS),.val (iv r3.2.2.1),.val (iv r3.2.2.2)] [.ld ⟨b1,0,none⟩ (nS),.ld ⟨b1,1,none⟩ (nS),.ld ⟨b2,0,none⟩ (iv r3.2.2.1),.ld ⟨b2,1,none⟩ (iv r3.2.2.2)] [none_,none_] (by kernel_rfl) (by kernel_rfl) ⟨⟨1,_,_,_,rfl,rfl,rfl⟩,⟨1,_,_,_,rfl,rfl,rfl⟩,⟨0,_,_,_,rfl,rfl,rfl⟩,⟨0,_,_,_,rfl,rfl,rfl⟩,trivial⟩ (Di (Di (K.Ak (K.drop (K.Ak (K.drop (BH ⟨none_,none,0,none_,none,0,(AL.nil (D3 D4) 41 none_),(Ah.nil encS 9 1 none_),rfl,rfl⟩)))))))
 ·refine Bt (AB (ksr (kx 1 (bnd h fun BQ Lr h=>(B6 (Nh.ok Lr hG) rfl ⟨(t6 BU),trivial⟩ ?_)))))
  rintro _ _ ⟨h16,IX,k18,o19,rfl,rfl⟩
  refine Fb (kx 3 (knp #[iv 0,sv noS,iv 0,iv 0,nS] 54 fun b20=>(AQ 0 5 #[iv BQ.1,sv BQ.2.1,iv BQ.2.2.1,iv BQ.2.2.2.1,Aa IX BQ.2.2.2.2.1 k18] (K.Ak (AQ 0 2 #[iv BQ.2.2.2.2.2.1,iv BQ.2.2.2.2.2.2] (Ad (Bz (ksr (kx 1 (kld 0 0 rfl ?_))))))))))
  refine kx 1 (Ad ?_)
  refine AF h (fun h=>?_) fun h=>?_
  ·refine Bz (kpr [(0,0),(1,3),(2,1)] [0] (Ax 1 (Gt 0 0 2 rfl (kpt (K.mv7 (ost 0 2 #[nS,nS] (Dp [1] rfl (BY (K.mv7 (AQ 0 2 #[iv BQ.2.2.2.2.2.1,iv BQ.2.2.2.2.2.2] ?_))))))))))
   refine K.Ak (K.drop (K.Ak (K.drop (K.Ak (K.drop (K.Ak (K.drop (K.Ak (K.drop (K.Ak ?_))))))))))
   refine K.drop (Ad (Cr (CZ ?_)))
   obtain rfl:=Ap h
   exact Ma (v:=.tuple #[.agg #[nS,nS],.agg #[iv BQ.2.2.2.2.2.1,iv BQ.2.2.2.2.2.2]]) [.val (nS),.val (nS),.val (iv BQ.2.2.2.2.2.1),.val (iv BQ.2.2.2.2.2.2)] [.ld ⟨b1,0,none⟩ (nS),.ld ⟨b1,1,none⟩ (nS),.ld ⟨b2,0,none⟩ (iv BQ.2.2.2.2.2.1),.ld ⟨b2,1,none⟩ (iv BQ.2.2.2.2.2.2)] [none_,none_] (by kernel_rfl) (by kernel_rfl) ⟨⟨1,_,_,_,rfl,rfl,rfl⟩,⟨1,_,_,_,rfl,rfl,rfl⟩,⟨0,_,_,_,rfl,rfl,rfl⟩,⟨0,_,_,_,rfl,rfl,rfl⟩,trivial⟩ (Di (Di (K.Ak (K.drop (K.Ak (K.drop (BH ⟨none_,none,0,none_,none,0,(AL.nil (D3 D4) 41 none_),(Ah.nil encS 9 1 none_),rfl,rfl⟩)))))))
  ·refine Bt (AB (ksr (kx 1 (kld 3 1 rfl (K.drop (kx 1 (knp #[nS,nS] 25 fun b22=>(AQ 0 2 #[nS,Aa A9 r3.2.1 k10] (Ad ?_)))))))))
   obtain ⟨J28,Y5,h⟩:=CG h
   refine CH (τ:=TyU×Ab×Ar×Nat) (fun t=>[(0,sv a0),(2,pt b1),(3,pt b2),(6,pt b20),(7,pt b22)]) (fun t=>bk b22 #[Aa t.2.2.1 t.1 t.2.2.2,Aa A9 r3.2.1 k10] 25 :: bk b20 #[iv BQ.1,sv BQ.2.1,iv BQ.2.2.1,iv BQ.2.2.2.1,Aa IX BQ.2.2.2.2.1 k18] 54 :: h16 :: h8 :: bk b2 #[iv 0,iv 0] 28 :: bk b1 #[nS,nS] 25 :: t.2.1 :: X) (fun t=>J28 t.1=some r∧AL (D3 D4) 41 t.2.1 (Aa t.2.2.1 t.1 t.2.2.2) t.1) ?_ ?_
   ·rintro ⟨l23,h24,A25,k26⟩ ⟨h,JF⟩
    subst Y5
    refine ksr (knp #[iv 0] 3 fun b29=>(AQ 0 1 #[iv 1] (Ad ?_)))
    obtain ⟨x32,i31,h⟩:=XL h
    refine K.mv7 (QI (R:=(D3 D4)) JF (KL i31).2.2 fun h33 h34 c35 _ _ IV e37=>?_)
    obtain ⟨Jm,k39,PW,k42,h45,h46,rfl,rfl,p44,Mh,Rh⟩:=Av4 IV
    refine NM p44 (Bz (kpr [(0,0),(1,3),(2,0),(3,3),(4,0),(5,0),(6,3),(7,0)] [2,4] (Ax 1 (AU 1 0 rfl (Jd (T:=41) (kd:=.i64) (R:=(D3 D4)) rfl i31 (AL.rd JF) fun p47 _ _ _ y48=>?_)))))
    have e49:Elem h34 p47 [sv x32.1,iv x32.2.1,iv x32.2.2.1,Aa Jm x32.2.2.2.1 k39,Aa PW x32.2.2.2.2 k42]:=Ip.elem e37 y48
    refine IM rfl e49 (fun w h_=>h_.mem _ (.head _)) (Ax 2 (AU 1 1 rfl (Ax 1 (BY (kx 1 (knp #[sv x32.1,iv x32.2.1,iv x32.2.2.1,Aa Jm x32.2.2.2.1 k39,Aa PW x32.2.2.2.2 k42,sv a0,Aa A9 r3.2.1 k10,nS,pt b29,pt b22,nS,nS] 66 fun b50=>(kx 1 (knl (bnd h fun l51 Anw h=>(K.mv3 ?_))))))))))
    refine ZZ Anw e37 (Ad7 (Ul Mh Rh p44)) fun Rj=>?_
    have g53:=GH Anw
    refine K.weak (env':=[(2,pt b1),(3,pt b2),(6,pt b20),(7,pt b22),(11,pt b50)]) ?_ ⟨gr,gr,gr,gr,gr,trivial⟩
    refine K.eq (l':=h34 :: bk b50 #[sv x32.1,iv x32.2.1,iv x32.2.2.1,Aa Jm x32.2.2.2.1 k39,Aa PW x32.2.2.2.2 k42,sv a0,Aa A9 r3.2.1 k10,nS,pt b29,pt b22,nS,nS] 66 :: h45 :: h46 :: bk b29 #[iv 1] 3 :: bk b22 #[Aa A25 l51 k26,Aa A9 r3.2.1 k10] 25 :: bk b20 #[iv BQ.1,sv BQ.2.1,iv BQ.2.2.1,iv BQ.2.2.2.1,Aa IX BQ.2.2.2.2.1 k18] 54 :: h16 :: h8 :: bk b2 #[iv 0,iv 0] 28 :: bk b1 #[nS,nS] 25 :: X) rfl (by first | rfl | (unfold Aa;rw [g53];first | done | rfl)) (AB (ksr (kx 1 (CE 6 0 5 rfl (K.mv6 (K.drop (Di (Di (K.Ak (K.mv7 ?_))))))))))
    refine K.mv7 (K.mv3 (K.Bq (K.mv7 (K.mv6 (bnd h fun Ht SU h=>(B6 (F3.ok SU (Ah.rd Mh) Rh (Ah.rd GJ) (Ah.nil encS 9 1 none_) (AL.nil Et 81 none_) Rj (AL.rd o19) hG) rfl ⟨(.head _),(.tail _ (.tail _ (.head _))),(.tail _ (.head _)),(t5 BU),trivial⟩ ?_))))))
    rintro _ _ ⟨h55,UR,VR,h59,Sd,Tn,h63,A64,k65,NG,GP,k69,Px,TM,o66,Kr,rfl,rfl⟩
    refine Er (K.CN (K.drop (Ad (bnd h fun x71 i72 h=>(K.mv6 (QI (R:=(D3 D4)) Kr (KL i72).2.2 fun h73 h74 c75 _ _ Rm e77=>(K.drop (Bz (kpr [(0,0),(1,3),(2,0),(3,0),(4,0),(5,3)] [1,6] (Ax 1 ?_))))))))))
    refine AU 1 0 rfl (Ax 3 (Gt 0 0 5 rfl (BY (DL (T:=41) (kd:=.i64) (R:=(D3 D4)) rfl i72 (AL.rd Kr) fun p78 _ _ _ y79=>(K.Ao (K.drop (K.Ak (K.drop (K.Ak (K.drop ?_))))))))))
    refine K.Ak (K.drop (K.Ao (K.mv3 (J9 fun p81=>(K.Ao (bnd h fun KJ VJ h=>(Aae (R:=(D3 D4)) (v:=.agg #[sv x32.1,iv x32.2.1,iv x32.2.2.1,Aa Jm x32.2.2.2.1 k39,Aa UR Ht.1 VR]) (x':=(some (x32.1,x32.2.1,x32.2.2.1,x32.2.2.2.1,Ht.1))) rfl (by kernel_rfl) (by kernel_rfl) (by kernel_rfl) (by kernel_rfl) (by kernel_rfl) y79 VJ e77 (Ul (x:=(x32.1,x32.2.1,x32.2.2.1,x32.2.2.2.1,Ht.1)) Mh Px p81) fun OC TO=>?_)))))))
    have g85:=GH VJ
    refine K.weak (env':=[(2,pt b1),(3,pt b2),(7,pt b22),(75,.agg #[sv x32.1,iv x32.2.1,iv x32.2.2.1,Aa Jm x32.2.2.2.1 k39,Aa UR Ht.1 VR])]) ?_ ⟨gr,gr,gr,(by first | rfl | (unfold Aa;rw [g85];rfl)),trivial⟩
    refine K.eq (l':=OC :: bk b22 #[Aa GP KJ k69,Aa A9 r3.2.1 k10] 25 :: h8 :: bk b2 #[iv 0,iv 0] 28 :: bk b1 #[nS,nS] 25 :: X) rfl (by first | rfl | (unfold Aa;rw [g85];first | done | rfl)) (AY (CE 1 0 2 rfl (K.Ao (K.drop (kx 1 (K.mv3 (AQ 0 2 #[Aa GP KJ k69,Aa A9 r3.2.1 k10] (K.mv3 (AQ 0 2 #[iv 0,iv 0] (Ad ?_))))))))))
    refine Cr ?_
    obtain rfl:=Ap h
    exact Ma (v:=.tuple #[.agg #[Aa GP KJ k69,Aa A9 r3.2.1 k10],.agg #[iv 0,iv 0]]) [.val (Aa GP KJ k69),.val (Aa A9 r3.2.1 k10),.val (iv 0),.val (iv 0)] [.ld ⟨b1,0,none⟩ (Aa GP KJ k69),.ld ⟨b1,1,none⟩ (Aa A9 r3.2.1 k10),.ld ⟨b2,0,none⟩ (iv 0),.ld ⟨b2,1,none⟩ (iv 0)] [OC,h8] (by kernel_rfl) (by kernel_rfl) ⟨⟨1,_,_,_,rfl,rfl,rfl⟩,⟨1,_,_,_,rfl,rfl,rfl⟩,⟨0,_,_,_,rfl,rfl,rfl⟩,⟨0,_,_,_,rfl,rfl,rfl⟩,trivial⟩ (K.drop (K.drop (BH ⟨OC,GP,k69,h8,A9,k10,TO,GJ,rfl,rfl⟩)))
   ·skip
    refine bnd h fun Eg SK h=>?_
    have g88:Eg.length=r3.1.length:=by rw [← Ap SK,List.length_map]
    have o87:AL (D3 FD) 43 h4 (Aa A5 Eg k6) Eg:=by unfold Aa;rw [g88,← Ap SK];exact AL.opt.2 o7
    refine K.weak (env':=[(0,sv a0),(2,pt b1),(3,pt b2),(4,pt b12),(6,pt b20),(7,pt b22)]) ?_ ⟨gr,gr,gr,gr,gr,gr,trivial⟩
    refine K.eq (l':=bk b22 #[nS,Aa A9 r3.2.1 k10] 25 :: bk b20 #[iv BQ.1,sv BQ.2.1,iv BQ.2.2.1,iv BQ.2.2.2.1,Aa IX BQ.2.2.2.2.1 k18] 54 :: h16 :: bk b12 #[Aa A5 Eg k6,Aa A9 r3.2.1 k10] 33 :: h4 :: h8 :: bk b2 #[iv 0,iv 0] 28 :: bk b1 #[nS,nS] 25 :: X) rfl (by first | rfl | (unfold Aa;rw [g88];first | done | rfl)) (ksr (kx 1 (kld 3 0 rfl (K.mv3 (K.drop (kx 2 (Ad (Co (Di (K.Bq ?_))))))))))
    refine K.mv7 (K.mv7 (K.mv7 (K.mv7 (K.mv7 (K.mv7 (EL (τ:=(List (Option (ByteArray×Int×Int×Int×Bl)))×Int×TyU×Ab×Ar×Nat×Ab×Ar×Nat) (fun t=>[(0,sv a0),(2,pt b1),(3,pt b2),(6,pt b20),(7,pt b22),(36,Aa t.2.2.2.2.1 t.1 t.2.2.2.2.2.1),(37,iv ((Eg.length:Nat):Int)),(38,iv t.2.1)]) (fun t=>bk b22 #[Aa t.2.2.2.2.2.2.2.1 t.2.2.1 t.2.2.2.2.2.2.2.2,Aa A9 r3.2.1 k10] 25 :: bk b20 #[iv BQ.1,sv BQ.2.1,iv BQ.2.2.1,iv BQ.2.2.2.1,Aa IX BQ.2.2.2.2.1 k18] 54 :: h16 :: h8 :: bk b2 #[iv 0,iv 0] 28 :: bk b1 #[nS,nS] 25 :: t.2.2.2.1 :: t.2.2.2.2.2.2.1 :: X) (fun m t=>Gq.l0 m J28 Eg t.1 t.2.1 t.2.2.1=some r∧AL (D3 FD) 43 t.2.2.2.1 (Aa t.2.2.2.2.1 t.1 t.2.2.2.2.2.1) t.1∧AL (D3 D4) 41 t.2.2.2.2.2.2.1 (Aa t.2.2.2.2.2.2.2.1 t.2.2.1 t.2.2.2.2.2.2.2.2) t.2.2.1) k (Eg,0,[],h4,A5,k6,none_,none,0) ⟨h,o87,(AL.nil (D3 D4) 41 none_)⟩ sb rfl ?_))))))
    clear h
    rintro TF ⟨l89,x94,QS,h90,PY,QF,h96,K3,KF⟩ ⟨h,Ro,KN⟩
    cases TF with
    | zero=>simp [Gq.l0] at h
    | succ TF =>
     simp only [Gq.l0] at h
     refine ksr (kx 1 (Ad (Bz ?_)))
     refine AF h (fun h=>?_) fun h=>?_
     ·refine Bt (AB (Bz (Co ?_)))
      obtain ⟨x104,Aoj,h⟩:=XL h
      refine K.mv6 (QI (R:=(D3 FD)) Ro (KL Aoj).2.2 fun A7u V9 c107 _ _ Bky e109=>?_)
      obtain ⟨UO,VO,rfl,Atv⟩:=Bky
      refine ksr (DL (T:=43) (kd:=.i64) (R:=(D3 FD)) rfl Aoj (AL.rd Ro) fun Bn3 _ _ _ y114=>?_)
      have e115:Elem V9 Bn3 [sv x104.1,iv x104.2.1,iv x104.2.2.1,iv x104.2.2.2.1,Aa UO x104.2.2.2.2 VO]:=Ip.elem e109 y114
      refine E8 rfl e115 (.tail _ (.head _)) (knp #[sv noS,iv 0,iv 0,iv 0,nS] 43 fun M9=>(AQ 0 5 #[sv x104.1,iv x104.2.1,iv x104.2.2.1,iv x104.2.2.2.1,Aa UO x104.2.2.2.2 VO] (knl (bnd h fun MW VF h=>(K.Ak (ZZ VF e109 (Ad7 (Xa (x:=x104) Atv)) fun Abj=>?_))))))
      have Alp:=GH VF
      refine K.weak (env':=[(0,sv a0),(2,pt b1),(3,pt b2),(6,pt b20),(7,pt b22),(36,Aa PY MW QF),(37,iv ((Eg.length:Nat):Int)),(38,iv x94),(9,pt M9)]) ?_ ⟨gr,gr,gr,gr,gr,(by first | rfl | (unfold Aa;rw [Alp];rfl)),gr,gr,gr,trivial⟩
      refine K.eq (l':=V9 :: bk M9 #[sv x104.1,iv x104.2.1,iv x104.2.2.1,iv x104.2.2.2.1,Aa UO x104.2.2.2.2 VO] 43 :: A7u :: bk b22 #[Aa K3 QS KF,Aa A9 r3.2.1 k10] 25 :: bk b20 #[iv BQ.1,sv BQ.2.1,iv BQ.2.2.1,iv BQ.2.2.2.1,Aa IX BQ.2.2.2.2.1 k18] 54 :: h16 :: h8 :: bk b2 #[iv 0,iv 0] 28 :: bk b1 #[nS,nS] 25 :: h96 :: X) rfl (by first | rfl | (unfold Aa;rw [Alp];first | done | rfl)) (AB (Bc (kx 1 (kld 3 0 rfl (kx 1 (kld 1 0 rfl (kx 1 (kld 1 2 rfl (kx 1 (kld 1 3 rfl ?_))))))))))
      refine kx 1 (kld 1 4 rfl (K.Ao (K.drop (kx 1 (De #[sv x104.1,iv x104.2.2.1,iv x104.2.2.2.1,Aa UO x104.2.2.2.2 VO,nS] 41 1 fun Bvk=>(Di (K.mv3 (J9 fun Bn5=>(K.Ao (DO (T:=41) (n:=1) (xs:=[(some (x104.1,x104.2.2.1,x104.2.2.2.1,x104.2.2.2.2,[]))]) (Ci.one (R:=(D3 D4)) (x:=(some (x104.1,x104.2.2.1,x104.2.2.2.1,x104.2.2.2.2,[]))) (Ul (x:=(x104.1,x104.2.2.1,x104.2.2.2.1,x104.2.2.2.2,[])) Atv (Ah.nil e48 48 4 none_) Bn5)) rfl rfl (B0 rfl) fun h122 Pt=>?_))))))))))
      refine K.CN (bnd h fun Wl Bax h=>(F7 rfl A5f rfl Bax KN Pt fun Yq UP VP Abn=>(kx 1 (K.Ak (AQ 0 1 #[Aa UP Wl VP,Aa A9 r3.2.1 k10] (knl (Bo (AB (Bc (kx 2 ?_))))))))))
      exact Ad (K.Ao (K.Ak (K.mv7 (K.mv7 (K.mv7 (K.mv7 (K.mv7 (K.mv7 (Ea TF (MW,IntKind.i64.wrap (x94+1),Wl,V9,PY,QF,Yq,UP,VP) (Nat.lt_succ_self _) ⟨h,Abj,Abn⟩ sb rfl)))))))))
     ·exact E6 (CY (CY (E7 (AB (K.mv6 (K.drop (AV (QS,h96,K3,KF) ⟨h,KN⟩ sb rfl)))))))
def Sm {α:Type}:List (Option α)→Option (List α)
 | []=>some []
 | none :: _=>none
 | some x :: l=>(Sm l).bind fun r=>some (x :: r)
theorem Air {α:Type}:∀ {l:List (Option α)} {r:List α},Sm l=some r→l=r.map some
 | [],r,h=>by cases h;rfl
 | none :: _,r,h=>by cases h
 | some x :: l,r,h=>by
  obtain ⟨r',h1,h2⟩:=Vp h
  cases h2
  rw [List.map_cons,Air h1]
theorem Aiq {α:Type}:∀ (l:List α),Sm (l.map some)=some l
 | []=>rfl
 | x :: l=>by rw [List.map_cons,Sm,Aiq l];rfl
abbrev Dh:=ByteArray×Int×Int×List (Int×Int×ByteArray)×List (Int×Int×Int×Int)
def Gq.fS (k:Nat) (a0:ByteArray):Option (List Dh×List ByteArray×Int×Int):=(Gq.f k a0).bind fun r=>(Sm r.1).bind fun l=>some (l,r.2)
theorem Gq.okS {k:Nat} {a0:ByteArray} {G:Ab} {r:List Dh×Ag×Int×Int} (h:Gq.fS k a0=some r) (hG:E2 G):Ct Tryz.prog 7 #[.string a0] [] [G] (fun e l1=>∃ (H0_:Ab) (A0_:Ar) (c0_:Nat) (H1_:Ab) (Dz:Ar) (D0:Nat),AL D4 41 H0_ (Aa A0_ r.1 c0_) r.1∧Ah encS 9 1 H1_ (Aa Dz r.2.1 D0) r.2.1∧e=.returned (.tuple #[.agg #[Aa A0_ r.1 c0_,Aa Dz r.2.1 D0],.agg #[.int .i64 r.2.2.1,.int .i64 r.2.2.2]])∧l1=[H0_,H1_]):=by
 obtain ⟨r0,h1,h⟩:=Vp h
 obtain ⟨l,h2,h⟩:=Vp h
 cases h
 have e:=Air h2
 intro A w X hh hw
 refine (Gq.ok h1 hG A w X hh hw).mono fun e' w' ⟨l1,⟨H0,A0,c0,H1,A1,c1,o1,o2,e1,e2⟩,h3⟩=>⟨l1,⟨H0,A0,c0,H1,A1,c1,?_,o2,?_,e2⟩,h3⟩
 ·unfold Aa at o1;rw [e,List.length_map] at o1
  exact AL.opt.1 o1
 ·unfold Aa at e1;rw [e,List.length_map] at e1
  exact e1
end
section
open Go Go.RowKit Lx
abbrev Ins:=Int×Int×Int×Int
abbrev Cd:=List Ins
def i0 (op:Int):Ins:=(op,0,0,0)
def i1 (op a:Int):Ins:=(op,a,0,0)
def i2 (op a b:Int):Ins:=(op,a,b,0)
def i3 (op a b c:Int):Ins:=(op,a,b,c)
def Jv (X:ByteArray) (L:List ByteArray):Int:=Ky X.toList (L.map (·.toList)) 0
def Nr (v:V3):List V3→Int→Int
 | [],_=>-1
 | x :: l,i=>if ((v.1 == x.1) && ((v.2.1 == x.2.1) && ((v.2.2.toList == x.2.2.toList) && true)))=true then i else Nr v l (i+1)
def Ql (cs:List V3) (v:V3):Int:=Nr v cs 0+1
def glN (gl:List ByteArray) (t:ByteArray):Int:=Jv t gl+1
def Md (lo:List ByteArray) (t:ByteArray):Int:=((Me lo.reverse t:Nat):Int)
def unL:List ByteArray:=[(⟨#[]⟩:ByteArray),(⟨#[110,111,116]⟩:ByteArray),(⟨#[35]⟩:ByteArray),(⟨#[45]⟩:ByteArray)]
def opL:Ag:=[(⟨#[]⟩:ByteArray),(⟨#[43]⟩:ByteArray),(⟨#[45]⟩:ByteArray),(⟨#[42]⟩:ByteArray),(⟨#[47,47]⟩:ByteArray),(⟨#[37]⟩:ByteArray),(⟨#[46,46]⟩:ByteArray),(⟨#[61,61]⟩:ByteArray),(⟨#[126,61]⟩:ByteArray),(⟨#[60]⟩:ByteArray),(⟨#[60,61]⟩:ByteArray),(⟨#[62]⟩:ByteArray),(⟨#[62,61]⟩:ByteArray)]
def D6 (f:Nat→Tree→Cd):Nat→List Tree→Cd
 | _,[]=>[]
 | p,x :: l=>f p x++D6 f (p+(f p x).length) l
def JG (f:Int→Nat→Tree→Cd):Nat→List Tree→Cd
 | _,[]=>[]
 | p,[x]=>f (-1) p x
 | p,x :: y :: l=>f 1 p x++JG f (p+(f 1 p x).length) (y :: l)
def Ss (f:Int→Nat→Tree→Cd) (res:Int) (p:Nat) (l:List Tree):Cd :=
 f 1 p (BW l 0)++i0 22 :: (JG f (p+(f 1 p (BW l 0)).length+1) (l.drop 1)++[i1 24 res])
def Kw (l:List Tree):Bool:=match l.getLast? with | some x=>x.kind == 13 && (BW x.kids 0).kind == 8 | none=>false
def NL (rest:Bool):List Tree→Nat
 | []=>0
 | x :: l=>(if x.kind=14 then 0 else if (rest && l.isEmpty)=true then 0 else 1)+NL rest l
def NB:List Tree→Nat
 | []=>0
 | x :: l=>(if x.kind=14 then 1 else 0)+NB l
def Jj (w key:Int):Cd:=if w > 0 then [i2 28 w key] else []
def I9 (f:Int→Nat→Tree→Cd) (rest:Bool):Nat→Int→Int→List Tree→Cd
 | _,w,key,[]=>Jj w key
 | p,w,key,x :: l =>
  if x.kind=14 then D6 (f 1) p x.kids++i1 27 w :: I9 f rest (p+(D6 (f 1) p x.kids).length+1) w key l
  else if (rest && l.isEmpty)=true then
   Jj w key++i0 22 :: (f (-1) (p+(Jj w key).length+1) (BW x.kids 0)++[i1 29 (if w > 0 then key+w else key)])
  else if w+1=50 then f 1 p (BW x.kids 0)++i2 28 50 key :: I9 f rest (p+(f 1 p (BW x.kids 0)).length+1) 0 (key+50) l
  else f 1 p (BW x.kids 0)++I9 f rest (p+(f 1 p (BW x.kids 0)).length) (w+1) key l
structure GCx where
 cs:List V3
 gl:List ByteArray
 src:ByteArray
def Wu (cx:GCx) (lo:List ByteArray) (t:ByteArray):Ins:=if Md lo t > 0 then i1 6 (Md lo t) else i1 8 (glN cx.gl t)
def W7:ByteArray:=⟨#[111,114]⟩
def AW (cx:GCx) (lo:List ByteArray):Nat→Int→Nat→Tree→Cd
 | 0,_,_,_=>[]
 | d+1,res,p,.mk k t n _ l =>
  if k=1 then [i0 3] else if k=2 then [i0 4] else if k=3 then [i0 5]
  else if k=4 then [i1 2 (Ql cx.cs (2,n,⟨#[]⟩))]
  else if k=5 then [i1 2 (Ql cx.cs (3,0,t))]
  else if k=6 then [Wu cx lo t]
  else if k=7 then
   if (BW l 0).kind=6∧IL (BW l 0).text=true then [i1 10 (Jf ((BW l 0).text++So++(BW l 1).text).toList)]
   else D6 (AW cx lo d 1) p l++[i0 12]
  else if k=8 then Ss (AW cx lo d) res p l
  else if k=9 then AW cx lo d 1 p (BW l 0)
  else if k=10 then AW cx lo d 1 p (BW l 0)++[i1 16 (Jv t unL)]
  else if k=11 then
   let c:=AW cx lo d 1 p (BW l 0)
   if Jv t opL > 0 then c++AW cx lo d 1 (p+c.length) (BW l 1)++[i1 17 (Jv t opL)]
   else
    let e:=AW cx lo d 1 (p+c.length+1) (BW l 1)
    c++i1 (if t.toList == W7.toList then 21 else 20) ((p+c.length+1+e.length:Nat):Int) :: e
  else if k=12 then i2 26 (NL (Kw l) l:Nat) (NB l:Nat) :: I9 (AW cx lo d) (Kw l) (p+1) 0 1 l
  else []
theorem Ayo (X:Bs):∀ (l:List Bs) (i:Int),(Ky X l i=-1∧X ∉ l)∨(X ∈ l∧i≤Ky X l i∧Ky X l i < i+l.length)
 | [],i=>.inl ⟨rfl,by simp⟩
 | y :: l,i=>by
  unfold Ky
  by_cases h:(X == y)=true
  ·rw [if_pos h]
   exact .inr ⟨by rw [beq_iff_eq.1 h];exact Cy ..,Int.le_refl _,by simp only [AD];omega⟩
  ·rw [if_neg h]
   have h':X≠y:=fun e=>h (by simp [e])
   rcases Ayo X l (i+1) with ⟨h1,h2⟩ | ⟨h1,h2,h3⟩
   ·exact .inl ⟨h1,by simp [h',h2]⟩
   ·exact .inr ⟨CV _ h1,by omega,by simp only [AD];omega⟩
theorem Ao1 (L:List ByteArray) (hL:L.length≤1000000) (s:ByteArray):∀ (d i k:Nat),L.length - i≤d→i≤L.length→d < k →
  ER.l0 k L s (fun _=>some (-1)) (i:Int)=some (Ky s.toList ((L.drop i).map (·.toList)) i)
 | d,i,k,hd,hi,hk=>by
  obtain ⟨k,rfl⟩:∃ m,k=m+1:=⟨k - 1,by omega⟩
  simp only [ER.l0]
  rcases Nat.lt_or_ge i L.length with h | h
  ·obtain ⟨d,rfl⟩:∃ m,d=m+1:=⟨d - 1,by omega⟩
   rw [decide_eq_true (p:=(i:Int) < L.length) (by omega),Aal h,wiC ((i:Int)+1) (by omega) (by omega),show (i:Int)+1=((i+1:Nat):Int) by omega,List.drop_eq_getElem_cons h,List.map_cons]
   simp only [cond_true,Aj]
   unfold Ky
   cases hq:s.toList == L[i].toList with
   | true=>rfl
   | false =>
    rw [cond_false,Ao1 L hL s d (i+1) k (by omega) (by omega) (by omega)]
    rfl
  ·rw [decide_eq_false (p:=(i:Int) < L.length) (by omega),List.drop_of_length_le h]
   rfl
theorem ZD (k:Nat) (L:List ByteArray) (a:ByteArray) (hL:L.length≤1000000) (hk:L.length < k):ER.f k L a=some (Jv a L):=by
 unfold ER.f BA Jv
 have:=Ao1 L hL a L.length 0 k (by omega) (by omega) hk
 rw [List.drop_zero] at this
 exact this
theorem Aoz (a0 a1:Int) (a2:ByteArray):∀ (t pre:List V3) (m:Nat),pre.length+t.length≤1000000→t.length < m →
  G8.l0 m (pre++t) a0 a1 a2 (fun _=>some (-1)) (pre.length:Int)=some (Nr (a0,a1,a2) t pre.length)
 | [],pre,m,hl,hm=>by
  obtain ⟨m,rfl⟩:∃ m',m=m'+1:=⟨m - 1,by omega⟩
  simp only [G8.l0]
  rw [ltF (by simp)]
  rfl
 | x :: t,pre,m,hl,hm=>by
  obtain ⟨m,rfl⟩:∃ m',m=m'+1:=⟨m - 1,by omega⟩
  simp only [AD] at hl hm
  simp only [G8.l0]
  rw [GY (by simp;omega),DT]
  simp only [cond_true,Aj]
  unfold Nr
  simp only
  cases hq:(a0 == x.1) && ((a1 == x.2.1) && ((a2.toList == x.2.2.toList) && true)) with
  | true=>rfl
  | false =>
   rw [cond_false,wiC _ (by omega) (by omega)]
   have ih:=Aoz a0 a1 a2 t (pre++[x]) m (by simp;omega) (by omega)
   rw [Cj,AM] at ih
   exact ih
theorem Ayu (v:V3):∀ (l:List V3) (i:Int),(Nr v l i=-1∧NI l v=false)∨(NI l v=true∧i≤Nr v l i∧Nr v l i < i+l.length)
 | [],i=>.inl ⟨rfl,rfl⟩
 | x :: l,i=>by
  unfold Nr NI
  rw [List.any_cons]
  cases hq:(v.1 == x.1) && ((v.2.1 == x.2.1) && ((v.2.2.toList == x.2.2.toList) && true)) with
  | true=>exact .inr ⟨rfl,by simp only [if_true];omega,by simp only [if_true,AD];omega⟩
  | false =>
   simp only [Bool.false_eq_true,if_false,Bool.false_or]
   rcases Ayu v l (i+1) with ⟨h1,h2⟩ | ⟨h1,h2,h3⟩
   ·exact .inl ⟨h1,h2⟩
   ·exact .inr ⟨h1,by omega,by simp only [AD];omega⟩
def mx:Nat:=1000000
theorem add_eq (k:Nat) (c:Cd) (op:Int) (l:List Int) (hl:l.length≤3) (hc:c.length≤mx):BC.f k c op l=some ((c.length:Int),c++[(op,cp3 l 0,cp3 l 1,cp3 l 2)]):=by
 unfold mx at hc
 unfold BC.f
 rw [decide_eq_true hl,cond_true,Js (by simp;omega),Aj,wiC _ (by simp only [AM,AD,Be];omega) (by simp only [AM,AD,Be];omega)]
 congr 2
 simp
theorem add0 (k:Nat) (c:Cd) (op:Int) (hc:c.length≤mx):BC.f k c op []=some ((c.length:Int),c++[i0 op]):=add_eq k c op [] (by decide) hc
theorem add1 (k:Nat) (c:Cd) (op a:Int) (hc:c.length≤mx):BC.f k c op [a]=some ((c.length:Int),c++[i1 op a]):=add_eq k c op [a] (B0 rfl) hc
theorem XD (k:Nat) (c:Cd) (op a b:Int) (hc:c.length≤mx):BC.f k c op [a,b]=some ((c.length:Int),c++[i2 op a b]):=add_eq k c op [a,b] (B0 rfl) hc
theorem Aip (k:Nat) (c:Cd) (op a b e:Int) (hc:c.length≤mx):BC.f k c op [a,b,e]=some ((c.length:Int),c++[i3 op a b e]):=add_eq k c op [a,b,e] (B0 rfl) hc
theorem Yn (k:Nat) (gl:List ByteArray) (t:ByteArray) (hg:gl.length≤400000) (hk:500000≤k):Lp.f k gl t=some (glN gl t):=by
 unfold Lp.f glN
 rw [ZD k gl t (by omega) (by omega),Aj]
 have:=Ayo t.toList (gl.map (·.toList)) 0
 rw [List.length_map] at this
 rw [wiC _ (by unfold Jv;omega) (by unfold Jv;omega)]
theorem Ajz (k:Nat) (cs:List V3) (c:Cd) (v0 v1:Int) (v2:ByteArray) (hs:cs.length≤400000) (hk:500000≤k) (hc:c.length≤mx):Lo.f k cs c v0 v1 v2=some (c++[i1 2 (Ql cs (v0,v1,v2))]):=by
 unfold Lo.f G8.f BA Ql
 have hv:G8.l0 k cs v0 v1 v2 (fun _=>some (-1)) (0:Int)=some (Nr (v0,v1,v2) cs 0):=Aoz v0 v1 v2 cs [] k (by simpa using (by omega)) (by omega)
 have:=Ayu (v0,v1,v2) cs 0
 simp only [hv,Aj]
 rw [wiC _ (by omega) (by omega),add1 k c _ _ hc]
 rfl
theorem Ajq:∀ (t pre:List Tree) (lo:List ByteArray) (m:Nat),pre.length+t.length≤400000→lo.length+t.length≤900000→t.length < m →
  Hj.l0 m (pre++t) (pre.length:Int) lo=some (lo++t.map (·.text))
 | [],pre,lo,m,hl,ho,hm=>by
  obtain ⟨m,rfl⟩:∃ m',m=m'+1:=⟨m - 1,by omega⟩
  simp only [Hj.l0]
  rw [ltF (by simp)]
  simp
 | x :: t,pre,lo,m,hl,ho,hm=>by
  obtain ⟨m,rfl⟩:∃ m',m=m'+1:=⟨m - 1,by omega⟩
  simp only [AD] at hl ho hm
  simp only [Hj.l0]
  rw [GY (by simp;omega),DT]
  simp only [cond_true,Aj]
  rw [Js (by simp;omega),wiC _ (by omega) (by omega)]
  have ih:=Ajq t (pre++[x]) (lo++[x.text]) m (by simp;omega) (by simp;omega) (by omega)
  rw [Cj,AM] at ih
  simp only [Aj]
  refine ih.trans ?_
  simp
theorem XT (k:Nat) (lo:List ByteArray) (l:List Tree) (hl:l.length≤400000) (ho:lo.length≤400000) (hk:500000≤k):Hj.f k lo l=some (lo++l.map (·.text)) :=
 Ajq l [] lo k (by simpa using hl) (by omega) (by omega)
theorem JL {α:Type} (pre:List α) (x y:α) (t:List α):Du (pre++x :: t) (pre.length:Int) y=some (pre++y :: t):=by
 unfold Du
 rw [decide_eq_true (by simp;omega),cond_true,Int.toNat_natCast,List.set_append_right _ _ (Nat.le_refl _),Nat.sub_self]
 rfl
theorem Lm {f:Nat→Tree→Cd}:∀ {l:List Tree} {p:Nat},(∀ p x,x ∈ l→(f p x).length≤4 * sz x)→(D6 f p l).length≤4 * At l
 | [],_,_=>Nat.zero_le _
 | x :: l,p,h=>by
  have h1:=h p x (Cy ..)
  have h2:=Lm (l:=l) (p:=p+(f p x).length) fun p y hy=>h p y (CV _ hy)
  simp only [D6,AM,At]
  omega
theorem Pz {f:Int→Nat→Tree→Cd}:∀ {l:List Tree} {p:Nat},(∀ r p x,x ∈ l→(f r p x).length≤4 * sz x)→(JG f p l).length≤4 * At l
 | [],_,_=>Nat.zero_le _
 | [x],p,h=>by
  have h1:=h (-1) p x (Cy ..)
  simp only [JG,At]
  omega
 | x :: y :: l,p,h=>by
  have h1:=h 1 p x (Cy ..)
  have h2:=Pz (l:=y :: l) (p:=p+(f 1 p x).length) fun r p y hy=>h r p y (CV _ hy)
  simp only [JG,AM,At] at h2 ⊢
  omega
theorem Ae6 (w key:Int):(Jj w key).length≤1:=by unfold Jj;split <;> simp
theorem Q9 {x:Tree} (h:K5 x):(∃ t n a y,x=.mk 13 t n a [y]∧IsE y)∨∃ t n a y z,x=.mk 14 t n a [y,z]∧IsE y∧IsE z:=by
 cases h with
 | item h=>exact .inl ⟨_,_,_,_,rfl,h⟩
 | field h h'=>exact .inr ⟨_,_,_,_,_,rfl,h,h'⟩
theorem Axj {f:Int→Nat→Tree→Cd} {rest:Bool}:∀ {l:List Tree} {p:Nat} {w key:Int},(∀ x ∈ l,K5 x)→(∀ r p x y,x ∈ l→y ∈ x.kids→(f r p y).length≤4 * sz y)→(I9 f rest p w key l).length≤4 * At l+1
 | [],p,w,key,_,_=>by simp only [I9,At];have:=Ae6 w key;omega
 | x :: l,p,w,key,hF,h=>by
  have ih:=fun p w key=>Axj (f:=f) (rest:=rest) (l:=l) (p:=p) (w:=w) (key:=key) (fun y hy=>hF y (CV _ hy)) fun r p y z hy=>h r p y z (CV _ hy)
  have hx:=fun r p y=>h r p x y (Cy ..)
  have hs:=Ae6 w key
  rcases Q9 (hF x (Cy ..)) with ⟨t,n,a,y,rfl,hy⟩ | ⟨t,n,a,y,z,rfl,hy,hz⟩
  ·have h1:=fun r p=>hx r p y (Cy ..)
   simp only [I9,Tree.kind,Tree.kids,show BW [y] 0=y from rfl,At,sz]
   rw [if_neg (by decide)]
   split
   ·have:=h1 (-1) (p+(Jj w key).length+1)
    simp only [AM,AD,Be]
    omega
   split
   ·have:=h1 1 p
    have:=ih (p+(f 1 p y).length+1) 0 (key+50)
    simp only [AM,AD]
    omega
   ·have:=h1 1 p
    have:=ih (p+(f 1 p y).length) (w+1) key
    simp only [AM]
    omega
  ·have h1:(D6 (f 1) p [y,z]).length≤4 * At [y,z]:=Lm fun p u hu=>hx 1 p u hu
   have:=ih (p+(D6 (f 1) p [y,z]).length+1) w key
   simp only [I9,Tree.kind,Tree.kids,if_pos,At,sz] at h1 ⊢
   simp only [AM,AD]
   omega
section
variable {cx:GCx} {lo:List ByteArray}
theorem Akp {d:Nat} {r:Int} {p:Nat} {n a:Int} {t:ByteArray} {l:List Tree}:AW cx lo (d+1) r p (.mk 1 t n a l)=[i0 3]:=rfl
theorem Akt {d:Nat} {r:Int} {p:Nat} {n a:Int} {t:ByteArray} {l:List Tree}:AW cx lo (d+1) r p (.mk 2 t n a l)=[i0 4]:=rfl
theorem Aku {d:Nat} {r:Int} {p:Nat} {n a:Int} {t:ByteArray} {l:List Tree}:AW cx lo (d+1) r p (.mk 3 t n a l)=[i0 5]:=rfl
theorem Akv {d:Nat} {r:Int} {p:Nat} {n a:Int} {t:ByteArray} {l:List Tree}:AW cx lo (d+1) r p (.mk 4 t n a l)=[i1 2 (Ql cx.cs (2,n,⟨#[]⟩))]:=rfl
theorem Akw {d:Nat} {r:Int} {p:Nat} {n a:Int} {t:ByteArray} {l:List Tree}:AW cx lo (d+1) r p (.mk 5 t n a l)=[i1 2 (Ql cx.cs (3,0,t))]:=rfl
theorem Yg {d:Nat} {r:Int} {p:Nat} {n a:Int} {t:ByteArray} {l:List Tree}:AW cx lo (d+1) r p (.mk 6 t n a l)=[Wu cx lo t]:=rfl
theorem Yh {d:Nat} {r:Int} {p:Nat} {n a:Int} {t:ByteArray} {l:List Tree}:AW cx lo (d+1) r p (.mk 7 t n a l)=if (BW l 0).kind=6∧IL (BW l 0).text=true then [i1 10 (Jf ((BW l 0).text++So++(BW l 1).text).toList)] else D6 (AW cx lo d 1) p l++[i0 12]:=rfl
theorem Yj {d:Nat} {r:Int} {p:Nat} {n a:Int} {t:ByteArray} {l:List Tree}:AW cx lo (d+1) r p (.mk 8 t n a l)=Ss (AW cx lo d) r p l:=rfl
theorem Akx {d:Nat} {r:Int} {p:Nat} {n a:Int} {t:ByteArray} {x:Tree}:AW cx lo (d+1) r p (.mk 9 t n a [x])=AW cx lo d 1 p x:=rfl
theorem Yf {d:Nat} {r:Int} {p:Nat} {n a:Int} {t:ByteArray} {x:Tree}:AW cx lo (d+1) r p (.mk 10 t n a [x])=AW cx lo d 1 p x++[i1 16 (Jv t unL)]:=rfl
def Sq (f:Nat→Tree→Cd) (p:Nat) (t:ByteArray) (x y:Tree):Cd :=
 if Jv t opL > 0 then f p x++f (p+(f p x).length) y++[i1 17 (Jv t opL)]
 else f p x++i1 (if t.toList == W7.toList then 21 else 20) ((p+(f p x).length+1+(f (p+(f p x).length+1) y).length:Nat):Int) :: f (p+(f p x).length+1) y
theorem Akq {d:Nat} {r:Int} {p:Nat} {n a:Int} {t:ByteArray} {x y:Tree}:AW cx lo (d+1) r p (.mk 11 t n a [x,y])=Sq (AW cx lo d 1) p t x y:=rfl
theorem Akr {d:Nat} {r:Int} {p:Nat} {n a:Int} {t:ByteArray} {l:List Tree}:AW cx lo (d+1) r p (.mk 12 t n a l)=i2 26 (NL (Kw l) l:Nat) (NB l:Nat) :: I9 (AW cx lo d) (Kw l) (p+1) 0 1 l:=rfl
theorem F2:∀ (d:Nat) (r:Int) (p:Nat) (t:Tree),IsE t→(AW cx lo d r p t).length≤4 * sz t
 | 0,_,_,_,_=>Nat.zero_le _
 | d+1,r,p,t,h=>by
  have ih:=fun r p t h=>F2 d r p t h
  cases h with
  | atom h1 h2 =>
   rename_i k n a t
   simp only [sz,At]
   obtain rfl | rfl | rfl | rfl | rfl | rfl:k=1∨k=2∨k=3∨k=4∨k=5∨k=6:=by omega
   ·rw [Akp];exact B0 rfl
   ·rw [Akt];exact B0 rfl
   ·rw [Aku];exact B0 rfl
   ·rw [Akv];exact B0 rfl
   ·rw [Akw];exact B0 rfl
   ·rw [Yg];exact B0 rfl
  | index h1 h2 =>
   rename_i n a t x y
   rw [Yh]
   split
   ·simp only [AD,Be,sz];omega
   ·have:(D6 (AW cx lo d 1) p [x,y]).length≤4 * At [x,y]:=Lm fun p z hz=>by
     rcases List.mem_cons.1 hz with rfl | hz
     ·exact ih _ _ _ h1
     ·obtain rfl:=DG.1 hz;exact ih _ _ _ h2
    simp only [AM,AD,Be,sz,At] at this ⊢
    omega
  | call h1 h2 =>
   rename_i n a t x l
   rw [Yj]
   have e1:=ih 1 p x h1
   have e2:=Pz (f:=AW cx lo d) (l:=l) (p:=p+(AW cx lo d 1 p x).length+1) fun r p y hy=>ih r p y (h2 y hy)
   simp only [Ss,show BW (x :: l) 0=x from rfl,List.drop_succ_cons,List.drop_zero,AM,AD,Be,sz,At]
   omega
  | paren h1=>rw [Akx];have:=ih 1 p _ h1;simp only [sz,At];omega
  | unary h1=>rw [Yf];have:=ih 1 p _ h1;simp only [sz,At,AM,AD,Be];omega
  | binary h1 h2 =>
   rename_i n a t x y
   rw [Akq]
   have e1:=ih 1 p x h1
   have e2:=ih 1 (p+(AW cx lo d 1 p x).length) y h2
   have e3:=ih 1 (p+(AW cx lo d 1 p x).length+1) y h2
   unfold Sq
   split <;> simp only [sz,At,AM,AD,Be] <;> omega
  | table h1 =>
   rename_i n a t l
   rw [Akr]
   have:=Axj (f:=AW cx lo d) (rest:=Kw l) (l:=l) (p:=p+1) (w:=0) (key:=1) h1 fun r p x y hx hy=>by
    rcases Q9 (h1 x hx) with ⟨_,_,_,z,rfl,hz⟩ | ⟨_,_,_,z,u,rfl,hz,hu⟩
    ·obtain rfl:=DG.1 hy;exact ih _ _ _ hz
    ·rcases List.mem_cons.1 hy with rfl | hy
     ·exact ih _ _ _ hz
     ·obtain rfl:=DG.1 hy;exact ih _ _ _ hu
   simp only [AD,sz]
   omega
theorem A5o {d:Nat} {r:Int} {p:Nat} {t:Tree} (h:t.kind≠8):AW cx lo d r p t=AW cx lo d 1 p t:=by
 cases d with
 | zero=>rfl
 | succ d =>
  cases t with
  | mk k t n a l =>
   have h:k≠8:=h
   simp only [AW,if_neg h]
theorem W5 {f:Int→Nat→Tree→Cd} {x:Tree}:∀ {m:List Tree} {p:Nat},JG f p (m++[x])=D6 (f 1) p m++f (-1) (p+(D6 (f 1) p m).length) x
 | [],p=>rfl
 | [y],p=>by
  show f 1 p y++JG f (p+(f 1 p y).length) ([]++[x])=_
  rw [W5 (m:=[])]
  simp [D6]
 | y :: z :: m,p=>by
  show f 1 p y++JG f (p+(f 1 p y).length) ((z :: m)++[x])=_
  rw [W5 (m:=z :: m)]
  simp only [D6,Cj,AM]
  rw [Nat.add_assoc,Nat.add_assoc]
theorem Akb {f:Nat→Tree→Cd} {x:Tree}:∀ {m:List Tree} {p:Nat},D6 f p (m++[x])=D6 f p m++f (p+(D6 f p m).length) x
 | [],p=>by simp [D6]
 | y :: m,p=>by
  show f p y++D6 f (p+(f p y).length) (m++[x])=_
  rw [Akb (m:=m)]
  simp only [D6,Cj,AM]
  rw [Nat.add_assoc]
end
section
variable {cx:GCx} {lo:List ByteArray}
structure KW (cx:GCx) (lo:List ByteArray):Prop where
 cs:cx.cs.length≤400000
 gl:cx.gl.length≤400000
 lo:lo.length≤400000
def EX (R:GE) (cx:GCx) (lo:List ByteArray) (d:Nat):Prop:=∀ (c:Cd) (t:Tree),IsE t→gw t→sz t≤d→c.length+4 * sz t≤mx →
 R.Dl cx.cs c cx.gl lo t.kind t.text t.n t.at_ t.kids=some (c++AW cx lo d 1 c.length t)
def CL (R:GE) (cx:GCx) (lo:List ByteArray) (d:Nat):Prop:=∀ (res:Int) (c:Cd) (t:Tree),IsE t→t.kind=8→gw t→sz t≤d→c.length+4 * sz t≤mx →
 R.EJ cx.cs c cx.gl lo t.kind t.text t.n t.at_ t.kids res=some (c++AW cx lo d res c.length t)
def EA (R:GE) (cx:GCx) (lo:List ByteArray) (d:Nat):Prop:=∀ (c:Cd) (l:List Tree),Ey l→E5 l→At l≤d→c.length+4 * At l≤mx →
 R.DD cx.cs c cx.gl lo l=some (c++D6 (AW cx lo d 1) c.length l)
def OP (R:GE) (cx:GCx) (lo:List ByteArray) (d:Nat):Prop:=∀ (c:Cd) (l:List Tree),Ey l→E5 l→At l≤d→c.length+4 * At l≤mx →
 R.F5 cx.cs c cx.gl lo l=some (c++JG (AW cx lo d) c.length l)
def BI (R:GE) (cx:GCx) (lo:List ByteArray) (d:Nat):Prop:=∀ (c:Cd) (t:ByteArray) (n a:Int) (x y:Tree),IsE x→IsE y→gw x→gw y→sz x+sz y≤d→c.length+4 * (sz x+sz y)+2≤mx →
 R.HI cx.cs c cx.gl lo 11 t n a [x,y]=some (c++Sq (AW cx lo d 1) c.length t x y)
def TA (R:GE) (cx:GCx) (lo:List ByteArray) (d:Nat):Prop:=∀ (c:Cd) (l:List Tree),(∀ x ∈ l,K5 x)→E5 l→At l≤d→c.length+4 * At l+3≤mx →
 R.F6 cx.cs c cx.gl lo l=some (c++i2 26 (NL (Kw l) l:Nat) (NB l:Nat) :: I9 (AW cx lo d) (Kw l) (c.length+1) 0 1 l)
theorem JC (c e:Cd) (x:Ins):(c++e++[x]).length=c.length+e.length+1:=by simp [Nat.add_assoc]
theorem Akc {R:GE} {d:Nat} (h:EX R cx lo d):∀ (t pre:List Tree) (c:Cd) (m:Nat),pre.length+t.length≤400000→t.length < m→Ey t→E5 t→At t≤d→c.length+4 * At t≤mx →
  DD.l0 m R cx.cs cx.gl lo (pre++t) (pre.length:Int) c=some (c++D6 (AW cx lo d 1) c.length t)
 | [],pre,c,m,hl,hm,hE,hg,hd,hb=>by
  obtain ⟨m,rfl⟩:∃ m',m=m'+1:=⟨m - 1,by omega⟩
  simp only [DD.l0]
  rw [ltF (by simp)]
  simp [D6]
 | x :: t,pre,c,m,hl,hm,hE,hg,hd,hb=>by
  obtain ⟨m,rfl⟩:∃ m',m=m'+1:=⟨m - 1,by omega⟩
  simp only [AD] at hl hm
  simp only [At] at hd hb
  simp only [DD.l0]
  rw [GY (by simp;omega),DT]
  simp only [cond_true,Aj]
  have hx:=hE x (Cy ..)
  have e0:=F2 (cx:=cx) (lo:=lo) d 1 c.length x hx
  rw [h c x hx hg.1 (by omega) (by omega),Aj,wiC _ (by omega) (by omega)]
  have ih:=Akc h t (pre++[x]) (c++AW cx lo d 1 c.length x) m (by simp;omega) (by omega) (fun y hy=>hE y (CV _ hy)) hg.2 (by omega) (by rw [AM];omega)
  rw [show (pre++[x])++t=pre++x :: t by simp,show ((pre++[x]).length:Int)=(pre.length:Int)+1 by simp] at ih
  refine ih.trans ?_
  simp only [D6,Cj,AM]
theorem Yd {k d:Nat} (hk:500000≤k) (h:EX (GE.at k) cx lo d):EA (GE.at (k+1)) cx lo d:=fun c l hE hg hd hb=>by
 have:=DR l
 unfold mx at hb
 exact Akc h l [] c k (by simp only [Be];omega) (by omega) hE hg hd hb
theorem PK {α:Type} (l:List α):l=[]∨∃ m x,l=m++[x]:=by
 rcases List.eq_nil_or_concat l with h | ⟨m,x,h⟩
 ·exact .inl h
 ·exact .inr ⟨m,x,by simpa using h⟩
theorem OA {l m:List Tree}:E5 (l++m) ↔ E5 l∧E5 m:=by
 simp only [Qu,EG]
 exact ⟨fun h=>⟨fun x hx=>h x (.inl hx),fun x hx=>h x (.inr hx)⟩,fun h x hx=>hx.elim (h.1 x) (h.2 x)⟩
theorem A4t {l m:List Tree}:Ey (l++m) ↔ Ey l∧Ey m:=by
 simp only [Ey,EG]
 exact ⟨fun h=>⟨fun x hx=>h x (.inl hx),fun x hx=>h x (.inr hx)⟩,fun h x hx=>hx.elim (h.1 x) (h.2 x)⟩
theorem Asl {α:Type} (m:List α) (x:α) (h:m.length≤400000):IntKind.i64.wrap ((((m++[x]).length:Nat):Int) - 1)=(m.length:Int):=by
 rw [AM,AD,Be,wiC _ (by omega) (by omega)]
 omega
theorem Aug {k d:Nat} (h:EA (GE.at k) cx lo d) (h':CL (GE.at k) cx lo d):OP (GE.at (k+1)) cx lo d:=fun c l hE hg hd hb=>by
 show F5.g (GE.at k) k cx.cs c cx.gl lo l=_
 have hn:=DR l
 unfold mx at hb
 unfold F5.g
 rcases PK l with rfl | ⟨m,x,rfl⟩
 ·rw [wiC _ (by simp) (by simp),decide_eq_false (by simp),cond_false,Aj,cond_false,h c [] le_nil hg hd hb]
  rfl
 ·rw [AM,AD,Be] at hn
  obtain ⟨h1,h2⟩:=A4t.1 hE
  obtain ⟨g1,g2⟩:=OA.1 hg
  have hx:=h2 x (Cy ..)
  have hx2:=g2.1
  simp only [D9,At] at hd hb hn
  rw [Asl m x (by omega),decide_eq_true (by omega),cond_true,DT,Aj,Aj]
  have e0:=Lm (f:=AW cx lo d 1) (l:=m) (p:=c.length) fun p y hy=>F2 d 1 p y (h1 y hy)
  by_cases hk8:x.kind=8
  ·rw [eqC hk8,cond_true,Gx 0 m.length (show (0:Int)=((0:Nat):Int) from rfl) rfl (by omega) (by simp),Aj,show ((m++[x]).drop 0).take (m.length - 0)=m by simp,h c m h1 g1 (by omega) (by unfold mx;omega),Aj,Aj]
   rw [h' (-1) _ x hx hk8 hx2 (by omega) (by unfold mx;rw [AM];omega),Aj,W5,Cj,AM]
  ·rw [Dm hk8,cond_false,h c _ hE hg (by rw [D9];simp only [At];omega) (by rw [D9];simp only [At];unfold mx;omega),Aj,W5,Akb,A5o (r:=-1) hk8]
theorem Bgv {t:Tree} (h:IsE t) (hk:t.kind=8):∃ tx n a x l,t=.mk 8 tx n a (x :: l)∧IsE x∧Ey l:=by
 cases h with
 | call h1 h2=>exact ⟨_,_,_,_,_,rfl,h1,h2⟩
 | _=>simp only [Tree.kind] at hk;omega
theorem A2u {k d:Nat} (h:EX (GE.at k) cx lo d) (h':OP (GE.at k) cx lo d):CL (GE.at (k+1)) cx lo (d+1):=fun res c t hE hk8 hg hd hb=>by
 obtain ⟨tx,n,a,x,l,rfl,hx,hl⟩:=Bgv hE hk8
 show EJ.g (GE.at k) k cx.cs c cx.gl lo 8 tx n a (x :: l) res=_
 simp only [sz,At] at hd hb
 obtain ⟨_,g1,g2⟩:=hg
 have e0:=F2 (cx:=cx) (lo:=lo) d 1 c.length x hx
 have e1:=Pz (f:=AW cx lo d) (l:=l) (p:=c.length+(AW cx lo d 1 c.length x).length+1) fun r p y hy=>F2 d r p y (hl y hy)
 have hn:=DR l
 unfold mx at hb
 unfold EJ.g
 rw [show AZ (x :: l) (0:Int)=some x from rfl,Aj,h c x hx g1 (by omega) (by unfold mx;omega),Aj,add0 _ _ _ (by unfold mx;rw [AM];omega),Aj]
 rw [Gx 1 (l.length+1) (show (1:Int)=((1:Nat):Int) from rfl) (by simp) (by omega) (by simp),Aj,show ((x :: l).drop 1).take (l.length+1 - 1)=l by simp]
 rw [h' _ l hl g2 (by omega) (by unfold mx;rw [JC];omega),Aj,JC,add1 _ _ _ _ (by unfold mx;rw [AM,JC];omega),Aj,Yj]
 simp only [Ss,show BW (x :: l) 0=x from rfl,List.drop_succ_cons,List.drop_zero,Cj,List.cons_append,List.nil_append]
theorem ix0 (x:Tree) (l:List Tree):AZ (x :: l) (0:Int)=some x:=rfl
theorem Te (x y:Tree) (l:List Tree):AZ (x :: y :: l) (1:Int)=some y:=rfl
theorem A2d {k d:Nat} (hk:500000≤k) (h:EX (GE.at k) cx lo d):BI (GE.at (k+1)) cx lo d:=fun c t n a x y hx hy gx gy hd hb=>by
 show HI.g (GE.at k) k cx.cs c cx.gl lo 11 t n a [x,y]=_
 have e0:=F2 (cx:=cx) (lo:=lo) d 1 c.length x hx
 have e1:=F2 (cx:=cx) (lo:=lo) d 1 (c.length+(AW cx lo d 1 c.length x).length) y hy
 have e2:=F2 (cx:=cx) (lo:=lo) d 1 (c.length+(AW cx lo d 1 c.length x).length+1) y hy
 unfold mx at hb
 unfold HI.g Sq W7
 rw [ix0,Aj,h c x hx gx (by omega) (by unfold mx;omega),Aj,ZD k _ t (by decide) (by show 13 < k;omega),Aj]
 show cond (decide (Jv t opL > 0)) _ _=_
 by_cases hp:Jv t opL > 0
 ·rw [decide_eq_true hp,if_pos hp,cond_true,Te,Aj,h _ y hy gy (by omega) (by unfold mx;rw [AM];omega),Aj,AM]
  rw [add1 _ _ _ _ (by unfold mx;simp only [AM];omega),Aj]
  show some ((c++_++_)++[i1 17 (Jv t opL)])=_
  simp only [Cj]
 ·rw [decide_eq_false hp,if_neg hp,cond_false]
  unfold BA
  have key:∀ o:Int,((BC.f k (c++AW cx lo d 1 c.length x) o []).bind fun Gk=>(AZ [x,y] (1:Int)).bind fun x46=>((GE.at k).Dl cx.cs Gk.2 cx.gl lo x46.kind x46.text x46.n x46.at_ x46.kids).bind fun r55=>(EK.f k r55).bind fun r60=>(AZ r55 Gk.1).bind fun x61=>(Du r55 Gk.1 (x61.1,r60,x61.2.2.1,x61.2.2.2)).bind fun QR=>some QR) =
    some (c++(AW cx lo d 1 c.length x++i1 o ((c.length+(AW cx lo d 1 c.length x).length+1+(AW cx lo d 1 (c.length+(AW cx lo d 1 c.length x).length+1) y).length:Nat):Int) :: AW cx lo d 1 (c.length+(AW cx lo d 1 c.length x).length+1) y)):=fun o=>by
   rw [add0 _ _ _ (by unfold mx;rw [AM];omega),Aj,Te,Aj,h _ y hy gy (by omega) (by unfold mx;rw [JC];omega),Aj,JC]
   unfold EK.f
   rw [Aj,show ∀ (A B:Cd) (z:Ins),A++[z]++B=A++z :: B by simp,DT,Aj,JL,Aj,Cj]
   simp only [i0,i1,AM,AD,Nat.add_assoc,Nat.add_comm 1]
  cases t.toList == (⟨#[111,114]⟩:ByteArray).toList with
  | true=>exact key 21
  | false=>exact key 20
theorem Wc {k n a:Int} {t:ByteArray} {l:List Tree}:(Tree.mk k t n a l).kind=k:=rfl
theorem Wb {k n a:Int} {t:ByteArray} {l:List Tree}:(Tree.mk k t n a l).kids=l:=rfl
theorem Ae4 (k:Nat) (w key:Int) (c:Cd) (hw0:0≤w) (hw:w≤50) (hk0:0≤key) (hk:key≤1000000000) (hc:c.length≤mx) :
  K6.f k w c key=some (if w > 0 then 0 else w,c++Jj w key,if w > 0 then key+w else key):=by
 unfold K6.f Jj
 by_cases h:w > 0
 ·rw [decide_eq_true h,cond_true,XD _ _ _ _ _ hc,Aj,wiC _ (by omega) (by omega),if_pos h,if_pos h,if_pos h]
 ·rw [decide_eq_false h,cond_false,if_neg h,if_neg h,if_neg h,List.append_nil]
theorem Axm {R:GE} {d:Nat} (hE:EX R cx lo d) (hA:EA R cx lo d) (hC:CL R cx lo d) (rest:Bool) (J:Int→Int→Int→Int→Cd→Option Cd) (fin:Int→Int→Cd→Option Cd)
  (hJ:∀ it fd key w c,0≤w→w≤50→0≤key→key≤1000000000→c.length≤mx→J it fd key w c=fin it fd (c++Jj w key)) :
  ∀ (t pre:List Tree) (m it fd:Nat) (key w:Int) (c:Cd),pre.length+t.length≤400000→t.length < m→it+t.length≤1000000→fd+t.length≤1000000→0≤w→w < 50→0≤key→key+100 * (t.length+1)≤1000000000 →
  (∀ x ∈ t,K5 x)→E5 t→At t≤d→c.length+4 * At t+1≤mx→(rest=true→t=[]∨Kw t=true) →
  F6.l0 m R cx.cs cx.gl lo (pre++t) rest J (it:Int) (fd:Int) (pre.length:Int) key w c=fin ((it+NL rest t:Nat):Int) ((fd+NB t:Nat):Int) (c++I9 (AW cx lo d) rest c.length w key t)
 | [],pre,m,it,fd,key,w,c,hl,hm,hi,hf,hw0,hw,hk0,hk,hF,hg,hd,hb,hr=>by
  obtain ⟨m,rfl⟩:∃ m',m=m'+1:=⟨m - 1,by omega⟩
  simp only [F6.l0]
  rw [ltF (by simp),cond_false,hJ _ _ _ _ _ hw0 (by omega) hk0 (by omega) (by omega)]
  rfl
 | x :: t,pre,m,it,fd,key,w,c,hl,hm,hi,hf,hw0,hw,hk0,hk,hF,hg,hd,hb,hr=>by
  obtain ⟨m,rfl⟩:∃ m',m=m'+1:=⟨m - 1,by omega⟩
  simp only [AD] at hl hm hi hf hk
  simp only [At] at hd hb
  have ih:=fun m it fd key w c h1 h2 h3 h4 h5 h6 h7 h8=>Axm hE hA hC rest J fin hJ t (pre++[x]) m it fd key w c (by simp;omega) h1 h2 h3 h4 h5 h6 h7 (fun y hy=>hF y (CV _ hy)) hg.2 (by omega) h8 (fun h=>by
   rcases hr h with h | h
   ·cases h
   ·cases t with
    | nil=>exact .inl rfl
    | cons y t=>exact .inr (by rw [← h];unfold Kw;rw [List.getLast?_cons_cons]))
  rw [show (pre++[x])++t=pre++x :: t by simp,show ((pre++[x]).length:Int)=(pre.length:Int)+1 by simp] at ih
  simp only [F6.l0]
  rw [GY (by simp;omega),cond_true]
  dsimp only [BA]
  rw [DT,Aj,wiC ((pre.length:Int)+1) (by omega) (by omega)]
  have hFx:=hF x (Cy ..)
  rcases Q9 hFx with ⟨tx,n,a,y,rfl,hy⟩ | ⟨tx,n,a,y,z,rfl,hy,hz⟩
  ·have hgy:gw y:=hg.1.2.1
   simp only [sz,At] at hd hb
   simp only [Wc,Wb,NL,NB,I9,show BW [y] 0=y from rfl,ix0,Aj,Int.reduceEq,if_false,Nat.zero_add]
   rw [show ((13:Int) == 14)=false from rfl,cond_false]
   have e1:∀ p,(AW cx lo d 1 p y).length≤4 * sz y:=fun p=>F2 d 1 p y hy
   have eL:((pre.length:Int) == IntKind.i64.wrap ((((pre++Tree.mk 13 tx n a [y] :: t).length:Nat):Int) - 1))=t.isEmpty:=by
    rw [AM,AD,wiC _ (by omega) (by omega)]
    cases t with
    | nil=>simp only [Be,List.isEmpty_nil];rw [beq_iff_eq];omega
    | cons u v=>simp only [AD,List.isEmpty_cons];rw [beq_eq_false_iff_ne];omega
   rw [eL]
   have eq:(cond rest (some t.isEmpty) (some false):Option Bool)=some (rest && t.isEmpty):=by cases rest <;> rfl
   rw [eq,Aj]
   by_cases hlast:(rest && t.isEmpty)=true
   ·rw [hlast,cond_true,if_pos rfl,if_pos rfl]
    obtain ⟨hre,hte⟩:rest=true∧t=[]:=by simpa using hlast
    subst hte
    have h8:y.kind=8:=by
     rcases hr hre with h | h
     ·cases h
     ·unfold Kw at h
      simpa [Tree.kids,Tree.kind,BW] using h
    rw [Ae4 _ _ _ _ hw0 (by omega) hk0 (by omega) (by omega),Aj]
    have hs:=Ae6 w key
    rw [add0 _ _ _ (by rw [AM];omega),Aj,hC (-1) _ y hy h8 hgy (by omega) (by rw [JC];omega),Aj,JC]
    have e2:=F2 (cx:=cx) (lo:=lo) d (-1) (c.length+(Jj w key).length+1) y hy
    have ek:(if w > 0 then key+w else key)≤1000000000∧0≤(if w > 0 then key+w else key):=by split <;> omega
    rw [add1 _ _ _ _ (by rw [AM,JC];omega),Aj]
    have ih:=ih m it fd (if w > 0 then key+w else key) (if w > 0 then 0 else w) (c++Jj w key++[i0 22]++AW cx lo d (-1) (c.length+(Jj w key).length+1) y++[i1 29 (if w > 0 then key+w else key)]) (by simp only [Be];omega) (by omega) (by omega) (by split <;> omega) (by split <;> omega) ek.2 (by simp only [Be];split <;> omega) (by simp only [AM,AD,Be,At];omega)
    refine ih.trans ?_
    have e3:(if w > 0 then 0 else w:Int)=0:=by split <;> omega
    simp only [NL,NB,I9,e3,Nat.add_zero]
    congr 1
    simp [Jj]
   ·rw [Bool.not_eq_true] at hlast
    rw [hlast,cond_false]
    simp only [Bool.false_eq_true,if_false]
    rw [hE c y hy hgy (by omega) (by omega),Aj,wiC (w+1) (by omega) (by omega),wiC ((it:Int)+1) (by omega) (by omega)]
    have e1c:=e1 c.length
    by_cases h50:w+1=50
    ·rw [eqC h50,cond_true,if_pos h50,h50,Ae4 _ _ _ _ (by omega) (by omega) hk0 (by omega) (by rw [AM];omega),Aj]
     have ih:=ih m (it+1) fd (key+50) 0 (c++AW cx lo d 1 c.length y++[i2 28 50 key]) (by omega) (by omega) (by omega) (by omega) (by omega) (by omega) (by omega) (by rw [JC];omega)
     refine ih.trans ?_
     rw [JC]
     simp only [Cj,List.cons_append,List.nil_append,Nat.add_assoc]
    ·rw [Dm h50,cond_false,if_neg h50]
     have ih:=ih m (it+1) fd key (w+1) (c++AW cx lo d 1 c.length y) (by omega) (by omega) (by omega) (by omega) (by omega) (by omega) (by omega) (by rw [AM];omega)
     refine ih.trans ?_
     rw [AM]
     simp only [Cj,Nat.add_assoc]
  ·have hgs:E5 [y,z]:=hg.1.2
   have hes:Ey [y,z]:=fun u hu=>by
    rcases List.mem_cons.1 hu with rfl | hu
    ·exact hy
    ·obtain rfl:=DG.1 hu;exact hz
   simp only [sz] at hd hb
   have e1:=Lm (f:=AW cx lo d 1) (l:=[y,z]) (p:=c.length) fun p u hu=>F2 d 1 p u (hes u hu)
   simp only [Wc,Wb,NL,NB,I9,if_true]
   rw [show ((14:Int) == 14)=true from rfl,cond_true,hA c _ hes hgs (by omega) (by omega),Aj,add1 _ _ _ _ (by rw [AM];omega),Aj,wiC ((fd:Int)+1) (by omega) (by omega)]
   have ih:=ih m it (fd+1) key w (c++D6 (AW cx lo d 1) c.length [y,z]++[i1 27 w]) (by omega) (by omega) (by omega) hw0 hw hk0 (by omega) (by rw [JC];omega)
   refine ih.trans ?_
   rw [JC,Nat.zero_add]
   simp only [Cj,List.cons_append,List.nil_append,Nat.add_assoc]
theorem Br6 {k d:Nat} (hk:500000≤k) (hE:EX (GE.at k) cx lo d) (hA:EA (GE.at k) cx lo d) (hC:CL (GE.at k) cx lo d):TA (GE.at (k+1)) cx lo d:=fun c l hF hg hd hb=>by
 show F6.g (GE.at k) k cx.cs c cx.gl lo l=_
 have hn:=DR l
 unfold mx at hb
 unfold F6.g
 have hq:∀ f:Bool→Option Cd,((cond (decide (((l.length:Nat):Int) > 0)) ((AZ l (IntKind.i64.wrap (((l.length:Nat):Int) - 1))).bind fun Nt=>cond (Nt.kind == (13:Int)) ((AZ l (IntKind.i64.wrap (((l.length:Nat):Int) - 1))).bind fun x158=>(AZ x158.kids (0:Int)).bind fun Nv=>some (Nv.kind == (8:Int))) (some false)) (some false):Option Bool).bind f)=f (Kw l):=fun f=>by
  rcases PK l with rfl | ⟨m,x,rfl⟩
  ·rfl
  ·rw [AM,AD,Be] at hn
   rw [Asl m x (by omega),decide_eq_true (by simp),cond_true,DT,Aj]
   have hx:=hF x (by simp)
   unfold Kw
   rw [List.getLast?_append,List.getLast?_singleton]
   rcases Q9 hx with ⟨_,_,_,y,rfl,_⟩ | ⟨_,_,_,y,z,rfl,_,_⟩
   ·rfl
   ·rfl
 rw [hq,add0 _ _ _ (by unfold mx;omega),Aj]
 dsimp only [BA]
 have hfin:=Axm hE hA hC (Kw l) (fun (x10:Int) (x11:Int) (x12:Int) (FW:Int) (Wm:Cd)=>(K6.f k FW Wm x12).bind fun r20=>(AZ r20.2.1 (c.length:Int)).bind fun x25=>(Du r20.2.1 (c.length:Int) (x25.1,x10,x25.2.2.1,x25.2.2.2)).bind fun l32=>(AZ l32 (c.length:Int)).bind fun x36=>(Du l32 (c.length:Int) (x36.1,x36.2.1,x11,x36.2.2.2)).bind fun E9=>some E9)
  (fun x10 x11 b=>(AZ b (c.length:Int)).bind fun x25=>(Du b (c.length:Int) (x25.1,x10,x25.2.2.1,x25.2.2.2)).bind fun l32=>(AZ l32 (c.length:Int)).bind fun x36=>(Du l32 (c.length:Int) (x36.1,x36.2.1,x11,x36.2.2.2)).bind fun E9=>some E9)
  (fun it fd key w c h1 h2 h3 h4 h5=>by rw [Ae4 k w key c h1 h2 h3 h4 h5];rfl)
  l [] k 0 0 1 0 (c++[i0 26]) (by simp only [Be];omega) (by omega) (by omega) (by omega) (by omega) (by omega) (by omega) (by omega) hF hg hd (by unfold mx;simp only [AM,AD,Be];omega) (fun h=>.inr h)
 refine hfin.trans ?_
 rw [Nat.zero_add,Nat.zero_add,show ∀ (z:Ins) (B:Cd),c++[z]++B=c++z :: B by simp,DT,Aj,JL,Aj,DT,Aj,JL,AM]
 rfl
theorem A5w {k d:Nat} (hk:500000≤k) (hB:KW cx lo) (hE:EX (GE.at k) cx lo d) (hA:EA (GE.at k) cx lo d) (hC:CL (GE.at k) cx lo (d+1)) (hI:BI (GE.at k) cx lo d) (hT:TA (GE.at k) cx lo d):EX (GE.at (k+1)) cx lo (d+1):=fun c t hIs hg hd hb=>by
 have A8r:=hIs
 cases hIs with
 | atom h1 h2 =>
  rename_i kk n a t
  show Dl.g (GE.at k) k cx.cs c cx.gl lo kk t n a []=_
  have hc:c.length≤mx:=by omega
  unfold Dl.g
  obtain rfl | rfl | rfl | rfl | rfl | rfl:kk=1∨kk=2∨kk=3∨kk=4∨kk=5∨kk=6:=by omega
  ·show (BC.f k c 3 []).bind _=_
   rw [add0 _ _ _ hc];rfl
  ·show (BC.f k c 4 []).bind _=_
   rw [add0 _ _ _ hc];rfl
  ·show (BC.f k c 5 []).bind _=_
   rw [add0 _ _ _ hc];rfl
  ·show (Lo.f k cx.cs c 2 n _).bind _=_
   rw [Ajz _ _ _ _ _ _ hB.cs hk hc];rfl
  ·show (Lo.f k cx.cs c 3 0 t).bind _=_
   rw [Ajz _ _ _ _ _ _ hB.cs hk hc];rfl
  ·simp only [Int.reduceBEq,cond_false,cond_true]
   rw [Yg]
   unfold NE.f Wu
   rw [Aj]
   show cond (decide (Md lo t > 0)) ((BC.f k c 6 [Md lo t]).bind _) _=_
   by_cases h:Md lo t > 0
   ·rw [decide_eq_true h,if_pos h,cond_true,add1 _ _ _ _ hc];rfl
   ·rw [decide_eq_false h,if_neg h,cond_false,Yn k _ _ hB.gl hk,Aj,add1 _ _ _ _ hc];rfl
 | index h1 h2 =>
  rename_i n a t x y
  show Dl.g (GE.at k) k cx.cs c cx.gl lo 7 t n a [x,y]=_
  have hc:c.length≤mx:=by omega
  obtain ⟨_,gx,gy,_⟩:=hg
  have hsx:x.text.size≤30000:=by cases x;exact gx.1.1
  have hsy:y.text.size≤30000:=by cases y;exact gy.1.1
  unfold Dl.g
  simp only [Int.reduceBEq,cond_false,cond_true]
  rw [ix0,Aj,Yh]
  have hq:(cond (x.kind == (6:Int)) (cond (x.text.toList == (⟨#[116,97,98,108,101]⟩:ByteArray).toList) (some true) (some (x.text.toList == (⟨#[117,116,102,56]⟩:ByteArray).toList))) (some false):Option Bool)=some (x.kind == 6 && IL x.text):=by
   unfold IL
   cases x.kind == 6 with
   | false=>rfl
   | true=>cases x.text.toList == XJ.toList <;> rfl
  rw [hq,Aj,show BW [x,y] 0=x from rfl,show BW [x,y] 1=y from rfl]
  by_cases h:x.kind=6∧IL x.text=true
  ·rw [if_pos h,h.2,eqC h.1]
   show (Nl x.text So).bind _=_
   rw [Vv (by show x.text.size+1≤_;omega),Aj,Te,Aj,Vv (by rw [ByteArray.size_append];show x.text.size+1+_≤_;omega),Aj,As3 k (by omega),Aj,add1 _ _ _ _ hc]
   rfl
  ·have:(x.kind == 6 && IL x.text)=false:=by
    rw [Bool.eq_false_iff];intro h';exact h (by simpa using h')
   rw [if_neg h,this,cond_false]
   have hes:Ey [x,y]:=fun u hu=>by
    rcases List.mem_cons.1 hu with rfl | hu
    ·exact h1
    ·obtain rfl:=DG.1 hu;exact h2
   simp only [sz] at hd hb
   have e1:=Lm (f:=AW cx lo d 1) (l:=[x,y]) (p:=c.length) fun p u hu=>F2 d 1 p u (hes u hu)
   rw [hA c [x,y] hes ⟨gx,gy,trivial⟩ (by omega) (by omega),Aj,add0 _ _ _ (by rw [AM];omega),Aj,Cj]
 | call h1 h2 =>
  rename_i n a t x l
  show Dl.g (GE.at k) k cx.cs c cx.gl lo 8 t n a (x :: l)=_
  unfold Dl.g
  show ((GE.at k).EJ cx.cs c cx.gl lo 8 t n a (x :: l) 1).bind _=_
  rw [show (GE.at k).EJ cx.cs c cx.gl lo 8 t n a (x :: l) 1=_ from hC 1 c _ A8r rfl hg hd hb]
  rfl
 | paren h1 =>
  rename_i n a t x
  simp only [sz,At] at hd hb
  show Dl.g (GE.at k) k cx.cs c cx.gl lo 9 t n a [x]=_
  unfold Dl.g
  simp only [Int.reduceBEq,cond_false,cond_true]
  rw [ix0,Aj,hE c x h1 hg.2.1 (by omega) (by omega)]
  rfl
 | unary h1 =>
  rename_i n a t x
  simp only [sz,At] at hd hb
  have e0:=F2 (cx:=cx) (lo:=lo) d 1 c.length x h1
  show Dl.g (GE.at k) k cx.cs c cx.gl lo 10 t n a [x]=_
  unfold Dl.g
  simp only [Int.reduceBEq,cond_false,cond_true]
  rw [ix0,Aj,hE c x h1 hg.2.1 (by omega) (by omega),Aj,ZD k _ t (by decide) (by show 4 < k;omega),Aj,add1 _ _ _ _ (by rw [AM];omega),Aj,Yf,Cj]
  rfl
 | binary h1 h2 =>
  rename_i n a t x y
  simp only [sz,At] at hd hb
  show Dl.g (GE.at k) k cx.cs c cx.gl lo 11 t n a [x,y]=_
  unfold Dl.g
  show ((GE.at k).HI cx.cs c cx.gl lo 11 t n a [x,y]).bind _=_
  rw [hI c t n a x y h1 h2 hg.2.1 hg.2.2.1 (by omega) (by omega)]
  rfl
 | table h1 =>
  rename_i n a t l
  simp only [sz,At] at hd hb
  show Dl.g (GE.at k) k cx.cs c cx.gl lo 12 t n a l=_
  unfold Dl.g
  show ((GE.at k).F6 cx.cs c cx.gl lo l).bind _=_
  rw [hT c l h1 hg.2 (by omega) (by omega)]
  rfl
theorem O6 (hB:KW cx lo):∀ (d k:Nat),500004+4 * d≤k→EX (GE.at k) cx lo d∧CL (GE.at (k - 1)) cx lo d
 | 0,k,_=>⟨fun _ t _ _ h=>by have:=ED t;omega,fun _ _ t _ _ _ h=>by have:=ED t;omega⟩
 | d+1,k,hk=>by
  have Td:∀ j,500004+4 * d≤j→EX (GE.at j) cx lo d:=fun j hj=>(O6 hB d j hj).1
  have ihC:∀ j,500003+4 * d≤j→CL (GE.at j) cx lo d:=fun j hj=>(O6 hB d (j+1) (by omega)).2
  obtain ⟨j,rfl⟩:∃ j,k=j+4:=⟨k - 4,by omega⟩
  have hA:∀ i,500005+4 * d≤i→EA (GE.at i) cx lo d:=fun i hi=>by
   obtain ⟨i,rfl⟩:∃ m,i=m+1:=⟨i - 1,by omega⟩
   exact Yd (by omega) (Td i (by omega))
  have hC:CL (GE.at (j+3)) cx lo (d+1):=A2u (Td _ (by omega)) (Aug (hA _ (by omega)) (ihC _ (by omega)))
  exact ⟨A5w (by omega) hB (Td _ (by omega)) (hA _ (by omega)) hC (A2d (by omega) (Td _ (by omega))) (Br6 (by omega) (Td _ (by omega)) (hA _ (by omega)) (ihC _ (by omega))),hC⟩
end
abbrev Hx:=List (Option Ins)
def Cc (e:Int) (X:Hx):Cd:=X.map fun o=>o.getD (18,e,0,0)
def CO (c:Cd):Hx:=c.map some
def holes:Nat→Hx→List Int
 | _,[]=>[]
 | p,none :: X=>(p:Int) :: holes (p+1) X
 | p,some _ :: X=>holes (p+1) X
theorem NC {e:Int} {X Y:Hx}:Cc e (X++Y)=Cc e X++Cc e Y:=List.map_append ..
theorem FZ {e:Int} {X:Hx}:(Cc e X).length=X.length:=List.length_map ..
theorem O7 {e:Int}:∀ {c:Cd},Cc e (CO c)=c
 | []=>rfl
 | x :: c=>congrArg (x :: ·) (O7 (c:=c))
theorem Gj {c:Cd}:(CO c).length=c.length:=List.length_map ..
theorem Iv:∀ {X Y:Hx} {p:Nat},holes p (X++Y)=holes p X++holes (p+X.length) Y
 | [],Y,p=>rfl
 | none :: X,Y,p=>by
  show (p:Int) :: holes (p+1) (X++Y)=_
  rw [Iv (X:=X),AD,Nat.add_assoc,Nat.add_comm 1];rfl
 | some _ :: X,Y,p=>by
  show holes (p+1) (X++Y)=_
  rw [Iv (X:=X),AD,Nat.add_assoc,Nat.add_comm 1];rfl
theorem Ja:∀ {c:Cd} {p:Nat},holes p (CO c)=[]
 | [],_=>rfl
 | x :: c,p=>Ja (c:=c) (p:=p+1)
theorem Rv {β:Type} (g:Nat→List Int→Int→Cd→Option β) (J:Cd→Option β)
  (hg:∀ m hs x c,g (m+1) hs x c=cond (decide (x < ((hs.length:Nat):Int))) ((AZ hs x).bind fun i=>(EK.f m c).bind fun r=>(AZ c i).bind fun z=>(Du c i (z.1,r,z.2.2.1,z.2.2.2)).bind fun l=>g m hs (IntKind.i64.wrap (x+1)) l) (J c)) (e:Nat) (T:Cd) :
  ∀ (X:Hx) (pre:List Int) (A:Cd) (m:Nat),pre.length+X.length≤2000000→X.length < m→e=A.length+X.length+T.length →
   g m (pre++holes A.length X) (pre.length:Int) (A++Cc 0 X++T)=J (A++Cc (e:Int) X++T)
 | [],pre,A,m,hl,hm,he=>by
  obtain ⟨m,rfl⟩:∃ m',m=m'+1:=⟨m - 1,by omega⟩
  rw [hg,ltF (by simp [holes]),cond_false]
  rfl
 | some i :: X,pre,A,m,hl,hm,he=>by
  rw [AD] at hl hm he
  have ih:=Rv g J hg e T X pre (A++[i]) m (by omega) (by omega) (by rw [AM];simp only [AD,Be];omega)
  rw [AM] at ih
  simp only [Cj,List.cons_append,List.nil_append] at ih
  simpa [Cc,holes] using ih
 | none :: X,pre,A,m,hl,hm,he=>by
  obtain ⟨m,rfl⟩:∃ m',m=m'+1:=⟨m - 1,by omega⟩
  rw [AD] at hl hm he
  rw [hg]
  show cond (decide ((pre.length:Int) < (((pre++(A.length:Int) :: holes (A.length+1) X).length:Nat):Int))) ((AZ (pre++(A.length:Int) :: holes (A.length+1) X) (pre.length:Int)).bind fun i=>_) _=_
  rw [GY (by simp;omega),cond_true,DT,Aj]
  unfold EK.f
  rw [Aj,show A++Cc 0 (none :: X)++T=A++(18,0,0,0) :: (Cc 0 X++T) by simp [Cc],DT,Aj,JL,Aj,wiC _ (by omega) (by omega)]
  have ih:=Rv g J hg e T X (pre++[(A.length:Int)]) (A++[(18,(e:Int),0,0)]) m (by simp;omega) (by omega) (by rw [AM];simp only [AD,Be];omega)
  have eA:(A++[((18:Int),(e:Int),(0:Int),(0:Int))]).length=A.length+1:=by simp
  rw [eA,show (pre++[(A.length:Int)])++holes (A.length+1) X=pre++(A.length:Int) :: holes (A.length+1) X by simp,show ((pre++[(A.length:Int)]).length:Int)=(pre.length:Int)+1 by simp] at ih
  rw [show ((A++(18,0,0,0) :: (Cc 0 X++T)).length:Int)=(e:Int) by simp only [AM,AD,FZ];omega]
  have e1:∀ Z:Cd,A++[(18,(e:Int),0,0)]++Z++T=A++(18,(e:Int),0,0) :: (Z++T):=fun Z=>by simp
  rw [e1,e1] at ih
  refine ih.trans ?_
  rw [show A++Cc (e:Int) (none :: X)++T=A++(18,(e:Int),0,0) :: (Cc e X++T) by simp [Cc]]
def G9 (bs:List (List Int)) (h:List Int):List (List Int):=match bs.getLast? with | none=>bs | some b=>bs.dropLast++[b++h]
theorem LS {m:List (List Int)} {b h:List Int}:G9 (m++[b]) h=m++[b++h]:=by simp [G9]
theorem Vq {bs:List (List Int)}:G9 bs []=bs:=by
 rcases PK bs with rfl | ⟨m,x,rfl⟩
 ·rfl
 ·rw [LS,List.append_nil]
theorem XW {bs:List (List Int)} {h h':List Int}:G9 (G9 bs h) h'=G9 bs (h++h'):=by
 rcases PK bs with rfl | ⟨m,x,rfl⟩
 ·rfl
 ·rw [LS,LS,LS,Cj]
theorem A2n {bs:List (List Int)} {h:List Int} (hb:bs≠[]):G9 bs h≠[]:=by
 rcases PK bs with rfl | ⟨m,x,rfl⟩
 ·exact absurd rfl hb
 ·rw [LS];simp
def TD:Nat→Bs→Int→Int→Int
 | 0,_,_,x=>x
 | f+1,l,r,x=>if l=[] then x else if r≤0 then x else TD f (l.drop (CC l).2) (r - (CC l).2) (if (CC l).1=10 then x+1 else x)
def GC (src:ByteArray) (at_:Int):Int:=if at_ < 0∨at_ > (src.size:Int) then 0 else TD (src.size+1) (bs src) at_ 1
theorem Adi (src:ByteArray) (hs:src.size≤400000) (at_:Int) (J:Int→Int→Option (Int×Int×Int)):∀ (f p m:Nat) (x y:Int),src.size - p < f→src.size - p < m→0≤x→x≤p+1→0≤y→y≤p+1→p≤src.size →
  ∃ y',IW.l0 m src at_ J x y p=J (TD f ((bs src).drop p) (at_ - p) x) y'
 | 0,p,m,x,y,hf,hm,_,_,_,_,_=>by omega
 | f+1,p,m,x,y,hf,hm,hx,hx1,hy,hy1,hp=>by
  obtain ⟨m,rfl⟩:∃ m',m=m'+1:=⟨m - 1,by omega⟩
  simp only [IW.l0]
  by_cases hlt:p < src.size
  ·rw [decide_eq_true hlt,cond_true]
   have hne:(bs src).drop p≠[]:=fun h=>by
    have:=congrArg List.length h
    rw [Cv,Be,Dg] at this
    omega
   unfold TD
   rw [if_neg hne]
   by_cases hge:((p:Nat):Int) ≥ at_
   ·rw [decide_eq_true hge,cond_true,if_pos (by omega)]
    exact ⟨y,rfl⟩
   ·rw [decide_eq_false hge,cond_false,if_neg (by omega)]
    have hw:=KA ((bs src).drop p)
    have hle:=hw.2.2 hne
    rw [Cv,Dg] at hle
    have e1:PH src p=p+(CC ((bs src).drop p)).2:=by unfold PH;rw [decode_eq]
    have e2:WX src p=(((CC ((bs src).drop p)).1:Nat):Int):=by unfold WX;rw [decode_eq]
    rw [e1,e2,List.drop_drop,show at_ - (p:Int) - ((CC ((bs src).drop p)).2:Nat)=at_ - ((p+(CC ((bs src).drop p)).2:Nat):Int) by omega]
    by_cases h10:(CC ((bs src).drop p)).1=10
    ·rw [if_pos h10,h10,wiC (x+1) (by omega) (by omega)]
     exact Adi src hs at_ J f _ m (x+1) 1 (by omega) (by omega) (by omega) (by omega) (by omega) (by omega) (by omega)
    ·rw [if_neg h10,Dm (by omega:(((CC ((bs src).drop p)).1:Nat):Int)≠10),cond_false,wiC (y+1) (by omega) (by omega)]
     exact Adi src hs at_ J f _ m x (y+1) (by omega) (by omega) (by omega) (by omega) (by omega) (by omega) (by omega)
  ·rw [decide_eq_false hlt,cond_false]
   have:(bs src).drop p=[]:=List.drop_of_length_le (by rw [Dg];omega)
   unfold TD
   rw [this,if_pos rfl]
   exact ⟨y,rfl⟩
theorem Au1 (k:Nat) (src:ByteArray) (at_:Int) (hs:src.size≤400000) (hk:500000≤k):∃ y z,IW.f k src at_=some (GC src at_,y,z):=by
 unfold IW.f GC BA
 by_cases h0:at_ < 0
 ·rw [decide_eq_true h0,cond_true,if_pos (.inl h0)]
  exact ⟨_,_,rfl⟩
 ·rw [decide_eq_false h0,cond_false,Aj]
  by_cases h1:at_ > (src.size:Int)
  ·rw [decide_eq_true h1,cond_true,if_pos (.inr h1)]
   exact ⟨_,_,rfl⟩
  ·rw [decide_eq_false h1,cond_false,if_neg (by omega)]
   obtain ⟨y,hy⟩:=Adi src hs at_ (fun x3 x4=>some (x3,x4,(0:Int))) (src.size+1) 0 k 1 1 (by omega) (by omega) (by omega) (by omega) (by omega) (by omega) (by omega)
   rw [List.drop_zero,show at_ - ((0:Nat):Int)=at_ by omega] at hy
   exact ⟨y,0,hy⟩
section
variable (cx:GCx)
def GM (f:Int→Nat→Tree→Cd) (p:Nat) (l:List Tree) (n:Nat):Cd :=
 if l.length=n then D6 (f 1) p l else if l=[] then List.replicate n (i0 3) else i0 22 :: (JG f (p+1) l++[i1 23 (n:Int)])
def NX (there:Nat):Nat→Cd
 | 0=>[]
 | i+1=>i1 7 ((there+(i+1):Nat):Int) :: NX there i
def IA (f:Nat→List Tree→Cd):Nat→List Tree→Cd
 | _,[]=>[]
 | p,x :: l=>if x.kind=7 then f p x.kids++IA f (p+(f p x.kids).length) l else IA f p l
def FV:List Tree→Nat
 | []=>0
 | x :: l=>if x.kind=7 then 2+FV l else FV l
def Aa0 (lo:List ByteArray) (t:ByteArray):Ins:=if Md lo t > 0 then i1 7 (Md lo t) else i1 9 (glN cx.gl t)
def Ml (lo:List ByteArray) (n:Nat):List Tree→Cd
 | []=>[]
 | x :: l=>if x.kind=7 then i2 13 ((n+FV l:Nat):Int) (l.length:Nat) :: Ml lo n l else i1 14 (l.length:Nat) :: Aa0 cx lo x.text :: Ml lo n l
def Qh (lo:List ByteArray) (f:Int→Nat→Tree→Cd) (p:Nat) (l m:List Tree):Cd :=
 IA (D6 (f 1)) p l++(GM f (p+(IA (D6 (f 1)) p l).length) m l.length++(Ml cx lo l.length l++[i1 15 ((l.length+FV l:Nat):Int)]))
def Uj (f:Int→Nat→Tree→Cd) (p:Nat) (l:List Tree):Cd:=i0 22 :: (JG f (p+1) l++[i0 25])
abbrev SG:=List ByteArray→Nat→Tree→Hx×List ByteArray
def H7 (f:SG):List ByteArray→Nat→List Tree→Hx
 | _,_,[]=>[]
 | lo,p,x :: l=>some (i1 1 (GC cx.src x.at_)) :: ((f lo (p+1) x).1++H7 f (f lo (p+1) x).2 (p+1+(f lo (p+1) x).1.length) l)
def IR (X:Hx) (back:Ins) (p:Nat):Cd:=Cc ((p+X.length+1:Nat):Int) X++[back]
def brX (e:Nat→Tree→Cd) (b:Nat→Tree→Hx):Nat→List Tree→List (Option (Option Ins))
 | _,[]=>[]
 | p,[x]=>(b p x).map some
 | p,x :: y :: l =>
  let E:=e p x
  let B:=b (p+E.length+1) y
  let m:Nat:=if l.isEmpty then 0 else 1
  E.map (fun i=>some (some i))++some (some (i1 19 ((p+E.length+1+B.length+m:Nat):Int))) :: (B.map some++(if l.isEmpty then [] else [none])++brX e b (p+E.length+1+B.length+m) l)
def ifH (e:Nat→Tree→Cd) (b:Nat→Tree→Hx) (p:Nat) (l:List Tree):Hx:=(brX e b p l).map fun o=>o.getD (some (i1 18 ((p+(brX e b p l).length:Nat):Int)))
def Ib (lo:List ByteArray) (l:List Tree):List ByteArray:=lo++List.replicate 3 ⟨#[]⟩++l.map (·.text)
def Ch:Nat→SG
 | 0,lo,_,_=>([],lo)
 | d+1,lo,p,.mk k t n a l =>
  let f:=AW cx lo d
  let B:=fun lo p (x:Tree)=>H7 cx (Ch d) lo p x.kids
  if k=21 then (CO (GM f p (l.drop n.toNat) n.toNat++NX lo.length n.toNat),lo++(l.take n.toNat).map (·.text))
  else if k=22 then (CO (Qh cx lo f p (l.take n.toNat) (l.drop n.toNat)),lo)
  else if k=23 then (CO (f 0 p (BW l 0)),lo)
  else if k=24 then (ifH (f 1) (B lo) p l,lo)
  else if k=25 then
   let E:=f 1 p (BW l 0)
   let L:=IR (B lo (p+E.length+2) (BW l 1)) (i1 18 p) (p+E.length+2)
   (CO (E++i1 19 ((p+E.length+2+L.length:Nat):Int) :: i0 34 :: L),lo)
  else if k=26 then
   let m:=l.length - 2
   let E:=D6 (f 1) p ((l.drop 1).take m)
   let L:=IR (B (Ib lo (l.take 1)) (p+E.length+1) (BW l (m+1))) (i2 31 ((lo.length+1:Nat):Int) ((p+E.length+1:Nat):Int)) (p+E.length+1)
   (CO (E++i3 30 ((lo.length+1:Nat):Int) ((p+E.length+1+L.length:Nat):Int) ((m:Nat) - 2:Int) :: L),lo)
  else if k=27 then
   let s:Int:=((lo.length+1:Nat):Int)
   let E:=GM f p ((l.drop n.toNat).take (l.length - 1 - n.toNat)) 3
   let q:=p+E.length
   let L:=IR (B (Ib lo (l.take n.toNat)) (q+7) (BW l (l.length - 1))) (i1 18 ((q+1:Nat):Int)) (q+7)
   (CO (E++i1 32 s :: i1 6 s :: i0 22 :: i1 6 (s+1) :: i1 6 (s+2) :: i1 24 n :: i3 33 s ((q+7+L.length:Nat):Int) n :: L),lo)
  else if k=28 then (B lo p (BW l 0),lo)
  else if k=29 then ([none],lo)
  else if k=30 then (CO (Uj f p l),lo)
  else ([],lo)
end
section
variable {cx:GCx}
abbrev Dd (cx:GCx) (d:Nat) (lo:List ByteArray) (p:Nat) (x:Tree):Hx:=H7 cx (Ch cx d) lo p x.kids
def PO (E:Cd) (X:Hx) (p:Nat):Cd:=E++i1 19 ((p+E.length+2+(X.length+1):Nat):Int) :: i0 34 :: IR X (i1 18 p) (p+E.length+2)
def S4 (E:Cd) (X:Hx) (s m:Nat) (p:Nat):Cd :=
 E++i3 30 (s:Int) ((p+E.length+1+(X.length+1):Nat):Int) ((m:Int) - 2) :: IR X (i2 31 (s:Int) ((p+E.length+1:Nat):Int)) (p+E.length+1)
def inG (E:Cd) (X:Hx) (s:Nat) (n:Int) (p:Nat):Cd :=
 E++i1 32 (s:Int) :: i1 6 (s:Int) :: i0 22 :: i1 6 ((s:Int)+1) :: i1 6 ((s:Int)+2) :: i1 24 n :: i3 33 (s:Int) ((p+E.length+7+(X.length+1):Nat):Int) n :: IR X (i1 18 ((p+E.length+1:Nat):Int)) (p+E.length+7)
theorem Ko {X:Hx} {i:Ins} {p:Nat}:(IR X i p).length=X.length+1:=by simp [IR,FZ]
variable {d:Nat} {lo:List ByteArray} {p:Nat} {n a:Int} {t:ByteArray}
theorem Uv {l m:List Tree}:Ch cx (d+1) lo p (.mk 21 t (l.length:Nat) a (l++m))=(CO (GM (AW cx lo d) p m l.length++NX lo.length l.length),lo++l.map (·.text)):=by
 simp only [Ch,if_true,Int.toNat_natCast,List.drop_left,List.take_left]
theorem Uq {l m:List Tree}:Ch cx (d+1) lo p (.mk 22 t (l.length:Nat) a (l++m))=(CO (Qh cx lo (AW cx lo d) p l m),lo):=by
 simp only [Ch,Int.reduceEq,if_false,if_true,Int.toNat_natCast,List.drop_left,List.take_left]
theorem Ux {x:Tree}:Ch cx (d+1) lo p (.mk 23 t n a [x])=(CO (AW cx lo d 0 p x),lo):=by
 simp only [Ch,Int.reduceEq,if_false,if_true];rfl
theorem R4 {l:List Tree}:Ch cx (d+1) lo p (.mk 24 t n a l)=(ifH (AW cx lo d 1) (Dd cx d lo) p l,lo):=by
 simp only [Ch,Int.reduceEq,if_false,if_true]
theorem Uy {x b:Tree}:Ch cx (d+1) lo p (.mk 25 t n a [x,b])=(CO (PO (AW cx lo d 1 p x) (Dd cx d lo (p+(AW cx lo d 1 p x).length+2) b) p),lo):=by
 simp only [Ch,Int.reduceEq,if_false,if_true,Ko];rfl
theorem Us {x b:Tree} {l:List Tree}:Ch cx (d+1) lo p (.mk 26 t n a (x :: l++[b]))=(CO (S4 (D6 (AW cx lo d 1) p l) (Dd cx d (Ib lo [x]) (p+(D6 (AW cx lo d 1) p l).length+1) b) (lo.length+1) l.length p),lo):=by
 have e1:(x :: l++[b]).length - 2=l.length:=by simp
 have e2:((x :: l++[b]).drop 1).take l.length=l:=by simp
 have e3:BW (x :: l++[b]) (l.length+1)=b:=by simp [BW]
 have e4:(x :: l++[b]).take 1=[x]:=rfl
 simp only [Ch,Int.reduceEq,if_false,if_true,e1,e2,e3,e4,Ko];rfl
theorem Ut {b:Tree} {l m:List Tree}:Ch cx (d+1) lo p (.mk 27 t (l.length:Nat) a (l++m++[b]))=(CO (inG (GM (AW cx lo d) p m 3) (Dd cx d (Ib lo l) (p+(GM (AW cx lo d) p m 3).length+7) b) (lo.length+1) (l.length:Nat) p),lo):=by
 have e1:(l++m++[b]).length - 1 - l.length=m.length:=by simp
 have e2:((l++m++[b]).drop l.length).take m.length=m:=by simp
 have e3:BW (l++m++[b]) ((l++m++[b]).length - 1)=b:=by simp [BW]
 have e4:(l++m++[b]).take l.length=l:=by simp
 simp only [Ch,Int.reduceEq,if_false,if_true,Int.toNat_natCast,e1,e2,e3,e4,Ko];rfl
theorem R3 {b:Tree}:Ch cx (d+1) lo p (.mk 28 t n a [b])=(Dd cx d lo p b,lo):=by
 simp only [Ch,Int.reduceEq,if_false,if_true];rfl
theorem Ur {l:List Tree}:Ch cx (d+1) lo p (.mk 29 t n a l)=([none],lo):=by
 simp only [Ch,Int.reduceEq,if_false,if_true]
theorem Uw {l:List Tree}:Ch cx (d+1) lo p (.mk 30 t n a l)=(CO (Uj (AW cx lo d) p l),lo):=by
 simp only [Ch,Int.reduceEq,if_false,if_true]
theorem RI {l:List Tree} {n:Nat} (h:Ey l):(GM (AW cx lo d) p l n).length≤4 * At l+n+2:=by
 unfold GM
 split
 ·have:=Lm (f:=AW cx lo d 1) (l:=l) (p:=p) fun p y hy=>F2 d 1 p y (h y hy)
  omega
 split
 ·rw [List.length_replicate];omega
 ·have:=Pz (f:=AW cx lo d) (l:=l) (p:=p+1) fun r p y hy=>F2 d r p y (h y hy)
  simp only [AD,AM,Be]
  omega
theorem Awp {m:Nat}:∀ {i:Nat},(NX m i).length=i
 | 0=>rfl
 | i+1=>by simp only [NX,AD,Awp (i:=i)]
theorem VN {t:Tree} (h:IsE t) (hk:t.kind=7):∃ tx n a x y,t=.mk 7 tx n a [x,y]∧IsE x∧IsE y:=by
 cases h with
 | index h1 h2=>exact ⟨_,_,_,_,_,rfl,h1,h2⟩
 | _=>simp only [Tree.kind] at hk;omega
theorem Aox {t:Tree} (h:IsE t) (hk:t.kind=7):Ey t.kids∧At t.kids+1=sz t:=by
 obtain ⟨tx,n,a,x,y,rfl,hx,hy⟩:=VN h hk
 refine ⟨fun u hu=>?_,by simp only [Tree.kids,sz]⟩
 rcases List.mem_cons.1 hu with rfl | hu
 ·exact hx
 ·obtain rfl:=DG.1 hu;exact hy
theorem Afd:∀ {l:List Tree} {p:Nat},Ey l→(IA (D6 (AW cx lo d 1)) p l).length+4 * l.length≤4 * At l
 | [],_,_=>Nat.le_refl _
 | x :: l,p,h=>by
  have ih:=fun p=>Afd (l:=l) (p:=p) fun y hy=>h y (CV _ hy)
  unfold IA
  split
  ·rename_i h7
   have hk:=Aox (h x (Cy ..)) h7
   have:=Lm (f:=AW cx lo d 1) (l:=x.kids) (p:=p) fun p y hy=>F2 d 1 p y (hk.1 y hy)
   have:=ih (p+(D6 (AW cx lo d 1) p x.kids).length)
   simp only [AM,AD,At]
   omega
  ·have:=ih p
   have:=ED x
   simp only [AD,At]
   omega
theorem Afe:∀ (l:List Tree),FV l≤2 * l.length
 | []=>Nat.le_refl _
 | x :: l=>by
  have:=Afe l
  unfold FV
  split <;> simp only [AD] <;> omega
theorem Adm {n:Nat}:∀ (l:List Tree),(Ml cx lo n l).length≤2 * l.length
 | []=>Nat.le_refl _
 | x :: l=>by
  have:=Adm (n:=n) l
  unfold Ml
  split <;> simp only [AD] <;> omega
theorem A0o {l m:List Tree} (hl:Ey l) (hm:Ey m):(Qh cx lo (AW cx lo d) p l m).length+l.length≤4 * At l+4 * At m+3:=by
 have h1:=Afd (cx:=cx) (lo:=lo) (d:=d) (p:=p) hl
 have h2:=RI (cx:=cx) (lo:=lo) (d:=d) (p:=p+(IA (D6 (AW cx lo d 1)) p l).length) (n:=l.length) hm
 have h3:=Adm (cx:=cx) (lo:=lo) (n:=l.length) l
 unfold Qh
 simp only [AM,AD,Be]
 omega
theorem XN {f:SG}:∀ {l:List Tree} {lo:List ByteArray} {p:Nat},(∀ lo p x,x ∈ l→(f lo p x).1.length+1≤5 * sz x)→(H7 cx f lo p l).length≤5 * At l
 | [],_,_,_=>Nat.zero_le _
 | x :: l,lo,p,h=>by
  have h1:=h lo (p+1) x (Cy ..)
  have h2:=XN (l:=l) (lo:=(f lo (p+1) x).2) (p:=p+1+(f lo (p+1) x).1.length) fun lo p y hy=>h lo p y (CV _ hy)
  simp only [H7,AD,AM,At]
  omega
theorem Ajl {e:Nat→Tree→Cd} {b:Nat→Tree→Hx} (he:∀ p x,IsE x→(e p x).length≤4 * sz x):∀ {l:List Tree} {p:Nat},IsR l→(∀ p x,x ∈ l→EF x→(b p x).length+5≤5 * sz x)→(brX e b p l).length≤5 * At l
 | _,_,.nil,_=>Nat.zero_le _
 | _,p,.last hb,h=>by
  have:=h p _ (Cy ..) hb
  simp only [brX,List.length_map,At]
  omega
 | _,p,.more (e:=x) (b:=y) (l:=l) hx hy hr,h=>by
  have ih:=fun p=>Ajl (b:=b) he (p:=p) hr fun p z hz=>h p z (CV _ (CV _ hz))
  have h1:=he p x hx
  have h2:=h (p+(e p x).length+1) y (CV _ (Cy ..)) hy
  have h3:=ih (p+(e p x).length+1+(b (p+(e p x).length+1) y).length+if l.isEmpty then 0 else 1)
  have h4:(if l.isEmpty then [] else [none]:List (Option (Option Ins))).length≤1:=by split <;> simp
  simp only [brX,AM,AD,List.length_map,At] at h3 ⊢
  omega
theorem ZB {b:Tree} (h:EF b):(∀ x ∈ b.kids,IsS x)∧sz b=At b.kids+1∧b.kind=20:=by
 cases h with
 | block h=>exact ⟨h,by simp only [sz,Tree.kids],rfl⟩
theorem Uu:∀ (d:Nat) (lo:List ByteArray) (p:Nat) (t:Tree),IsS t→(Ch cx d lo p t).1.length+1≤5 * sz t
 | 0,_,_,t,_=>by have:=ED t;show 0+1≤_;omega
 | d+1,lo,p,t,h=>by
  have hB:∀ lo p b,EF b→(Dd cx d lo p b).length+5≤5 * sz b:=fun lo p b hb=>by
   obtain ⟨h1,h2,_⟩:=ZB hb
   have:=XN (cx:=cx) (f:=Ch cx d) (l:=b.kids) (lo:=lo) (p:=p) fun lo p x hx=>Uu d lo p x (h1 x hx)
   show (H7 cx (Ch cx d) lo p b.kids).length+5≤_
   omega
  cases h with
  | loc hl hm =>
   rename_i a t l m
   rw [Uv]
   have h1:=RI (cx:=cx) (lo:=lo) (d:=d) (p:=p) (n:=l.length) hm
   have h2:=DR l
   simp only [Gj,AM,Awp,sz,D9]
   omega
  | asg hl hx hm hy =>
   rename_i a t l m
   rw [Uq]
   have h1:=A0o (cx:=cx) (lo:=lo) (d:=d) (p:=p) (l:=l) (m:=m) (fun x h=>(hx x h).1) hy
   have h2:=DR l
   simp only [Gj,sz,D9]
   omega
  | run hx h8 =>
   rename_i n a t x
   rw [Ux]
   have h1:=F2 (cx:=cx) (lo:=lo) d 0 p x hx
   simp only [Gj,sz,At]
   omega
  | if_ hr =>
   rename_i n a t l
   rw [R4]
   have h1:=Ajl (e:=AW cx lo d 1) (b:=Dd cx d lo) (fun p x hx=>F2 d 1 p x hx) (p:=p) hr fun p x _ hx=>hB lo p x hx
   simp only [ifH,List.length_map,sz]
   omega
  | while_ hx hb =>
   rename_i n a t x b
   rw [Uy]
   have h1:=F2 (cx:=cx) (lo:=lo) d 1 p x hx
   have h2:=hB lo (p+(AW cx lo d 1 p x).length+2) b hb
   simp only [Gj,PO,AM,AD,Ko,sz,At]
   omega
  | for_ hl hx hb =>
   rename_i n a t x b l
   rw [Us]
   have h1:=Lm (f:=AW cx lo d 1) (l:=l) (p:=p) fun p y hy=>F2 d 1 p y (hx y hy)
   have h2:=hB (Ib lo [x]) (p+(D6 (AW cx lo d 1) p l).length+1) b hb
   simp only [Gj,S4,AM,AD,Ko,sz,At,D9]
   omega
  | forIn hl hm hx hb =>
   rename_i a t b l m
   rw [Ut]
   have h1:=RI (cx:=cx) (lo:=lo) (d:=d) (p:=p) (n:=3) hx
   have h2:=hB (Ib lo l) (p+(GM (AW cx lo d) p m 3).length+7) b hb
   have h3:=DR l
   have h4:=List.length_pos_iff.2 hl
   simp only [Gj,inG,AM,AD,Ko,sz,At,D9]
   omega
  | do_ hb =>
   rename_i n a t b
   rw [R3]
   have h2:=hB lo p b hb
   simp only [sz,At]
   omega
  | break_ =>
   rw [Ur]
   simp only [sz,At,AD,Be]
   omega
  | ret hx =>
   rename_i n a t l
   rw [Uw]
   have h1:=Pz (f:=AW cx lo d) (l:=l) (p:=p+1) fun r p y hy=>F2 d r p y (hx y hy)
   simp only [Gj,Uj,AM,AD,Be,sz]
   omega
end
section
variable {cx:GCx} {lo:List ByteArray} {d k:Nat}
theorem Ako (hB:KW cx lo) (hk:500010+4 * d≤k) {c:Cd} {t:Tree} (hE:IsE t) (hg:gw t) (hd:sz t≤d) (hb:c.length+4 * sz t≤mx):Dl.f k cx.cs c cx.gl lo t.kind t.text t.n t.at_ t.kids=some (c++AW cx lo d 1 c.length t) :=
 (O6 hB d (k+1) (by omega)).1 c t hE hg hd hb
theorem Yc (hB:KW cx lo) (hk:500010+4 * d≤k) {c:Cd} {l:List Tree} (hE:Ey l) (hg:E5 l) (hd:At l≤d) (hb:c.length+4 * At l≤mx):DD.f k cx.cs c cx.gl lo l=some (c++D6 (AW cx lo d 1) c.length l) :=
 Yd (by omega) (O6 hB d k (by omega)).1 c l hE hg hd hb
theorem Aue (hB:KW cx lo) (hk:500010+4 * d≤k) {c:Cd} {l:List Tree} (hE:Ey l) (hg:E5 l) (hd:At l≤d) (hb:c.length+4 * At l≤mx):F5.f k cx.cs c cx.gl lo l=some (c++JG (AW cx lo d) c.length l):=by
 obtain ⟨j,rfl⟩:∃ j,k=j+1:=⟨k - 1,by omega⟩
 exact Aug (Yd (by omega) (O6 hB d j (by omega)).1) (O6 hB d (j+2) (by omega)).2 c l hE hg hd hb
theorem A2s (hB:KW cx lo) (hk:500010+4 * d≤k) (res:Int) {c:Cd} {t:Tree} (hE:IsE t) (h8:t.kind=8) (hg:gw t) (hd:sz t≤d) (hb:c.length+4 * sz t≤mx):EJ.f k cx.cs c cx.gl lo t.kind t.text t.n t.at_ t.kids res=some (c++AW cx lo d res c.length t) :=
 (O6 hB d (k+2) (by omega)).2 res c t hE h8 hg hd hb
theorem Atl (n:Nat) (hn:n≤400000):∀ (i m:Nat) (c:Cd),i≤n→n - i < m→c.length+(n - i)≤mx→GT.l0 m (n:Int) (i:Int) c=some (c++List.replicate (n - i) (i0 3))
 | i,0,c,hi,hm,hb=>by omega
 | i,m+1,c,hi,hm,hb=>by
  simp only [GT.l0]
  by_cases h:i < n
  ·rw [GY (by omega),cond_true,add0 _ _ _ (by omega),Aj,wiC _ (by omega) (by omega)]
   have ih:=Atl n hn (i+1) m (c++[i0 3]) (by omega) (by omega) (by rw [AM];simp only [AD,Be];omega)
   refine (show _=_ from ih).trans ?_
   rw [show n - i=(n - (i+1))+1 by omega,List.replicate_succ,Cj]
   rfl
  ·rw [ltF (by omega),cond_false,show n - i=0 by omega]
   simp
theorem Afz (hB:KW cx lo) (hk:500010+4 * d≤k) {c:Cd} {l:List Tree} {n:Nat} (hE:Ey l) (hg:E5 l) (hd:At l≤d) (hn:n≤400000) (hb:c.length+4 * At l+n+3≤mx):GT.f k cx.cs c cx.gl lo l (n:Int)=some (c++GM (AW cx lo d) c.length l n):=by
 have hs:=DR l
 unfold GT.f GM
 by_cases h1:l.length=n
 ·rw [if_pos h1,eqC (by omega),cond_true,Yc hB hk hE hg hd (by omega)]
  rfl
 ·rw [if_neg h1,Dm (by omega),cond_false]
  by_cases h2:l=[]
  ·subst h2
   rw [if_pos rfl,eqC (by simp),cond_true]
   have:=Atl n hn 0 k c (by omega) (by omega) (by omega)
   exact this
  ·have:=List.length_pos_iff.2 h2
   rw [if_neg h2,Dm (by omega),cond_false,add0 _ _ _ (by omega),Aj]
   have e1:=Pz (f:=AW cx lo d) (l:=l) (p:=c.length+1) fun r p y hy=>F2 d r p y (hE y hy)
   have e2:(c++[i0 22]).length=c.length+1:=by simp
   rw [Aue hB hk hE hg hd (by rw [e2];omega),Aj,e2,add1 _ _ _ _ (by rw [AM,e2];omega),Aj]
   simp only [Cj,List.cons_append,List.nil_append]
theorem Awu (bs:List (List Int)) (nx:Int) (us:List (Option Dh)) (r:List ByteArray) (hl:lo.length≤400000):∀ (i m:Nat) (c:Cd),i < m→i≤400000→c.length+i≤mx →
  Dx.l0 m lo bs nx us r (i:Int) c=some (c++NX lo.length i,r,bs,nx,us)
 | i,0,c,hm,_,_=>by omega
 | 0,m+1,c,hm,_,hb=>by
  simp only [Dx.l0]
  rw [show decide (((0:Nat):Int) > 0)=false from rfl,cond_false]
  simp [NX]
 | i+1,m+1,c,hm,hi,hb=>by
  simp only [Dx.l0]
  rw [decide_eq_true (by omega),cond_true,wiC (((lo.length:Nat):Int)+_) (by omega) (by omega),add1 _ _ _ _ (by omega),Aj,wiC _ (by omega) (by omega),show ((i+1:Nat):Int) - 1=(i:Int) by omega]
  have ih:=Awu bs nx us r hl i m (c++[i1 7 (((lo.length:Nat):Int)+((i+1:Nat):Int))]) (by omega) (by omega) (by rw [AM];simp only [AD,Be];omega)
  refine (show _=_ from ih).trans ?_
  rw [Cj,show ((lo.length:Nat):Int)+((i+1:Nat):Int)=((lo.length+(i+1):Nat):Int) by omega]
  rfl
theorem Axq (hB:KW cx lo) (J:Int→Cd→Option Cd):∀ (t pre:List Tree) (m z:Nat) (c:Cd),500010+4 * d+t.length≤m→pre.length+t.length≤400000→Ey t→E5 t→At t≤d→c.length+4 * At t≤mx→z+2 * t.length≤1000000 →
  FK.l1 m cx.cs cx.gl lo (pre++t) J (z:Int) (pre.length:Int) c=J ((z+FV t:Nat):Int) (c++IA (D6 (AW cx lo d 1)) c.length t)
 | [],pre,m,z,c,hm,hl,hE,hg,hd,hb,hz=>by
  obtain ⟨m,rfl⟩:∃ m',m=m'+1:=⟨m - 1,by omega⟩
  simp only [FK.l1]
  rw [ltF (by simp),cond_false]
  simp [IA,FV]
 | x :: t,pre,m,z,c,hm,hl,hE,hg,hd,hb,hz=>by
  obtain ⟨m,rfl⟩:∃ m',m=m'+1:=⟨m - 1,by omega⟩
  simp only [AD] at hl hm hz
  simp only [At] at hd hb
  have ih:=fun z c h1 h2=>Axq hB J t (pre++[x]) m z c (by omega) (by simp;omega) (fun y hy=>hE y (CV _ hy)) hg.2 (by omega) h1 h2
  rw [show (pre++[x])++t=pre++x :: t by simp,show ((pre++[x]).length:Int)=(pre.length:Int)+1 by simp] at ih
  simp only [FK.l1]
  rw [GY (by simp;omega),cond_true]
  dsimp only [BA]
  rw [DT,Aj,wiC ((pre.length:Int)+1) (by omega) (by omega)]
  unfold FV IA
  by_cases h7:x.kind=7
  ·have hk:=Aox (hE x (Cy ..)) h7
   have hgx:E5 x.kids:=by cases x;exact hg.1.2
   have e1:=Lm (f:=AW cx lo d 1) (l:=x.kids) (p:=c.length) fun p y hy=>F2 d 1 p y (hk.1 y hy)
   rw [eqC h7,cond_true,Yc (d:=d) hB (by omega) hk.1 hgx (by omega) (by omega),Aj,wiC _ (by omega) (by omega),if_pos h7,if_pos h7]
   refine (show _=_ from ih (z+2) _ (by rw [AM];omega) (by omega)).trans ?_
   rw [Cj,AM,Nat.add_assoc z 2]
  ·rw [Dm h7,cond_false,if_neg h7,if_neg h7]
   exact ih z c (by omega) (by omega)
theorem Avc (hB:KW cx lo) (N:Nat) (J:Cd→Option Cd):∀ (t pre:List Tree) (m:Nat) (c:Cd),500010+t.length≤m→pre.length+t.length=N→N≤400000→c.length+2 * t.length≤mx →
  FK.l0 m cx.gl lo (pre++t) J (FV t:Nat) (pre.length:Int) c=J (c++Ml cx lo N t)
 | [],pre,m,c,hm,hl,hN,hb=>by
  obtain ⟨m,rfl⟩:∃ m',m=m'+1:=⟨m - 1,by omega⟩
  simp only [FK.l0]
  rw [ltF (by simp),cond_false]
  simp [Ml]
 | x :: t,pre,m,c,hm,hl,hN,hb=>by
  obtain ⟨m,rfl⟩:∃ m',m=m'+1:=⟨m - 1,by omega⟩
  simp only [AD] at hl hm hb
  have ih:=fun c h1=>Avc hB N J t (pre++[x]) m c (by omega) (by simp;omega) hN h1
  rw [show (pre++[x])++t=pre++x :: t by simp,show ((pre++[x]).length:Int)=(pre.length:Int)+1 by simp] at ih
  have ht:=Afe t
  have eN:((pre++x :: t).length:Int)=(N:Int):=by rw [AM,AD];omega
  simp only [FK.l0]
  rw [eN,GY (by omega),cond_true]
  dsimp only [BA]
  rw [DT,Aj,wiC ((pre.length:Int)+1) (by omega) (by omega),wiC ((N:Int) - 1) (by omega) (by omega),wiC ((N:Int) - 1 - (pre.length:Int)) (by omega) (by omega),show (N:Int) - 1 - (pre.length:Int)=(t.length:Int) by omega]
  unfold FV Ml
  by_cases h7:x.kind=7
  ·rw [eqC h7,cond_true,if_pos h7,if_pos h7,show ((2+FV t:Nat):Int) - 2=(FV t:Int) by omega,wiC (FV t:Int) (by omega) (by omega),wiC ((N:Int)+(FV t:Int)) (by omega) (by omega),XD _ _ _ _ _ (by omega),Aj]
   refine (show _=_ from ih (c++[i2 13 ((N:Int)+(FV t:Int)) (t.length:Int)]) (by rw [AM];simp only [AD,Be];omega)).trans ?_
   rw [Cj]
   rfl
  ·rw [Dm h7,cond_false,if_neg h7,if_neg h7,add1 _ _ _ _ (by omega),Aj]
   have e2:∀ z:Ins,(c++[z]).length=c.length+1:=fun z=>by simp
   unfold NE.f Aa0
   rw [Aj]
   have hq:∀ i:Ins,(c++[i1 14 (t.length:Int)]++[i]).length+2 * t.length≤mx:=fun i=>by rw [AM,e2];simp only [AD,Be];omega
   show cond (decide (Md lo x.text > 0)) _ _=_
   by_cases h:Md lo x.text > 0
   ·rw [decide_eq_true h,cond_true,if_pos h]
    show (BC.f m (c++[i1 14 (t.length:Int)]) 7 [Md lo x.text]).bind _=_
    rw [add1 _ _ _ _ (by rw [e2];omega),Aj]
    refine (show _=_ from ih _ (hq _)).trans ?_
    simp only [Cj,List.cons_append,List.nil_append]
   ·rw [decide_eq_false h,cond_false,if_neg h,Yn m _ _ hB.gl (by omega),Aj,add1 _ _ _ _ (by rw [e2];omega),Aj]
    refine (show _=_ from ih _ (hq _)).trans ?_
    simp only [Cj,List.cons_append,List.nil_append]
theorem A0l (hB:KW cx lo) {l m:List Tree} (hk:500010+4 * d+l.length≤k) {c:Cd} (hl:Ey l) (hm:Ey m) (gl:E5 l) (gm:E5 m) (hd:At l+At m≤d) (hb:c.length+4 * At l+4 * At m+3 * l.length+5≤mx) (hn:l.length≤400000) :
  FK.f k cx.cs c cx.gl lo l m=some (c++Qh cx lo (AW cx lo d) c.length l m):=by
 unfold FK.f
 dsimp only [BA]
 have ht:=Afe l
 have h1:=Afd (cx:=cx) (lo:=lo) (d:=d) (p:=c.length) hl
 have h2:=RI (cx:=cx) (lo:=lo) (d:=d) (p:=c.length+(IA (D6 (AW cx lo d 1)) c.length l).length) (n:=l.length) hm
 have h3:=Adm (cx:=cx) (lo:=lo) (n:=l.length) l
 have e:=Axq (d:=d) hB (fun (x1:Int) (l2:Cd)=>(GT.f k cx.cs l2 cx.gl lo m ((l.length:Nat):Int)).bind fun r8=>FK.l0 k cx.gl lo l (fun (l13:Cd)=>(BC.f k l13 (15:Int) ([IntKind.i64.wrap (((l.length:Nat):Int)+x1)])).bind fun r20=>some (r20.2)) x1 (0:Int) r8) l [] k 0 c (by omega) (by simp only [Be];omega) hl gl (by omega) (by omega) (by omega)
 refine (show _=_ from e).trans ?_
 rw [Afz (d:=d) hB (by omega) hm gm (by omega) hn (by rw [AM];omega),Aj,Nat.zero_add,AM]
 have e2:=Avc hB l.length (fun (l13:Cd)=>(BC.f k l13 (15:Int) ([IntKind.i64.wrap (((l.length:Nat):Int)+(FV l:Int))])).bind fun r20=>some (r20.2)) l [] k (c++IA (D6 (AW cx lo d 1)) c.length l++GM (AW cx lo d) (c.length+(IA (D6 (AW cx lo d 1)) c.length l).length) m l.length) (by omega) (by simp) hn (by simp only [AM];omega)
 refine (show _=_ from e2).trans ?_
 rw [wiC _ (by omega) (by omega),add1 _ _ _ _ (by simp only [AM];omega),Aj]
 unfold Qh
 simp only [Cj]
 rfl
end
def bw (bs:List (List Int)):Nat:=bs.length+(bs.map List.length).sum
theorem Aju {bs:List (List Int)} {h:List Int}:bw (G9 bs h)≤bw bs+h.length:=by
 rcases PK bs with rfl | ⟨m,x,rfl⟩
 ·show 0+0≤_;omega
 ·rw [LS]
  simp only [bw,AM,List.map_append,List.sum_append,List.map_cons,List.map_nil,List.sum_cons,List.sum_nil,AD,Be]
  omega
theorem Vt (bs:List (List Int)):bs.length≤bw bs:=by unfold bw;omega
theorem A2r {m:List (List Int)} {b:List Int}:b.length≤bw (m++[b]):=by
 simp only [bw,List.map_append,List.sum_append,List.map_cons,List.map_nil,List.sum_cons,List.sum_nil]
 omega
theorem SN:∀ {X:Hx} {p:Nat},(holes p X).length≤X.length
 | [],_=>Nat.le_refl _
 | none :: X,p=>by have:=SN (X:=X) (p:=p+1);simp only [holes,AD];omega
 | some _ :: X,p=>by have:=SN (X:=X) (p:=p+1);simp only [holes,AD];omega
structure BdX (cx:GCx) (lo:List ByteArray) (c:Nat) (bs:List (List Int)) (n:Nat):Prop where
 cs:cx.cs.length≤400000
 gl:cx.gl.length≤400000
 src:cx.src.size≤400000
 lo:lo.length+4 * n≤400000
 c:c+5 * n≤450000
 bs:bw bs+5 * n≤2000000
theorem BdX.b {cx:GCx} {lo:List ByteArray} {c:Nat} {bs:List (List Int)} {n:Nat} (h:BdX cx lo c bs n):KW cx lo:=⟨h.cs,h.gl,by have:=h.lo;omega⟩
theorem BdX.to {cx:GCx} {lo lo':Ag} {c c':Nat} {bs bs':TyL} {n n':Nat} (h:BdX cx lo c bs n) (h1:lo'.length+4 * n'≤lo.length+4 * n) (h2:c'+5 * n'≤c+5 * n) (h3:bw bs'+5 * n'≤bw bs+5 * n):BdX cx lo' c' bs' n' :=
 ⟨h.cs,h.gl,h.src,by have:=h.lo;omega,by have:=h.c;omega,by have:=h.bs;omega⟩
abbrev N2:=Option (Cd×List ByteArray×List (List Int)×Int×List (Option Dh))
def ST (R:GS) (cx:GCx) (d:Nat):Prop:=∀ (lo:Ag) (c:Cd) (bs:TyL) (nx:Int) (us:List (Option Dh)) (t:Tree),IsS t→gw t→sz t≤d→BdX cx lo (c.length - 1) bs (sz t)→(bs≠[]∨holes c.length (Ch cx d lo c.length t).1=[]) →
 R.Dx cx.cs c cx.src cx.gl lo bs nx us t.kind t.text t.n t.at_ t.kids=some (c++Cc 0 (Ch cx d lo c.length t).1,(Ch cx d lo c.length t).2,G9 bs (holes c.length (Ch cx d lo c.length t).1),nx,us)
def BK (R:GS) (cx:GCx) (d:Nat):Prop:=∀ (lo:Ag) (c:Cd) (bs:TyL) (nx:Int) (us:List (Option Dh)) (b:Tree),EF b→gw b→sz b≤d+1→BdX cx lo c.length bs (sz b - 1)→(bs≠[]∨holes c.length (Dd cx d lo c.length b)=[]) →
 R.D2 cx.cs c cx.src cx.gl lo bs nx us b.kind b.text b.n b.at_ b.kids=some (c++Cc 0 (Dd cx d lo c.length b),lo,G9 bs (holes c.length (Dd cx d lo c.length b)),nx,us)
section
variable {cx:GCx} {d k:Nat}
theorem Aw5:∀ (d:Nat) (lo:List ByteArray) (p:Nat) (t:Tree),IsS t→lo <+: (Ch cx d lo p t).2∧(Ch cx d lo p t).2.length≤lo.length+sz t
 | 0,lo,p,t,_=>⟨List.prefix_refl _,Nat.le_add_right _ _⟩
 | d+1,lo,p,t,h=>by
  have same:∀ l:List ByteArray,lo=l→lo <+: l∧l.length≤lo.length+sz t:=fun l h=>by subst h;exact ⟨List.prefix_refl _,Nat.le_add_right _ _⟩
  cases h with
  | loc hl hm =>
   rename_i a t l m
   rw [Uv]
   have h2:=DR l
   refine ⟨⟨_,rfl⟩,?_⟩
   simp only [AM,List.length_map,sz,D9]
   omega
  | asg=>rw [Uq];exact same _ rfl
  | run=>rw [Ux];exact same _ rfl
  | if_=>rw [R4];exact same _ rfl
  | while_=>rw [Uy];exact same _ rfl
  | for_=>rw [Us];exact same _ rfl
  | forIn=>rw [Ut];exact same _ rfl
  | do_=>rw [R3];exact same _ rfl
  | break_=>rw [Ur];exact same _ rfl
  | ret=>rw [Uw];exact same _ rfl
theorem Aa4 {bs:List (List Int)} {h1 h2:List Int} (h:bs≠[]∨h1++h2=[]):(bs≠[]∨h1=[])∧(G9 bs h1≠[]∨h2=[]):=by
 rcases h with h | h
 ·exact ⟨.inl h,.inl (A2n h)⟩
 ·have:=List.append_eq_nil_iff.1 h
  exact ⟨.inr this.1,.inr this.2⟩
theorem Ajj {R:GS} (hS:ST R cx d) (J:Cd→Ag→TyL→Int→List (Option Dh)→N2) (nx:Int) (us:List (Option Dh)):∀ (t pre:List Tree) (lo:Ag) (c:Cd) (bs:TyL) (m:Nat),500000+t.length≤m→pre.length+t.length≤400000→(∀ x ∈ t,IsS x)→E5 t→At t≤d→BdX cx lo c.length bs (At t) →
  (bs≠[]∨holes c.length (H7 cx (Ch cx d) lo c.length t)=[]) →
  ∃ lo',lo <+: lo'∧D2.l0 m R cx.cs cx.src cx.gl (pre++t) J (pre.length:Int) c lo bs nx us=J (c++Cc 0 (H7 cx (Ch cx d) lo c.length t)) lo' (G9 bs (holes c.length (H7 cx (Ch cx d) lo c.length t))) nx us
 | [],pre,lo,c,bs,m,hm,hl,hS',hg,hd,hB,hn=>by
  obtain ⟨m,rfl⟩:∃ m',m=m'+1:=⟨m - 1,by omega⟩
  refine ⟨lo,List.prefix_refl _,?_⟩
  simp only [D2.l0]
  rw [ltF (by simp),cond_false]
  simp only [H7,holes,Vq]
  simp [Cc]
 | x :: t,pre,lo,c,bs,m,hm,hl,hI,hg,hd,hB,hn=>by
  obtain ⟨m,rfl⟩:∃ m',m=m'+1:=⟨m - 1,by omega⟩
  simp only [AD] at hl hm
  simp only [At] at hd hB
  have hx:=hI x (Cy ..)
  obtain ⟨y,z,hp⟩:=Au1 m cx.src x.at_ hB.src (by omega)
  have hc:=hB.c
  have e1:∀ i:Ins,(c++[i]).length=c.length+1:=fun i=>by simp
  have hX:=Uu (cx:=cx) d lo (c.length+1) x hx
  obtain ⟨hlo,hlo2⟩:=Aw5 (cx:=cx) d lo (c.length+1) x hx
  have hlen:(c++[i1 1 (GC cx.src x.at_)]++Cc 0 (Ch cx d lo (c.length+1) x).1).length=c.length+1+(Ch cx d lo (c.length+1) x).1.length:=by rw [AM,e1,FZ]
  simp only [H7] at hn ⊢
  rw [show holes c.length (some (i1 1 (GC cx.src x.at_)) :: ((Ch cx d lo (c.length+1) x).1++H7 cx (Ch cx d) (Ch cx d lo (c.length+1) x).2 (c.length+1+(Ch cx d lo (c.length+1) x).1.length) t))=holes (c.length+1) (Ch cx d lo (c.length+1) x).1++holes (c.length+1+(Ch cx d lo (c.length+1) x).1.length) (H7 cx (Ch cx d) (Ch cx d lo (c.length+1) x).2 (c.length+1+(Ch cx d lo (c.length+1) x).1.length) t) from Iv] at hn ⊢
  obtain ⟨hn1,hn2⟩:=Aa4 hn
  have hst:=hS lo (c++[i1 1 (GC cx.src x.at_)]) bs nx us x hx hg.1 (by omega) (hB.to (by omega) (by rw [e1];omega) (by omega)) (by rw [e1];exact hn1)
  rw [e1] at hst
  simp only [D2.l0]
  rw [GY (by simp;omega),cond_true,DT,Aj,hp,Aj,add1 _ _ _ _ (by unfold mx;omega),Aj]
  have hh:=SN (X:=(Ch cx d lo (c.length+1) x).1) (p:=c.length+1)
  have hbw:=Aju (bs:=bs) (h:=holes (c.length+1) (Ch cx d lo (c.length+1) x).1)
  obtain ⟨lo',h1,h2⟩:=Ajj hS J nx us t (pre++[x]) (Ch cx d lo (c.length+1) x).2 (c++[i1 1 (GC cx.src x.at_)]++Cc 0 (Ch cx d lo (c.length+1) x).1) (G9 bs (holes (c.length+1) (Ch cx d lo (c.length+1) x).1)) m (by omega) (by simp;omega) (fun y hy=>hI y (CV _ hy)) hg.2 (by omega) (hB.to (by omega) (by rw [hlen];omega) (by omega)) (by rw [hlen];exact hn2)
  refine ⟨lo',hlo.trans h1,?_⟩
  rw [show (pre++[x])++t=pre++x :: t by simp,show ((pre++[x]).length:Int)=(pre.length:Int)+1 by simp,hlen,XW] at h2
  refine (congrArg (fun z=>Option.bind z _) hst).trans ?_
  rw [Aj,wiC _ (by omega) (by omega)]
  refine h2.trans ?_
  rw [show Cc 0 (some (i1 1 (GC cx.src x.at_)) :: ((Ch cx d lo (c.length+1) x).1++H7 cx (Ch cx d) (Ch cx d lo (c.length+1) x).2 (c.length+1+(Ch cx d lo (c.length+1) x).1.length) t))=i1 1 (GC cx.src x.at_) :: (Cc 0 (Ch cx d lo (c.length+1) x).1++Cc 0 (H7 cx (Ch cx d) (Ch cx d lo (c.length+1) x).2 (c.length+1+(Ch cx d lo (c.length+1) x).1.length) t)) from congrArg (i1 1 (GC cx.src x.at_) :: ·) NC]
  simp only [Cj,List.cons_append,List.nil_append]
theorem Ajk (hk:500020+4 * d≤k) (hS:ST (GS.at k) cx d):BK (GS.at (k+1)) cx d:=fun lo c bs nx us b hb hg hd hB hn=>by
 show D2.g (GS.at k) k cx.cs c cx.src cx.gl lo bs nx us b.kind b.text b.n b.at_ b.kids=_
 obtain ⟨h1,h2,h3⟩:=ZB hb
 have hs:=DR b.kids
 have hlo:=hB.lo
 unfold D2.g
 dsimp only [BA]
 obtain ⟨lo',e1,e2⟩:=Ajj hS (fun (l2:Cd) (l7:Ag) (l12:TyL) (x17:Int) (l18:List (Option Dh))=>(D8 l7 (0:Int) ((lo.length:Nat):Int)).bind fun l24=>some (l2,l24,l12,x17,l18)) nx us b.kids [] lo c bs k (by omega) (by simp only [Be];omega) h1 (by cases b;exact hg.2) (by omega) (hB.to (by omega) (by omega) (by omega)) hn
 refine (show _=_ from e2).trans ?_
 rw [U1 e1,Aj,U3 e1]
theorem Bop (J:Cd→N2) (X:Hx) (A T:Cd) (m e:Nat) (h1:X.length≤1000000) (h2:X.length < m) (he:e=A.length+X.length+T.length):FL.l0 m (holes A.length X) J 0 (A++Cc 0 X++T)=J (A++Cc (e:Int) X++T) :=
 Rv (fun m hs x c=>FL.l0 m hs J x c) J (fun _ _ _ _=>rfl) e T X [] A m (by simp only [Be];omega) h2 he
theorem Boq (J:Cd→N2) (X:Hx) (A T:Cd) (m e:Nat) (h1:X.length≤1000000) (h2:X.length < m) (he:e=A.length+X.length+T.length):FM.l0 m (holes A.length X) J 0 (A++Cc 0 X++T)=J (A++Cc (e:Int) X++T) :=
 Rv (fun m hs x c=>FM.l0 m hs J x c) J (fun _ _ _ _=>rfl) e T X [] A m (by simp only [Be];omega) h2 he
theorem Boo (J:Cd→N2) (X:Hx) (A T:Cd) (m e:Nat) (h1:X.length≤1000000) (h2:X.length < m) (he:e=A.length+X.length+T.length):F4.l0 m (holes A.length X) J 0 (A++Cc 0 X++T)=J (A++Cc (e:Int) X++T) :=
 Rv (fun m hs x c=>F4.l0 m hs J x c) J (fun _ _ _ _=>rfl) e T X [] A m (by simp only [Be];omega) h2 he
theorem Auy (lo:Ag) (bs:TyL) (nx:Int) (us:List (Option Dh)) (X:Hx) (A T:Cd) (m e:Nat) (h1:X.length≤1000000) (h2:X.length < m) (he:e=A.length+X.length+T.length):DN.l0 m (holes A.length X) lo bs nx us 0 (A++Cc 0 X++T)=some (A++Cc (e:Int) X++T,lo,bs,nx,us) :=
 Rv (fun m hs x c=>DN.l0 m hs lo bs nx us x c) (fun c=>some (c,lo,bs,nx,us)) (fun _ _ _ _=>rfl) e T X [] A m (by simp only [Be];omega) h2 he
theorem N5 {b:Tree} (hb:EF b) (lo:List ByteArray) (p:Nat):(Dd cx d lo p b).length+5≤5 * sz b:=by
 obtain ⟨h1,h2,_⟩:=ZB hb
 have:=XN (cx:=cx) (f:=Ch cx d) (l:=b.kids) (lo:=lo) (p:=p) fun lo p x hx=>Uu d lo p x (h1 x hx)
 show (H7 cx (Ch cx d) lo p b.kids).length+5≤_
 omega
theorem lastB (bs:List (List Int)) (h:List Int) (hb:bs.length≤2000000):IntKind.i64.wrap ((((bs++[h]).length:Nat):Int) - 1)=(bs.length:Int):=by
 rw [AM,AD,Be,wiC _ (by omega) (by omega)]
 omega
def LP (F:Cd→Ag→TyL→Int→List (Option Dh)→Tree→N2) (cx:GCx) (d:Nat) (back:Ins):Prop:=∀ (lo:Ag) (c:Cd) (bs:TyL) (nx:Int) (us:List (Option Dh)) (b:Tree),EF b→gw b→sz b≤d+1→BdX cx lo (c.length+2) (bs++[[]]) (sz b - 1) →
 F c lo bs nx us b=some (c++IR (Dd cx d lo c.length b) back c.length,lo,bs,nx,us)
theorem Bj5 (hk:500020+4 * d≤k) (hK:BK (GS.at k) cx d) (top:Int):LP (fun c lo bs nx us b=>(GS.at (k+1)).FL cx.cs c cx.src cx.gl lo bs nx us b.kind b.text b.n b.at_ b.kids top) cx d (i1 18 top):=fun lo c bs nx us b hb hg hd hB=>by
 show FL.g (GS.at k) k cx.cs c cx.src cx.gl lo bs nx us b.kind b.text b.n b.at_ b.kids top=_
 have hX:=N5 (cx:=cx) (d:=d) hb lo c.length
 have h1:=hB.bs;have h2:=hB.c
 have h3:=Vt (bs++[[]])
 rw [AM,AD,Be] at h3
 unfold FL.g
 rw [Js (by simp only [AD,Be];omega),Aj,hK lo c (bs++[[]]) nx us b hb hg hd (hB.to (by omega) (by omega) (by omega)) (.inl (by simp)),Aj]
 unfold Qf.f
 rw [add1 _ _ _ _ (by rw [AM,FZ];unfold mx;omega),Aj,Aj]
 dsimp only [BA]
 rw [LS,lastB bs _ (by omega),DT,Aj,List.nil_append]
 refine (Bop _ _ c [i1 18 top] k (c.length+(Dd cx d lo c.length b).length+1) (by omega) (by omega) (by simp)).trans ?_
 rw [Gx 0 bs.length (show (0:Int)=((0:Nat):Int) from rfl) rfl (by omega) (by simp),Aj]
 unfold IR
 simp
theorem Bj9 (hk:500020+4 * d≤k) (hK:BK (GS.at k) cx d) (s pr:Int) (hpr:0≤pr∧pr≤1000000):LP (fun c lo bs nx us b=>(GS.at (k+1)).FM cx.cs c cx.src cx.gl lo bs nx us b.kind b.text b.n b.at_ b.kids s pr) cx d (i2 31 s (pr+1)):=fun lo c bs nx us b hb hg hd hB=>by
 show FM.g (GS.at k) k cx.cs c cx.src cx.gl lo bs nx us b.kind b.text b.n b.at_ b.kids s pr=_
 have hX:=N5 (cx:=cx) (d:=d) hb lo c.length
 have h1:=hB.bs;have h2:=hB.c
 have h3:=Vt (bs++[[]])
 rw [AM,AD,Be] at h3
 unfold FM.g
 rw [Js (by simp only [AD,Be];omega),Aj,hK lo c (bs++[[]]) nx us b hb hg hd (hB.to (by omega) (by omega) (by omega)) (.inl (by simp)),Aj]
 unfold Qg.f
 rw [wiC (pr+1) (by omega) (by omega),XD _ _ _ _ _ (by rw [AM,FZ];unfold mx;omega),Aj,Aj]
 dsimp only [BA]
 rw [LS,lastB bs _ (by omega),DT,Aj,List.nil_append]
 refine (Boq _ _ c [i2 31 s (pr+1)] k (c.length+(Dd cx d lo c.length b).length+1) (by omega) (by omega) (by simp)).trans ?_
 rw [Gx 0 bs.length (show (0:Int)=((0:Nat):Int) from rfl) rfl (by omega) (by simp),Aj]
 unfold IR
 simp
theorem Bj4 (hk:500020+4 * d≤k) (hK:BK (GS.at k) cx d) (top:Int):LP (fun c lo bs nx us b=>(GS.at (k+1)).F4 cx.cs c cx.src cx.gl lo bs nx us b.kind b.text b.n b.at_ b.kids top) cx d (i1 18 top):=fun lo c bs nx us b hb hg hd hB=>by
 show F4.g (GS.at k) k cx.cs c cx.src cx.gl lo bs nx us b.kind b.text b.n b.at_ b.kids top=_
 have hX:=N5 (cx:=cx) (d:=d) hb lo c.length
 have h1:=hB.bs;have h2:=hB.c
 have h3:=Vt (bs++[[]])
 rw [AM,AD,Be] at h3
 unfold F4.g
 rw [Js (by simp only [AD,Be];omega),Aj,hK lo c (bs++[[]]) nx us b hb hg hd (hB.to (by omega) (by omega) (by omega)) (.inl (by simp)),Aj]
 unfold Qe.f
 rw [add1 _ _ _ _ (by rw [AM,FZ];unfold mx;omega),Aj,Aj]
 dsimp only [BA]
 rw [LS,lastB bs _ (by omega),DT,Aj,List.nil_append]
 refine (Boo _ _ c [i1 18 top] k (c.length+(Dd cx d lo c.length b).length+1) (by omega) (by omega) (by simp)).trans ?_
 rw [Gx 0 bs.length (show (0:Int)=((0:Nat):Int) from rfl) rfl (by omega) (by simp),Aj]
 unfold IR
 simp
end
abbrev HHx:=List (Option (Option Ins))
def v1 (X:HHx):Hx:=X.map fun o=>o.map fun i=>i.getD (18,0,0,0)
def v2 (e:Int) (X:HHx):Hx:=X.map fun o=>o.getD (some (i1 18 e))
theorem V1 {e:Int}:∀ {X:HHx},Cc e (v1 X)=Cc 0 (v2 e X)
 | []=>rfl
 | none :: X=>congrArg ((18,e,0,0) :: ·) (V1 (X:=X))
 | some none :: X=>congrArg ((18,0,0,0) :: ·) (V1 (X:=X))
 | some (some i) :: X=>congrArg (i :: ·) (V1 (X:=X))
theorem Q4 {e:Int}:∀ {X:HHx} {p:Nat},holes p (v2 e X)=holes p (v2 0 X)
 | [],_=>rfl
 | none :: X,p=>Q4 (X:=X) (p:=p+1)
 | some none :: X,p=>congrArg ((p:Int) :: ·) (Q4 (X:=X) (p:=p+1))
 | some (some i) :: X,p=>Q4 (X:=X) (p:=p+1)
theorem Afm {X Y:HHx}:v1 (X++Y)=v1 X++v1 Y:=List.map_append ..
theorem R7 {e:Int} {X Y:HHx}:v2 e (X++Y)=v2 e X++v2 e Y:=List.map_append ..
theorem Afn:∀ {B:Hx},v1 (B.map some)=CO (Cc 0 B)
 | []=>rfl
 | o :: B=>congrArg (some (o.getD (18,0,0,0)) :: ·) (Afn (B:=B))
theorem R8 {e:Int}:∀ {B:Hx},v2 e (B.map some)=B
 | []=>rfl
 | o :: B=>congrArg (o :: ·) (R8 (B:=B))
theorem Ax2:∀ {E:Cd},v1 (E.map fun i=>some (some i))=CO E
 | []=>rfl
 | i :: E=>congrArg (some i :: ·) (Ax2 (E:=E))
theorem Afo {e:Int}:∀ {E:Cd},v2 e (E.map fun i=>some (some i))=CO E
 | []=>rfl
 | i :: E=>congrArg (some i :: ·) (Afo (E:=E))
section
variable {cx:GCx} {d k:Nat}
def BR (R:GS) (cx:GCx) (d:Nat):Prop:=∀ (lo:Ag) (c:Cd) (bs:TyL) (nx:Int) (us:List (Option Dh)) (l:List Tree),IsR l→E5 l→At l≤d→BdX cx lo c.length bs (At l)→(bs≠[]∨holes c.length (ifH (AW cx lo d 1) (Dd cx d lo) c.length l)=[]) →
 R.DN cx.cs c cx.src cx.gl lo bs nx us l=some (c++Cc 0 (ifH (AW cx lo d 1) (Dd cx d lo) c.length l),lo,G9 bs (holes c.length (ifH (AW cx lo d 1) (Dd cx d lo) c.length l)),nx,us)
theorem XR {R:GS} (hK:BK R cx d) (lo:List ByteArray) (nx:Int) (us:List (Option Dh)) (k:Nat) (hk:500020+4 * d≤k)
  (J:List Tree→List Int→Cd→List ByteArray→List (List Int)→Int→List (Option Dh)→N2)
  (hJ0:∀ ends c bs,J [] ends c lo bs nx us=DN.l0 k ends lo bs nx us 0 c)
  (hJ1:∀ b ends c bs,J [b] ends c lo bs nx us=(R.D2 cx.cs c cx.src cx.gl lo bs nx us b.kind b.text b.n b.at_ b.kids).bind fun Fp=>DN.l0 k ends Fp.2.1 Fp.2.2.1 Fp.2.2.2.1 Fp.2.2.2.2 0 Fp.1) :
  ∀ (l:List Tree),IsR l→∀ (A:Cd) (Y:Hx) (bs:List (List Int)) (m:Nat),500020+4 * d+l.length≤m→E5 l→At l≤d→BdX cx lo (A.length+Y.length) bs (At l)→Y.length≤450000 →
   (bs≠[]∨holes (A.length+Y.length) (v2 0 (brX (AW cx lo d 1) (Dd cx d lo) (A.length+Y.length) l))=[]) →
   DN.l1 m R cx.cs cx.src cx.gl J l (holes A.length Y) (A++Cc 0 Y) lo bs nx us =
    some (A++Cc ((A.length+Y.length+(brX (AW cx lo d 1) (Dd cx d lo) (A.length+Y.length) l).length:Nat):Int) (Y++v1 (brX (AW cx lo d 1) (Dd cx d lo) (A.length+Y.length) l)),lo,G9 bs (holes (A.length+Y.length) (v2 0 (brX (AW cx lo d 1) (Dd cx d lo) (A.length+Y.length) l))),nx,us)
 | [],_,A,Y,bs,m,hm,hg,hd,hB,hY,hn=>by
  obtain ⟨m,rfl⟩:∃ m',m=m'+1:=⟨m - 1,by omega⟩
  simp only [DN.l1]
  rw [show decide ((([]:List Tree).length:Int) > 1)=false from rfl,cond_false,hJ0]
  have:=Auy lo bs nx us Y A [] k (A.length+Y.length) (by omega) (by omega) (by simp)
  rw [List.append_nil,List.append_nil] at this
  refine this.trans ?_
  simp only [brX,v1,v2,List.map_nil,holes,Vq,List.append_nil,Be,Nat.add_zero]
 | [b],hr,A,Y,bs,m,hm,hg,hd,hB,hY,hn=>by
  obtain ⟨m,rfl⟩:∃ m',m=m'+1:=⟨m - 1,by omega⟩
  have hb:EF b:=by cases hr with | last h=>exact h
  simp only [At] at hd hB
  have hl:(A++Cc 0 Y).length=A.length+Y.length:=by rw [AM,FZ]
  have eX:brX (AW cx lo d 1) (Dd cx d lo) (A.length+Y.length) [b]=(Dd cx d lo (A.length+Y.length) b).map some:=rfl
  rw [eX,R8] at hn
  rw [eX,R8,Afn]
  simp only [DN.l1]
  rw [show decide ((([b]:List Tree).length:Int) > 1)=false from rfl,cond_false,hJ1,hK lo _ bs nx us b hb hg.1 (by omega) (hB.to (by omega) (by rw [hl];omega) (by omega)) (by rw [hl];exact hn),Aj,hl]
  have:=Auy lo (G9 bs (holes (A.length+Y.length) (Dd cx d lo (A.length+Y.length) b))) nx us Y A (Cc 0 (Dd cx d lo (A.length+Y.length) b)) k (A.length+Y.length+(Dd cx d lo (A.length+Y.length) b).length) (by omega) (by omega) (by rw [FZ])
  refine this.trans ?_
  rw [NC,O7,List.length_map,Cj]
 | x :: y :: l,hr,A,Y,bs,m,hm,hg,hd,hB,hY,hn=>by
  obtain ⟨m,rfl⟩:∃ m',m=m'+1:=⟨m - 1,by omega⟩
  obtain ⟨hx,hy,hl⟩:IsE x∧EF y∧IsR l:=by cases hr with | more h1 h2 h3=>exact ⟨h1,h2,h3⟩
  obtain ⟨gx,gy,gl⟩:=hg
  simp only [At] at hd hB
  simp only [AD] at hm
  have hc:=hB.c
  have hxp:=ED x
  have hlC:(A++Cc 0 Y).length=A.length+Y.length:=by rw [AM,FZ]
  generalize hC:A++Cc 0 Y=C at hlC ⊢
  generalize hp:A.length+Y.length=p at hB hn hlC hc ⊢
  generalize hE:AW cx lo d 1 p x=E
  have hEl:E.length≤4 * sz x:=by rw [← hE];exact F2 d 1 p x hx
  generalize hBk:Dd cx d lo (p+E.length+1) y=B
  have hBl:B.length+5≤5 * sz y:=by rw [← hBk];exact N5 hy lo _
  have hBh:=SN (X:=B) (p:=p+E.length+1)
  have hbw:=Aju (bs:=bs) (h:=holes (p+E.length+1) B)
  have hlE:(C++E++[i0 19]).length=p+E.length+1:=by rw [JC,hlC]
  have hexp:Dl.f m cx.cs C cx.gl lo x.kind x.text x.n x.at_ x.kids=some (C++E):=by
   have:=Ako (d:=d) hB.b (by omega:500010+4 * d≤m) (c:=C) hx gx (by omega) (by rw [hlC];unfold mx;omega)
   rw [hlC,hE] at this
   exact this
  -- what the pair lays, and the rest
  have key:∀ (mo:Nat) (ho:HHx),mo=(if l.isEmpty then 0 else 1)→ho=(if l.isEmpty then [] else [none]) →
    brX (AW cx lo d 1) (Dd cx d lo) p (x :: y :: l)=E.map (fun i=>some (some i))++some (some (i1 19 ((p+E.length+1+B.length+mo:Nat):Int))) :: (B.map some++ho++brX (AW cx lo d 1) (Dd cx d lo) (p+E.length+1+B.length+mo) l):=fun mo ho h1 h2=>by
   subst h1 h2 hE hBk;rfl
  simp only [DN.l1]
  rw [decide_eq_true (by simp only [AD];omega),cond_true,ix0,Aj,hexp,Aj,add0 _ _ _ (by rw [AM,hlC];unfold mx;omega),Aj,Te,Aj]
  have Anh:∀ (mo:Nat) (ho:HHx),mo=(if l.isEmpty then 0 else 1)→ho=(if l.isEmpty then [] else [none])→holes p (v2 0 (brX (AW cx lo d 1) (Dd cx d lo) p (x :: y :: l)))=holes (p+E.length+1) B++holes (p+E.length+1+B.length+mo) (v2 0 (brX (AW cx lo d 1) (Dd cx d lo) (p+E.length+1+B.length+mo) l)):=fun mo ho h1 h2=>by
   rw [key mo ho h1 h2,R7,Afo,Iv,Ja,List.nil_append,Gj]
   show holes (p+E.length+1) (v2 0 (B.map some++ho++_))=_
   rw [R7,R7,R8,Cj,Iv]
   congr 1
   rw [Iv]
   cases l with
   | nil=>subst h1 h2;rfl
   | cons u v=>subst h1 h2;rfl
  have An2:∀ (mo:Nat) (ho:HHx),mo=(if l.isEmpty then 0 else 1)→ho=(if l.isEmpty then [] else [none])→p+(brX (AW cx lo d 1) (Dd cx d lo) p (x :: y :: l)).length=p+E.length+1+B.length+mo+(brX (AW cx lo d 1) (Dd cx d lo) (p+E.length+1+B.length+mo) l).length:=fun mo ho h1 h2=>by
   have hm:ho.length=mo:=by subst h1 h2;cases l <;> rfl
   rw [key mo ho h1 h2]
   simp only [AM,List.length_map,AD]
   omega
  have hv:∀ (mo:Nat) (ho:HHx),mo=(if l.isEmpty then 0 else 1)→ho=(if l.isEmpty then [] else [none])→v1 (brX (AW cx lo d 1) (Dd cx d lo) p (x :: y :: l))=CO E++some (i1 19 ((p+E.length+1+B.length+mo:Nat):Int)) :: (CO (Cc 0 B)++v1 ho++v1 (brX (AW cx lo d 1) (Dd cx d lo) (p+E.length+1+B.length+mo) l)):=fun mo ho h1 h2=>by
   rw [key mo ho h1 h2,Afm,Ax2]
   show CO E++some (i1 19 ((p+E.length+1+B.length+mo:Nat):Int)) :: v1 (B.map some++ho++_)=_
   rw [Afm,Afm,Afn]
  have hblk:∀ h2:(bs≠[]∨holes (p+E.length+1) B=[]),R.D2 cx.cs (C++E++[i0 19]) cx.src cx.gl lo bs nx us y.kind y.text y.n y.at_ y.kids=some (C++E++[i0 19]++Cc 0 B,lo,G9 bs (holes (p+E.length+1) B),nx,us):=fun h2=>by
   have:=hK lo (C++E++[i0 19]) bs nx us y hy gy (by omega) (hB.to (by omega) (by rw [hlE];omega) (by omega)) (by rw [hlE,hBk];exact h2)
   rw [hlE,hBk] at this
   exact this
  have hsub:D8 (x :: y :: l) (2:Int) (((x :: y :: l).length:Nat):Int)=some l:=by
   rw [Gx 2 (l.length+2) (show (2:Int)=((2:Nat):Int) from rfl) (by simp only [AD]) (by omega) (by simp)]
   simp
  cases l with
  | nil =>
   have hh:=Anh 0 [] rfl rfl
   rw [hh] at hn
   obtain ⟨hn1,hn2⟩:=Aa4 hn
   rw [hblk hn1,Aj,hsub,Aj]
   dsimp only [BA]
   rw [show decide ((([]:List Tree).length:Int) > 0)=false from rfl,cond_false]
   unfold EK.f
   rw [Aj,Cj (C++E),show ∀ Z:Cd,C++E++([i0 19]++Z)=(C++E)++i0 19 :: Z from fun _=>rfl,DT,Aj,JL,Aj]
   have eY:∀ q:Int,(C++E)++i1 19 q :: Cc 0 B=A++Cc 0 (Y++CO E++some (i1 19 q) :: CO (Cc 0 B)):=fun q=>by
    rw [NC,NC,O7,show Cc 0 (some (i1 19 q) :: CO (Cc 0 B))=i1 19 q :: Cc 0 (CO (Cc 0 B)) from rfl,O7,← hC]
    simp only [Cj]
   have eQ:(((C++E++i0 19 :: Cc 0 B).length:Nat):Int)=((p+E.length+1+B.length+0:Nat):Int):=by
    simp only [AM,AD,FZ,hlC];omega
   have eH:holes A.length Y=holes A.length (Y++CO E++some (i1 19 ((p+E.length+1+B.length+0:Nat):Int)) :: CO (Cc 0 B)):=by
    rw [Iv,Iv,Ja,List.append_nil]
    show _=_++holes _ (CO _)
    rw [Ja,List.append_nil]
   have eL:A.length+(Y++CO E++some (i1 19 ((p+E.length+1+B.length+0:Nat):Int)) :: CO (Cc 0 B)).length=p+E.length+1+B.length+0:=by
    simp only [AM,AD,Gj,FZ];omega
   have ih:=XR hK lo nx us k hk J hJ0 hJ1 [] hl A (Y++CO E++some (i1 19 ((p+E.length+1+B.length+0:Nat):Int)) :: CO (Cc 0 B)) (G9 bs (holes (p+E.length+1) B)) m (by omega) gl (by omega) (hB.to (by omega) (by rw [eL];simp only [At];omega) (by simp only [At];omega)) (by simp only [AM,AD,Gj,FZ];omega) (by rw [eL];exact hn2)
   rw [eL,← eY,← eH,XW,← hh] at ih
   rw [eQ]
   refine (show _=_ from ih).trans ?_
   rw [hv 0 [] rfl rfl,An2 0 [] rfl rfl]
   simp only [Cj,List.cons_append,show v1 []=[] from rfl,List.nil_append]
  | cons u v =>
   have hh:=Anh 1 [none] rfl rfl
   rw [hh] at hn
   obtain ⟨hn1,hn2⟩:=Aa4 hn
   rw [hblk hn1,Aj,hsub,Aj]
   dsimp only [BA]
   have hYh:=SN (X:=Y) (p:=A.length)
   have lB:(C++E++[i0 19]++Cc 0 B).length=p+E.length+1+B.length:=by rw [AM,hlE,FZ]
   rw [decide_eq_true (by simp only [AD];omega),cond_true,add0 _ _ _ (by rw [lB];unfold mx;omega),Aj,lB,Js (by simp only [AD,Be];omega),Aj]
   unfold EK.f
   rw [Aj,show ∀ Z:Cd,C++E++[i0 19]++Z++[i0 18]=(C++E)++i0 19 :: (Z++[i0 18]) from fun Z=>by simp,DT,Aj,JL,Aj]
   have eY:∀ q:Int,(C++E)++i1 19 q :: (Cc 0 B++[i0 18])=A++Cc 0 (Y++CO E++some (i1 19 q) :: (CO (Cc 0 B)++[none])):=fun q=>by
    rw [NC,NC,O7,show Cc 0 (some (i1 19 q) :: (CO (Cc 0 B)++[none]))=i1 19 q :: Cc 0 (CO (Cc 0 B)++[none]) from rfl,NC,O7,← hC]
    simp only [Cj]
    rfl
   have eQ:(((C++E++i0 19 :: (Cc 0 B++[i0 18])).length:Nat):Int)=((p+E.length+1+B.length+1:Nat):Int):=by
    simp only [AM,AD,Be,FZ,hlC];omega
   have eH:holes A.length Y++[((p+E.length+1+B.length:Nat):Int)]=holes A.length (Y++CO E++some (i1 19 ((p+E.length+1+B.length+1:Nat):Int)) :: (CO (Cc 0 B)++[none])):=by
    rw [Iv,Iv,Ja,List.append_nil]
    show _=_++holes _ (CO _++[none])
    rw [Iv,Ja,List.nil_append]
    show _=_++[_]
    congr 3
    simp only [AM,Gj,FZ];omega
   have eL:A.length+(Y++CO E++some (i1 19 ((p+E.length+1+B.length+1:Nat):Int)) :: (CO (Cc 0 B)++[none])).length=p+E.length+1+B.length+1:=by
    simp only [AM,AD,Be,Gj,FZ];omega
   have ih:=XR hK lo nx us k hk J hJ0 hJ1 (u :: v) hl A (Y++CO E++some (i1 19 ((p+E.length+1+B.length+1:Nat):Int)) :: (CO (Cc 0 B)++[none])) (G9 bs (holes (p+E.length+1) B)) m (by omega) gl (by omega) (hB.to (by omega) (by rw [eL];omega) (by omega)) (by simp only [AM,AD,Be,Gj,FZ];omega) (by rw [eL];exact hn2)
   rw [eL,← eY,← eH,XW,← hh] at ih
   rw [eQ]
   refine (show _=_ from ih).trans ?_
   rw [hv 1 [none] rfl rfl,An2 1 [none] rfl rfl]
   simp only [Cj,List.cons_append,show v1 [none]=[none] from rfl,List.nil_append]
theorem A2m (hk:500020+5 * d≤k) (hK:BK (GS.at k) cx d):BR (GS.at (k+1)) cx d:=fun lo c bs nx us l hr hg hd hB hn=>by
 show DN.g (GS.at k) k cx.cs c cx.src cx.gl lo bs nx us l=_
 have hs:=DR l
 have eI:ifH (AW cx lo d 1) (Dd cx d lo) c.length l=v2 ((c.length+(brX (AW cx lo d 1) (Dd cx d lo) c.length l).length:Nat):Int) (brX (AW cx lo d 1) (Dd cx d lo) c.length l):=rfl
 rw [eI,Q4] at hn
 have hh:∀ (J:List Tree→List Int→Cd→Ag→TyL→Int→List (Option Dh)→N2) (_:∀ ends c bs,J [] ends c lo bs nx us=DN.l0 k ends lo bs nx us 0 c) (_:∀ b ends c bs,J [b] ends c lo bs nx us=((GS.at k).D2 cx.cs c cx.src cx.gl lo bs nx us b.kind b.text b.n b.at_ b.kids).bind fun Fp=>DN.l0 k ends Fp.2.1 Fp.2.2.1 Fp.2.2.2.1 Fp.2.2.2.2 0 Fp.1),
   DN.l1 k (GS.at k) cx.cs cx.src cx.gl J l [] c lo bs nx us=some (c++Cc ((c.length+(brX (AW cx lo d 1) (Dd cx d lo) c.length l).length:Nat):Int) (v1 (brX (AW cx lo d 1) (Dd cx d lo) c.length l)),lo,G9 bs (holes c.length (v2 0 (brX (AW cx lo d 1) (Dd cx d lo) c.length l))),nx,us):=fun J h0 h1=>by
  have h:=XR hK lo nx us k (by omega) J h0 h1 l hr c [] bs k (by omega) hg hd hB (by simp) hn
  rw [show c++Cc 0 []=c by simp [Cc]] at h
  exact h
 unfold DN.g
 dsimp only [BA]
 refine (hh _ ?_ ?_).trans ?_
 ·intro ends c bs;rfl
 ·intro b ends c bs;rfl
 ·rw [eI,← V1,Q4 (e:=((c.length+(brX (AW cx lo d 1) (Dd cx d lo) c.length l).length:Nat):Int))]
theorem Akm (hk:500000≤k) {lo:List ByteArray} {l:List Tree} (hl:l.length≤400000) (ho:lo.length+3≤400000):LY.f k lo l=some (((lo.length+1:Nat):Int),Ib lo l):=by
 unfold LY.f
 have:Ow 16 lo (⟨#[]⟩:ByteArray) (3:Int)=some (lo++List.replicate 3 ⟨#[]⟩):=by
  unfold Ow
  rw [decide_eq_true (⟨by omega,by show (lo.length+3) * 16≤_;omega⟩),cond_true]
  rfl
 rw [this,Aj,XT k _ _ hl (by simp;omega) hk,Aj,wiC _ (by omega) (by omega)]
 rfl
theorem Asw {lo:List ByteArray} {l:List Tree} (ho:lo.length+3≤400000):MI.f k (Ib lo l) ((lo.length+1:Nat):Int)=some lo:=by
 unfold MI.f
 rw [wiC _ (by omega) (by omega),show ((lo.length+1:Nat):Int) - 1=(lo.length:Int) by omega]
 have hp:lo <+: Ib lo l:=⟨_,by unfold Ib;rw [Cj]⟩
 rw [U1 hp,Aj,U3 hp]
theorem As4 {lo:List ByteArray} {l:List Tree}:(Ib lo l).length=lo.length+3+l.length:=by simp [Ib];omega
theorem XX {bs:List (List Int)}:bw (bs++[[]])=bw bs+1:=by
 simp only [bw,AM,List.map_append,List.sum_append,List.map_cons,List.map_nil,List.sum_cons,List.sum_nil,AD,Be]
 omega
theorem A7c (hk:500020+5 * d≤k) (hL:∀ top,LP (fun c lo bs nx us b=>(GS.at k).F4 cx.cs c cx.src cx.gl lo bs nx us b.kind b.text b.n b.at_ b.kids top) cx d (i1 18 top))
  (lo:Ag) (c:Cd) (bs:TyL) (nx:Int) (us:List (Option Dh)) (t:ByteArray) (a:Int) (l m:List Tree) (b:Tree) (hm:Ey m) (hb:EF b) (gm:E5 m) (gb:gw b) (hd:At l+At m+sz b≤d) (hB:BdX cx lo (c.length - 1) bs (At l+At m+sz b+1)) (hl1:l≠[]) :
  (GS.at (k+1)).HJ cx.cs c cx.src cx.gl lo bs nx us 27 t (l.length:Nat) a (l++m++[b]) ((l++m++[b]).length - 1:Nat) =
   some (c++inG (GM (AW cx lo d) c.length m 3) (Dd cx d (Ib lo l) (c.length+(GM (AW cx lo d) c.length m 3).length+7) b) (lo.length+1) (l.length:Nat) c.length,lo,bs,nx,us):=by
 show HJ.g (GS.at k) k cx.cs c cx.src cx.gl lo bs nx us 27 t (l.length:Nat) a (l++m++[b]) ((l++m++[b]).length - 1:Nat)=_
 have hs:=DR l
 have hlo:=hB.lo;have hc:=hB.c;have hbs:=hB.bs
 have hlp:=List.length_pos_iff.2 hl1
 have hbp:=ED b
 have hv:=RI (cx:=cx) (lo:=lo) (d:=d) (p:=c.length) (n:=3) hm
 have hX:=N5 (cx:=cx) (d:=d) hb (Ib lo l) (c.length+(GM (AW cx lo d) c.length m 3).length+7)
 have hle:(l++m++[b]).length - 1=l.length+m.length:=by simp
 rw [hle]
 unfold HJ.g
 rw [Gx l.length (l.length+m.length) rfl rfl (by omega) (by simp),Aj,show ((l++m++[b]).drop l.length).take (l.length+m.length - l.length)=m by simp]
 rw [show ((3:Int))=((3:Nat):Int) from rfl,Afz (d:=d) hB.b (by omega) hm gm (by omega) (by omega) (by unfold mx;omega),Aj]
 rw [Gx 0 l.length (show (0:Int)=((0:Nat):Int) from rfl) rfl (by omega) (by simp),Aj,show ((l++m++[b]).drop 0).take (l.length - 0)=l by simp,Akm (by omega) (by omega) (by omega),Aj]
 generalize hE:GM (AW cx lo d) c.length m 3=E at hv hX ⊢
 have lE:(c++E).length=c.length+E.length:=AM
 generalize hC:c++E=C at lE ⊢
 have l1:∀ (D:Cd) (i:Ins),(D++[i]).length=D.length+1:=fun D i=>by simp
 dsimp only
 rw [add1 _ _ _ _ (by unfold mx;omega),Aj]
 dsimp only
 rw [add1 _ _ _ _ (by rw [l1];unfold mx;omega),Aj]
 dsimp only
 rw [add0 _ _ _ (by rw [l1,l1];unfold mx;omega),Aj]
 dsimp only
 rw [add1 _ _ _ _ (by rw [l1,l1,l1];unfold mx;omega),Aj]
 dsimp only
 rw [add1 _ _ _ _ (by rw [l1,l1,l1,l1];unfold mx;omega),Aj]
 dsimp only
 rw [add1 _ _ _ _ (by rw [l1,l1,l1,l1,l1];unfold mx;omega),Aj]
 dsimp only
 rw [Aip _ _ _ _ _ _ (by rw [l1,l1,l1,l1,l1,l1];unfold mx;omega),Aj]
 dsimp only
 rw [show AZ (l++m++[b]) ((l.length+m.length:Nat):Int)=some b by rw [← AM];exact DT (l++m) b [],Aj]
 rw [wiC (((lo.length+1:Nat):Int)+1) (by omega) (by omega),wiC (((lo.length+1:Nat):Int)+2) (by omega) (by omega)]
 generalize hsI:((lo.length+1:Nat):Int)=s
 generalize hnI:((l.length:Nat):Int)=n
 have hloop:=hL (((C++[i1 32 s]).length:Nat):Int) (Ib lo l) (C++[i1 32 s]++[i1 6 s]++[i0 22]++[i1 6 (s+1)]++[i1 6 (s+2)]++[i1 24 n]++[i3 33 s 0 n]) bs nx us b hb gb (by omega) (hB.to (by rw [As4];omega) (by simp only [l1];omega) (by rw [XX];omega))
 have hlen:(C++[i1 32 s]++[i1 6 s]++[i0 22]++[i1 6 (s+1)]++[i1 6 (s+2)]++[i1 24 n]++[i3 33 s 0 n]).length=c.length+E.length+7:=by simp only [l1];omega
 rw [hlen] at hloop
 refine (congrArg (fun z=>Option.bind z _) hloop).trans ?_
 rw [Aj]
 unfold EK.f
 rw [Aj,show ∀ (Q L:Cd) (z:Ins),Q++[z]++L=Q++z :: L from fun Q L z=>by simp,DT,Aj,JL,Aj,← hsI,Asw (by omega),Aj]
 unfold inG
 rw [l1,lE,← hC]
 simp only [AM,AD,Be,Ko,Cj,List.cons_append,List.nil_append,i3,hsI]
 rw [show ∀ x:Nat,c.length+(E.length+(x+1+1+1+1+1+1+1+1))=c.length+E.length+7+(x+1) from fun x=>by omega]
theorem Br1 (hk:500020+5 * d≤k) (hK:BK (GS.at k) cx d) (hR:BR (GS.at k) cx d)
  (Baf:∀ top,LP (fun c lo bs nx us b=>(GS.at k).FL cx.cs c cx.src cx.gl lo bs nx us b.kind b.text b.n b.at_ b.kids top) cx d (i1 18 top))
  (Bag:∀ s pr,0≤pr∧pr≤1000000→LP (fun c lo bs nx us b=>(GS.at k).FM cx.cs c cx.src cx.gl lo bs nx us b.kind b.text b.n b.at_ b.kids s pr) cx d (i2 31 s (pr+1)))
  (hF:∀ (lo:Ag) (c:Cd) (bs:TyL) (nx:Int) (us:List (Option Dh)) (t:ByteArray) (a:Int) (l m:List Tree) (b:Tree),Ey m→EF b→E5 m→gw b→At l+At m+sz b≤d→BdX cx lo (c.length - 1) bs (At l+At m+sz b+1)→l≠[] →
   (GS.at k).HJ cx.cs c cx.src cx.gl lo bs nx us 27 t (l.length:Nat) a (l++m++[b]) ((l++m++[b]).length - 1:Nat) =
   some (c++inG (GM (AW cx lo d) c.length m 3) (Dd cx d (Ib lo l) (c.length+(GM (AW cx lo d) c.length m 3).length+7) b) (lo.length+1) (l.length:Nat) c.length,lo,bs,nx,us)) :
  ST (GS.at (k+1)) cx (d+1):=fun lo c bs nx us t hI hg hd hB hn=>by
 have hP:∀ (G:Cd) (lo':List ByteArray) (p:Nat),some (c++G,lo',bs,nx,us)=some (c++Cc 0 (CO G),lo',G9 bs (holes p (CO G)),nx,us):=fun G lo' p=>by rw [O7,Ja,Vq]
 have hlo:=hB.lo;have hc:=hB.c;have hbs:=hB.bs
 have l1:∀ (D:Cd) (i:Ins),(D++[i]).length=D.length+1:=fun D i=>by simp
 cases hI with
 | loc hl hm =>
  rename_i a t l m
  obtain ⟨_,hg⟩:=hg
  obtain ⟨_,gm⟩:=OA.1 hg
  simp only [sz,D9] at hd hlo hc hbs
  have hs:=DR l
  have hv:=RI (cx:=cx) (lo:=lo) (d:=d) (p:=c.length) (n:=l.length) hm
  show Dx.g (GS.at k) k cx.cs c cx.src cx.gl lo bs nx us 21 t (l.length:Nat) a (l++m)=_
  unfold Dx.g
  simp only [Int.reduceBEq,cond_true,cond_false]
  rw [Gx l.length (l++m).length rfl rfl (by simp) (by simp),Aj,show ((l++m).drop l.length).take ((l++m).length - l.length)=m by simp,Afz (d:=d) hB.b (by omega) hm gm (by omega) (by omega) (by unfold mx;omega),Aj]
  rw [Gx 0 l.length (show (0:Int)=((0:Nat):Int) from rfl) rfl (by omega) (by simp),Aj,show ((l++m).drop 0).take (l.length - 0)=l by simp,XT k _ _ (by omega) (by omega) (by omega),Aj]
  rw [Awu bs nx us _ (by omega) l.length k _ (by omega) (by omega) (by rw [AM];unfold mx;omega),Uv,Cj]
  exact hP _ _ _
 | asg hl hx hm hy =>
  rename_i a t l m
  obtain ⟨_,hg⟩:=hg
  obtain ⟨gl,gm⟩:=OA.1 hg
  simp only [sz,D9] at hd hlo hc hbs
  have hs:=DR l
  show Dx.g (GS.at k) k cx.cs c cx.src cx.gl lo bs nx us 22 t (l.length:Nat) a (l++m)=_
  unfold Dx.g
  simp only [Int.reduceBEq,cond_true,cond_false]
  rw [Gx 0 l.length (show (0:Int)=((0:Nat):Int) from rfl) rfl (by omega) (by simp),Aj,show ((l++m).drop 0).take (l.length - 0)=l by simp,Gx l.length (l++m).length rfl rfl (by simp) (by simp),Aj,show ((l++m).drop l.length).take ((l++m).length - l.length)=m by simp]
  rw [A0l (d:=d) hB.b (by omega) (fun x h=>(hx x h).1) hy gl gm (by omega) (by unfold mx;omega) (by omega),Aj,Uq]
  exact hP _ _ _
 | run hx h8 =>
  rename_i n a t x
  simp only [sz,At] at hd hlo hc hbs
  show Dx.g (GS.at k) k cx.cs c cx.src cx.gl lo bs nx us 23 t n a [x]=_
  unfold Dx.g
  simp only [Int.reduceBEq,cond_true,cond_false]
  rw [ix0,Aj,A2s (d:=d) hB.b (by omega) 0 hx h8 hg.2.1 (by omega) (by unfold mx;omega),Aj,Ux]
  exact hP _ _ _
 | if_ hr =>
  rename_i n a t l
  simp only [sz] at hd hlo hc hbs
  rw [R4] at hn
  show Dx.g (GS.at k) k cx.cs c cx.src cx.gl lo bs nx us 24 t n a l=_
  unfold Dx.g
  simp only [Int.reduceBEq,cond_true,cond_false]
  rw [hR lo c bs nx us l hr hg.2 (by omega) (hB.to (by simp only [sz];omega) (by simp only [sz];omega) (by simp only [sz];omega)) hn,Aj,R4]
 | while_ hx hb =>
  rename_i n a t x b
  obtain ⟨_,gx,gb,_⟩:=hg
  simp only [sz,At] at hd hlo hc hbs
  have hxl:=F2 (cx:=cx) (lo:=lo) d 1 c.length x hx
  have hbp:=ED b
  show Dx.g (GS.at k) k cx.cs c cx.src cx.gl lo bs nx us 25 t n a [x,b]=_
  unfold Dx.g EK.f
  simp only [Int.reduceBEq,cond_true,cond_false]
  rw [Aj,ix0,Aj,Ako (d:=d) hB.b (by omega) hx gx (by omega) (by unfold mx;omega),Aj,Uy]
  generalize hE:AW cx lo d 1 c.length x=E at hxl ⊢
  rw [add0 _ _ _ (by rw [AM];unfold mx;omega),Aj,add0 _ _ _ (by rw [l1,AM];unfold mx;omega),Aj,Te,Aj]
  have hlen:(c++E++[i0 19]++[i0 34]).length=c.length+E.length+2:=by rw [l1,l1,AM]
  have hloop:=Baf (c.length:Int) lo (c++E++[i0 19]++[i0 34]) bs nx us b hb gb (by omega) (hB.to (by simp only [sz,At];omega) (by rw [hlen];simp only [sz,At];omega) (by rw [XX];simp only [sz,At];omega))
  rw [hlen] at hloop
  refine (congrArg (fun z=>Option.bind z _) hloop).trans ?_
  rw [Aj,Aj,show ∀ (Q L:Cd) (z w:Ins),Q++[z]++[w]++L=Q++z :: (w :: L) from fun Q L z w=>by simp,DT,Aj,JL,Aj]
  refine Eq.trans ?_ (hP _ _ c.length)
  unfold PO
  simp only [AM,AD,Ko,Cj]
  rw [show ∀ x:Nat,c.length+(E.length+(x+1+1+1))=c.length+E.length+2+(x+1) from fun x=>by omega]
  rfl
 | for_ hl hx hb =>
  rename_i n a t x b l
  obtain ⟨_,gx,hg⟩:=hg
  obtain ⟨gl,gb,_⟩:=OA.1 (show E5 (l++[b]) from hg)
  simp only [sz,At,D9] at hd hlo hc hbs
  have hxl:=Lm (f:=AW cx lo d 1) (l:=l) (p:=c.length) fun p y hy=>F2 d 1 p y (hx y hy)
  have hbp:=ED b
  have hxp:=ED x
  have hX:=N5 (cx:=cx) (d:=d) hb (Ib lo [x]) (c.length+(D6 (AW cx lo d 1) c.length l).length+1)
  show Dx.g (GS.at k) k cx.cs c cx.src cx.gl lo bs nx us 26 t n a (x :: l++[b])=_
  have hlen0:(x :: l++[b]).length=l.length+2:=by simp
  have eW:IntKind.i64.wrap ((((x :: l++[b]).length:Nat):Int) - 1)=((l.length+1:Nat):Int):=by rw [hlen0,wiC _ (by omega) (by omega)];omega
  unfold Dx.g EK.f
  simp only [Int.reduceBEq,cond_true,cond_false]
  rw [eW,Gx 1 (l.length+1) (show (1:Int)=((1:Nat):Int) from rfl) rfl (by omega) (by simp),Aj,show ((x :: l++[b]).drop 1).take (l.length+1 - 1)=l by simp]
  rw [Yc (d:=d) hB.b (by omega) hx gl (by omega) (by unfold mx;omega),Aj]
  dsimp only [BA]
  rw [Gx 0 1 (show (0:Int)=((0:Nat):Int) from rfl) (show (1:Int)=((1:Nat):Int) from rfl) (by omega) (by simp),Aj,show ((x :: l++[b]).drop 0).take (1 - 0)=[x] from rfl,Akm (by omega) (by simp) (by omega),Aj,Us]
  generalize hE:D6 (AW cx lo d 1) c.length l=E at hxl hX ⊢
  rw [wiC (((l.length+1:Nat):Int) - 3) (by omega) (by omega),show ((l.length+1:Nat):Int) - 3=(l.length:Int) - 2 by omega]
  rw [Aip _ _ _ _ _ _ (by rw [AM];unfold mx;omega),Aj,show AZ (x :: l++[b]) ((l.length+1:Nat):Int)=some b from DT (x :: l) b [],Aj]
  generalize hsI:((lo.length+1:Nat):Int)=s
  have hlen:(c++E++[i3 30 s 0 ((l.length:Int) - 2)]).length=c.length+E.length+1:=JC ..
  have hloop:=Bag s (((c++E).length:Nat):Int) ⟨by omega,by rw [AM];omega⟩ (Ib lo [x]) (c++E++[i3 30 s 0 ((l.length:Int) - 2)]) bs nx us b hb gb (by omega) (hB.to (by rw [As4];simp only [sz,At,D9,AD,Be];omega) (by rw [hlen];simp only [sz,At,D9];omega) (by rw [XX];simp only [sz,At,D9];omega))
  rw [hlen] at hloop
  refine (congrArg (fun z=>Option.bind z _) hloop).trans ?_
  rw [Aj,Aj,show ∀ (Q L:Cd) (z:Ins),Q++[z]++L=Q++z :: L from fun Q L z=>by simp,DT,Aj,JL,Aj,← hsI,Asw (by omega),Aj]
  refine Eq.trans ?_ (hP _ _ c.length)
  unfold S4
  simp only [AM,AD,Ko,Cj]
  rw [show ∀ x:Nat,c.length+(E.length+(x+1+1))=c.length+E.length+1+(x+1) from fun x=>by omega]
  rfl
 | forIn hl hm hx hb =>
  rename_i a t b l m
  obtain ⟨_,hg⟩:=hg
  obtain ⟨hg,gb,_⟩:=OA.1 hg
  obtain ⟨_,gm⟩:=OA.1 hg
  simp only [sz,At,D9] at hd hlo hc hbs
  show Dx.g (GS.at k) k cx.cs c cx.src cx.gl lo bs nx us 27 t (l.length:Nat) a (l++m++[b])=_
  have hs:=DR (l++m++[b])
  simp only [D9,At] at hs
  have eW:IntKind.i64.wrap ((((l++m++[b]).length:Nat):Int) - 1)=(((l++m++[b]).length - 1:Nat):Int):=by
   have:1≤(l++m++[b]).length:=by simp;omega
   rw [wiC _ (by omega) (by omega)];omega
  unfold Dx.g
  simp only [Int.reduceBEq,cond_true,cond_false]
  rw [eW,hF lo c bs nx us t a l m b hx hb gm gb (by omega) (hB.to (by simp only [sz,At,D9];omega) (by simp only [sz,At,D9];omega) (by simp only [sz,At,D9];omega)) hl,Aj,Ut]
  exact hP _ _ _
 | do_ hb =>
  rename_i n a t b
  simp only [sz,At] at hd hlo hc hbs
  rw [R3] at hn
  show Dx.g (GS.at k) k cx.cs c cx.src cx.gl lo bs nx us 28 t n a [b]=_
  unfold Dx.g
  simp only [Int.reduceBEq,cond_true,cond_false]
  rw [ix0,Aj,hK lo c bs nx us b hb hg.2.1 (by omega) (hB.to (by simp only [sz,At];omega) (by simp only [sz,At];omega) (by simp only [sz,At];omega)) hn,Aj,R3]
 | break_ =>
  rename_i n a t
  rw [Ur] at hn
  simp only [sz,At] at hd hlo hc hbs
  show Dx.g (GS.at k) k cx.cs c cx.src cx.gl lo bs nx us 29 t n a []=_
  unfold Dx.g
  simp only [Int.reduceBEq,cond_true,cond_false]
  rcases PK bs with rfl | ⟨M,h,rfl⟩
  ·rcases hn with hn | hn
   ·exact absurd rfl hn
   ·cases hn
  ·have h1:=Vt (M++[h])
   have h2:=A2r (m:=M) (b:=h)
   rw [AM,AD,Be] at h1
   rw [lastB M h (by omega),DT,Aj,add0 _ _ _ (by unfold mx;omega),Aj]
   rw [Js (by simp only [AD,Be];omega),Aj,JL,Aj,Ur,LS]
   rfl
 | ret hx =>
  rename_i n a t l
  simp only [sz] at hd hlo hc hbs
  have e1:=Pz (f:=AW cx lo d) (l:=l) (p:=c.length+1) fun r p y hy=>F2 d r p y (hx y hy)
  show Dx.g (GS.at k) k cx.cs c cx.src cx.gl lo bs nx us 30 t n a l=_
  unfold Dx.g
  simp only [Int.reduceBEq,cond_true,cond_false]
  rw [add0 _ _ _ (by unfold mx;omega),Aj,Aue (d:=d) hB.b (by omega) hx hg.2 (by omega) (by rw [l1];unfold mx;omega),Aj,l1,add0 _ _ _ (by rw [AM,l1];unfold mx;omega),Aj,Uw]
  refine Eq.trans ?_ (hP _ _ c.length)
  unfold Uj
  simp only [Cj,List.cons_append,List.nil_append]
theorem Xh:∀ (d k:Nat),500040+5 * d≤k→ST (GS.at k) cx d∧BK (GS.at (k+1)) cx d
 | 0,k,hk=>by
  have h:ST (GS.at k) cx 0:=fun _ _ _ _ _ t _ _ h=>by have:=ED t;omega
  exact ⟨h,Ajk (by omega) h⟩
 | d+1,k,hk=>by
  obtain ⟨j,rfl⟩:∃ j,k=j+5:=⟨k - 5,by omega⟩
  have hS:=fun i (hi:500040+5 * d≤i)=>(Xh d i hi).1
  have hK:∀ i,500041+5 * d≤i→BK (GS.at i) cx d:=fun i hi=>by
   obtain ⟨i,rfl⟩:∃ m,i=m+1:=⟨i - 1,by omega⟩
   exact (Xh d i (by omega)).2
  have Bae:∀ top,LP (fun c lo bs nx us b=>(GS.at (j+3)).F4 cx.cs c cx.src cx.gl lo bs nx us b.kind b.text b.n b.at_ b.kids top) cx d (i1 18 top):=fun top=>Bj4 (by omega) (hK _ (by omega)) top
  have h:ST (GS.at (j+5)) cx (d+1):=Br1 (by omega) (hK _ (by omega)) (A2m (by omega) (hK _ (by omega))) (fun top=>Bj5 (by omega) (hK _ (by omega)) top) (fun s pr h=>Bj9 (by omega) (hK _ (by omega)) s pr h) (fun lo c bs nx us t a l m b=>A7c (by omega) Bae lo c bs nx us t a l m b)
  exact ⟨h,Ajk (by omega) h⟩
end
mutual
/-- Does a node of the tree begin at a? -/
def Vo (a:Int):Tree→Prop
 | .mk _ _ _ p l=>p=a∨Sp a l
def Sp (a:Int):List Tree→Prop
 | []=>False
 | x :: l=>Vo a x∨Sp a l
end
theorem Ajb {a:Int}:∀ {l:List Tree},Sp a l ↔ ∃ x ∈ l,Vo a x
 | []=>by simp [Sp]
 | x :: l=>by simp [Sp,Ajb (l:=l)]
theorem A1y (x:Tree):Vo x.at_ x:=by cases x;exact .inl rfl
def Flt (e:Int×Int) (t:Tree):Prop:=(e.1=5∨e.1=6)∧Vo e.2 t
theorem Flt.kid {e:Int×Int} {k n a:Int} {t:ByteArray} {l:List Tree} {x:Tree} (hx:x ∈ l) (h:Flt e x):Flt e (.mk k t n a l):=⟨h.1,.inr (Ajb.2 ⟨x,hx,h.2⟩)⟩
theorem Flt.at5 {k n a:Int} {t:ByteArray} {l:List Tree}:Flt (5,a) (.mk k t n a l):=⟨.inl rfl,.inl rfl⟩
theorem Flt.at6 {k n a:Int} {t:ByteArray} {l:List Tree}:Flt (6,a) (.mk k t n a l):=⟨.inr rfl,.inl rfl⟩
theorem Qp {a c m:Int} {e:Int×Int} (h:Hh a c m=.bad e):e=(6,a):=by
 unfold Hh at h
 split at h
 ·cases h;rfl
 ·cases h
theorem Ati {e:Int×Int}:∀ {l:List Tree} {lo:List ByteArray},Mf lo l=.bad e→∃ x ∈ l,e=(5,x.at_)
 | [],_,h=>by cases h
 | x :: l,lo,h=>by
  unfold Mf at h
  split at h
  ·cases h;exact ⟨x,Cy ..,rfl⟩
  ·obtain ⟨y,hy,e⟩:=Ati h
   exact ⟨y,CV _ hy,e⟩
theorem XU {a sl:Int} {lo:List ByteArray} {l:List Tree} {e:Int×Int} (h:MD a sl lo l=.bad e):(∃ x ∈ l,e=(5,x.at_))∨e=(6,a):=by
 unfold MD at h
 rcases Fq h with h | ⟨lo',_,h⟩
 ·exact .inl (Ati h)
 rcases Fq h with h | ⟨_,_,h⟩
 ·exact .inr (Qp h)
 ·cases h
theorem Atn {f:BX→Tree→PC BX} {e:Int×Int}:∀ {l:List Tree} {s:BX},EM f s l=.bad e→∃ x ∈ l,∃ s,f s x=.bad e
 | [],_,h=>by cases h
 | x :: l,s,h=>by
  unfold EM at h
  rcases Fq h with h | ⟨s1,_,h⟩
  ·exact ⟨x,Cy ..,s,h⟩
  ·obtain ⟨y,hy,e⟩:=Atn h
   exact ⟨y,CV _ hy,e⟩
theorem Aiu {f:BX→Tree→Bool→PC BX} {n:Int} {e:Int×Int}:∀ {l:List Tree} {i:Nat} {s:BX},K7 f n i s l=.bad e→∃ x ∈ l,∃ s b,f s x b=.bad e
 | [],_,_,h=>by cases h
 | x :: l,i,s,h=>by
  unfold K7 at h
  rcases Fq h with h | ⟨s1,_,h⟩
  ·exact ⟨x,Cy ..,s,_,h⟩
  ·obtain ⟨y,hy,e⟩:=Aiu h
   exact ⟨y,CV _ hy,e⟩
theorem Bkc {f:BX→Tree→PC BX} {a:Int} {s:BX} {names:List Tree} {b:Tree} {more:Nat} {e:Int×Int} (h:JD f a s names b more=.bad e):(∃ x ∈ names,e=(5,x.at_))∨e=(6,a)∨∃ s,f s b=.bad e:=by
 unfold JD at h
 rcases Fq h with h | ⟨r,_,h⟩
 ·split at h
  ·rcases XU h with h | h
   ·exact .inl h
   ·exact .inr (.inl h)
  ·cases h
 rcases Fq h with h | ⟨_,_,h⟩
 ·exact .inr (.inr ⟨_,h⟩)
 ·cases h
theorem A5p {f:BX→List Tree→PC BX} {ab:List ByteArray} {s:BX} {k n a:Int} {t:ByteArray} {l:List Tree} {tg:Bool} {e:Int×Int} (h:Ln f ab s k t n a l tg=.bad e):e=(5,a)∨e=(6,a)∨∃ s,f s l=.bad e:=by
 unfold Ln at h
 have cst:∀ {v:V3},MH a s.cs v=.bad e→e=(6,a):=fun h=>by
  unfold MH at h
  split at h
  ·cases h
  rcases Fq h with h | ⟨_,_,h⟩
  ·exact Qp h
  ·cases h
 have nme:Ps a t s.gl s.lo ab=.bad e→e=(5,a):=fun h=>by
  unfold Ps at h
  split at h
  ·cases h;rfl
  split at h
  ·cases h
  split at h
  ·cases h;rfl
  ·cases h
 split at h
 ·rcases Fq h with h | ⟨_,_,h⟩
  ·exact .inr (.inl (Qp h))
  ·exact .inr (.inr ⟨_,h⟩)
 split at h
 ·rcases Fq h with h | ⟨_,_,h⟩
  ·exact .inr (.inl (Qp h))
  ·exact .inr (.inr ⟨_,h⟩)
 split at h
 ·rcases Fq h with h | ⟨_,_,h⟩
  ·exact .inr (.inl (Qp h))
  ·exact .inr (.inr ⟨_,h⟩)
 split at h
 ·rcases Fq h with h | ⟨_,_,h⟩
  ·exact .inr (.inl (cst h))
  ·exact .inr (.inr ⟨_,h⟩)
 split at h
 ·rcases Fq h with h | ⟨_,_,h⟩
  ·exact .inr (.inl (cst h))
  ·exact .inr (.inr ⟨_,h⟩)
 split at h
 ·rcases Fq h with h | ⟨_,_,h⟩
  ·exact .inl (nme h)
  ·exact .inr (.inr ⟨_,h⟩)
 split at h
 ·split at h
  ·cases h;exact .inl rfl
  ·cases h
 ·exact .inr (.inr ⟨_,h⟩)
theorem Atm {e:Int×Int}:∀ {d:Nat} {ab:List ByteArray} {s:BX} {t:Tree} {tg:Bool},sz t≤d→gw t→C9 d ab s t tg=.bad e→Flt e t
 | 0,_,_,t,_,hd,_,_=>by have:=ED t;omega
 | d+1,ab,s,.mk k t n a l,tg,hd,hw,h=>by
  obtain ⟨⟨hs1,hs7,OU,OV,Q5,OW,SZ⟩,hw⟩:=hw
  rw [Qu] at hw
  simp only [sz] at hd
  have hlen:=DR l
  have K:∀ {x:Tree} {ab s tg},x ∈ l→C9 d ab s x tg=.bad e→Flt e (.mk k t n a l):=fun hx h=>Flt.kid hx (Atm (by have:=JN hx;omega) (hw _ hx) h)
  have L:∀ {m:List Tree} {ab s},(∀ x ∈ m,x ∈ l)→EM (fun s x=>C9 d ab s x false) s m=.bad e→Flt e (.mk k t n a l):=fun hm h=>by
   obtain ⟨x,hx,s,h⟩:=Atn h
   exact K (hm x hx) h
  have N:∀ {m:List Tree},(∀ x ∈ m,x ∈ l)→((∃ x ∈ m,e=(5,x.at_))∨e=(6,a))→Flt e (.mk k t n a l):=fun hm h=>by
   rcases h with ⟨x,hx,rfl⟩ | rfl
   ·exact Flt.kid (hm x hx) ⟨.inl rfl,A1y x⟩
   ·exact Flt.at6
  have P:∀ {m:List Tree} {b:Tree} {more ab s},(∀ x ∈ m,x ∈ l)→b ∈ l→JD (fun s x=>C9 d ab s x false) a s m b more=.bad e→Flt e (.mk k t n a l):=fun hm hb h=>by
   rcases Bkc h with h | h | ⟨s,h⟩
   ·exact N hm (.inl h)
   ·exact N hm (.inr h)
   ·exact K hb h
  have F:∀ {c m:Int},Hh a c m=.bad e→Flt e (.mk k t n a l):=fun h=>by rw [Qp h];exact Flt.at6
  unfold C9 at h
  split at h
  ·rcases Fq h with h | ⟨_,_,h⟩
   ·exact L (fun _ h=>h) h
   ·cases h
  split at h
  ·rename_i hk
   obtain ⟨m,rfl,hm⟩:=SZ hk
   rcases Fq h with h | ⟨_,_,h⟩
   ·exact F h
   split at h
   ·cases h;exact Flt.at5
   rcases Fq h with h | ⟨_,_,h⟩
   ·exact F h
   rcases Fq h with h | ⟨_,_,h⟩
   ·exact N (fun x hx=>List.mem_of_mem_take hx) (XU h)
   rcases Fq h with h | ⟨_,_,h⟩
   ·exact K (Gs (by rw [Int.toNat_natCast];omega)).2 h
   ·cases h
  split at h
  ·rcases Fq h with h | ⟨_,_,h⟩
   ·exact F h
   rcases Fq h with h | ⟨_,_,h⟩
   ·exact F h
   rcases Fq h with h | ⟨_,_,h⟩
   ·exact L (fun x hx=>List.mem_of_mem_drop hx) h
   rcases Fq h with h | ⟨_,_,h⟩
   ·exact N (fun x hx=>List.mem_of_mem_take hx) (XU h)
   ·cases h
  split at h
  ·rcases Fq h with h | ⟨_,_,h⟩
   ·exact F h
   rcases Fq h with h | ⟨_,_,h⟩
   ·exact F h
   obtain ⟨x,hx,s,b,h⟩:=Aiu h
   exact K hx h
  split at h
  ·rename_i hk
   have h2:=OU hk
   rcases Fq h with h | ⟨_,_,h⟩
   ·exact K (Gs (by omega)).2 h
   ·exact P (m:=[]) (fun x hx=>absurd hx List.not_mem_nil) (Gs (by omega)).2 h
  split at h
  ·rename_i hk
   have h2:=OV hk
   rcases Fq h with h | ⟨_,_,h⟩
   ·exact L (fun x hx=>List.mem_of_mem_drop (List.mem_of_mem_take hx)) h
   ·exact P (fun x hx=>List.mem_of_mem_take hx) (Gs (by omega)).2 h
  split at h
  ·rename_i hk
   obtain ⟨m,rfl,hm⟩:=OW hk
   rcases Fq h with h | ⟨_,_,h⟩
   ·exact F h
   rcases Fq h with h | ⟨_,_,h⟩
   ·exact F h
   rcases Fq h with h | ⟨_,_,h⟩
   ·exact L (fun x hx=>List.mem_of_mem_drop (List.mem_of_mem_take hx)) h
   ·exact P (fun x hx=>List.mem_of_mem_take hx) (Gs (by omega)).2 h
  split at h
  ·split at h
   ·cases h;exact Flt.at5
   ·cases h
  ·rcases A5p h with rfl | rfl | ⟨s,h⟩
   ·exact Flt.at5
   ·exact Flt.at6
   ·exact L (fun _ h=>h) h
theorem NR:∀ {d:Nat} {ab:List ByteArray} {s s':BX} {t:Tree} {tg:Bool},wfT t→C9 d ab s t tg=.ok s'→s'.fs=s.fs
 | 0,_,_,_,_,_,_,h=>by unfold C9 at h;cases h
 | d+1,ab,s,s',.mk k t n a l,tg,hw,h=>by
  obtain ⟨⟨hs1,h31,hs7,OU,OV,Q5,OW⟩,hw⟩:=hw
  rw [RL] at hw
  have hN:∀ {m:List Tree} {ab s s'},(∀ x ∈ m,x ∈ l)→EM (fun s x=>C9 d ab s x false) s m=.ok s'→s'.fs=s.fs:=by
   intro m
   induction m with
   | nil=>intro ab s s' _ h;cases h;rfl
   | cons x m ihm =>
    intro ab s s' hm h
    unfold EM at h
    obtain ⟨s1,h1,h⟩:=Cl h
    rw [ihm (fun y hy=>hm y (CV _ hy)) h,NR (hw _ (hm _ (Cy ..))) h1]
  have hA:∀ {m:List Tree} {n i ab s s'},(∀ x ∈ m,x ∈ l)→K7 (fun s x b=>C9 d ab s x b) n i s m=.ok s'→s'.fs=s.fs:=by
   intro m
   induction m with
   | nil=>intro n i ab s s' _ h;cases h;rfl
   | cons x m ihm =>
    intro n i ab s s' hm h
    unfold K7 at h
    obtain ⟨s1,h1,h⟩:=Cl h
    rw [ihm (fun y hy=>hm y (CV _ hy)) h,NR (hw _ (hm _ (Cy ..))) h1]
  have hP:∀ {a:Int} {names:List Tree} {b:Tree} {more:Nat} {ab s s'},b ∈ l→JD (fun s x=>C9 d ab s x false) a s names b more=.ok s'→s'.fs=s.fs:=by
   intro a names b more ab s s' hb h
   unfold JD at h
   obtain ⟨r,_,h⟩:=Cl h
   obtain ⟨s1,h1,h⟩:=Cl h
   cases h
   have h2:=NR (hw _ hb) (show C9 d ab _ b false=_ from h1)
   exact h2
  unfold C9 at h
  split at h
  ·obtain ⟨s1,h1,h⟩:=Cl h;cases h;have h2:=hN (fun _ h=>h) h1;exact h2
  split at h
  ·obtain ⟨_,_,h⟩:=Cl h
   obtain ⟨_,_,h⟩:=Cl h
   obtain ⟨s1,h1,h⟩:=Cl h
   obtain ⟨r,_,h⟩:=Cl h
   cases h;have h2:=hN (fun x hx=>List.mem_of_mem_drop hx) h1;exact h2
  split at h
  ·obtain ⟨_,_,h⟩:=Cl h
   obtain ⟨_,_,h⟩:=Cl h
   exact hA (fun _ h=>h) h
  split at h
  ·rename_i hk
   have h2:=OU hk
   obtain ⟨s1,h1,h⟩:=Cl h
   rw [hP (Gs (by omega)).2 h,NR (hw _ (Gs (by omega)).2) h1]
  split at h
  ·rename_i hk
   have h2:=OV hk
   obtain ⟨s1,h1,h⟩:=Cl h
   rw [hP (Gs (by omega)).2 h,hN (fun x hx=>List.mem_of_mem_drop (List.mem_of_mem_take hx)) h1]
  split at h
  ·rename_i hk
   obtain ⟨m,rfl,hm⟩:=OW hk
   obtain ⟨_,_,h⟩:=Cl h
   obtain ⟨_,_,h⟩:=Cl h
   obtain ⟨s1,h1,h⟩:=Cl h
   rw [hP (Gs (by omega)).2 h,hN (fun x hx=>List.mem_of_mem_drop (List.mem_of_mem_take hx)) h1]
  split at h
  ·split at h
   ·cases h
   ·cases h;rfl
  ·have X:∀ {s s':BX},EM (fun s x=>C9 d ab s x false) s l=.ok s'→s'.fs=s.fs:=fun h=>hN (fun _ h=>h) h
   unfold Ln at h
   (repeat' split at h) <;> first
    | (cases h;done)
    | (cases h;rfl)
    | exact X h
    | (obtain ⟨_,_,h⟩:=Cl h;have h2:=X (show EM (fun s x=>C9 d ab s x false) _ l=_ from h);exact h2)
def O9 (l:List Tree):Nat:=(l.filter fun x=>x.kind == 31).length
theorem A6w {d:Nat} {ab:List ByteArray} {s s':BX} {t:Tree} {tg:Bool} (hw:fnT t) (h:C9 d ab s t tg=.ok s'):s'.fs.length=s.fs.length+1:=by
 cases d with
 | zero=>unfold C9 at h;cases h
 | succ d =>
  cases t with
  | mk k t n a l =>
   obtain ⟨h1,h2,⟨m,rfl,hm⟩,h4⟩:=hw
   subst h2
   unfold C9 at h
   rw [if_neg (by decide),if_pos rfl] at h
   obtain ⟨_,_,h⟩:=Cl h
   split at h
   ·cases h
   obtain ⟨_,_,h⟩:=Cl h
   obtain ⟨r,_,h⟩:=Cl h
   obtain ⟨s1,h1,h⟩:=Cl h
   cases h
   rw [RL] at h4
   have:=NR (h4 _ (Gs (by rw [Int.toNat_natCast];omega)).2) h1
   show (s1.fs++[_]).length=_
   rw [this]
   simp
theorem Ato {d:Nat} {ab:List ByteArray}:∀ {l:List Tree} {s s':BX},(∀ x ∈ l,Afh x)→EM (fun s x=>C9 d ab s x false) s l=.ok s'→s'.fs.length=s.fs.length+O9 l
 | [],s,s',_,h=>by cases h;rfl
 | x :: l,s,s',hw,h=>by
  unfold EM at h
  obtain ⟨s1,h1,h⟩:=Cl h
  have ih:=Ato (fun y hy=>hw y (CV _ hy)) h
  rw [ih]
  unfold O9
  rcases hw x (Cy ..) with hx | hx
  ·have:x.kind≠31:=by cases x;exact hx.1.2.1
   rw [List.filter_cons,if_neg (by simpa using this),NR hx h1]
  ·have:x.kind=31:=by cases x;exact hx.2.1
   rw [List.filter_cons,if_pos (by simpa using this),A6w hx h1,AD]
   omega
theorem Ats {cx:GCx} {d:Nat} (ih:∀ (lo:List ByteArray) (p:Nat) (t:Tree),IsS t→∀ (d':Nat) (ab:List ByteArray) (s s':BX),gw t→C9 d' ab s t false=.ok s'→s.lp=0→holes p (Ch cx d lo p t).1=[]) :
  ∀ (l:List Tree) (lo:List ByteArray) (p:Nat) (d':Nat) (ab:List ByteArray) (s s':BX),(∀ x ∈ l,IsS x)→E5 l→EM (fun s x=>C9 d' ab s x false) s l=.ok s'→s.lp=0→holes p (H7 cx (Ch cx d) lo p l)=[]
 | [],_,_,_,_,_,_,_,_,_,_=>rfl
 | x :: l,lo,p,d',ab,s,s',hI,hg,h,h0=>by
  unfold EM at h
  obtain ⟨s1,h1,h⟩:=Cl h
  have hp:=Ha hg.1 h1
  show holes (p+1) (_++_)=[]
  rw [Iv,ih lo (p+1) x (hI x (Cy ..)) d' ab s s1 hg.1 h1 h0,List.nil_append]
  exact Ats ih l _ _ d' ab s1 s' (fun y hy=>hI y (CV _ hy)) hg.2 h (by rw [hp.lp];exact h0)
theorem Ww {cx:GCx} {d:Nat} (ih:∀ (lo:List ByteArray) (p:Nat) (t:Tree),IsS t→∀ (d':Nat) (ab:List ByteArray) (s s':BX),gw t→C9 d' ab s t false=.ok s'→s.lp=0→holes p (Ch cx d lo p t).1=[])
  (b:Tree) (lo:List ByteArray) (p:Nat) (d':Nat) (ab:List ByteArray) (s s':BX) (hb:EF b) (hg:gw b) (h:C9 d' ab s b false=.ok s') (h0:s.lp=0):holes p (Dd cx d lo p b)=[]:=by
 cases hb with
 | block hl =>
  cases d' with
  | zero=>unfold C9 at h;cases h
  | succ d' =>
   unfold C9 at h
   rw [if_pos rfl] at h
   obtain ⟨s1,h1,_⟩:=Cl h
   exact Ats ih _ lo p d' ab s s1 hl hg.2 h1 h0
theorem Atu {cx:GCx} {d:Nat} {e:Nat→Tree→Cd} (ih:∀ (lo:Ag) (p:Nat) (t:Tree),IsS t→∀ (d':Nat) (ab:Ag) (s s':BX),gw t→C9 d' ab s t false=.ok s'→s.lp=0→holes p (Ch cx d lo p t).1=[]) (lo:Ag) :
  ∀ (l:List Tree) (p:Nat) (d':Nat) (ab:List ByteArray) (s s':BX),IsR l→E5 l→EM (fun s x=>C9 d' ab s x false) s l=.ok s'→s.lp=0→holes p (v2 0 (brX e (Dd cx d lo) p l))=[]
 | [],_,_,_,_,_,_,_,_,_=>rfl
 | [b],p,d',ab,s,s',hr,hg,h,h0=>by
  have hb:EF b:=by cases hr with | last h=>exact h
  unfold EM at h
  obtain ⟨s1,h1,h⟩:=Cl h
  show holes p (v2 0 ((Dd cx d lo p b).map some))=[]
  rw [R8]
  exact Ww ih b lo p d' ab s s1 hb hg.1 h1 h0
 | x :: y :: l,p,d',ab,s,s',hr,hg,h,h0=>by
  obtain ⟨hx,hy,hl⟩:IsE x∧EF y∧IsR l:=by cases hr with | more h1 h2 h3=>exact ⟨h1,h2,h3⟩
  unfold EM at h
  obtain ⟨s1,h1,h⟩:=Cl h
  unfold EM at h
  obtain ⟨s2,h2,h⟩:=Cl h
  have p1:=(Ha hg.1 h1).lp.trans h0
  have p2:=(Ha hg.2.1 h2).lp.trans p1
  have e1:=Ww ih y lo (p+(e p x).length+1) d' ab s1 s2 hy hg.2.1 h2 p1
  have e2:=fun q=>Atu (e:=e) ih lo l q d' ab s2 s' hl hg.2.2 h p2
  simp only [brX]
  rw [R7,Afo,Iv,Ja,List.nil_append,Gj]
  show holes (p+(e p x).length+1) (v2 0 ((Dd cx d lo (p+(e p x).length+1) y).map some++_++_))=[]
  rw [R7,R7,R8,Cj,Iv,e1,List.nil_append,Iv]
  cases l with
  | nil=>rfl
  | cons u v=>exact e2 _
theorem noh {cx:GCx}:∀ (d:Nat) (lo:List ByteArray) (p:Nat) (t:Tree),IsS t→∀ (d':Nat) (ab:List ByteArray) (s s':BX),gw t→C9 d' ab s t false=.ok s'→s.lp=0→holes p (Ch cx d lo p t).1=[]
 | 0,_,_,_,_,_,_,_,_,_,_,_=>rfl
 | d+1,lo,p,t,hI,0,ab,s,s',hg,h,h0=>by unfold C9 at h;cases h
 | d+1,lo,p,t,hI,d'+1,ab,s,s',hg,h,h0=>by
  have ih:=fun lo p t h=>noh (cx:=cx) d lo p t h
  cases hI with
  | loc=>rw [Uv];exact Ja
  | asg=>rw [Uq];exact Ja
  | run=>rw [Ux];exact Ja
  | if_ hr =>
   rw [R4]
   unfold C9 at h
   simp only [Int.reduceEq,if_false] at h
   unfold Ln at h
   simp only [Int.reduceEq,if_false,false_and] at h
   show holes p (v2 _ (brX _ _ p _))=[]
   rw [Q4]
   exact Atu ih lo _ p d' ab s s' hr hg.2 h h0
  | while_=>rw [Uy];exact Ja
  | for_=>rw [Us];exact Ja
  | forIn=>rw [Ut];exact Ja
  | do_ hb =>
   rw [R3]
   unfold C9 at h
   simp only [Int.reduceEq,if_false] at h
   unfold Ln at h
   simp only [Int.reduceEq,if_false,false_and] at h
   unfold EM at h
   obtain ⟨s1,h1,h⟩:=Cl h
   exact Ww ih _ lo p d' ab s s1 hb hg.2.1 h1 h0
  | break_ =>
   unfold C9 at h
   simp only [Int.reduceEq,if_false,if_true] at h
   rw [if_pos h0] at h
   cases h
  | ret=>rw [Uw];exact Ja
def PP (u:Dh) (c:Cd):Dh:=(u.1,u.2.1,u.2.2.1,u.2.2.2.1,c)
def Mt (r:LM):Dh:=(r.1,r.2.2.1,r.2.2.2.1,r.2.2.2.2,[])
def MC (gl:List ByteArray) (src:ByteArray) (d:Nat) (cs:List V3) (x:Tree):Hx:=Dd ⟨cs,gl,src⟩ d ((x.kids.take x.n.toNat).map (·.text)) 0 (BW x.kids x.n.toNat)
def O8 (gl:List ByteArray) (src:ByteArray) (d:Nat) (cs:List V3) (x:Tree):Cd:=Cc 0 (MC gl src d cs x)++[i0 22]++[i0 25]
def Gn (cx:GCx) (d:Nat):List ByteArray→Nat→Nat→List Tree→Hx
 | _,_,_,[]=>[]
 | lo,p,nx,x :: l =>
  if x.kind=31 then some (i1 1 (GC cx.src x.at_)) :: some (i1 11 (nx:Int)) :: some (i1 9 (glN cx.gl x.text)) :: Gn cx d lo (p+3) (nx+1) l
  else some (i1 1 (GC cx.src x.at_)) :: ((Ch cx d lo (p+1) x).1++Gn cx d (Ch cx d lo (p+1) x).2 (p+1+(Ch cx d lo (p+1) x).1.length) nx l)
def IJ (gl:List ByteArray) (src:ByteArray) (d:Nat):List Tree→List Dh→List Dh
 | [],U=>U
 | x :: l,U=>if x.kind=31 then (match U with | []=>[] | u :: U=>PP u (O8 gl src d u.2.2.2.1 x) :: IJ gl src d l U) else IJ gl src d l U
def okU (gl:List ByteArray) (src:ByteArray) (d:Nat):List Tree→List Dh→Prop
 | [],_=>True
 | x :: l,U=>if x.kind=31 then ∃ u V,U=u :: V∧u.2.2.2.2=[]∧u.2.2.2.1.length≤400000∧holes 0 (MC gl src d u.2.2.2.1 x)=[]∧okU gl src d l V else okU gl src d l U
theorem ZC {t:Tree} (h:IsS t):t.kind≠31:=by cases h <;> (simp only [Tree.kind];decide)
theorem Pb {t:Tree} (h:Jp t):∃ a tx l b,t=.mk 31 tx (l.length:Nat) a (l++[b])∧EF b:=by
 cases h with | fn hb=>exact ⟨_,_,_,_,rfl,hb⟩
section
variable {cx:GCx} {d k:Nat}
theorem A7i (hk:500000≤k) (hK:BK (GS.at k) cx d) (lo:Ag) (c:Cd) (bs:TyL) (nx:Int) (us:List (Option Dh)) (b:Tree) (hb:EF b) (hg:gw b) (hd:sz b≤d+1) (hB:BdX cx lo c.length bs (sz b - 1)) (hn:bs≠[]∨holes c.length (Dd cx d lo c.length b)=[]) :
  (GS.at (k+1)).F3 cx.cs c cx.src cx.gl lo bs nx us b.kind b.text b.n b.at_ b.kids=some (c++Cc 0 (Dd cx d lo c.length b)++[i0 22]++[i0 25],lo,G9 bs (holes c.length (Dd cx d lo c.length b)),nx,us):=by
 show F3.g (GS.at k) k cx.cs c cx.src cx.gl lo bs nx us b.kind b.text b.n b.at_ b.kids=_
 have hX:=N5 (cx:=cx) (d:=d) hb lo c.length
 have hc:=hB.c
 unfold F3.g
 rw [hK lo c bs nx us b hb hg hd hB hn,Aj,add0 _ _ _ (by rw [AM,FZ];unfold mx;omega),Aj,add0 _ _ _ (by rw [AM,AM,FZ];simp only [AD,Be];unfold mx;omega),Aj]
theorem Bgu {gl:Ag} {src:ByteArray} (hk:500050+5 * d≤k) (D T:List (Option Dh)) (u:Dh) (t:ByteArray) (a:Int) (l:List Tree) (b:Tree) (hb:EF b) (hg:gw b) (hd:sz b≤d) (hu:u.2.2.2.2=[]) (hus:u.2.2.2.1.length≤400000) (hgl:gl.length≤400000) (hsrc:src.size≤400000) (hl:l.length+4 * sz b≤400000) (hl5:5 * sz b≤450000) (hD:D.length≤1000000)
  (hn:holes 0 (MC gl src d u.2.2.2.1 (.mk 31 t (l.length:Nat) a (l++[b])))=[]) :
  (GS.at (k+3)).Iu src gl (D.length:Int) (D++some u :: T) 31 t (l.length:Nat) a (l++[b])=some (((D.length+1:Nat):Int),D++some (PP u (O8 gl src d u.2.2.2.1 (.mk 31 t (l.length:Nat) a (l++[b])))) :: T):=by
 show Iu.g (GS.at (k+2)) (k+2) src gl (D.length:Int) (D++some u :: T) 31 t (l.length:Nat) a (l++[b])=_
 obtain ⟨u0,u1,u2,cs,cd⟩:=u
 have hu:cd=[]:=hu
 subst hu
 have e1:(l++[b]).take l.length=l:=by simp
 have e2:BW (l++[b]) l.length=b:=by simp [BW]
 have eb:MC gl src d cs (.mk 31 t (l.length:Nat) a (l++[b]))=Dd ⟨cs,gl,src⟩ d (l.map (·.text)) 0 b:=by
  show Dd ⟨cs,gl,src⟩ d (((l++[b]).take ((l.length:Nat):Int).toNat).map (·.text)) 0 (BW (l++[b]) ((l.length:Nat):Int).toNat)=_
  rw [Int.toNat_natCast,e1,e2]
 have hn:holes 0 (MC gl src d cs (.mk 31 t (l.length:Nat) a (l++[b])))=[]:=hn
 rw [eb] at hn
 have hbp:=ED b
 unfold Iu.g
 rw [DT,Aj,Aj,JL,Aj,Gx 0 l.length (show (0:Int)=((0:Nat):Int) from rfl) rfl (by omega) (by simp),Aj,show ((l++[b]).drop 0).take (l.length - 0)=l by simp,XT _ _ _ (by omega) (by simp) (by omega),Aj,List.nil_append,DT,Aj,wiC _ (by omega) (by omega)]
 have hf:=A7i (cx:=⟨cs,gl,src⟩) (d:=d) (k:=k+1) (by omega) (Xh d k (by omega)).2 (l.map (·.text)) [] [] ((D.length:Int)+1) (D++none :: T) b hb hg (by omega) ⟨hus,hgl,hsrc,by rw [List.length_map];omega,by simp only [Be];omega,by show 0+0+_≤_;omega⟩ (.inr hn)
 refine (congrArg (fun z=>Option.bind z _) hf).trans ?_
 rw [Aj,DT,Aj,JL,Aj]
 unfold PP O8
 rw [eb,List.nil_append,show ((D.length+1:Nat):Int)=(D.length:Int)+1 by omega]
 rfl
theorem A7f (hk:500060+5 * d≤k) (lo:List ByteArray) (c:Cd) (D T:List (Option Dh)) (u:Dh) (x:Tree) (hx:Jp x) (hg:gw x) (hd:sz x≤d) (hu:u.2.2.2.2=[]) (hus:u.2.2.2.1.length≤400000) (hD:D.length≤900000)
  (hB:BdX cx lo (c.length - 1) [] (sz x)) (hn:holes 0 (MC cx.gl cx.src d u.2.2.2.1 x)=[]) :
  (GS.at (k+4)).Dx cx.cs c cx.src cx.gl lo [] (D.length:Int) (D++some u :: T) x.kind x.text x.n x.at_ x.kids=some (c++[i1 11 (D.length:Int)]++[i1 9 (glN cx.gl x.text)],lo,[],((D.length+1:Nat):Int),D++some (PP u (O8 cx.gl cx.src d u.2.2.2.1 x)) :: T):=by
 obtain ⟨a,t,l,b,rfl,hb⟩:=Pb hx
 obtain ⟨_,hg⟩:=hg
 obtain ⟨_,gb,_⟩:=OA.1 hg
 have hc:=hB.c
 have hlo:=hB.lo
 simp only [sz,At,D9] at hd hc hlo
 have hs:=DR l
 show Dx.g (GS.at (k+3)) (k+3) cx.cs c cx.src cx.gl lo [] (D.length:Int) (D++some u :: T) 31 t (l.length:Nat) a (l++[b])=_
 unfold Dx.g
 simp only [Int.reduceBEq,cond_true,cond_false]
 rw [add1 _ _ _ _ (by unfold mx;omega),Aj,Yn _ _ _ hB.gl (by omega),Aj,add1 _ _ _ _ (by rw [AM];simp only [AD,Be];unfold mx;omega),Aj]
 have hi:=Bgu (gl:=cx.gl) (src:=cx.src) (d:=d) (k:=k) (by omega) D T u t a l b hb gb (by omega) hu hus hB.gl hB.src (by omega) (by omega) (by omega) hn
 refine (congrArg (fun z=>Option.bind z _) hi).trans ?_
 rw [Aj]
 rfl
theorem Afi {R:GS} (hS:ST R cx d)
  (hF:∀ (lo:Ag) (c:Cd) (D T:List (Option Dh)) (u:Dh) (x:Tree),Jp x→gw x→sz x≤d→u.2.2.2.2=[]→u.2.2.2.1.length≤400000→D.length≤900000→BdX cx lo (c.length - 1) [] (sz x)→holes 0 (MC cx.gl cx.src d u.2.2.2.1 x)=[] →
   R.Dx cx.cs c cx.src cx.gl lo [] (D.length:Int) (D++some u :: T) x.kind x.text x.n x.at_ x.kids=some (c++[i1 11 (D.length:Int)]++[i1 9 (glN cx.gl x.text)],lo,[],((D.length+1:Nat):Int),D++some (PP u (O8 cx.gl cx.src d u.2.2.2.1 x)) :: T))
  (J:Cd→List ByteArray→List (List Int)→Int→List (Option Dh)→N2) :
  ∀ (t pre:List Tree) (lo:Ag) (c:Cd) (D:List (Option Dh)) (U:List Dh) (m:Nat),500000+t.length≤m→pre.length+t.length≤400000→(∀ x ∈ t,IsS x∨Jp x)→E5 t→At t≤d→D.length+t.length≤900000→okU cx.gl cx.src d t U→BdX cx lo c.length [] (At t) →
   holes c.length (Gn cx d lo c.length D.length t)=[] →
   ∃ lo' nx',lo <+: lo'∧D2.l0 m R cx.cs cx.src cx.gl (pre++t) J (pre.length:Int) c lo [] (D.length:Int) (D++U.map some)=J (c++Cc 0 (Gn cx d lo c.length D.length t)) lo' [] nx' (D++(IJ cx.gl cx.src d t U).map some)
 | [],pre,lo,c,D,U,m,hm,hl,hI,hg,hd,hD,hU,hB,hn=>by
  obtain ⟨m,rfl⟩:∃ m',m=m'+1:=⟨m - 1,by omega⟩
  refine ⟨lo,(D.length:Int),List.prefix_refl _,?_⟩
  simp only [D2.l0]
  rw [ltF (by simp),cond_false]
  simp [Gn,Cc,IJ]
 | x :: t,pre,lo,c,D,U,m,hm,hl,hI,hg,hd,hD,hU,hB,hn=>by
  obtain ⟨m,rfl⟩:∃ m',m=m'+1:=⟨m - 1,by omega⟩
  simp only [AD] at hl hm hD
  simp only [At] at hd hB
  obtain ⟨y,z,hp⟩:=Au1 m cx.src x.at_ hB.src (by omega)
  have hc:=hB.c
  have hxp:=ED x
  have l1:∀ (D:Cd) (i:Ins),(D++[i]).length=D.length+1:=fun D i=>by simp
  have e2:(pre++[x])++t=pre++x :: t:=by simp
  have e3:((pre++[x]).length:Int)=(pre.length:Int)+1:=by simp
  simp only [D2.l0]
  rw [GY (by simp;omega),cond_true,DT,Aj,hp,Aj,add1 _ _ _ _ (by unfold mx;omega),Aj]
  rcases hI x (Cy ..) with hx | hx
  ·have h31:=ZC hx
   simp only [Gn,if_neg h31] at hn ⊢
   simp only [IJ,okU,if_neg h31] at hU ⊢
   have hX:=Uu (cx:=cx) d lo (c.length+1) x hx
   obtain ⟨hlo,hlo2⟩:=Aw5 (cx:=cx) d lo (c.length+1) x hx
   have hlen:(c++[i1 1 (GC cx.src x.at_)]++Cc 0 (Ch cx d lo (c.length+1) x).1).length=c.length+1+(Ch cx d lo (c.length+1) x).1.length:=by rw [AM,l1,FZ]
   rw [show holes c.length (some (i1 1 (GC cx.src x.at_)) :: ((Ch cx d lo (c.length+1) x).1++Gn cx d (Ch cx d lo (c.length+1) x).2 (c.length+1+(Ch cx d lo (c.length+1) x).1.length) D.length t))=holes (c.length+1) (Ch cx d lo (c.length+1) x).1++holes (c.length+1+(Ch cx d lo (c.length+1) x).1.length) (Gn cx d (Ch cx d lo (c.length+1) x).2 (c.length+1+(Ch cx d lo (c.length+1) x).1.length) D.length t) from Iv] at hn
   obtain ⟨hn1,hn2⟩:=List.append_eq_nil_iff.1 hn
   have hst:=hS lo (c++[i1 1 (GC cx.src x.at_)]) [] (D.length:Int) (D++U.map some) x hx hg.1 (by omega) (hB.to (by omega) (by rw [l1];omega) (by omega)) (by rw [l1];exact .inr hn1)
   rw [l1,hn1,Vq] at hst
   obtain ⟨lo',nx',h1,h2⟩:=Afi hS hF J t (pre++[x]) (Ch cx d lo (c.length+1) x).2 (c++[i1 1 (GC cx.src x.at_)]++Cc 0 (Ch cx d lo (c.length+1) x).1) D U m (by omega) (by simp;omega) (fun y hy=>hI y (CV _ hy)) hg.2 (by omega) (by omega) hU (hB.to (by omega) (by rw [hlen];omega) (by omega)) (by rw [hlen];exact hn2)
   refine ⟨lo',nx',hlo.trans h1,?_⟩
   rw [e2,e3,hlen] at h2
   refine (congrArg (fun z=>Option.bind z _) hst).trans ?_
   rw [Aj,wiC _ (by omega) (by omega)]
   refine h2.trans ?_
   rw [show Cc 0 (some (i1 1 (GC cx.src x.at_)) :: ((Ch cx d lo (c.length+1) x).1++Gn cx d (Ch cx d lo (c.length+1) x).2 (c.length+1+(Ch cx d lo (c.length+1) x).1.length) D.length t))=i1 1 (GC cx.src x.at_) :: (Cc 0 (Ch cx d lo (c.length+1) x).1++Cc 0 (Gn cx d (Ch cx d lo (c.length+1) x).2 (c.length+1+(Ch cx d lo (c.length+1) x).1.length) D.length t)) from congrArg (i1 1 (GC cx.src x.at_) :: ·) NC]
   simp only [Cj,List.cons_append,List.nil_append]
  ·have h31:x.kind=31:=by obtain ⟨_,_,_,_,rfl,_⟩:=Pb hx;rfl
   simp only [Gn,if_pos h31] at hn ⊢
   simp only [IJ,okU,if_pos h31] at hU ⊢
   obtain ⟨u,V,rfl,hu,hus,hh,hV⟩:=hU
   have hst:=hF lo (c++[i1 1 (GC cx.src x.at_)]) D (V.map some) u x hx hg.1 (by omega) hu hus (by omega) (hB.to (by omega) (by rw [l1];omega) (by omega)) hh
   have hlen:(c++[i1 1 (GC cx.src x.at_)]++[i1 11 (D.length:Int)]++[i1 9 (glN cx.gl x.text)]).length=c.length+3:=by rw [l1,l1,l1]
   have lD:(D++[some (PP u (O8 cx.gl cx.src d u.2.2.2.1 x))]).length=D.length+1:=by simp
   obtain ⟨lo',nx',h1,h2⟩:=Afi hS hF J t (pre++[x]) lo (c++[i1 1 (GC cx.src x.at_)]++[i1 11 (D.length:Int)]++[i1 9 (glN cx.gl x.text)]) (D++[some (PP u (O8 cx.gl cx.src d u.2.2.2.1 x))]) V m (by omega) (by simp;omega) (fun y hy=>hI y (CV _ hy)) hg.2 (by omega) (by rw [lD];omega) hV (hB.to (by omega) (by rw [hlen];omega) (by omega)) (by rw [hlen,lD];exact hn)
   refine ⟨lo',nx',h1,?_⟩
   rw [e2,e3,hlen,lD,show ∀ (A B:List (Option Dh)) (z:Option Dh),A++[z]++B=A++z :: B from fun A B z=>by simp,show ∀ (A B:List (Option Dh)) (z:Option Dh),A++[z]++B=A++z :: B from fun A B z=>by simp] at h2
   refine (congrArg (fun z=>Option.bind z _) hst).trans ?_
   rw [Aj,wiC _ (by omega) (by omega)]
   refine h2.trans ?_
   simp only [Cc,List.map_cons,Option.getD_some,Cj,List.cons_append,List.nil_append]
end
theorem Aut (s:ByteArray):(∃ c a,c≠0∧JH s=Nf c a)∨∃ n,JH s=PM n∧wfC n∧sz n≤80010∧IsC n∧s.size≤20000:=by
 cases hs:Ii (bs s) with
 | inl x =>
  obtain ⟨c,p⟩:=x
  exact .inl ⟨c,p,Aek _ _ _ hs,Auu hs⟩
 | inr t =>
  have hT:=Aep s t hs
  rcases Afs hT with ⟨b,r,hb,hB,⟨_,he⟩ | ⟨_,he⟩⟩ | ⟨j,hb,he⟩
  ·refine .inr ⟨b,Auv hs he,?_,?_,Bsm hb,?_⟩
   ·obtain ⟨⟨a,l,rfl,hl⟩,_⟩:=(wS (fu _)).block true _ (Awo hs) _ _ (val_ok hb)
    exact ⟨rfl,Ga,fun x hx=>Or.elim (hl x hx) .inl (fun h=>.inr h.2)⟩
   ·have:=hB.size;have:=hT.len;omega
   ·unfold Ii at hs
    split at hs
    ·cases hs
    ·have:=Dg s
     omega
  ·exact .inl ⟨4,_,by decide,WF hs he⟩
  ·exact .inl ⟨4,_,by decide,WF hs he⟩
theorem Afj {gl:Ag} {src:ByteArray} {d:Nat}:∀ (l:List Tree) (d':Nat) (s s':BX),(∀ x ∈ l,IsS x∨Jp x)→(∀ x ∈ l,Afh x)→E5 l→EM (fun s x=>C9 d' [] s x false) s l=.ok s'→s.lp=0→pot s+4 * At l+100≤400000 →
  ∃ HA,s'.fs=s.fs++HA∧okU gl src d l (HA.map Mt)∧∀ cs lo p nx,holes p (Gn ⟨cs,gl,src⟩ d lo p nx l)=[]
 | [],d',s,s',_,_,_,h,_,_=>by cases h;exact ⟨[],by simp,trivial,fun _ _ _ _=>rfl⟩
 | x :: l,d',s,s',hI,hT,hg,h,h0,hp=>by
  unfold EM at h
  obtain ⟨s1,h1,h⟩:=Cl h
  have post:=Ha hg.1 h1
  have Bw1:=post.pot
  simp only [At] at hp
  obtain ⟨HA,e1,e2,e3⟩:=Afj (gl:=gl) (src:=src) (d:=d) l d' s1 s' (fun y hy=>hI y (CV _ hy)) (fun y hy=>hT y (CV _ hy)) hg.2 h (by rw [post.lp];exact h0) (by omega)
  rcases hI x (Cy ..) with hx | hx
  ·have h31:=ZC hx
   have hw:wfT x:=(hT x (Cy ..)).elim id fun h=>absurd (by cases x;exact h.2.1) h31
   refine ⟨HA,by rw [e1,NR hw h1],?_,fun cs lo p nx=>?_⟩
   ·simp only [okU,if_neg h31];exact e2
   ·simp only [Gn,if_neg h31]
    show holes (p+1) (_++_)=[]
    rw [Iv,noh d lo (p+1) x hx d' [] s s1 hg.1 h1 h0,List.nil_append]
    exact e3 _ _ _ _
  ·have hfn:fnT x:=(hT x (Cy ..)).elim (fun h=>by obtain ⟨_,_,_,_,rfl,_⟩:=Pb hx;exact absurd rfl h.1.2.1) id
   obtain ⟨a,t,m,b,rfl,hb⟩:=Pb hx
   obtain ⟨_,_,_,hws⟩:=hfn
   have hwb:wfT b:=by rw [RL] at hws;exact hws b (by simp)
   have hgb:gw b:=Af6 hwb
   have hk:BW (m++[b]) m.length=b:=by simp [BW]
   have h1':=h1
   cases d' with
   | zero=>unfold C9 at h1;cases h1
   | succ d' =>
    unfold C9 at h1
    rw [if_neg (by decide),if_pos rfl] at h1
    obtain ⟨_,_,h1⟩:=Cl h1
    split at h1
    ·cases h1
    obtain ⟨_,_,h1⟩:=Cl h1
    obtain ⟨r,hr,h1⟩:=Cl h1
    obtain ⟨sb,h2,h1⟩:=Cl h1
    rw [Int.toNat_natCast,hk] at h2
    cases h1
    have hfs:=NR hwb h2
    have pb:=Ha hgb h2
    have hpb:=pb.pot
    have hbr:=Qk hr
    have hgl:=Vi s.gl t
    refine ⟨(t,a,(m.length:Nat),sb.sl,sb.cs) :: HA,by rw [e1,hfs];simp,?_,fun cs lo p nx=>?_⟩
    ·simp only [okU,Tree.kind,if_true,List.map_cons]
     refine ⟨_,_,rfl,rfl,?_,?_,e2⟩
     ·show sb.cs.length≤400000
      simp only [pot,Be] at hpb hp
      simp only [sz,At,D9] at hp
      omega
     ·show holes 0 (Dd ⟨_,gl,src⟩ d _ 0 (BW (m++[b]) ((m.length:Nat):Int).toNat))=[]
      rw [Int.toNat_natCast,hk]
      exact Ww (fun lo p t h=>noh d lo p t h) b _ 0 d' s.lo _ sb hb hgb h2 rfl
    ·simp only [Gn,Tree.kind,if_true]
     exact e3 _ _ _ _
def dG:Nat:=80010
def A7q (src:ByteArray) (n:Tree) (s:BX):List Dh :=
 (⟨#[]⟩,0,s.sl,s.cs,Cc 0 (Gn ⟨s.cs,s.gl,src⟩ dG [] 0 1 n.kids)++[i0 22]++[i0 25]) :: IJ s.gl src dG n.kids (s.fs.tail.map Mt)
def Ym (src:ByteArray):List Dh×List ByteArray×Int×Int :=
 match JH src with
 | (kd,tx,n,a,l,c,p)=>if c≠0 then ([],[],c,p) else
  match Ob 100000 (.mk kd tx n a l) with
  | .bad e=>([],[],e.1,e.2)
  | .ok s=>(A7q src (.mk kd tx n a l) s,s.gl,0,0)
theorem Axz (J:List (Option Dh)→Option (List (Option Dh)×Ag×Int×Int)) (l0:List (Option LM)):∀ (t:List LM) (D:List (Option LM)) (m:Nat) (r:List (Option Dh)),D.length+t.length=l0.length→t.length < m→l0.length≤400000→r.length+t.length≤400000 →
  Gq.l0 m J l0 (D++t.map some) (D.length:Int) r=J (r++t.map fun x=>some (Mt x))
 | [],D,m,r,hl,hm,h1,h2=>by
  obtain ⟨m,rfl⟩:∃ m',m=m'+1:=⟨m - 1,by omega⟩
  simp only [Gq.l0]
  rw [ltF (by simp only [Be] at hl;omega),cond_false]
  simp
 | x :: t,D,m,r,hl,hm,h1,h2=>by
  obtain ⟨m,rfl⟩:∃ m',m=m'+1:=⟨m - 1,by omega⟩
  simp only [AD] at hl hm h2
  simp only [Gq.l0,List.map_cons]
  rw [GY (by omega),cond_true,DT,Aj,Aj,JL,Aj,Js (by simp only [AD,Be];omega),Aj,wiC _ (by omega) (by omega)]
  have ih:=Axz J l0 t (D++[none]) m (r++[some (Mt x)]) (by simp;omega) (by omega) h1 (by simp;omega)
  rw [show D++[none]++t.map some=D++none :: t.map some by simp,show ((D++[(none:Option LM)]).length:Int)=(D.length:Int)+1 by simp] at ih
  refine (show _=_ from ih).trans ?_
  rw [Cj]
  rfl
theorem Afg {cx:GCx} {d:Nat}:∀ (l:List Tree) (lo:List ByteArray) (p nx:Nat),(∀ x ∈ l,IsS x∨Jp x)→(Gn cx d lo p nx l).length≤5 * At l
 | [],_,_,_,_=>Nat.zero_le _
 | x :: l,lo,p,nx,hI=>by
  have ih:=fun lo p nx=>Afg (cx:=cx) (d:=d) l lo p nx fun y hy=>hI y (CV _ hy)
  have hxp:=ED x
  unfold Gn
  simp only [At]
  split
  ·have:=ih lo (p+3) (nx+1)
   simp only [AD]
   omega
  ·rename_i h31
   have hx:IsS x:=(hI x (Cy ..)).elim id fun h=>by obtain ⟨_,_,_,_,rfl,_⟩:=Pb h;exact absurd rfl h31
   have:=Uu (cx:=cx) d lo (p+1) x hx
   have:=ih (Ch cx d lo (p+1) x).2 (p+1+(Ch cx d lo (p+1) x).1.length) nx
   simp only [AD,AM]
   omega
theorem A3f {cx:GCx} {d j kk:Nat} (hk:500070+5 * d≤j) (l:List Tree) (t:ByteArray) (n a:Int) (U:List Dh) (hI:∀ x ∈ l,IsS x∨Jp x) (hg:E5 l) (hd:At l≤d) (hd9:d≤85000) (hU:okU cx.gl cx.src d l U) (hcs:cx.cs.length≤400000) (hgl:cx.gl.length≤400000) (hsrc:cx.src.size≤400000)
  (hn:holes 0 (Gn cx d [] 0 1 l)=[]):∃ nx',F3.g (GS.at (j+1)) kk cx.cs [] cx.src cx.gl [] [] 1 (none :: U.map some) 20 t n a l=some (Cc 0 (Gn cx d [] 0 1 l)++[i0 22]++[i0 25],[],[],nx',none :: (IJ cx.gl cx.src d l U).map some):=by
 have hs:=DR l
 have hB:BdX cx [] ([]:Cd).length [] (At l):=⟨hcs,hgl,hsrc,by show 0+_≤_;omega,by show 0+_≤_;omega,by show 0+0+_≤_;omega⟩
 obtain ⟨i,rfl⟩:∃ i,j=i+4:=⟨j - 4,by omega⟩
 have hlen:=Afg (cx:=cx) (d:=d) l [] 0 1 hI
 obtain ⟨lo',nx',e1,e2⟩:=Afi (Xh d (i+4) (by omega)).1 (fun lo c D T u x h1 h2 h3 h4 h5 h6 h7 h8=>A7f (by omega) lo c D T u x h1 h2 h3 h4 h5 h6 h7 h8) (fun (l2:Cd) (l7:Ag) (l12:TyL) (x17:Int) (l18:List (Option Dh))=>(D8 l7 (0:Int) ((([]:Ag).length:Nat):Int)).bind fun l24=>some (l2,l24,l12,x17,l18)) l [] [] [] [none] U (i+4) (by omega) (by simp only [Be];omega) hI hg hd (by simp only [AD,Be];omega) hU hB hn
 refine ⟨nx',?_⟩
 unfold F3.g
 have hblk:(GS.at (i+4+1)).D2 cx.cs [] cx.src cx.gl [] [] 1 (none :: U.map some) 20 t n a l=some (Cc 0 (Gn cx d [] 0 1 l),[],[],nx',none :: (IJ cx.gl cx.src d l U).map some):=by
  show D2.g (GS.at (i+4)) (i+4) cx.cs [] cx.src cx.gl [] [] 1 (none :: U.map some) 20 t n a l=_
  unfold D2.g
  dsimp only [BA]
  refine (show _=_ from e2).trans ?_
  rw [U1 e1,Aj,U3 e1]
  rfl
 rw [hblk,Aj,add0 _ _ _ (by rw [FZ];unfold mx;omega),Aj,add0 _ _ _ (by rw [AM,FZ];simp only [AD,Be];unfold mx;omega),Aj]
theorem gen_eq (k:Nat) (hk:950000≤k) (s:ByteArray):Gq.fS k s=some (Ym s):=by
 unfold Gq.fS Gq.f Ym
 rw [check_eq k (by omega),Au4 k (by omega),Aj,Aj]
 rcases Aut s with ⟨c,p,hc,he⟩ | ⟨n,he,hw,hz,hI,hs⟩
 ·rw [he]
  unfold Nf
  simp only
  rw [if_pos hc,if_pos hc]
  simp only
  rw [show (c != 0)=true by rw [bne_iff_ne];exact hc,cond_true]
  rfl
 ·rw [he]
  unfold PM
  simp only [ne_eq,not_true_eq_false,if_false]
  obtain ⟨hg,_⟩:=Af5 hw
  have e:Tree.mk n.kind n.text n.n n.at_ n.kids=n:=by cases n;rfl
  rw [e]
  cases hn:Ob 100000 n with
  | bad e =>
   have he:e.1≠0:=by
    unfold Ob at hn
    split at hn
    ·cases hn;show (6:Int)≠0;decide
    ·have:=(Atm (by omega) hg hn).1
     omega
   simp only [Ad8]
   rw [show (e.1 != 0)=true by rw [bne_iff_ne];exact he,cond_true]
   rfl
  | ok s' =>
   have hn':=hn
   unfold Ob at hn
   split at hn
   ·cases hn
   cases hI with
   | chunk hI =>
    rename_i t0 l _ _
    obtain ⟨_,_,hT⟩:=hw
    have hg':=hg
    obtain ⟨_,hgl⟩:=hg
    have h20:=hn
    unfold C9 at h20
    rw [if_pos rfl] at h20
    obtain ⟨s1,h1,h20⟩:=Cl h20
    simp only [sz] at hz
    have hpp:=(Ha hg' hn).pot
    obtain ⟨HA,e1,e2,e3⟩:=Afj (gl:=s'.gl) (src:=s) (d:=dG) _ _ st0 s1 hI hT hgl h1 rfl (by show 1+0+0+0+_+_≤_;omega)
    cases h20
    obtain ⟨fs,gl,sl,cs,lo,lp⟩:=s1
    have e1:fs=(⟨#[]⟩,0,0,0,[]) :: HA:=e1
    subst e1
    simp only [pot,sz,st0,AD,Be] at hpp
    obtain ⟨j,rfl⟩:∃ j,k=j+1:=⟨k - 1,by omega⟩
    obtain ⟨nx',hc⟩:=A3f (cx:=⟨cs,gl,s⟩) (d:=dG) (j:=j) (kk:=j+1) (by unfold dG;omega) l t0 _ _ (HA.map Mt) hI hgl (by unfold dG;omega) (by decide) e2 (by show cs.length≤_;omega) (by show gl.length≤_;omega) (by show s.size≤_;omega) (e3 cs [] 0 1)
    have hu:=fun (a:Int) J=>Axz J ((((⟨#[]⟩,a,0,sl,cs) :: HA:List LM)).map some) ((⟨#[]⟩,a,0,sl,cs) :: HA) [] (j+1) [] (by simp) (by simp only [AD];omega) (by simp only [AD,List.length_map];omega) (by simp only [AD,Be];omega)
    simp only [Ad8,bne_self_eq_false,cond_false,Aj,BA]
    refine (congrArg (fun z=>Option.bind z _) (hu _ _)).trans ?_
    have i0':∀ (x:Option Dh) (T:List (Option Dh)),AZ (x :: T) (0:Int)=some x:=fun _ _=>rfl
    have s0':∀ (x y:Option Dh) (T:List (Option Dh)),Du (x :: T) (0:Int) y=some (y :: T):=fun x y T=>JL [] x y T
    simp only [List.map_cons,List.nil_append,i0',s0',Aj]
    rw [show (HA.map fun x=>some (Mt x))=(HA.map Mt).map some by simp]
    refine (congrArg (fun z=>Option.bind (Option.bind z _) _) hc).trans ?_
    simp only [i0',s0',Aj]
    rw [show ∀ (u:Dh) (U:List Dh),some u :: U.map some=(u :: U).map some from fun _ _=>rfl,Aiq]
    rfl
abbrev Hgt:=Int×List Int
def Sy (op:Int):Option (Nat×Nat) :=
 if op=2∨op=3∨op=4∨op=5∨op=6∨op=8∨op=10∨op=11∨op=14∨op=26 then some (0,1)
 else if op=7∨op=9∨op=19∨op=20∨op=21 then some (1,0)
 else if op=12∨op=17 then some (2,1)
 else if op=16 then some (1,1)
 else if op=27 then some (2,0)
 else if op=32 then some (3,0)
 else if op=1∨op=13∨op=18∨op=31∨op=34 then some (0,0)
 else none
inductive Stp:Hgt→Ins→Hgt→Prop
 | fix {N:Int} {M:List Int} {op a b c:Int} {u v:Nat}:Sy op=some (u,v)→(u:Int)≤N→Stp (N,M) (op,a,b,c) (N - u+v,M)
 | popA {N:Int} {M:List Int} {op a b c:Int}:op=15∨op=28→0≤a→a≤N→Stp (N,M) (op,a,b,c) (N - a,M)
 | forP {N:Int} {M:List Int} {a b c:Int}:0≤c→2+c≤N→Stp (N,M) (30,a,b,c) (N - (2+c),M)
 | inN {N:Int} {M:List Int} {a b c:Int}:0≤c→c≤N→Stp (N,M) (33,a,b,c) (N - c,M)
 | mark {N:Int} {M:List Int} {a b c:Int}:Stp (N,M) (22,a,b,c) (N,M++[N])
 | adj {N n:Int} {M:List Int} {a b c:Int}:0≤a→0≤n→Stp (N,M++[n]) (23,a,b,c) (n+a,M)
 | call {N n:Int} {M:List Int} {a b c:Int}:1≤n→Stp (N,M++[n]) (24,a,b,c) (n - 1+max a 0,M)
 | ret {N n:Int} {M:List Int} {a b c:Int}:0≤n→Stp (N,M++[n]) (25,a,b,c) (n,M)
 | rest {N n:Int} {M:List Int} {a b c:Int}:0≤n→Stp (N,M++[n]) (29,a,b,c) (n,M)
theorem stp {N N':Int} {M:List Int} {op a b c:Int} (u v:Nat) (h:Sy op=some (u,v)) (hn:(u:Int)≤N) (e:N'=N - u+v):Stp (N,M) (op,a,b,c) (N',M):=by
 subst e;exact .fix h hn
def MT (z:Ins):Option Int:=if z.1=18∨z.1=19∨z.1=20∨z.1=21 then some z.2.1 else if z.1=30∨z.1=31∨z.1=33 then some z.2.2.1 else none
structure okH (W:Nat) (h:Hgt):Prop where
 lo:0≤h.1
 hi:h.1≤W
 ml:h.2.length≤W
def hTo (z:Ins) (h h1:Hgt):Hgt:=if z.1=20∨z.1=21 then h else h1
structure okB (W:Nat) (T:List (Nat×Hgt)) (lo hi:Nat) (g:Nat→Hgt) (k:Nat) (z:Ins):Prop where
 ex:∃ h1,Stp (g k) z h1∧okH W h1∧(z.1≠18→z.1≠25→g (k+1)=h1)∧∀ tg,MT z=some tg→∃ m:Nat,tg=m∧((lo≤m∧m≤hi∧g m=hTo z (g k) h1)∨(m,hTo z (g k) h1) ∈ T)
 w:okH W (g k)
 line:z.1=1→g k=(0,[])
def okO (W:Nat) (T:List (Nat×Hgt)) (lo hi:Nat) (g:Nat→Hgt) (k:Nat):Option Ins→Prop
 | none=>g k=(0,[])
 | some z=>okB W T lo hi g k z
theorem okO.mv {W:Nat} {T T':List (Nat×Hgt)} {lo hi lo' hi':Nat} {g g':Nat→Hgt} {k:Nat} {o:Option Ins} (h:okO W T lo hi g k o) (hg:∀ j,lo≤j→j≤hi→g' j=g j) (h1:lo≤k) (h2:k+1≤hi) (h3:lo'≤lo) (h4:hi≤hi') (hT:∀ x ∈ T,x ∈ T'∨(lo'≤x.1∧x.1≤hi'∧g' x.1=x.2)):okO W T' lo' hi' g' k o:=by
 have ek:=hg k h1 (by omega)
 have ek1:=hg (k+1) (by omega) h2
 cases o with
 | none=>show g' k=_;rw [ek];exact h
 | some z =>
  obtain ⟨⟨x,a1,a2,a3,a4⟩,b,c⟩:=(h:okB W T lo hi g k z)
  refine ⟨⟨x,by rw [ek];exact a1,a2,by rw [ek1];exact a3,fun tg hto=>?_⟩,by rw [ek];exact b,by rw [ek];exact c⟩
  obtain ⟨m,e,hm⟩:=a4 tg hto
  refine ⟨m,e,?_⟩
  rw [ek]
  rcases hm with ⟨q1,q2,q3⟩ | q
  ·exact .inl ⟨by omega,by omega,by rw [hg m q1 q2];exact q3⟩
  ·rcases hT _ q with q | ⟨q1,q2,q3⟩
   ·exact .inr q
   ·exact .inl ⟨q1,q2,q3⟩
def BE (W:Nat) (T:List (Nat×Hgt)) (p:Nat) (X:Hx) (h h':Hgt):Prop:=∃ g:Nat→Hgt,g p=h∧g (p+X.length)=h'∧∀ i o,X[i]? = some o→okO W T p (p+X.length) g (p+i) o
abbrev FrX (W:Nat) (p:Nat) (X:Hx) (h h':Hgt):Prop:=BE W [] p X h h'
abbrev Fr (W:Nat) (p:Nat) (c:Cd) (h h':Hgt):Prop:=BE W [] p (CO c) h h'
section
variable {W:Nat} {T T':List (Nat×Hgt)} {p:Nat} {X Y:Hx} {h h' h1:Hgt}
theorem BE.nil:BE W T p [] h h:=⟨fun _=>h,rfl,rfl,fun i o e=>by simp at e⟩
theorem Pq {X:Hx} {i:Nat} {o:Option Ins} (e:X[i]? = some o):i < X.length:=(List.getElem?_eq_some_iff.1 e).1
theorem BE.mono (hf:BE W T p X h h') (hT:∀ x ∈ T,x ∈ T'):BE W T' p X h h':=by
 obtain ⟨g,e1,e2,e3⟩:=hf
 exact ⟨g,e1,e2,fun i o e=>(e3 i o e).mv (fun _ _ _=>rfl) (by omega) (by have:=Pq e;omega) (Nat.le_refl _) (Nat.le_refl _) fun x hx=>.inl (hT x hx)⟩
theorem BE.up (hf:FrX W p X h h'):BE W T p X h h':=hf.mono fun _ hx=>(nomatch hx)
theorem BE.app (hX:BE W T p X h h1) (hY:BE W T (p+X.length) Y h1 h'):BE W T p (X++Y) h h':=by
 obtain ⟨g1,a1,a2,a3⟩:=hX
 obtain ⟨g2,b1,b2,b3⟩:=hY
 refine ⟨fun j=>if j≤p+X.length then g1 j else g2 j,by simp [a1],?_,fun i o e=>?_⟩
 ·rw [AM]
  by_cases hy:Y.length=0
  ·rw [hy,Nat.add_zero] at b2
   simp only [hy,Nat.add_zero,Nat.le_refl,if_true]
   rw [a2,← b1,b2]
  ·show (if p+(X.length+Y.length)≤p+X.length then g1 _ else g2 _)=h'
   rw [if_neg (by omega),← Nat.add_assoc,b2]
 ·by_cases hi:i < X.length
  ·rw [List.getElem?_append_left hi] at e
   refine (a3 i o e).mv (fun j _ h2=>if_pos h2) (by omega) (by omega) (Nat.le_refl _) (by rw [AM];omega) fun x hx=>.inl hx
  ·rw [List.getElem?_append_right (by omega)] at e
   have hl:=Pq e
   have:=b3 _ o e
   rw [show p+X.length+(i - X.length)=p+i by omega] at this
   refine this.mv (fun j h1 _=>?_) (by omega) (by omega) (by omega) (by rw [AM];omega) fun x hx=>.inl hx
   show (if j≤p+X.length then g1 j else g2 j)=g2 j
   by_cases hj:j≤p+X.length
   ·obtain rfl:j=p+X.length:=by omega
    rw [if_pos hj,a2,b1]
   ·rw [if_neg hj]
theorem BE.one {z:Ins} (hs:Stp h z h') (w:okH W h) (w':okH W h') (hj:MT z=none) (hl:z.1=1→h=(0,[])):BE W T p [some z] h h' :=
 ⟨fun j=>if j=p then h else h',by simp,by simp,fun i o e=>by
  have hi:=Pq e
  simp only [AD,Be] at hi
  obtain rfl:i=0:=by omega
  cases e
  refine ⟨⟨h',?_,w',fun _ _=>?_,fun tg ht=>?_⟩,?_,?_⟩
  ·simpa using hs
  ·simp
  ·rw [hj] at ht;cases ht
  ·simpa using w
  ·simpa using hl⟩
theorem BE.jmp {z:Ins} {m:Nat} (hs:Stp h z h') (w:okH W h) (w':okH W h') (hj:MT z=some (m:Int)) (hT:(m,hTo z h h') ∈ T) (hl:z.1≠1) {h2:Hgt} (h2e:z.1=18∨h2=h'):BE W T p [some z] h h2 :=
 ⟨fun j=>if j=p then h else h2,by simp,by simp,fun i o e=>by
  have hi:=Pq e
  simp only [AD,Be] at hi
  obtain rfl:i=0:=by omega
  cases e
  refine ⟨⟨h',?_,w',fun a _=>?_,fun tg ht=>?_⟩,?_,fun e=>absurd e hl⟩
  ·simpa using hs
  ·rcases h2e with e | e
   ·exact absurd e a
   ·simp [e]
  ·rw [hj] at ht
   cases ht
   refine ⟨m,rfl,.inr ?_⟩
   simpa using hT
  ·simpa using w⟩
theorem BE.hole:BE W T p [none] (0,[]) h' :=
 ⟨fun j=>if j=p then (0,[]) else h',by simp,by simp,fun i o e=>by
  have hi:=Pq e
  simp only [AD,Be] at hi
  obtain rfl:i=0:=by omega
  cases e
  simp [okO]⟩
theorem BE.close (hf:BE W T p X h h') (hT:∀ x ∈ T,x ∈ T'∨x=(p,h)∨x=(p+X.length,h')):BE W T' p X h h':=by
 obtain ⟨g,e1,e2,e3⟩:=hf
 refine ⟨g,e1,e2,fun i o e=>(e3 i o e).mv (fun _ _ _=>rfl) (by omega) (by have:=Pq e;omega) (Nat.le_refl _) (Nat.le_refl _) fun x hx=>?_⟩
 rcases hT x hx with h | rfl | rfl
 ·exact .inl h
 ·exact .inr ⟨Nat.le_refl _,by omega,e1⟩
 ·exact .inr ⟨by omega,Nat.le_refl _,e2⟩
theorem BE.fill {m:Nat} (hf:BE W T p X h h') (hT:(m,((0:Int),([]:List Int))) ∈ T) {Y:Hx} (hl:Y.length=X.length) (hY:∀ (i:Nat) o,X[i]? = some o→Y[i]? = some o∨(o=none∧Y[i]? = some (some (i1 18 m)))):BE W T p Y h h':=by
 obtain ⟨g,e1,e2,e3⟩:=hf
 refine ⟨g,e1,by rw [hl];exact e2,fun i o e=>?_⟩
 have hi:=Pq e
 rw [hl] at hi ⊢
 rcases hY i _ (List.getElem?_eq_getElem hi) with h | ⟨ho,h⟩
 ·rw [e] at h
  exact e3 i o (by rw [List.getElem?_eq_getElem hi,Ap h])
 ·rw [e] at h
  cases h
  have h0:g (p+i)=(0,[]):=by
   have:=e3 i _ (List.getElem?_eq_getElem hi)
   rw [ho] at this
   exact this
  have ok0:okH W (0,[]):=⟨Int.le_refl _,by simp,Nat.zero_le _⟩
  refine ⟨⟨(0,[]),?_,ok0,fun a=>absurd rfl a,fun tg ht=>?_⟩,by rw [h0];exact ok0,fun e=>?_⟩
  ·rw [h0]
   exact stp 0 0 rfl (by simp) (by simp)
  ·cases ht
   exact ⟨m,rfl,.inr (by rw [h0];exact hT)⟩
  ·exact absurd e (by show ¬ (18:Int)=1;decide)
theorem BE.A6t {m:Nat} (hf:BE W T p X h h') (hT:(m,((0:Int),([]:List Int))) ∈ T):BE W T p (CO (Go.Proofs.YtkdjiehclahliaaGreatDoor.Cc (m:Int) X)) h h':=by
 refine hf.fill hT (by rw [Gj,FZ]) fun i o e=>?_
 unfold CO Go.Proofs.YtkdjiehclahliaaGreatDoor.Cc
 rw [List.getElem?_map,List.getElem?_map,e]
 cases o with
 | none=>exact .inr ⟨rfl,rfl⟩
 | some z=>exact .inl rfl
theorem Bo3 {c c':Cd}:CO (c++c')=CO c++CO c':=List.map_append ..
theorem Fr.app {c c':Cd} (hX:BE W T p (CO c) h h1) (hY:BE W T (p+c.length) (CO c') h1 h'):BE W T p (CO (c++c')) h h':=by
 rw [Bo3]
 exact BE.app hX (by rw [Gj];exact hY)
theorem Fr.cons {z:Ins} {c:Cd} (hX:BE W T p [some z] h h1) (hY:BE W T (p+1) (CO c) h1 h'):BE W T p (CO (z :: c)) h h':=BE.app (X:=[some z]) hX hY
end
def Wx (op:Int):Bool:=!(decide (op=1) || decide (op=18) || decide (op=19) || decide (op=20) || decide (op=21) || decide (op=30) || decide (op=31) || decide (op=33))
theorem noj {z:Ins} (h:Wx z.1=true):MT z=none∧z.1≠1:=by
 unfold Wx at h
 simp only [Bool.not_eq_true',Bool.or_eq_false_iff,decide_eq_false_iff_not] at h
 unfold MT
 rw [if_neg (by omega),if_neg (by omega)]
 exact ⟨rfl,h.1.1.1.1.1.1.1⟩
section
variable {W:Nat} {T:List (Nat×Hgt)} {p:Nat} {M:List Int}
theorem st1 {op a b c N N':Int} (u v:Nat) (h:Sy op=some (u,v)) (hj:Wx op=true) (hn:(u:Int)≤N) (e:N'=N - u+v) (b1:N≤W) (b2:N'≤W) (b3:M.length≤W):BE W T p [some (op,a,b,c)] (N,M) (N',M) :=
 BE.one (stp u v h hn e) ⟨by show 0≤N;omega,b1,b3⟩ ⟨by show 0≤N';omega,b2,b3⟩ (noj (z:=(op,a,b,c)) hj).1 fun x=>absurd x (noj (z:=(op,a,b,c)) hj).2
theorem Up {N:Int} (h0:0≤N) (b1:N≤W) (b3:M.length+1≤W):BE W T p [some (i0 22)] (N,M) (N,M++[N]) :=
 BE.one .mark ⟨h0,b1,by show M.length≤W;omega⟩ ⟨h0,b1,by show (M++[N]).length≤W;simpa using b3⟩ rfl fun x=>absurd x (by show ¬ (22:Int)=1;decide)
theorem Aez {op a b c N N':Int} (ho:op=15∨op=28) (ha:0≤a) (hn:a≤N) (e:N'=N - a) (b1:N≤W) (b3:M.length≤W):BE W T p [some (op,a,b,c)] (N,M) (N',M):=by
 subst e
 exact BE.one (.popA ho ha hn) ⟨by show 0≤N;omega,b1,b3⟩ ⟨by show 0≤N - a;omega,by show N - a≤W;omega,b3⟩ (noj (z:=(op,a,b,c)) (by rcases ho with rfl | rfl <;> rfl)).1 fun x=>absurd x (by show ¬ op=1;omega)
theorem Aw4 {N n a N':Int} (hn:1≤n) (e:N'=n - 1+max a 0) (h0:0≤N) (b1:N≤W) (b2:N'≤W) (b3:M.length+1≤W):BE W T p [some (i1 24 a)] (N,M++[n]) (N',M):=by
 subst e
 exact BE.one (.call hn) ⟨h0,b1,by show (M++[n]).length≤W;simpa using b3⟩ ⟨by show 0≤n - 1+max a 0;omega,b2,by show M.length≤W;omega⟩ rfl fun x=>absurd x (by show ¬ (24:Int)=1;decide)
theorem Brx {N n a N':Int} (hn:0≤n) (ha:0≤a) (e:N'=n+a) (h0:0≤N) (b1:N≤W) (b2:N'≤W) (b3:M.length+1≤W):BE W T p [some (i1 23 a)] (N,M++[n]) (N',M):=by
 subst e
 exact BE.one (.adj ha hn) ⟨h0,b1,by show (M++[n]).length≤W;simpa using b3⟩ ⟨by show 0≤n+a;omega,b2,by show M.length≤W;omega⟩ rfl fun x=>absurd x (by show ¬ (23:Int)=1;decide)
theorem Bry {N n a:Int} (hn:0≤n) (h0:0≤N) (b1:N≤W) (b2:n≤W) (b3:M.length+1≤W):BE W T p [some (i1 29 a)] (N,M++[n]) (n,M) :=
 BE.one (.rest hn) ⟨h0,b1,by show (M++[n]).length≤W;simpa using b3⟩ ⟨hn,b2,by show M.length≤W;omega⟩ rfl fun x=>absurd x (by show ¬ (29:Int)=1;decide)
theorem Brz {N n:Int} (hn:0≤n) (h0:0≤N) (b1:N≤W) (b2:n≤W) (b3:M.length+1≤W):BE W T p [some (i0 25)] (N,M++[n]) (n,M) :=
 BE.one (.ret hn) ⟨h0,b1,by show (M++[n]).length≤W;simpa using b3⟩ ⟨hn,b2,by show M.length≤W;omega⟩ rfl fun x=>absurd x (by show ¬ (25:Int)=1;decide)
end
def wid (r:Int) (x:Tree):Int:=if x.kind=8 then max r 0 else 1
theorem Ns {x:Tree}:wid 1 x=1:=by unfold wid;split <;> rfl
theorem Ayw {r:Int} {x:Tree} (h:r≤1):0≤wid r x∧wid r x≤1:=by unfold wid;split <;> omega
def LQ (W:Nat) (f:Int→Nat→Tree→Cd) (x:Tree):Prop:=∀ (r:Int) (p:Nat) (N:Int) (M:List Int),r≤1→0≤N→N+4 * sz x≤W→M.length+4 * sz x≤W→Fr W p (f r p x) (N,M) (N+wid r x,M)
section
variable {W:Nat} {f:Int→Nat→Tree→Cd}
theorem Qo:∀ (l:List Tree) (p:Nat) (N:Int) (M:List Int),(∀ x ∈ l,LQ W f x)→0≤N→N+4 * At l≤W→M.length+4 * At l≤W→Fr W p (D6 (f 1) p l) (N,M) (N+l.length,M)
 | [],p,N,M,_,_,_,_=>by
  simp only [Be,D6]
  rw [show N+((0:Nat):Int)=N by omega]
  exact BE.nil
 | x :: l,p,N,M,h,h0,h1,h2=>by
  simp only [At] at h1 h2
  have:=ED x
  have k1:=h x (Cy ..) 1 p N M (Int.le_refl _) h0 (by omega) (by omega)
  rw [Ns] at k1
  have k2:=Qo l (p+(f 1 p x).length) (N+1) M (fun y hy=>h y (CV _ hy)) (by omega) (by omega) (by omega)
  rw [AD,show N+((l.length+1:Nat):Int)=N+1+l.length by omega]
  exact Fr.app k1 k2
theorem W6:∀ (l:List Tree) (p:Nat) (N:Int) (M:List Int),(∀ x ∈ l,LQ W f x)→0≤N→N+4 * At l≤W→M.length+4 * At l≤W→∃ N',N≤N'∧N'≤N+l.length∧Fr W p (JG f p l) (N,M) (N',M)
 | [],p,N,M,_,_,_,_=>⟨N,Int.le_refl _,by simp,BE.nil⟩
 | [x],p,N,M,h,h0,h1,h2=>by
  simp only [At] at h1 h2
  have hw:=Ayw (r:=-1) (x:=x) (by decide)
  exact ⟨N+wid (-1) x,by omega,by simp only [AD,Be];omega,h x (Cy ..) (-1) p N M (by decide) h0 (by omega) (by omega)⟩
 | x :: y :: l,p,N,M,h,h0,h1,h2=>by
  rw [At] at h1 h2
  have:=ED x
  have k1:=h x (Cy ..) 1 p N M (Int.le_refl _) h0 (by omega) (by omega)
  rw [Ns] at k1
  obtain ⟨N',a1,a2,a3⟩:=W6 (y :: l) (p+(f 1 p x).length) (N+1) M (fun y hy=>h y (CV _ hy)) (by omega) (by omega) (by omega)
  exact ⟨N',by omega,by rw [AD];omega,Fr.app k1 a3⟩
theorem A2t {x:Tree} {l:List Tree} {res:Int} {p:Nat} {N:Int} {M:List Int} (h:∀ y ∈ x :: l,LQ W f y) (h0:0≤N) (hr:N+max res 0≤W) (h1:N+4 * At (x :: l)+4≤W) (h2:M.length+4 * At (x :: l)+4≤W):Fr W p (Ss f res p (x :: l)) (N,M) (N+max res 0,M):=by
 simp only [At] at h1 h2
 have:=ED x
 have hs:=DR l
 have k1:=h x (Cy ..) 1 p N M (Int.le_refl _) h0 (by omega) (by omega)
 rw [Ns] at k1
 obtain ⟨N',a1,a2,a3⟩:=W6 (f:=f) l (p+(f 1 p x).length+1) (N+1) (M++[N+1]) (fun y hy=>h y (CV _ hy)) (by omega) (by omega) (by rw [AM,List.length_singleton];omega)
 show Fr W p (f 1 p x++i0 22 :: (JG f (p+(f 1 p x).length+1) l++[i1 24 res])) _ _
 refine Fr.app k1 (Fr.cons (Up (by omega) (by omega) (by omega)) (Fr.app a3 ?_))
 exact Fr.cons (Aw4 (by omega) (by omega) (by omega) (by omega) (by omega) (by omega)) BE.nil
theorem Axc {w key:Int} {p:Nat} {N:Int} {M:List Int} (hw:0≤w) (h0:0≤N) (h1:N+w≤W) (h2:M.length≤W):Fr W p (Jj w key) (N+w,M) (N,M):=by
 unfold Jj
 split
 ·exact Fr.cons (Aez (.inr rfl) hw (by omega) (by omega) (by omega) h2) BE.nil
 ·obtain rfl:w=0:=by omega
  rw [show N+(0:Int)=N by omega]
  exact BE.nil
theorem Axl {rest:Bool}:∀ (l:List Tree) (p:Nat) (w key N:Int) (M:List Int),(∀ x ∈ l,K5 x)→(∀ x ∈ l,∀ y ∈ x.kids,LQ W f y)→0≤w→0≤N→N+w+4 * At l+2≤W→M.length+4 * At l+2≤W→Fr W p (I9 f rest p w key l) (N+w,M) (N,M)
 | [],p,w,key,N,M,_,_,hw,h0,h1,h2=>Axc hw h0 (by omega) (by omega)
 | x :: l,p,w,key,N,M,hF,h,hw,h0,h1,h2=>by
  simp only [At] at h1 h2
  have ih:=fun p w key=>Axl (rest:=rest) l p w key N M (fun y hy=>hF y (CV _ hy)) (fun y hy=>h y (CV _ hy))
  have hx:=h x (Cy ..)
  rcases Q9 (hF x (Cy ..)) with ⟨tx,n,a,y,rfl,hy⟩ | ⟨tx,n,a,y,u,rfl,hy,hu⟩
  ·have ty:=hx y (Cy ..)
   simp only [sz,At] at h1 h2
   have:=ED y
   simp only [I9,Wc,Wb,show BW [y] 0=y from rfl,Int.reduceEq,if_false]
   split
   ·have hwd:=Ayw (r:=-1) (x:=y) (by decide)
    refine Fr.app (Axc hw h0 (by omega) (by omega)) (Fr.cons (Up h0 (by omega) (by omega)) (Fr.app (ty (-1) _ N (M++[N]) (by decide) h0 (by omega) (by rw [AM,List.length_singleton];omega)) ?_))
    exact Fr.cons (Bry h0 (by omega) (by omega) (by omega) (by omega)) BE.nil
   have k1:=ty 1 p (N+w) M (Int.le_refl _) (by omega) (by omega) (by omega)
   rw [Ns] at k1
   split
   ·rename_i h50
    refine Fr.app k1 (Fr.cons (Aez (.inr rfl) (by decide) (by omega) (N':=N+0) (by omega) (by omega) (by omega)) ?_)
    exact ih _ 0 _ (Int.le_refl _) h0 (by omega) (by omega)
   ·rw [Int.add_assoc] at k1
    exact Fr.app k1 (ih _ (w+1) _ (by omega) h0 (by omega) (by omega))
  ·have k1:=Qo (f:=f) [y,u] p (N+w) M hx (by omega)
   simp only [sz,At,Nat.add_zero] at h1 h2 k1
   have:=ED y
   have:=ED u
   simp only [I9,Wc,Wb,if_true]
   refine Fr.app (k1 (by omega) (by omega)) (Fr.cons (st1 2 0 rfl rfl (by simp only [AD,Be];omega) (N':=N+w) (by simp only [AD,Be];omega) (by simp only [AD,Be];omega) (by omega) (by omega)) ?_)
   exact ih _ w _ hw h0 (by omega) (by omega)
end
theorem LW {W:Nat} {cx:GCx} {lo:List ByteArray}:∀ (d:Nat) (t:Tree),IsE t→sz t≤d→LQ W (AW cx lo d) t
 | 0,t,_,hd=>by have:=ED t;omega
 | d+1,t,hI,hd=>fun r p N M hr h0 h1 h2=>by
  have KE:∀ {l:List Tree},(∀ x ∈ l,IsE x)→At l≤d→∀ x ∈ l,LQ W (AW cx lo d) x:=fun hl hs x hx=>LW d x (hl x hx) (Nat.le_trans (JN hx) hs)
  have put:∀ (z:Ins),Sy z.1=some (0,1)→Wx z.1=true→Fr W p [z] (N,M) (N+1,M):=fun z e1 e2=>Fr.cons (st1 (op:=z.1) (a:=z.2.1) (b:=z.2.2.1) (c:=z.2.2.2) 0 1 e1 e2 (by omega) (by omega) (by have:=ED t;omega) (by have:=ED t;omega) (by omega)) BE.nil
  cases hI with
  | atom k1 k2 =>
   rename_i k n a t
   have hw:wid r (.mk k t n a [])=1:=by unfold wid;rw [if_neg (by show ¬ k=8;omega)]
   rw [hw]
   obtain rfl | rfl | rfl | rfl | rfl | rfl:k=1∨k=2∨k=3∨k=4∨k=5∨k=6:=by omega
   ·rw [Akp];exact put _ rfl rfl
   ·rw [Akt];exact put _ rfl rfl
   ·rw [Aku];exact put _ rfl rfl
   ·rw [Akv];exact put _ rfl rfl
   ·rw [Akw];exact put _ rfl rfl
   ·rw [Yg]
    unfold Wu
    split
    ·exact put _ rfl rfl
    ·exact put _ rfl rfl
  | index e1 e2 =>
   rename_i n a t x y
   rw [show wid r (.mk 7 t n a [x,y])=1 from rfl,Yh]
   split
   ·exact put _ rfl rfl
   have hl:∀ v ∈ [x,y],IsE v:=fun v hv=>by
    rcases List.mem_cons.1 hv with rfl | hv
    ·exact e1
    ·obtain rfl:=DG.1 hv;exact e2
   simp only [sz] at hd h1 h2
   have:=Qo (f:=AW cx lo d) [x,y] p N M (KE hl (by omega)) h0 (by omega) (by omega)
   simp only [AD,Be] at this
   refine Fr.app this (Fr.cons (st1 2 1 rfl rfl (by omega) (by omega) ?_ (by omega) (by omega)) BE.nil)
   simp only [At] at h1
   have:=ED x
   omega
  | call e1 e2 =>
   rename_i n a t x l
   rw [show wid r (.mk 8 t n a (x :: l))=max r 0 from rfl,Yj]
   have hl:∀ v ∈ x :: l,IsE v:=fun v hv=>by
    rcases List.mem_cons.1 hv with rfl | hv
    ·exact e1
    ·exact e2 v hv
   simp only [sz] at hd h1 h2
   exact A2t (KE hl (by omega)) h0 (by omega) (by omega) (by omega)
  | paren e1 =>
   rename_i n a t x
   rw [show wid r (.mk 9 t n a [x])=1 from rfl,Akx]
   simp only [sz,At] at hd h1 h2
   have:=LW (W:=W) (cx:=cx) (lo:=lo) d x e1 (by omega) 1 p N M (Int.le_refl _) h0 (by omega) (by omega)
   rwa [Ns] at this
  | unary e1 =>
   rename_i n a t x
   rw [show wid r (.mk 10 t n a [x])=1 from rfl,Yf]
   simp only [sz,At] at hd h1 h2
   have:=LW (W:=W) (cx:=cx) (lo:=lo) d x e1 (by omega) 1 p N M (Int.le_refl _) h0 (by omega) (by omega)
   rw [Ns] at this
   exact Fr.app this (Fr.cons (st1 1 1 rfl rfl (by omega) (by omega) (by omega) (by omega) (by omega)) BE.nil)
  | binary e1 e2 =>
   rename_i n a t x y
   rw [show wid r (.mk 11 t n a [x,y])=1 from rfl,Akq]
   simp only [sz,At] at hd h1 h2
   have:=ED x
   have kx:=LW (W:=W) (cx:=cx) (lo:=lo) d x e1 (by omega) 1 p N M (Int.le_refl _) h0 (by omega) (by omega)
   have ky:=fun q N h0 h1=>LW (W:=W) (cx:=cx) (lo:=lo) d y e2 (by omega) 1 q N M (Int.le_refl _) h0 h1 (by omega)
   rw [Ns] at kx
   simp only [Ns] at ky
   unfold Sq
   split
   ·refine Fr.app (Fr.app kx (ky _ (N+1) (by omega) (by omega))) ?_
    exact Fr.cons (st1 2 1 rfl rfl (by omega) (by omega) (by omega) (by omega) (by omega)) BE.nil
   ·refine Fr.app kx ?_
    have hop:∃ o:Int,(o=20∨o=21)∧(if t.toList == W7.toList then (21:Int) else 20)=o:=⟨_,by split <;> simp,rfl⟩
    obtain ⟨o,ho,e⟩:=hop
    rw [e]
    have k:=ky (p+(AW cx lo d 1 p x).length+1) N h0 (by omega)
    have hj:BE W [(p+(AW cx lo d 1 p x).length+1+(AW cx lo d 1 (p+(AW cx lo d 1 p x).length+1) y).length,(N+1,M))] (p+(AW cx lo d 1 p x).length) [some (i1 o ((p+(AW cx lo d 1 p x).length+1+(AW cx lo d 1 (p+(AW cx lo d 1 p x).length+1) y).length:Nat):Int))] (N+1,M) (N,M):=by
     refine BE.jmp (h':=(N,M)) (stp 1 0 (by rcases ho with rfl | rfl <;> rfl) (by omega) (by omega)) ⟨by show 0≤N+1;omega,by show N+1≤W;omega,by show M.length≤W;omega⟩ ⟨h0,by show N≤W;omega,by show M.length≤W;omega⟩ (by rcases ho with rfl | rfl <;> rfl) ?_ (by show ¬ o=1;omega) (.inr rfl)
     unfold hTo
     rw [if_pos (by exact ho)]
     exact DG.2 rfl
    refine BE.close (Fr.cons hj (BE.up k)) fun q hq=>.inr (.inr ?_)
    rw [DG.1 hq,Gj,AD]
    simp only [Prod.mk.injEq,and_true]
    omega
  | table hF =>
   rename_i n a t l
   rw [show wid r (.mk 12 t n a l)=1 from rfl,Akr]
   simp only [sz] at hd h1 h2
   refine Fr.cons (st1 0 1 rfl rfl (by omega) (N':=N+1+0) (by omega) (by omega) (by omega) (by omega)) ?_
   refine Axl l _ 0 1 (N+1) M hF (fun x hx y hy=>?_) (Int.le_refl _) (by omega) (by omega) (by omega)
   have hs:=JN hx
   refine LW d y ?_ ?_
   ·rcases Q9 (hF x hx) with ⟨_,_,_,_,rfl,h3⟩ | ⟨_,_,_,_,_,rfl,h3,h4⟩
    ·obtain rfl:=DG.1 hy;exact h3
    ·rcases List.mem_cons.1 hy with rfl | hy
     ·exact h3
     ·obtain rfl:=DG.1 hy;exact h4
   ·have:sz y≤At x.kids:=JN hy
    cases x
    simp only [sz] at hs
    simp only [Tree.kids] at this
    omega
end
end Go.Proofs.YtkdjiehclahliaaGreatDoor
