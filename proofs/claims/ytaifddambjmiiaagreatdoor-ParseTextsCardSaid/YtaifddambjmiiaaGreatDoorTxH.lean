/- Texts of mine for parseTexts_card, part 8. -/
import Derived.Test.YtaifddambjmiiaaGreatDoorTxG
set_option linter.unusedSimpArgs false
set_option linter.unusedVariables false
set_option linter.unusedSectionVars false
namespace Go.Proofs.YtaifddambjmiiaaGreatDoor
set_option maxRecDepth 100000
section
open Go Go.RowKit
theorem C_:G0 Tryz.prog 49 9 1 16 Tryz.t9 (D noS):=⟨by kernel_rfl,by kernel_rfl,by kernel_rfl,by kernel_rfl,by kernel_rfl,by kernel_rfl,by decide⟩
structure LA where
 Bc:List Ah->Int->Ah->Int->Int->List Tree->Option (List Ah)
 Dl:List Ah->List Tree->Option (List Ah)
def Bc.C (fC:D9->Int->Ah->Int->Int->List Tree->Option D9):Prop:=∀ {a0 r:D9} {AV B5 BW:Int} {B1:Ah} {AI:List Tree} {IJ DR:Am} {F2 Ch:AG} {F4 Ci:Nat} (h:fC a0 AV B1 B5 BW AI=some r) (Ea:AC encS 9 1 IJ (W F2 a0 F4) a0) (BP:RdR (AM 34) DR (W Ch AI Ci) AI),Ct Tryz.prog 13 #[W F2 a0 F4,.agg #[V AV,D B1,V B5,V BW,W Ch AI Ci]] [IJ] [DR] (λe l1=>∃ (H0_:Am) (A0_:AG) (c0_:Nat),AC encS 9 1 H0_ (W A0_ r c0_) r/\e=.returned (W A0_ r c0_)/\l1=[H0_])
def Dl.C (fC:D9->List Tree->Option D9):Prop:=∀ {a0 r:D9} {a1:List Tree} {IJ Hx:Am} {F2 Fk:AG} {F4 Fm:Nat} (h:fC a0 a1=some r) (Ea:AC encS 9 1 IJ (W F2 a0 F4) a0) (KV:RdR (AM 34) Hx (W Fk a1 Fm) a1),Ct Tryz.prog 28 #[W F2 a0 F4,W Fk a1 Fm] [IJ] [Hx] (λe l1=>∃ (H0_:Am) (A0_:AG) (c0_:Nat),AC encS 9 1 H0_ (W A0_ r c0_) r/\e=.returned (W A0_ r c0_)/\l1=[H0_])
structure LA.Good (R:LA):Prop where
 Bc:Bc.C R.Bc
 Dl:Dl.C R.Dl
def Bc.l1:Nat->(Rc:LA)->(AI:List Tree)->(Mw:(List Ah)->Option (List Ah))->(Ps:List Ah)->(KG:Int)->Option (List Ah)
 | 0,_,_,_,_,_=>none
 | RP+1,Rc,AI,Mw,Ps,KG=>cond (decide ((Ar (KG+1)) < ((AI.length:Nat):Int))) (A2 (λ(XF:D9)=>(Bm AI KG).bind λKH=>(Bm AI (Ar (KG+1))).bind λKI=>(Rc.Bc XF KH.kind KH.text KH.n KH.at_ KH.kids).bind λAn6=>(apd 16 An6 [(⟨#[116,104,101,110]⟩:Ah)]).bind λAjo=>(Rc.Bc Ajo KI.kind KI.text KI.n KI.at_ KI.kids).bind λSs=>Bc.l1 RP Rc AI Mw Ss (Ar (KG+2))) (λTe=>cond (KG == 0) ((apd 16 Ps [(⟨#[105,102]⟩:Ah)]).bind λXG=>Te XG) ((apd 16 Ps [(⟨#[101,108,115,101,105,102]⟩:Ah)]).bind λXH=>Te XH))) (Mw Ps)
def Bc.l0:Nat->(Rc:LA)->(AI:List Tree)->(Mv:(List Ah)->Option (List Ah))->(R7:List Ah)->(Qu:Int)->Option (List Ah)
 | 0,_,_,_,_,_=>none
 | RO+1,Rc,AI,Mv,R7,Qu=>cond (decide (Qu < ((AI.length:Nat):Int))) ((Bm AI Qu).bind λQv=>(Rc.Bc R7 Qv.kind Qv.text Qv.n Qv.at_ Qv.kids).bind λAn4=>(apd 16 An4 [(⟨#[59]⟩:Ah)]).bind λXC=>Bc.l0 RO Rc AI Mv XC (Ar (Qu+1))) (Mv R7)
def Bc.g (Rc:LA) (k:Nat) (a0:D9) (AV:Int) (B1:Ah) (B5:Int) (BW:Int) (AI:List Tree):Option D9:=A2 (λ(l2:D9)=>(D1 AI 0 B5).bind λl8=>(Rc.Dl l2 l8).bind λr12=>A2 (λ(l17:D9)=>some (l17)) (λJ22=>cond (decide (((AI.length:Nat):Int) > B5)) ((D1 AI B5 ((AI.length:Nat):Int)).bind λl24=>(apd 16 r12 [(⟨#[61]⟩:Ah)]).bind λl29=>(Rc.Dl l29 l24).bind λr34=>J22 r34) (J22 r12))) (λJ7=>cond (AV == 1) ((apd 16 a0 [(⟨#[110,105,108]⟩:Ah)]).bind λl41=>some (l41)) (cond (AV == 2) ((apd 16 a0 [(⟨#[116,114,117,101]⟩:Ah)]).bind λl48=>some (l48)) (cond (AV == 3) ((apd 16 a0 [(⟨#[102,97,108,115,101]⟩:Ah)]).bind λl55=>some (l55)) (cond (AV == 4) ((GH.f k B5).bind λDd=>(apd 16 a0 [Dd]).bind λH7=>some (H7)) (cond (AV == 5) ((GC.f k B1).bind λr69=>(apd 16 a0 [r69]).bind λl71=>some (l71)) (cond (AV == 6) ((apd 16 a0 [B1]).bind λXM=>some (XM)) (cond (AV == 7) ((Bm AI 0).bind λx84=>(Rc.Bc a0 x84.kind x84.text x84.n x84.at_ x84.kids).bind λr93=>(apd 16 r93 [(⟨#[91]⟩:Ah)]).bind λl99=>(Bm AI 1).bind λx104=>(Rc.Bc l99 x104.kind x104.text x104.n x104.at_ x104.kids).bind λK0=>(apd 16 K0 [(⟨#[93]⟩:Ah)]).bind λX8=>some (X8)) (cond (AV == 8) ((Bm AI 0).bind λQe=>(Rc.Bc a0 Qe.kind Qe.text Qe.n Qe.at_ Qe.kids).bind λGI=>(apd 16 GI [(⟨#[40]⟩:Ah)]).bind λAi1=>(D1 AI 1 ((AI.length:Nat):Int)).bind λAi4=>(Rc.Dl Ai1 Ai4).bind λAmt=>(apd 16 Amt [(⟨#[41]⟩:Ah)]).bind λXA=>some (XA)) (cond (AV == 9) ((Bm AI 0).bind λKD=>(apd 16 a0 [(⟨#[40]⟩:Ah)]).bind λAi7=>(Rc.Bc Ai7 KD.kind KD.text KD.n KD.at_ KD.kids).bind λAmy=>(apd 16 Amy [(⟨#[41]⟩:Ah)]).bind λR5=>some (R5)) (cond (AV == 10) ((Bm AI 0).bind λQh=>(apd 16 a0 [B1]).bind λAjb=>(Rc.Bc Ajb Qh.kind Qh.text Qh.n Qh.at_ Qh.kids).bind λYY=>some (YY)) (cond (AV == 11) ((Bm AI 0).bind λKE=>(Bm AI 1).bind λKF=>(Rc.Bc a0 KE.kind KE.text KE.n KE.at_ KE.kids).bind λAnb=>(apd 16 Anb [B1]).bind λAje=>(Rc.Bc Aje KF.kind KF.text KF.n KF.at_ KF.kids).bind λSr=>some (Sr)) (cond (AV == 12) ((apd 16 a0 [(⟨#[123]⟩:Ah)]).bind λAjg=>(Rc.Dl Ajg AI).bind λAnl=>(apd 16 Anl [(⟨#[125]⟩:Ah)]).bind λR6=>some (R6)) (cond (AV == 13) ((Bm AI 0).bind λQn=>(Rc.Bc a0 Qn.kind Qn.text Qn.n Qn.at_ Qn.kids).bind λZd=>some (Zd)) (cond (AV == 14) ((Bm AI 0).bind λQp=>(apd 16 a0 [(⟨#[91]⟩:Ah)]).bind λAjj=>(Rc.Bc Ajj Qp.kind Qp.text Qp.n Qp.at_ Qp.kids).bind λAnx=>(Bm AI 1).bind λQs=>(apd 16 Anx [(⟨#[93]⟩:Ah),(⟨#[61]⟩:Ah)]).bind λAjk=>(Rc.Bc Ajk Qs.kind Qs.text Qs.n Qs.at_ Qs.kids).bind λZg=>some (Zg)) (cond (AV == 20) (A2 (λ(XB:D9)=>some (XB)) (λMv=>Bc.l0 k Rc AI Mv a0 0)) (cond (AV == 21) ((apd 16 a0 [(⟨#[108,111,99,97,108]⟩:Ah)]).bind λXD=>J7 XD) (cond (AV == 24) (A2 (λ(Up:D9)=>A2 (λ(Ajl:D9)=>(apd 16 Ajl [(⟨#[101,110,100]⟩:Ah)]).bind λXE=>some (XE)) (λTd=>cond ((Int.tmod ((AI.length:Nat):Int) 2) == 1) ((Bm AI (Ar (((AI.length:Nat):Int) - 1))).bind λQw=>(apd 16 Up [(⟨#[101,108,115,101]⟩:Ah)]).bind λAjm=>(Rc.Bc Ajm Qw.kind Qw.text Qw.n Qw.at_ Qw.kids).bind λZi=>Td Zi) (Td Up))) (λMw=>Bc.l1 k Rc AI Mw a0 0)) (cond (AV == 23) ((Bm AI 0).bind λQx=>(Rc.Bc a0 Qx.kind Qx.text Qx.n Qx.at_ Qx.kids).bind λZj=>some (Zj)) (cond (AV == 25) ((Bm AI 0).bind λKJ=>(Bm AI 1).bind λKK=>(apd 16 a0 [(⟨#[119,104,105,108,101]⟩:Ah)]).bind λAjq=>(Rc.Bc Ajq KJ.kind KJ.text KJ.n KJ.at_ KJ.kids).bind λAn7=>(apd 16 An7 [(⟨#[100,111]⟩:Ah)]).bind λAjr=>(Rc.Bc Ajr KK.kind KK.text KK.n KK.at_ KK.kids).bind λAn8=>(apd 16 An8 [(⟨#[101,110,100]⟩:Ah)]).bind λR8=>some (R8)) (cond (AV == 28) ((Bm AI 0).bind λKL=>(apd 16 a0 [(⟨#[100,111]⟩:Ah)]).bind λAjt=>(Rc.Bc Ajt KL.kind KL.text KL.n KL.at_ KL.kids).bind λAob=>(apd 16 Aob [(⟨#[101,110,100]⟩:Ah)]).bind λRA=>some (RA)) (cond (AV == 29) ((apd 16 a0 [(⟨#[98,114,101,97,107]⟩:Ah)]).bind λXI=>some (XI)) (cond (AV == 30) ((apd 16 a0 [(⟨#[114,101,116,117,114,110]⟩:Ah)]).bind λAju=>(Rc.Dl Aju AI).bind λZl=>some (Zl)) (cond (AV == 26) ((Bm AI 0).bind λx595=>(apd 16 a0 [(⟨#[102,111,114]⟩:Ah)]).bind λAjv=>(Rc.Bc Ajv x595.kind x595.text x595.n x595.at_ x595.kids).bind λAod=>(apd 16 Aod [(⟨#[61]⟩:Ah)]).bind λRB=>(D1 AI 1 (Ar (((AI.length:Nat):Int) - 1))).bind λXJ=>(Bm AI (Ar (((AI.length:Nat):Int) - 1))).bind λKM=>(Rc.Dl RB XJ).bind λAoe=>(apd 16 Aoe [(⟨#[100,111]⟩:Ah)]).bind λAjy=>(Rc.Bc Ajy KM.kind KM.text KM.n KM.at_ KM.kids).bind λAoj=>(apd 16 Aoj [(⟨#[101,110,100]⟩:Ah)]).bind λRD=>some (RD)) (cond (AV == 27) ((D1 AI 0 B5).bind λXK=>(apd 16 a0 [(⟨#[102,111,114]⟩:Ah)]).bind λAjz=>(Rc.Dl Ajz XK).bind λAop=>(apd 16 Aop [(⟨#[105,110]⟩:Ah)]).bind λRF=>(D1 AI B5 (Ar (((AI.length:Nat):Int) - 1))).bind λXL=>(Bm AI (Ar (((AI.length:Nat):Int) - 1))).bind λKN=>(Rc.Dl RF XL).bind λAoq=>(apd 16 Aoq [(⟨#[100,111]⟩:Ah)]).bind λAj0=>(Rc.Bc Aj0 KN.kind KN.text KN.n KN.at_ KN.kids).bind λAos=>(apd 16 Aos [(⟨#[101,110,100]⟩:Ah)]).bind λRG=>some (RG)) (cond (AV == 31) ((D1 AI 0 B5).bind λAj3=>(apd 16 a0 [(⟨#[102,117,110,99,116,105,111,110]⟩:Ah),B1,(⟨#[40]⟩:Ah)]).bind λAj4=>(Rc.Dl Aj4 Aj3).bind λZm=>(Bm AI (Ar (((AI.length:Nat):Int) - 1))).bind λKO=>(apd 16 Zm [(⟨#[41]⟩:Ah)]).bind λAj5=>(Rc.Bc Aj5 KO.kind KO.text KO.n KO.at_ KO.kids).bind λAot=>(apd 16 Aot [(⟨#[101,110,100]⟩:Ah)]).bind λRH=>some (RH)) (J7 a0))))))))))))))))))))))))))
set_option maxHeartbeats 4000000 in
theorem Bc.BN {Rc:LA} (hR:Rc.Good) {k:Nat}:Bc.C (Bc.g Rc k):=by
 intro a0 r AV B5 BW B1 AI IJ DR F2 Ch F4 Ci h Ea BP;refine BC (args:=[W F2 a0 F4,.agg #[V AV,D B1,V B5,V BW,W Ch AI Ci]]) Tryz.func13 I (AY I) ?_;intro A X hh_;obtain ⟨Bn,_⟩:=hh_;unfold Bc.g at h;refine K.eq (env':=[(0,W F2 a0 F4),(1,.agg #[V AV,D B1,V B5,V BW,W Ch AI Ci])]) (l':=IJ :: X) I I (ksr (knp #[V AV,D B1,V B5,V BW,W Ch AI Ci] 34 λb1=>(M 1 (AP (M 1 (kld 0 4 I (M 3 (G ?_))))))));obtain ⟨J7,hJ7,h⟩:=By h;refine Bz (τ:=D9×Am×AG×Nat) (λt=>[(0,W t.2.2.1 t.1 t.2.2.2),(3,pt b1)]) (λt=>bk b1 #[V AV,D B1,V B5,V BW,W Ch AI Ci] 34 :: t.2.1 :: X) (λt=>J7 t.1=some r/\AC encS 9 1 t.2.1 (W t.2.2.1 t.1 t.2.2.2) t.1) ?_ ?_;rintro ⟨l2,h3,A4,k5⟩ ⟨h,o6⟩;subst hJ7;refine ksr (M 2 (kld 0 4 I (M 1 (kld 0 2 I (N h λl8 hl8 h=>(Lg (T:=34) (R:=(AM 34)) (xs:=AI) 0 B5 I (by kernel_rfl) (by kernel_rfl) (by kernel_rfl) (.inl ⟨I,I⟩) (.inr ⟨_,.i64,I,(by kernel_rfl)⟩) (by kernel_rfl) (by kernel_rfl) hl8 BP λA9 k10 Jb=>(Ak (N h λr12 LG h=>(AZ (hR.Dl LG o6 Jb) I ⟨(.tail _ Bn),Aj⟩ ?_)))))))));rintro _ _ ⟨h13,EV,k15,o16,rfl,rfl⟩;refine BU (M 1 (G ?_));obtain ⟨J22,V_,h⟩:=By h;refine Bz (τ:=(List Ah)×Am×(Option Addr)×Nat) (λt=>[(0,W t.2.2.1 t.1 t.2.2.2)]) (λt=>t.2.1 :: X) (λt=>J22 t.1=some r/\AC encS 9 1 t.2.1 (W t.2.2.1 t.1 t.2.2.2) t.1) ?_ ?_;rintro ⟨l17,h18,A19,k20⟩ ⟨h,o21⟩;subst V_;refine ksr (M 2 (G (AT ?_)));obtain rfl:=Ap h;exact kdv (W A19 l17 k20) [h18] (Bb ⟨h18,A19,k20,o21,I,I⟩);refine ksr (M 1 (kld 1 4 I (M 2 (kld 1 2 I (M 1 (G ?_))))));refine At h (λh=>?_) λh=>?_;refine kpr [(0,0),(3,0),(4,3),(5,0),(6,3),(7,0),(1,1),(2,1)] [1] (AJ 2 (B7 0 4 rfl (AJ 1 (B7 0 2 rfl (N h λl24 Bb1 h=>(R3 (T:=34) (R:=(AM 34)) (xs:=AI) B5 ((AI.length:Nat):Int) rfl (by kernel_rfl) (by kernel_rfl) (by kernel_rfl) (.inr ⟨_,.i64,rfl,(by kernel_rfl)⟩) (.inl ⟨rfl,rfl⟩) (by kernel_rfl) (by kernel_rfl) Bb1 BP λA25 k26 Kt=>(kpt (E_ #[D (⟨#[61]⟩:Ah)] 9 1 λb28=>(B_ [2] rfl (kpt ?_))))))))));refine Ak (N h λl29 Wj h=>(Er (ys:=[(⟨#[61]⟩:Ah)]) Bg I C_ (by kernel_rfl) (by kernel_rfl) (by kernel_rfl) (by kernel_rfl) Wj o16 (Cp (n:=1) Bg [(⟨#[61]⟩:Ah)] (by kernel_rfl) I (by decide) 1 I) λh30 II k32 Hb=>(B_ [2] I (BF (N h λr34 WN h=>(AZ (hR.Dl WN Hb Kt) I ⟨(t2 Bn),Aj⟩ ?_))))));rintro _ _ ⟨h35,A36,k37,I6,rfl,rfl⟩;exact BU (Ak (Ao (Ak (Ao (M 1 (G (AA (r34,h35,A36,k37) ⟨h,I6⟩ sb I)))))));exact AF (As (Ak (Ao (AA (r12,h13,EV,k15) ⟨h,o16⟩ sb rfl))));refine ksr (M 1 (kld 0 0 I (G (Bq (ksr (M 2 (G ?_)))))));refine At h (λh=>?_) λh=>?_;refine ksr (M 1 (Bl #[D (⟨#[110,105,108]⟩:Ah)] 9 1 λb40=>(Ak (Ao (Ak (N h λl41 Wl h=>(DG (ys:=[(⟨#[110,105,108]⟩:Ah)]) Bg rfl C_ Wl Ea (Cp (n:=1) Bg [(⟨#[110,105,108]⟩:Ah)] (by kernel_rfl) rfl (by decide) 1 rfl) λh42 Nc NQ Sb=>(Ak (Ao (M 1 ?_))))))))));refine G (AT (B3 (Bh ?_)));obtain rfl:=Ap h;exact kdv (W Nc l41 NQ) [h42] (Bb ⟨h42,Nc,NQ,Sb,I,I⟩);refine ksr (M 2 (G ?_));refine At h (λh=>?_) λh=>?_;refine ksr (M 1 (Bl #[D (⟨#[116,114,117,101]⟩:Ah)] 9 1 λb47=>(Ak (Ao (Ak (N h λl48 O_ h=>(DG (ys:=[(⟨#[116,114,117,101]⟩:Ah)]) Bg rfl C_ O_ Ea (Cp (n:=1) Bg [(⟨#[116,114,117,101]⟩:Ah)] (by kernel_rfl) rfl (by decide) 1 rfl) λh49 A50 Lc LX=>(Ak (Ao (M 1 ?_))))))))));refine G (AT (B3 (Bh ?_)));obtain rfl:=Ap h;exact kdv (W A50 l48 Lc) [h49] (Bb ⟨h49,A50,Lc,LX,I,I⟩);refine ksr (M 2 (G ?_));refine At h (λh=>?_) λh=>?_;refine ksr (M 1 (Bl #[D (⟨#[102,97,108,115,101]⟩:Ah)] 9 1 λVq=>(Ak (Ao (Ak (N h λl55 Wm h=>(DG (ys:=[(⟨#[102,97,108,115,101]⟩:Ah)]) Bg rfl C_ Wm Ea (Cp (n:=1) Bg [(⟨#[102,97,108,115,101]⟩:Ah)] (by kernel_rfl) rfl (by decide) 1 rfl) λLB L0 k58 o59=>(Ak (Ao (M 1 ?_))))))))));refine G (AT (B3 (Bh ?_)));obtain rfl:=Ap h;exact kdv (W L0 l55 k58) [LB] (Bb ⟨LB,L0,k58,o59,I,I⟩);refine ksr (M 2 (G ?_));refine At h (λh=>?_) λh=>?_;refine ksr (M 2 (kld 0 2 rfl (Ao (N h λDd NH h=>(CQ (GH.ok NH) trivial (Bl #[D Dd] 9 1 λb62=>(Ak (N h λH7 hl63 h=>(DG (ys:=[Dd]) Bg rfl C_ hl63 Ea (Cp (n:=1) Bg [Dd] (by kernel_rfl) rfl (by decide) 1 rfl) λh64 JO Kg o67=>(Ak ?_))))))))));refine Ao (M 1 (G (AT (B3 (Bh ?_)))));obtain rfl:=Ap h;exact kdv (W JO H7 Kg) [h64] (Bb ⟨h64,JO,Kg,o67,I,I⟩);refine ksr (M 2 (G ?_));refine At h (λh=>?_) λh=>?_;refine ksr (M 2 (kld 0 1 rfl (Ao (N h λr69 hr69 h=>(CQ (GC.ok hr69) trivial (Bl #[D r69] 9 1 λb70=>(Ak (N h λl71 Bdx h=>(DG (ys:=[r69]) Bg rfl C_ Bdx Ea (Cp (n:=1) Bg [r69] (by kernel_rfl) rfl (by decide) 1 rfl) λh72 A73 k74 o75=>(Ak ?_))))))))));refine Ao (M 1 (G (AT (B3 (Bh ?_)))));obtain rfl:=Ap h;exact kdv (W A73 l71 k74) [h72] (Bb ⟨h72,A73,k74,o75,I,I⟩);refine ksr (M 2 (G ?_));refine At h (λh=>?_) λh=>?_;refine ksr (M 2 (kld 0 1 rfl (Ao (Bl #[D B1] 9 1 λb77=>(Ak (N h λXM Bed h=>(DG (ys:=[B1]) Bg rfl C_ Bed Ea (Cp (n:=1) Bg [B1] (by kernel_rfl) rfl (by decide) 1 rfl) λh79 OC k81 Oh=>(Ak (Ao (M 1 ?_))))))))));refine G (AT (B3 (Bh ?_)));obtain rfl:=Ap h;exact kdv (W OC XM k81) [h79] (Bb ⟨h79,OC,k81,Oh,I,I⟩);refine ksr (M 2 (G ?_));refine At h (λh=>?_) λh=>?_;refine ksr (M 2 (kld 0 4 rfl (N h λx84 Blx h=>(DA (T:=34) (kd:=.i64) (R:=(AM 34)) rfl Blx BP λp85 u88 q89 e86 y87=>?_))));obtain ⟨Q5,k91,rfl,Se⟩:=CB 34 q89;refine DH I e86 (t2 Bn) (Ak (N h λr93 Xa h=>(AZ (hR.Bc Xa Ea Se) I ⟨(.tail _ Bn),Aj⟩ ?_)));rintro _ _ ⟨h94,A95,k96,o97,rfl,rfl⟩;refine BU (Bl #[D (⟨#[91]⟩:Ah)] 9 1 λb98=>(Ak (N h λl99 Bep h=>(DG (ys:=[(⟨#[91]⟩:Ah)]) Bg I C_ Bep o97 (Cp (n:=1) Bg [(⟨#[91]⟩:Ah)] (by kernel_rfl) I (by decide) 1 I) λAem UP Xl XY=>(Ak (Ao (M 1 (AP (M 2 (kld 1 4 I ?_))))))))));refine Ak (Ao (N h λx104 hx104 h=>(DA (T:=34) (kd:=.i64) (R:=(AM 34)) I hx104 BP λCjy Cly Bx4 A1y Coo=>?_)));obtain ⟨Q0,Rv,rfl,P3⟩:=CB 34 Bx4;refine DH I A1y (.tail _ Bn) (N h λK0 QW h=>(AZ (hR.Bc QW XY P3) I ⟨Bn,Aj⟩ ?_));rintro _ _ ⟨Aer,ZU,Ahg,RX,rfl,rfl⟩;refine BU (Bl #[D (⟨#[93]⟩:Ah)] 9 1 λCaf=>(Ak (N h λX8 Bbf h=>(DG (ys:=[(⟨#[93]⟩:Ah)]) Bg I C_ Bbf RX (Cp (n:=1) Bg [(⟨#[93]⟩:Ah)] (by kernel_rfl) I (by decide) 1 I) λVN UT Xo RY=>(Ak (Ao (M 1 (G (AT (B3 ?_))))))))));refine Bh ?_;obtain rfl:=Ap h;exact kdv (W UT X8 Xo) [VN] (Bb ⟨VN,UT,Xo,RY,I,I⟩);refine ksr (M 2 (G ?_));refine At h (λh=>?_) λh=>?_;refine ksr (M 2 (kld 0 4 rfl (N h λQe Bjt h=>(DA (T:=34) (kd:=.i64) (R:=(AM 34)) rfl Bjt BP λCj7 Cl2 Bx7 e127 Coq=>?_))));obtain ⟨B31,Cfv,rfl,Brm⟩:=CB 34 Bx7;refine DH I e127 (t2 Bn) (Ak (N h λGI WI h=>(AZ (hR.Bc WI Ea Brm) I ⟨(.tail _ Bn),Aj⟩ ?_)));rintro _ _ ⟨VO,UV,Xq,Yd,rfl,rfl⟩;refine BU (Bl #[D (⟨#[40]⟩:Ah)] 9 1 λCai=>(Ak (N h λAi1 Bbm h=>(DG (ys:=[(⟨#[40]⟩:Ah)]) Bg I C_ Bbm Yd (Cp (n:=1) Bg [(⟨#[40]⟩:Ah)] (by kernel_rfl) I (by decide) 1 I) λCbj B4c Cf6 Brt=>(Ak (Ao (M 1 (AP (M 2 (kld 1 4 I ?_))))))))));refine Ak (Ao (N h λAi4 Bbn h=>(Lg (T:=34) (R:=(AM 34)) (xs:=AI) 1 ((AI.length:Nat):Int) I (by kernel_rfl) (by kernel_rfl) (by kernel_rfl) (.inr ⟨_,.i64,I,(by kernel_rfl)⟩) (.inl ⟨I,I⟩) (by kernel_rfl) (by kernel_rfl) Bbn BP λB4d Cf8 Brv=>(N h λAmt Bfn h=>(AZ (hR.Dl Bfn Brt Brv) I ⟨Bn,Aj⟩ ?_)))));rintro _ _ ⟨Cbo,B4i,Cgc,Brz,rfl,rfl⟩;refine BU (Bl #[D (⟨#[41]⟩:Ah)] 9 1 λCaj=>(Ak (N h λXA Bbp h=>(DG (ys:=[(⟨#[41]⟩:Ah)]) Bg I C_ Bbp Brz (Cp (n:=1) Bg [(⟨#[41]⟩:Ah)] (by kernel_rfl) I (by decide) 1 I) λVP UW Xr Ye=>(Ak (Ao (M 1 (G (AT (B3 ?_))))))))));refine Bh ?_;obtain rfl:=Ap h;exact kdv (W UW XA Xr) [VP] (Bb ⟨VP,UW,Xr,Ye,I,I⟩);refine ksr (M 2 (G ?_));refine At h (λh=>?_) λh=>?_;refine AU (Kp (Xf:=X) [(0,0),(3,0),(4,3),(5,0),(6,3)] [(2,true,[1]),(7,false,[]),(9,false,[8]),(10,false,[])] (λw=>Dh [bk b1 #[V AV,D B1,V B5,V BW,W Ch AI Ci] 34,DR] w) (by kernel_rfl) (by kernel_rfl) (λ_ _ d _ _ h=>by cases d <;> exact h) (λw h_=>⟨h_.sat.on _ (.head _),h_.sat.on _ (t2 Bn),Aj⟩) (λ_ _ h=>Dh.alloc h) ?_);simp only [Dz,List.filterMap_cons,List.filterMap_nil,List.getElem?_toArray,List.getElem?_cons_zero,List.getElem?_cons_succ,Option.map_some,List.drop_succ_cons,List.drop_zero,AH,AX];refine AJ 2 (B7 0 4 I (N h λKD Bjw h=>(H6 (T:=34) (kd:=.i64) (R:=(AM 34)) I Bjw BP λCke Cl5 Byb A2j Cot=>?_)));obtain ⟨Atk,Bme,rfl,Br3⟩:=CB 34 Byb;refine Gn I A2j (λw h_=>h_.mem _ (.tail _ (.head _))) (BF (K.weak (env':=[(89,W F2 a0 F4),(95,.agg #[V KD.kind,D KD.text,V KD.n,V KD.at_,W Atk KD.kids Bme])]) ?_ ⟨gr,gr,Aj⟩));refine Kn [(2,true,[⟨1,90,.cells #[D (⟨#[40]⟩:Ah)] 9 (0,0),λb=>.slice (some ⟨b,0,none⟩) 1 1⟩]),(7,false,[]),(9,false,[⟨8,97,.cells #[D (⟨#[41]⟩:Ah)] 9 (0,0),λb=>.slice (some ⟨b,0,none⟩) 1 1⟩]),(10,false,[])] I (by kernel_rfl) ⟨⟨_,I,I,⟨(by kernel_rfl),(by kernel_rfl),(by kernel_rfl)⟩,λ_=>by kernel_rfl⟩,⟨_,I,I,⟨(by kernel_rfl),(by kernel_rfl),(by kernel_rfl)⟩,λ_=>by kernel_rfl⟩,Aj⟩ (BL.nil.cons.cons) (FJ λAx5=>(CO λB7u A8f=>(CP I (by kernel_rfl) (Aq (N h λAi7 Bbq h=>(Er (ys:=[(⟨#[40]⟩:Ah)]) Bg I C_ (by kernel_rfl) (by kernel_rfl) (by kernel_rfl) (by kernel_rfl) Bbq Ea (Cp (n:=1) Bg [(⟨#[40]⟩:Ah)] (by kernel_rfl) I (by decide) 1 I) λCbt B4u Cgo Br6=>(GX (λw h_=>⟨h_.sat.on _ (.tail _ (.tail _ (.head _))),h_.sat.on _ (.tail _ (.tail _ (.tail _ (A8f _ Bn)))),Aj⟩) (BL.nil.cons.cons.cons) (by kernel_rfl) (CO λB7v A8h=>(CP I (by kernel_rfl) (N h λAmy Bfv h=>?_))))))))));refine Ex (hR.Bc Bfv Br6 Br3) I ⟨(.tail _ (.tail _ (A8h _ Bn))),Aj⟩ ?_;rintro _ _ ⟨Cbu,B4x,Cgp,Bsa,rfl,rfl⟩;refine BU (DV (BL.nil.cons.cons.cons) (by kernel_rfl) (FJ λAyb=>(CO λB7w Cdw=>(CP I (by kernel_rfl) (Ak (N h λR5 Bbr h=>(Er (ys:=[(⟨#[41]⟩:Ah)]) Bg I C_ (by kernel_rfl) (by kernel_rfl) (by kernel_rfl) (by kernel_rfl) Bbr Bsa (Cp (n:=1) Bg [(⟨#[41]⟩:Ah)] (by kernel_rfl) I (by decide) 1 I) λVQ SN TY Bse=>(DV (BL.nil.cons.cons.cons.cons) (by kernel_rfl) (CO λB7y Cdy=>(CP I (by kernel_rfl) ?_))))))))));refine JB (v:=W SN R5 TY) (by kernel_rfl) (by kernel_rfl) (DV (BL.nil.cons.cons.cons.cons) (by kernel_rfl) (JV (K.weak (env':=[(4,W SN R5 TY)]) ?_ ⟨gr,Aj⟩)));refine K.eq (l':=VQ :: bk Ayb #[D (⟨#[41]⟩:Ah)] 9 :: bk Ax5 #[D (⟨#[40]⟩:Ah)] 9 :: bk b1 #[V AV,D B1,V B5,V BW,W Ch AI Ci] 34 :: X) I I (As (AT (B3 (Bh ?_))));obtain rfl:=Ap h;exact kdv (W SN R5 TY) [VQ] (Ak (Ao (Ak (Ao (Ak (Ao (Bb ⟨VQ,SN,TY,Bse,I,I⟩)))))));refine ksr (M 2 (G ?_));refine At h (λh=>?_) λh=>?_;refine AU (LP [(0,0),(1,0),(2,3),(5,0),(6,3),(7,0),(8,3),(3,1),(4,1)] [bk b1 #[V AV,D B1,V B5,V BW,W Ch AI Ci] 34,DR] (λw h_=>⟨h_.sat.on _ (.head _),h_.sat.on _ (t2 Bn),Aj⟩) (AJ 2 (B7 0 1 rfl (AJ 1 (B7 0 4 rfl (N h λQh Bj3 h=>(H6 (T:=34) (kd:=.i64) (R:=(AM 34)) rfl Bj3 BP λCkj u196 Byh A2k Coy=>?_)))))));obtain ⟨B43,Cgz,rfl,Bsm⟩:=CB 34 Byh;refine Gn I A2k (λw h_=>h_.mem _ (.tail _ (.head _))) (kpt (E_ #[D B1] 9 1 λCam=>(IY (λw h_=>⟨h_.sat.on _ (.tail _ (.head _)),h_.sat.on _ (t3 Bn),Aj⟩) (kpt (Aq (N h λAjb Bbu h=>(Er (ys:=[B1]) Bg I C_ (by kernel_rfl) (by kernel_rfl) (by kernel_rfl) (by kernel_rfl) Bbu Ea (Cp (n:=1) Bg [B1] (by kernel_rfl) I (by decide) 1 I) λA5y Atl Bmh Yf=>(IY (λw h_=>⟨h_.sat.on _ (.tail _ (.tail _ (.head _))),h_.sat.on _ (t3 Bn),Aj⟩) (BF (N h λYY Bf5 h=>?_))))))))));refine AZ (hR.Bc Bf5 Yf Bsm) I ⟨(t2 Bn),Aj⟩ ?_;rintro _ _ ⟨Afa,Aaa,Aht,Bs5,rfl,rfl⟩;refine BU (Ak (Ao (Ak (Ao (M 1 (G (AT (B3 (Bh ?_)))))))));obtain rfl:=Ap h;exact kdv (W Aaa YY Aht) [Afa] (Bb ⟨Afa,Aaa,Aht,Bs5,I,I⟩);refine ksr (M 2 (G ?_));refine At h (λh=>?_) λh=>?_;refine AU (Kp (Xf:=X) [(0,0),(1,0),(2,3),(3,0),(4,3),(6,0),(7,3),(10,0),(11,3),(12,0),(13,3)] [(5,true,[]),(9,true,[8]),(14,false,[]),(15,false,[])] (λw=>Dh [bk b1 #[V AV,D B1,V B5,V BW,W Ch AI Ci] 34,DR] w) (by kernel_rfl) (by kernel_rfl) (λ_ _ d _ _ h=>by cases d <;> exact h) (λw h_=>⟨h_.sat.on _ (.head _),h_.sat.on _ (t2 Bn),Aj⟩) (λ_ _ h=>Dh.alloc h) ?_);simp only [Dz,List.filterMap_cons,List.filterMap_nil,List.getElem?_toArray,List.getElem?_cons_zero,List.getElem?_cons_succ,Option.map_some,List.drop_succ_cons,List.drop_zero,AH,AX];refine AJ 2 (B7 0 4 I (N h λKE Bkc h=>(H6 (T:=34) (kd:=.i64) (R:=(AM 34)) I Bkc BP λCko Cmc Bym e215 Co5=>?_)));obtain ⟨Atm,Bmj,rfl,Bta⟩:=CB 34 Bym;refine Gn I e215 (λw h_=>h_.mem _ (.tail _ (.head _))) (AJ 1 (B7 0 1 I (AJ 1 (B7 0 4 I (N h λKF Bke h=>(H6 (T:=34) (kd:=.i64) (R:=(AM 34)) I Bke BP λCkr Cme Byq e224 Cpa=>?_))))));obtain ⟨Atn,Bmk,rfl,Btd⟩:=CB 34 Byq;refine Gn I e224 (λw h_=>h_.mem _ (.tail _ (.head _))) (BF (K.weak (env':=[(113,W F2 a0 F4),(117,.agg #[V KE.kind,D KE.text,V KE.n,V KE.at_,W Atm KE.kids Bmj]),(120,D B1),(126,.agg #[V KF.kind,D KF.text,V KF.n,V KF.at_,W Atn KF.kids Bmk])]) ?_ ⟨gr,gr,gr,gr,Aj⟩));refine Kn [(5,true,[]),(9,true,[⟨8,121,.cells #[D B1] 9 (0,0),λb=>.slice (some ⟨b,0,none⟩) 1 1⟩]),(14,false,[]),(15,false,[])] I (by kernel_rfl) ⟨⟨_,I,I,⟨(by kernel_rfl),(by kernel_rfl),(by kernel_rfl)⟩,λ_=>by kernel_rfl⟩,Aj⟩ (BL.nil.cons.cons) (CO λB70 Afw=>(CP I (by kernel_rfl) (Ak (N h λAnb Bf8 h=>(Ex (hR.Bc Bf8 Ea Bta) I ⟨(.tail _ (Afw _ Bn)),Aj⟩ ?_)))));rintro _ _ ⟨Cb4,B5i,Cha,Bte,rfl,rfl⟩;refine BU (GX (λw h_=>⟨h_.sat.on _ (.tail _ (.head _)),h_.sat.on _ (.tail _ (.tail _ (Afw _ Bn))),Aj⟩) (BL.nil.cons.cons) (by kernel_rfl) (FJ λAyi=>(CO λB71 A8i=>(CP I (by kernel_rfl) (Ak (N h λAje Bbz h=>(Er (ys:=[B1]) Bg I C_ (by kernel_rfl) (by kernel_rfl) (by kernel_rfl) (by kernel_rfl) Bbz Bte (Cp (n:=1) Bg [B1] (by kernel_rfl) I (by decide) 1 I) λCb6 Ato Bmm Yj=>(GX (λw h_=>⟨h_.sat.on _ (.tail _ (.tail _ (.head _))),h_.sat.on _ (.tail _ (.tail _ (.tail _ (A8i _ Bn)))),Aj⟩) (BL.nil.cons.cons.cons) (by kernel_rfl) (CO λB72 A8j=>(CP I (by kernel_rfl) ?_))))))))));refine N h λSr Bgc h=>(Ex (hR.Bc Bgc Yj Btd) I ⟨(.tail _ (.tail _ (A8j _ Bn))),Aj⟩ ?_);rintro _ _ ⟨OX,Nb,NO,Yk,rfl,rfl⟩;refine BU (DV (BL.nil.cons.cons.cons) (by kernel_rfl) (CO λB73 Cd0=>(CP I (by kernel_rfl) (JB (v:=W Nb Sr NO) (by kernel_rfl) (by kernel_rfl) (DV (BL.nil.cons.cons.cons) (by kernel_rfl) (JV (K.weak (env':=[(4,W Nb Sr NO)]) ?_ ⟨gr,Aj⟩)))))));refine K.eq (l':=OX :: bk Ayi #[D B1] 9 :: bk b1 #[V AV,D B1,V B5,V BW,W Ch AI Ci] 34 :: X) I I (As (AT (B3 (Bh ?_))));obtain rfl:=Ap h;exact kdv (W Nb Sr NO) [OX] (Ak (Ao (Ak (Ao (Bb ⟨OX,Nb,NO,Yk,I,I⟩)))));refine ksr (M 2 (G ?_));refine At h (λh=>?_) λh=>?_;refine AU (Kp (Xf:=X) [(0,0),(3,0),(4,3)] [(2,true,[1]),(5,false,[]),(7,false,[6]),(8,false,[])] (λw=>Dh [bk b1 #[V AV,D B1,V B5,V BW,W Ch AI Ci] 34] w) (by kernel_rfl) (by kernel_rfl) (λ_ _ d _ _ h=>by cases d <;> exact h) (λw h_=>⟨h_.sat.on _ (.head _),Aj⟩) (λ_ _ h=>Dh.alloc h) ?_);simp only [Dz,List.filterMap_cons,List.filterMap_nil,List.getElem?_toArray,List.getElem?_cons_zero,List.getElem?_cons_succ,Option.map_some,List.drop_succ_cons,List.drop_zero,AH,AX];refine AJ 2 (B7 0 4 I (BF (K.weak (env':=[(130,W F2 a0 F4),(134,W Ch AI Ci)]) ?_ ⟨gr,gr,Aj⟩)));refine Kn [(2,true,[⟨1,131,.cells #[D (⟨#[123]⟩:Ah)] 9 (0,0),λb=>.slice (some ⟨b,0,none⟩) 1 1⟩]),(5,false,[]),(7,false,[⟨6,136,.cells #[D (⟨#[125]⟩:Ah)] 9 (0,0),λb=>.slice (some ⟨b,0,none⟩) 1 1⟩]),(8,false,[])] I (by kernel_rfl) ⟨⟨_,I,I,⟨(by kernel_rfl),(by kernel_rfl),(by kernel_rfl)⟩,λ_=>by kernel_rfl⟩,⟨_,I,I,⟨(by kernel_rfl),(by kernel_rfl),(by kernel_rfl)⟩,λ_=>by kernel_rfl⟩,Aj⟩ (BL.nil.cons.cons) (FJ λVm=>(CO λB75 Cd1=>(CP I (by kernel_rfl) (Aq (N h λAjg Bb4 h=>(Er (ys:=[(⟨#[123]⟩:Ah)]) Bg I C_ (by kernel_rfl) (by kernel_rfl) (by kernel_rfl) (by kernel_rfl) Bb4 Ea (Cp (n:=1) Bg [(⟨#[123]⟩:Ah)] (by kernel_rfl) I (by decide) 1 I) λA5z Atp Bmo Yl=>(GX (λw h_=>⟨h_.sat.on _ (.tail _ (.tail _ (.head _))),Aj⟩) (BL.nil.cons.cons.cons) (by kernel_rfl) (CO λB79 A8l=>(CP I (by kernel_rfl) (N h λAnl Bgj h=>?_))))))))));refine Ex (hR.Dl Bgj Yl BP) I ⟨(.tail _ (.tail _ (A8l _ Bn))),Aj⟩ ?_;rintro _ _ ⟨Cb8,B5k,Chg,Btl,rfl,rfl⟩;refine BU (DV (BL.nil.cons.cons.cons) (by kernel_rfl) (FJ λAym=>(CO λB8a Cd2=>(CP I (by kernel_rfl) (Ak (N h λR6 Bb5 h=>(Er (ys:=[(⟨#[125]⟩:Ah)]) Bg I C_ (by kernel_rfl) (by kernel_rfl) (by kernel_rfl) (by kernel_rfl) Bb5 Btl (Cp (n:=1) Bg [(⟨#[125]⟩:Ah)] (by kernel_rfl) I (by decide) 1 I) λVS SO TZ Bto=>(DV (BL.nil.cons.cons.cons.cons) (by kernel_rfl) (CO λB8b Cd4=>(CP I (by kernel_rfl) ?_))))))))));refine JB (v:=W SO R6 TZ) (by kernel_rfl) (by kernel_rfl) (DV (BL.nil.cons.cons.cons.cons) (by kernel_rfl) (JV (K.weak (env':=[(4,W SO R6 TZ)]) ?_ ⟨gr,Aj⟩)));refine K.eq (l':=VS :: bk Aym #[D (⟨#[125]⟩:Ah)] 9 :: bk Vm #[D (⟨#[123]⟩:Ah)] 9 :: bk b1 #[V AV,D B1,V B5,V BW,W Ch AI Ci] 34 :: X) I I (As (AT (B3 (Bh ?_))));obtain rfl:=Ap h;exact kdv (W SO R6 TZ) [VS] (Ak (Ao (Ak (Ao (Ak (Ao (Bb ⟨VS,SO,TZ,Bto,I,I⟩)))))));refine ksr (M 2 (G ?_));refine At h (λh=>?_) λh=>?_;refine ksr (M 2 (kld 0 4 rfl (Ao (N h λQn Bkk h=>(DA (T:=34) (kd:=.i64) (R:=(AM 34)) rfl Bkk BP λCkz Cmj Byw A2m Cpj=>?_)))));obtain ⟨B5p,Cho,rfl,Btr⟩:=CB 34 Byw;refine DH I A2m (.tail _ Bn) (N h λZd Bgr h=>(AZ (hR.Bc Bgr Ea Btr) I ⟨Bn,Aj⟩ ?_));rintro _ _ ⟨Afe,Aag,Ahy,Btv,rfl,rfl⟩;refine BU (M 1 (G (AT (B3 (Bh ?_)))));obtain rfl:=Ap h;exact kdv (W Aag Zd Ahy) [Afe] (Bb ⟨Afe,Aag,Ahy,Btv,I,I⟩);refine ksr (M 2 (G ?_));refine At h (λh=>?_) λh=>?_;refine AU (LP [(0,0),(3,0),(4,3),(5,0),(6,3),(1,1),(2,1)] [bk b1 #[V AV,D B1,V B5,V BW,W Ch AI Ci] 34,DR] (λw h_=>⟨h_.sat.on _ (.head _),h_.sat.on _ (t2 Bn),Aj⟩) (AJ 2 (B7 0 4 rfl (N h λQp Bkp h=>(H6 (T:=34) (kd:=.i64) (R:=(AM 34)) rfl Bkp BP λCk2 Cml Byz e291 Cpp=>?_)))));obtain ⟨B5v,Ch8,rfl,Bt1⟩:=CB 34 Byz;refine Gn I e291 (λw h_=>h_.mem _ (.tail _ (.head _))) (kpt (E_ #[D (⟨#[91]⟩:Ah)] 9 1 λCao=>(IY (λw h_=>⟨h_.sat.on _ (.tail _ (.head _)),h_.sat.on _ (t3 Bn),Aj⟩) (kpt (Aq (N h λAjj Bb8 h=>(Er (ys:=[(⟨#[91]⟩:Ah)]) Bg I C_ (by kernel_rfl) (by kernel_rfl) (by kernel_rfl) (by kernel_rfl) Bb8 Ea (Cp (n:=1) Bg [(⟨#[91]⟩:Ah)] (by kernel_rfl) I (by decide) 1 I) λA54 Atq Bmt Ym=>(IY (λw h_=>⟨h_.sat.on _ (.tail _ (.tail _ (.head _))),h_.sat.on _ (t3 Bn),Aj⟩) (BF (N h λAnx Bgy h=>?_))))))))));refine AZ (hR.Bc Bgy Ym Bt1) I ⟨(t2 Bn),Aj⟩ ?_;rintro _ _ ⟨Ccl,Ats,Bmu,Yn,rfl,rfl⟩;refine BU (Ak (Ao (M 1 (G (AU (LP [(0,0),(3,0),(4,3),(5,0),(6,3),(1,1),(2,1)] [bk b1 #[V AV,D B1,V B5,V BW,W Ch AI Ci] 34,DR] (λw h_=>⟨h_.sat.on _ (.tail _ (.head _)),h_.sat.on _ (t2 Bn),Aj⟩) (AJ 2 (B7 0 4 I (N h λQs Bku h=>(H6 (T:=34) (kd:=.i64) (R:=(AM 34)) I Bku BP λCk8 Cmv By3 e311 Cps=>?_))))))))));obtain ⟨B53,Cie,rfl,Bt6⟩:=CB 34 By3;refine Gn I e311 (λw h_=>h_.mem _ (.tail _ (.head _))) (kpt (E_ #[D (⟨#[93]⟩:Ah),D (⟨#[61]⟩:Ah)] 9 2 λCau=>(IY (λw h_=>⟨h_.sat.on _ (.tail _ (.tail _ (.head _))),h_.sat.on _ (t3 Bn),Aj⟩) (kpt (Ak (N h λAjk Bcb h=>(Er (ys:=[(⟨#[93]⟩:Ah),(⟨#[61]⟩:Ah)]) Bg I C_ (by kernel_rfl) (by kernel_rfl) (by kernel_rfl) (by kernel_rfl) Bcb Yn (Cp (n:=2) Bg [(⟨#[93]⟩:Ah),(⟨#[61]⟩:Ah)] (by kernel_rfl) I (by decide) 1 I) λA6a Atu Bmv Yp=>(IY (λw h_=>⟨h_.sat.on _ (.tail _ (.tail _ (.head _))),h_.sat.on _ (t3 Bn),Aj⟩) (BF (N h λZg Bha h=>?_))))))))));refine AZ (hR.Bc Bha Yp Bt6) I ⟨(t2 Bn),Aj⟩ ?_;rintro _ _ ⟨Afk,Aal,Ah1,Buc,rfl,rfl⟩;refine BU (Ak (Ao (Ak (Ao (M 1 (G (AT (B3 (Bh ?_)))))))));obtain rfl:=Ap h;exact kdv (W Aal Zg Ah1) [Afk] (Bb ⟨Afk,Aal,Ah1,Buc,I,I⟩);refine ksr (M 2 (G ?_));refine At h (λh=>?_) λh=>?_;obtain ⟨Mv,A7k,h⟩:=By h;refine Bz (τ:=D9×Am×AG×Nat) (λt=>[(0,W t.2.2.1 t.1 t.2.2.2)]) (λt=>t.2.1 :: X) (λt=>Mv t.1=some r/\AC encS 9 1 t.2.1 (W t.2.2.1 t.1 t.2.2.2) t.1) ?_ ?_;rintro ⟨XB,Afl,Aam,Ah2⟩ ⟨h,Buh⟩;subst A7k;refine ksr (M 2 (G (AT (B3 (Bh ?_)))));obtain rfl:=Ap h;exact kdv (W Aam XB Ah2) [Afl] (Bb ⟨Afl,Aam,Ah2,Buh,I,I⟩);refine ksr (M 1 (G (Bq (CW (τ:=D9×Int×Am×AG×Nat) (λt=>[(0,W t.2.2.2.1 t.1 t.2.2.2.2),(3,pt b1),(6,V t.2.1)]) (λt=>bk b1 #[V AV,D B1,V B5,V BW,W Ch AI Ci] 34 :: t.2.2.1 :: X) (λm t=>Bc.l0 m Rc AI Mv t.1 t.2.1=some r/\AC encS 9 1 t.2.2.1 (W t.2.2.2.1 t.1 t.2.2.2.2) t.1) k (a0,0,IJ,F2,F4) ⟨h,Ea⟩ sb I ?_))));clear h;rintro RO ⟨R7,Qu,A6b,Atv,Bmw⟩ ⟨h,Alc⟩;cases RO with
 | zero=>simp [Bc.l0] at h
 | succ RO =>
  simp only [Bc.l0] at h;refine AU (ksr (M 2 (kld 0 4 I (M 2 (G ?_)))));refine At h (λh=>?_) λh=>?_;refine AF (As (AU (Bq (AK (M 2 (kld 0 4 rfl (M 1 (N h λQv Bkx h=>(DA (T:=34) (kd:=.i64) (R:=(AM 34)) rfl Bkx BP λClb Cmx By5 e346 Cpv=>?_)))))))));obtain ⟨B6c,Cii,rfl,Buj⟩:=CB 34 By5;refine DH I e346 (t2 Bn) (Ak (N h λAn4 Bhc h=>(AZ (hR.Bc Bhc Alc Buj) I ⟨(.tail _ Bn),Aj⟩ ?_)));rintro _ _ ⟨Ccp,B6e,Cij,Bul,rfl,rfl⟩;refine BU (Bl #[D (⟨#[59]⟩:Ah)] 9 1 λCav=>(Ak (N h λXC Bce h=>(DG (ys:=[(⟨#[59]⟩:Ah)]) Bg I C_ Bce Bul (Cp (n:=1) Bg [(⟨#[59]⟩:Ah)] (by kernel_rfl) I (by decide) 1 I) λA6c Aty Bmx Bum=>(Ak (Ao (M 1 (knl (A_ (As ?_))))))))));exact AK (M 3 (G (Ak (Cw RO (XC,Ar (Qu+1),A6c,Aty,Bmx) (Nat.lt_succ_self _) ⟨h,Bum⟩ sb I))));exact CH (B6 (B6 (CI (As (Ao (AA (R7,A6b,Atv,Bmw) ⟨h,Alc⟩ sb rfl))))))
 refine ksr (M 2 (G ?_));refine At h (λh=>?_) λh=>?_;refine AK (M 1 (Bl #[D (⟨#[108,111,99,97,108]⟩:Ah)] 9 1 λCax=>(Aq (N h λXD Bcf h=>(DG (ys:=[(⟨#[108,111,99,97,108]⟩:Ah)]) Bg rfl C_ Bcf Ea (Cp (n:=1) Bg [(⟨#[108,111,99,97,108]⟩:Ah)] (by kernel_rfl) rfl (by decide) 1 rfl) λA6e Atz Bm1 Bup=>(Ak (Ao (M 1 (knl (A_ ?_))))))))));exact As (Ak (AA (XD,A6e,Atz,Bm1) ⟨h,Bup⟩ sb I));refine ksr (M 2 (G ?_));refine At h (λh=>?_) λh=>?_;obtain ⟨Mw,A7o,h⟩:=By h;refine Bz (τ:=D9×Am×AG×Nat) (λt=>[(0,W t.2.2.1 t.1 t.2.2.2),(3,pt b1),(5,V (Ar (((AI.length:Nat):Int) - 1)))]) (λt=>bk b1 #[V AV,D B1,V B5,V BW,W Ch AI Ci] 34 :: t.2.1 :: X) (λt=>Mw t.1=some r/\AC encS 9 1 t.2.1 (W t.2.2.1 t.1 t.2.2.2) t.1) ?_ ?_;rintro ⟨Up,A6f,At1,Bm2⟩ ⟨h,Ald⟩;subst A7o;obtain ⟨Td,A7p,h⟩:=By h;refine Bz (τ:=D9×Am×AG×Nat) (λt=>[(0,W t.2.2.1 t.1 t.2.2.2)]) (λt=>t.2.1 :: X) (λt=>Td t.1=some r/\AC encS 9 1 t.2.1 (W t.2.2.1 t.1 t.2.2.2) t.1) ?_ ?_;rintro ⟨Ajl,Ccq,B6f,Cik⟩ ⟨h,Bur⟩;subst A7p;refine ksr (M 1 (Bl #[D (⟨#[101,110,100]⟩:Ah)] 9 1 λCay=>(Ak (N h λXE Bch h=>(DG (ys:=[(⟨#[101,110,100]⟩:Ah)]) Bg I C_ Bch Bur (Cp (n:=1) Bg [(⟨#[101,110,100]⟩:Ah)] (by kernel_rfl) I (by decide) 1 I) λAfm Aao Ah4 Buu=>(Ak (Ao (M 1 (G (AT ?_))))))))));refine B3 (Bh ?_);obtain rfl:=Ap h;exact kdv (W Aao XE Ah4) [Afm] (Bb ⟨Afm,Aao,Ah4,Buu,I,I⟩);refine ksr (M 1 (kld 0 4 I (M 3 (G ?_))));refine At h (λh=>?_) λh=>?_;refine LP [(0,0),(3,0),(4,3),(5,0),(6,0),(7,3),(1,1),(2,1)] [bk b1 #[V AV,D B1,V B5,V BW,W Ch AI Ci] 34,DR] (λw h_=>⟨h_.sat.on _ (.head _),h_.sat.on _ (t2 Bn),Aj⟩) (AJ 2 (B7 0 4 rfl (AJ 1 (N h λQw Bk0 h=>(H6 (T:=34) (kd:=.i64) (R:=(AM 34)) rfl Bk0 BP λClc Cmy By6 A2r Cpw=>?_)))));obtain ⟨B6h,Cil,rfl,Buv⟩:=CB 34 By6;refine Gn I A2r (λw h_=>h_.mem _ (.tail _ (.head _))) (kpt (E_ #[D (⟨#[101,108,115,101]⟩:Ah)] 9 1 λCa0=>(IY (λw h_=>⟨h_.sat.on _ (.tail _ (.head _)),h_.sat.on _ (t3 Bn),Aj⟩) (kpt (Aq (N h λAjm Bci h=>(Er (ys:=[(⟨#[101,108,115,101]⟩:Ah)]) Bg I C_ (by kernel_rfl) (by kernel_rfl) (by kernel_rfl) (by kernel_rfl) Bci Ald (Cp (n:=1) Bg [(⟨#[101,108,115,101]⟩:Ah)] (by kernel_rfl) I (by decide) 1 I) λCcr B6i Cim Bux=>(IY (λw h_=>⟨h_.sat.on _ (.tail _ (.tail _ (.head _))),h_.sat.on _ (t3 Bn),Aj⟩) (BF (N h λZi Bhe h=>?_))))))))));refine AZ (hR.Bc Bhe Bux Buv) I ⟨(t2 Bn),Aj⟩ ?_;rintro _ _ ⟨A6k,At4,Bm4,Buy,rfl,rfl⟩;exact BU (Ak (Ao (Ak (Ao (M 1 (G (AA (Zi,A6k,At4,Bm4) ⟨h,Buy⟩ sb I)))))));exact AF (As (Ao (AA (Up,A6f,At1,Bm2) ⟨h,Ald⟩ sb rfl)));refine ksr (M 1 (G (Bq (CW (τ:=D9×Int×Am×AG×Nat) (λt=>[(0,W t.2.2.2.1 t.1 t.2.2.2.2),(3,pt b1),(5,V (Ar (((AI.length:Nat):Int) - 1))),(7,V t.2.1)]) (λt=>bk b1 #[V AV,D B1,V B5,V BW,W Ch AI Ci] 34 :: t.2.2.1 :: X) (λm t=>Bc.l1 m Rc AI Mw t.1 t.2.1=some r/\AC encS 9 1 t.2.2.1 (W t.2.2.2.1 t.1 t.2.2.2.2) t.1) k (a0,0,IJ,F2,F4) ⟨h,Ea⟩ sb I ?_))));clear h;rintro RP ⟨Ps,KG,A6o,At7,Bm6⟩ ⟨h,Ys⟩;cases RP with
 | zero=>simp [Bc.l1] at h
 | succ RP =>
  simp only [Bc.l1] at h;refine AU (ksr (M 3 (kld 0 4 I (M 2 (G ?_)))));refine At h (λh=>?_) λh=>?_;refine AF (As (AU (Bq ?_)));obtain ⟨Te,A7q,h⟩:=By h;refine Bz (τ:=D9×Am×AG×Nat) (λt=>[(0,W t.2.2.1 t.1 t.2.2.2),(3,pt b1),(5,V (Ar (((AI.length:Nat):Int) - 1))),(7,V KG)]) (λt=>bk b1 #[V AV,D B1,V B5,V BW,W Ch AI Ci] 34 :: t.2.1 :: X) (λt=>Te t.1=some r/\AC encS 9 1 t.2.1 (W t.2.2.1 t.1 t.2.2.2) t.1) ?_ ?_;rintro ⟨XF,Ccs,At9,Bm7⟩ ⟨h,Bu0⟩;subst A7q;refine Kp (Xf:=X) [(0,0),(1,0),(2,3),(3,0),(4,0),(5,3),(9,0),(10,3),(11,0),(12,0),(13,0),(14,3)] [(6,true,[]),(8,true,[7]),(15,false,[]),(16,false,[])] (λw=>Dh [bk b1 #[V AV,D B1,V B5,V BW,W Ch AI Ci] 34,DR] w) (by kernel_rfl) (by kernel_rfl) (λ_ _ d _ _ h=>by cases d <;> exact h) (λw h_=>⟨h_.sat.on _ (.head _),h_.sat.on _ (t2 Bn),Aj⟩) (λ_ _ h=>Dh.alloc h) ?_;simp only [Dz,List.filterMap_cons,List.filterMap_nil,List.getElem?_toArray,List.getElem?_cons_zero,List.getElem?_cons_succ,Option.map_some,List.drop_succ_cons,List.drop_zero,AH,AX];refine AJ 2 (B7 0 4 I (AJ 1 (N h λKH Bk3 h=>(H6 (T:=34) (kd:=.i64) (R:=(AM 34)) I Bk3 BP λCld Cmz By9 A2s Cp1=>?_))));obtain ⟨Auc,Bm8,rfl,Bu2⟩:=CB 34 By9;refine Gn I A2s (λw h_=>h_.mem _ (.tail _ (.head _))) (AJ 1 (B7 0 4 I (AJ 2 (N h λKI Bk4 h=>(H6 (T:=34) (kd:=.i64) (R:=(AM 34)) I Bk4 BP λCle Cm0 Bza A2t Cp2=>?_)))));obtain ⟨Aue,Bm9,rfl,Bu3⟩:=CB 34 Bza;refine Gn I A2t (λw h_=>h_.mem _ (.tail _ (.head _))) (BF (K.weak (env':=[(3,pt b1),(5,V (Ar (((AI.length:Nat):Int) - 1))),(7,V KG),(206,W At9 XF Bm7),(211,.agg #[V KH.kind,D KH.text,V KH.n,V KH.at_,W Auc KH.kids Bm8]),(220,.agg #[V KI.kind,D KI.text,V KI.n,V KI.at_,W Aue KI.kids Bm9])]) ?_ ⟨gr,gr,gr,gr,gr,gr,Aj⟩));refine Kn [(6,true,[]),(8,true,[⟨7,213,.cells #[D (⟨#[116,104,101,110]⟩:Ah)] 9 (0,0),λb=>.slice (some ⟨b,0,none⟩) 1 1⟩]),(15,false,[]),(16,false,[])] I (by kernel_rfl) ⟨⟨_,I,I,⟨(by kernel_rfl),(by kernel_rfl),(by kernel_rfl)⟩,λ_=>by kernel_rfl⟩,Aj⟩ (BL.nil.cons.cons) (CO λB8c Afx=>(CP I (by kernel_rfl) (Ak (N h λAn6 Bhl h=>(Ex (hR.Bc Bhl Bu0 Bu2) I ⟨(.tail _ (Afx _ Bn)),Aj⟩ ?_)))));rintro _ _ ⟨Cct,B6j,Cin,Bu4,rfl,rfl⟩;refine BU (GX (λw h_=>⟨h_.sat.on _ (.tail _ (.head _)),h_.sat.on _ (.tail _ (.tail _ (Afx _ Bn))),Aj⟩) (BL.nil.cons.cons) (by kernel_rfl) (FJ λAy3=>(CO λB8d A8m=>(CP I (by kernel_rfl) (Ak (N h λAjo Bck h=>(Er (ys:=[(⟨#[116,104,101,110]⟩:Ah)]) Bg I C_ (by kernel_rfl) (by kernel_rfl) (by kernel_rfl) (by kernel_rfl) Bck Bu4 (Cp (n:=1) Bg [(⟨#[116,104,101,110]⟩:Ah)] (by kernel_rfl) I (by decide) 1 I) λCcu B6k Cir Bu5=>(GX (λw h_=>⟨h_.sat.on _ (.tail _ (.tail _ (.head _))),h_.sat.on _ (.tail _ (.tail _ (.tail _ (A8m _ Bn)))),Aj⟩) (BL.nil.cons.cons.cons) (by kernel_rfl) (CO λB8f A8n=>(CP I (by kernel_rfl) ?_))))))))));refine N h λSs Bhm h=>(Ex (hR.Bc Bhm Bu5 Bu3) I ⟨(.tail _ (.tail _ (A8n _ Bn))),Aj⟩ ?_);rintro _ _ ⟨Afn,UY,Xt,Bu6,rfl,rfl⟩;refine BU (DV (BL.nil.cons.cons.cons) (by kernel_rfl) (CO λB8i Cd6=>(CP I (by kernel_rfl) (JB (v:=W UY Ss Xt) (by kernel_rfl) (by kernel_rfl) (DV (BL.nil.cons.cons.cons) (by kernel_rfl) (JV (K.weak (env':=[(3,pt b1),(5,V (Ar (((AI.length:Nat):Int) - 1))),(7,V KG),(0,W UY Ss Xt)]) ?_ ⟨gr,gr,gr,gr,Aj⟩)))))));exact K.eq (l':=Afn :: bk Ay3 #[D (⟨#[116,104,101,110]⟩:Ah)] 9 :: bk b1 #[V AV,D B1,V B5,V BW,W Ch AI Ci] 34 :: X) I I (A_ (As (AK (M 3 (G (Ak (Ao (Ak (Cw RP (Ss,Ar (KG+2),Afn,UY,Xt) (Nat.lt_succ_self _) ⟨h,Bu6⟩ sb I)))))))));refine ksr (M 2 (G ?_));refine At h (λh=>?_) λh=>?_;refine AK (M 1 (Bl #[D (⟨#[105,102]⟩:Ah)] 9 1 λCa1=>(Aq (N h λXG Bco h=>(DG (ys:=[(⟨#[105,102]⟩:Ah)]) Bg rfl C_ Bco Ys (Cp (n:=1) Bg [(⟨#[105,102]⟩:Ah)] (by kernel_rfl) rfl (by decide) 1 rfl) λA6r Aug Bna Bu7=>(Ak (Ao (M 1 (G (Ak ?_))))))))));exact AA (XG,A6r,Aug,Bna) ⟨h,Bu7⟩ sb I;refine AK (M 1 (Bl #[D (⟨#[101,108,115,101,105,102]⟩:Ah)] 9 1 λCa3=>(Aq (N h λXH Bcr h=>(DG (ys:=[(⟨#[101,108,115,101,105,102]⟩:Ah)]) Bg rfl C_ Bcr Ys (Cp (n:=1) Bg [(⟨#[101,108,115,101,105,102]⟩:Ah)] (by kernel_rfl) rfl (by decide) 1 rfl) λA6t Auk Bnb Bu8=>(Ak (Ao (M 1 (G (Ak ?_))))))))));exact AA (XH,A6t,Auk,Bnb) ⟨h,Bu8⟩ sb I;exact CH (B6 (B6 (CI (As (AA (Ps,A6o,At7,Bm6) ⟨h,Ys⟩ sb rfl)))))
 refine ksr (M 2 (G ?_));refine At h (λh=>?_) λh=>?_;refine ksr (M 2 (kld 0 4 rfl (Ao (N h λQx Bk7 h=>(DA (T:=34) (kd:=.i64) (R:=(AM 34)) rfl Bk7 BP λClg Cm1 Bzb A2u Cp3=>?_)))));obtain ⟨B6m,Ciu,rfl,Bu9⟩:=CB 34 Bzb;refine DH I A2u (.tail _ Bn) (N h λZj Bhn h=>(AZ (hR.Bc Bhn Ea Bu9) I ⟨Bn,Aj⟩ ?_));rintro _ _ ⟨Afo,Aar,Ah5,Bvb,rfl,rfl⟩;refine BU (M 1 (G (AT (B3 (Bh ?_)))));obtain rfl:=Ap h;exact kdv (W Aar Zj Ah5) [Afo] (Bb ⟨Afo,Aar,Ah5,Bvb,I,I⟩);refine ksr (M 2 (G ?_));refine At h (λh=>?_) λh=>?_;refine AU (Kp (Xf:=X) [(0,0),(3,0),(4,3),(5,0),(6,3),(10,0),(11,3),(12,0),(13,3)] [(2,true,[1]),(7,true,[]),(9,true,[8]),(14,false,[]),(16,false,[15]),(17,false,[])] (λw=>Dh [bk b1 #[V AV,D B1,V B5,V BW,W Ch AI Ci] 34,DR] w) (by kernel_rfl) (by kernel_rfl) (λ_ _ d _ _ h=>by cases d <;> exact h) (λw h_=>⟨h_.sat.on _ (.head _),h_.sat.on _ (t2 Bn),Aj⟩) (λ_ _ h=>Dh.alloc h) ?_);simp only [Dz,List.filterMap_cons,List.filterMap_nil,List.getElem?_toArray,List.getElem?_cons_zero,List.getElem?_cons_succ,Option.map_some,List.drop_succ_cons,List.drop_zero,AH,AX];refine AJ 2 (B7 0 4 I (N h λKJ Ble h=>(H6 (T:=34) (kd:=.i64) (R:=(AM 34)) I Ble BP λClj Cm2 Bzd A2v Cp5=>?_)));obtain ⟨Aul,Bnd,rfl,Bvc⟩:=CB 34 Bzd;refine Gn I A2v (λw h_=>h_.mem _ (.tail _ (.head _))) (AJ 1 (B7 0 4 I (N h λKK Blj h=>(H6 (T:=34) (kd:=.i64) (R:=(AM 34)) I Blj BP λClk Cm4 Bze A2x Cp6=>?_))));obtain ⟨Aun,Bne,rfl,Bvd⟩:=CB 34 Bze;refine Gn I A2x (λw h_=>h_.mem _ (.tail _ (.head _))) (BF (K.weak (env':=[(249,W F2 a0 F4),(255,.agg #[V KJ.kind,D KJ.text,V KJ.n,V KJ.at_,W Aul KJ.kids Bnd]),(262,.agg #[V KK.kind,D KK.text,V KK.n,V KK.at_,W Aun KK.kids Bne])]) ?_ ⟨gr,gr,gr,Aj⟩));refine Kn [(2,true,[⟨1,250,.cells #[D (⟨#[119,104,105,108,101]⟩:Ah)] 9 (0,0),λb=>.slice (some ⟨b,0,none⟩) 1 1⟩]),(7,true,[]),(9,true,[⟨8,257,.cells #[D (⟨#[100,111]⟩:Ah)] 9 (0,0),λb=>.slice (some ⟨b,0,none⟩) 1 1⟩]),(14,false,[]),(16,false,[⟨15,264,.cells #[D (⟨#[101,110,100]⟩:Ah)] 9 (0,0),λb=>.slice (some ⟨b,0,none⟩) 1 1⟩]),(17,false,[])] I (by kernel_rfl) ⟨⟨_,I,I,⟨(by kernel_rfl),(by kernel_rfl),(by kernel_rfl)⟩,λ_=>by kernel_rfl⟩,⟨_,I,I,⟨(by kernel_rfl),(by kernel_rfl),(by kernel_rfl)⟩,λ_=>by kernel_rfl⟩,⟨_,I,I,⟨(by kernel_rfl),(by kernel_rfl),(by kernel_rfl)⟩,λ_=>by kernel_rfl⟩,Aj⟩ (BL.nil.cons.cons) (FJ λAy4=>(CO λB8j A8o=>(CP I (by kernel_rfl) (Aq (N h λAjq Bcv h=>(Er (ys:=[(⟨#[119,104,105,108,101]⟩:Ah)]) Bg I C_ (by kernel_rfl) (by kernel_rfl) (by kernel_rfl) (by kernel_rfl) Bcv Ea (Cp (n:=1) Bg [(⟨#[119,104,105,108,101]⟩:Ah)] (by kernel_rfl) I (by decide) 1 I) λCcx B6p Civ Bve=>(GX (λw h_=>⟨h_.sat.on _ (.tail _ (.tail _ (.head _))),h_.sat.on _ (.tail _ (.tail _ (.tail _ (A8o _ Bn)))),Aj⟩) (BL.nil.cons.cons.cons) (by kernel_rfl) (CO λB8k Afz=>(CP I (by kernel_rfl) (N h λAn7 Bht h=>?_))))))))));refine Ex (hR.Bc Bht Bve Bvc) I ⟨(.tail _ (.tail _ (Afz _ Bn))),Aj⟩ ?_;rintro _ _ ⟨h519,B6q,Ciw,Bvg,rfl,rfl⟩;refine BU (GX (λw h_=>⟨h_.sat.on _ (.tail _ (.tail _ (.head _))),h_.sat.on _ (.tail _ (.tail _ (.tail _ (Afz _ Bn)))),Aj⟩) (BL.nil.cons.cons.cons) (by kernel_rfl) (FJ λAy5=>(CO λB8l A8r=>(CP I (by kernel_rfl) (Ak (N h λAjr Bcw h=>(Er (ys:=[(⟨#[100,111]⟩:Ah)]) Bg I C_ (by kernel_rfl) (by kernel_rfl) (by kernel_rfl) (by kernel_rfl) Bcw Bvg (Cp (n:=1) Bg [(⟨#[100,111]⟩:Ah)] (by kernel_rfl) I (by decide) 1 I) λCcy B6r Cix Bvh=>(GX (λw h_=>⟨h_.sat.on _ (.tail _ (.tail _ (.tail _ (.head _)))),h_.sat.on _ (.tail _ (.tail _ (.tail _ (.tail _ (A8r _ Bn))))),Aj⟩) (BL.nil.cons.cons.cons.cons) (by kernel_rfl) (CO λB8n A8s=>(CP I (by kernel_rfl) ?_))))))))));refine N h λAn8 Bhx h=>(Ex (hR.Bc Bhx Bvh Bvd) I ⟨(.tail _ (.tail _ (.tail _ (A8s _ Bn)))),Aj⟩ ?_);rintro _ _ ⟨Ccz,B6s,Ciy,Bvi,rfl,rfl⟩;refine BU (DV (BL.nil.cons.cons.cons.cons) (by kernel_rfl) (FJ λAy7=>(CO λB8o Cea=>(CP I (by kernel_rfl) (Ak (N h λR8 Bcz h=>(Er (ys:=[(⟨#[101,110,100]⟩:Ah)]) Bg I C_ (by kernel_rfl) (by kernel_rfl) (by kernel_rfl) (by kernel_rfl) Bcz Bvi (Cp (n:=1) Bg [(⟨#[101,110,100]⟩:Ah)] (by kernel_rfl) I (by decide) 1 I) λh539 SQ T_ Bvj=>(DV (BL.nil.cons.cons.cons.cons.cons) (by kernel_rfl) (CO λB8r Cec=>(CP I (by kernel_rfl) ?_))))))))));refine JB (v:=W SQ R8 T_) (by kernel_rfl) (by kernel_rfl) (DV (BL.nil.cons.cons.cons.cons.cons) (by kernel_rfl) (JV (K.weak (env':=[(4,W SQ R8 T_)]) ?_ ⟨gr,Aj⟩)));refine K.eq (l':=h539 :: bk Ay7 #[D (⟨#[101,110,100]⟩:Ah)] 9 :: bk Ay5 #[D (⟨#[100,111]⟩:Ah)] 9 :: bk Ay4 #[D (⟨#[119,104,105,108,101]⟩:Ah)] 9 :: bk b1 #[V AV,D B1,V B5,V BW,W Ch AI Ci] 34 :: X) I I (As (AT (B3 (Bh ?_))));obtain rfl:=Ap h;exact kdv (W SQ R8 T_) [h539] (Ak (Ao (Ak (Ao (Ak (Ao (Ak (Ao (Bb ⟨h539,SQ,T_,Bvj,I,I⟩)))))))));refine ksr (M 2 (G ?_));refine At h (λh=>?_) λh=>?_;refine AU (Kp (Xf:=X) [(0,0),(3,0),(4,3),(5,0),(6,3)] [(2,true,[1]),(7,false,[]),(9,false,[8]),(10,false,[])] (λw=>Dh [bk b1 #[V AV,D B1,V B5,V BW,W Ch AI Ci] 34,DR] w) (by kernel_rfl) (by kernel_rfl) (λ_ _ d _ _ h=>by cases d <;> exact h) (λw h_=>⟨h_.sat.on _ (.head _),h_.sat.on _ (t2 Bn),Aj⟩) (λ_ _ h=>Dh.alloc h) ?_);simp only [Dz,List.filterMap_cons,List.filterMap_nil,List.getElem?_toArray,List.getElem?_cons_zero,List.getElem?_cons_succ,Option.map_some,List.drop_succ_cons,List.drop_zero,AH,AX];refine AJ 2 (B7 0 4 I (N h λKL Bll h=>(H6 (T:=34) (kd:=.i64) (R:=(AM 34)) I Bll BP λCll Cm6 Bzi A2y Cp7=>?_)));obtain ⟨Auo,Bnh,rfl,Bvk⟩:=CB 34 Bzi;refine Gn I A2y (λw h_=>h_.mem _ (.tail _ (.head _))) (BF (K.weak (env':=[(268,W F2 a0 F4),(274,.agg #[V KL.kind,D KL.text,V KL.n,V KL.at_,W Auo KL.kids Bnh])]) ?_ ⟨gr,gr,Aj⟩));refine Kn [(2,true,[⟨1,269,.cells #[D (⟨#[100,111]⟩:Ah)] 9 (0,0),λb=>.slice (some ⟨b,0,none⟩) 1 1⟩]),(7,false,[]),(9,false,[⟨8,276,.cells #[D (⟨#[101,110,100]⟩:Ah)] 9 (0,0),λb=>.slice (some ⟨b,0,none⟩) 1 1⟩]),(10,false,[])] I (by kernel_rfl) ⟨⟨_,I,I,⟨(by kernel_rfl),(by kernel_rfl),(by kernel_rfl)⟩,λ_=>by kernel_rfl⟩,⟨_,I,I,⟨(by kernel_rfl),(by kernel_rfl),(by kernel_rfl)⟩,λ_=>by kernel_rfl⟩,Aj⟩ (BL.nil.cons.cons) (FJ λAy9=>(CO λB8s A8u=>(CP I (by kernel_rfl) (Aq (N h λAjt Bc2 h=>(Er (ys:=[(⟨#[100,111]⟩:Ah)]) Bg I C_ (by kernel_rfl) (by kernel_rfl) (by kernel_rfl) (by kernel_rfl) Bc2 Ea (Cp (n:=1) Bg [(⟨#[100,111]⟩:Ah)] (by kernel_rfl) I (by decide) 1 I) λCc3 B6u Ciz Bvl=>(GX (λw h_=>⟨h_.sat.on _ (.tail _ (.tail _ (.head _))),h_.sat.on _ (.tail _ (.tail _ (.tail _ (A8u _ Bn)))),Aj⟩) (BL.nil.cons.cons.cons) (by kernel_rfl) (CO λB8t A8v=>(CP I (by kernel_rfl) (N h λAob Bhz h=>?_))))))))));refine Ex (hR.Bc Bhz Bvl Bvk) I ⟨(.tail _ (.tail _ (A8v _ Bn))),Aj⟩ ?_;rintro _ _ ⟨Cc5,B6v,Ci0,Bvn,rfl,rfl⟩;refine BU (DV (BL.nil.cons.cons.cons) (by kernel_rfl) (FJ λAza=>(CO λB8x Ceg=>(CP I (by kernel_rfl) (Ak (N h λRA Bc3 h=>(Er (ys:=[(⟨#[101,110,100]⟩:Ah)]) Bg I C_ (by kernel_rfl) (by kernel_rfl) (by kernel_rfl) (by kernel_rfl) Bc3 Bvn (Cp (n:=1) Bg [(⟨#[101,110,100]⟩:Ah)] (by kernel_rfl) I (by decide) 1 I) λVT SR Ua Bvs=>(DV (BL.nil.cons.cons.cons.cons) (by kernel_rfl) (CO λB8y Cej=>(CP I (by kernel_rfl) ?_))))))))));refine JB (v:=W SR RA Ua) (by kernel_rfl) (by kernel_rfl) (DV (BL.nil.cons.cons.cons.cons) (by kernel_rfl) (JV (K.weak (env':=[(4,W SR RA Ua)]) ?_ ⟨gr,Aj⟩)));refine K.eq (l':=VT :: bk Aza #[D (⟨#[101,110,100]⟩:Ah)] 9 :: bk Ay9 #[D (⟨#[100,111]⟩:Ah)] 9 :: bk b1 #[V AV,D B1,V B5,V BW,W Ch AI Ci] 34 :: X) I I (As (AT (B3 (Bh ?_))));obtain rfl:=Ap h;exact kdv (W SR RA Ua) [VT] (Ak (Ao (Ak (Ao (Ak (Ao (Bb ⟨VT,SR,Ua,Bvs,I,I⟩)))))));refine ksr (M 2 (G ?_));refine At h (λh=>?_) λh=>?_;refine ksr (M 1 (Bl #[D (⟨#[98,114,101,97,107]⟩:Ah)] 9 1 λCa5=>(Ak (Ao (Ak (N h λXI Bc5 h=>(DG (ys:=[(⟨#[98,114,101,97,107]⟩:Ah)]) Bg rfl C_ Bc5 Ea (Cp (n:=1) Bg [(⟨#[98,114,101,97,107]⟩:Ah)] (by kernel_rfl) rfl (by decide) 1 rfl) λAfs Aas Ah6 Bvt=>(Ak (Ao (M 1 ?_))))))))));refine G (AT (B3 (Bh ?_)));obtain rfl:=Ap h;exact kdv (W Aas XI Ah6) [Afs] (Bb ⟨Afs,Aas,Ah6,Bvt,I,I⟩);refine ksr (M 2 (G ?_));refine At h (λh=>?_) λh=>?_;refine AU (kpr [(0,0),(3,0),(4,3),(1,1),(2,1)] [0] (AJ 2 (B7 0 4 rfl (kpt (E_ #[D (⟨#[114,101,116,117,114,110]⟩:Ah)] 9 1 λCa6=>(B_ [1] rfl (kpt (Aq (N h λAju Bc6 h=>(Er (ys:=[(⟨#[114,101,116,117,114,110]⟩:Ah)]) Bg rfl C_ (by kernel_rfl) (by kernel_rfl) (by kernel_rfl) (by kernel_rfl) Bc6 Ea (Cp (n:=1) Bg [(⟨#[114,101,116,117,114,110]⟩:Ah)] (by kernel_rfl) rfl (by decide) 1 rfl) λCc6 B6w Ci1 Bvu=>?_))))))))));refine B_ [2] I (BF (N h λZl Bh0 h=>(AZ (hR.Dl Bh0 Bvu BP) I ⟨(t2 Bn),Aj⟩ ?_)));rintro _ _ ⟨Afv,Aau,Aia,Bvx,rfl,rfl⟩;refine BU (Ak (Ao (Ak (Ao (M 1 (G (AT (B3 (Bh ?_)))))))));obtain rfl:=Ap h;exact kdv (W Aau Zl Aia) [Afv] (Bb ⟨Afv,Aau,Aia,Bvx,I,I⟩);refine ksr (M 2 (G ?_));refine At h (λh=>?_) λh=>?_;refine AU (Kp (Xf:=X) [(0,0),(3,0),(4,3),(5,0),(6,3)] [(2,true,[1]),(7,false,[]),(9,false,[8]),(10,false,[])] (λw=>Dh [bk b1 #[V AV,D B1,V B5,V BW,W Ch AI Ci] 34,DR] w) (by kernel_rfl) (by kernel_rfl) (λ_ _ d _ _ h=>by cases d <;> exact h) (λw h_=>⟨h_.sat.on _ (.head _),h_.sat.on _ (t2 Bn),Aj⟩) (λ_ _ h=>Dh.alloc h) ?_);simp only [Dz,List.filterMap_cons,List.filterMap_nil,List.getElem?_toArray,List.getElem?_cons_zero,List.getElem?_cons_succ,Option.map_some,List.drop_succ_cons,List.drop_zero,AH,AX];refine AJ 2 (B7 0 4 I (N h λx595 hx595 h=>(H6 (T:=34) (kd:=.i64) (R:=(AM 34)) I hx595 BP λClm Cna Bzk A3a Cp8=>?_)));obtain ⟨Aup,Bnk,rfl,Bvz⟩:=CB 34 Bzk;refine Gn I A3a (λw h_=>h_.mem _ (.tail _ (.head _))) (BF (K.weak (env':=[(3,pt b1),(5,V (Ar (((AI.length:Nat):Int) - 1))),(293,W F2 a0 F4),(299,.agg #[V x595.kind,D x595.text,V x595.n,V x595.at_,W Aup x595.kids Bnk])]) ?_ ⟨gr,gr,gr,gr,Aj⟩));refine Kn [(2,true,[⟨1,294,.cells #[D (⟨#[102,111,114]⟩:Ah)] 9 (0,0),λb=>.slice (some ⟨b,0,none⟩) 1 1⟩]),(7,false,[]),(9,false,[⟨8,301,.cells #[D (⟨#[61]⟩:Ah)] 9 (0,0),λb=>.slice (some ⟨b,0,none⟩) 1 1⟩]),(10,false,[])] I (by kernel_rfl) ⟨⟨_,I,I,⟨(by kernel_rfl),(by kernel_rfl),(by kernel_rfl)⟩,λ_=>by kernel_rfl⟩,⟨_,I,I,⟨(by kernel_rfl),(by kernel_rfl),(by kernel_rfl)⟩,λ_=>by kernel_rfl⟩,Aj⟩ (BL.nil.cons.cons) (FJ λAbn=>(CO λB8z A8w=>(CP I (by kernel_rfl) (Aq (N h λAjv Bdc h=>(Er (ys:=[(⟨#[102,111,114]⟩:Ah)]) Bg I C_ (by kernel_rfl) (by kernel_rfl) (by kernel_rfl) (by kernel_rfl) Bdc Ea (Cp (n:=1) Bg [(⟨#[102,111,114]⟩:Ah)] (by kernel_rfl) I (by decide) 1 I) λCdb B6x Ci3 Bv1=>(GX (λw h_=>⟨h_.sat.on _ (.tail _ (.tail _ (.head _))),h_.sat.on _ (.tail _ (.tail _ (.tail _ (A8w _ Bn)))),Aj⟩) (BL.nil.cons.cons.cons) (by kernel_rfl) (CO λB80 A8x=>(CP I (by kernel_rfl) (N h λAod Bh1 h=>?_))))))))));refine Ex (hR.Bc Bh1 Bv1 Bvz) I ⟨(.tail _ (.tail _ (A8x _ Bn))),Aj⟩ ?_;rintro _ _ ⟨Cdc,B6y,Ci4,Bv2,rfl,rfl⟩;refine BU (DV (BL.nil.cons.cons.cons) (by kernel_rfl) (FJ λAbp=>(CO λB81 Cek=>(CP I (by kernel_rfl) (Ak (N h λRB Bde h=>(Er (ys:=[(⟨#[61]⟩:Ah)]) Bg I C_ (by kernel_rfl) (by kernel_rfl) (by kernel_rfl) (by kernel_rfl) Bde Bv2 (Cp (n:=1) Bg [(⟨#[61]⟩:Ah)] (by kernel_rfl) I (by decide) 1 I) λA6u UZ Xu Bv3=>(DV (BL.nil.cons.cons.cons.cons) (by kernel_rfl) (CO λB83 Cem=>(CP I (by kernel_rfl) ?_))))))))));refine JB (v:=W UZ RB Xu) (by kernel_rfl) (by kernel_rfl) (DV (BL.nil.cons.cons.cons.cons) (by kernel_rfl) (JV (K.weak (env':=[(3,pt b1),(5,V (Ar (((AI.length:Nat):Int) - 1))),(0,W UZ RB Xu)]) ?_ ⟨gr,gr,gr,Aj⟩)));refine K.eq (l':=A6u :: bk Abp #[D (⟨#[61]⟩:Ah)] 9 :: bk Abn #[D (⟨#[102,111,114]⟩:Ah)] 9 :: bk b1 #[V AV,D B1,V B5,V BW,W Ch AI Ci] 34 :: X) I I (As (AU (Kp (Xf:=X) [(0,0),(1,0),(2,3),(3,0),(4,0),(8,0),(9,3),(10,0),(11,0),(12,3)] [(5,true,[]),(7,true,[6]),(13,false,[]),(15,false,[14]),(16,false,[])] (λw=>Dh [bk b1 #[V AV,D B1,V B5,V BW,W Ch AI Ci] 34,DR] w) (by kernel_rfl) (by kernel_rfl) (λ_ _ d _ _ h=>by cases d <;> exact h) (λw h_=>⟨h_.sat.on _ (.tail _ (.tail _ (.tail _ (.head _)))),h_.sat.on _ (t4 Bn),Aj⟩) (λ_ _ h=>Dh.alloc h) ?_)));simp only [Dz,List.filterMap_cons,List.filterMap_nil,List.getElem?_toArray,List.getElem?_cons_zero,List.getElem?_cons_succ,Option.map_some,List.drop_succ_cons,List.drop_zero,AH,AX];refine AJ 2 (B7 0 4 I (AJ 1 (N h λXJ Bdi h=>(R3 (T:=34) (R:=(AM 34)) (xs:=AI) 1 (Ar (((AI.length:Nat):Int) - 1)) I (by kernel_rfl) (by kernel_rfl) (by kernel_rfl) (.inr ⟨_,.i64,I,(by kernel_rfl)⟩) (.inr ⟨_,.i64,I,(by kernel_rfl)⟩) (by kernel_rfl) (by kernel_rfl) Bdi BP λAus Bnl Bv4=>(AJ 1 (B7 0 4 I (AJ 1 (N h λKM Blm h=>(H6 (T:=34) (kd:=.i64) (R:=(AM 34)) I Blm BP λClo Cnd Bzo A3d Cp9=>?_)))))))));obtain ⟨Aut,Bnm,rfl,Bv5⟩:=CB 34 Bzo;refine Gn I A3d (λw h_=>h_.mem _ (.tail _ (.head _))) (BF (K.weak (env':=[(303,W UZ RB Xu),(307,W Aus XJ Bnl),(315,.agg #[V KM.kind,D KM.text,V KM.n,V KM.at_,W Aut KM.kids Bnm])]) ?_ ⟨gr,gr,gr,Aj⟩));refine Kn [(5,true,[]),(7,true,[⟨6,309,.cells #[D (⟨#[100,111]⟩:Ah)] 9 (0,0),λb=>.slice (some ⟨b,0,none⟩) 1 1⟩]),(13,false,[]),(15,false,[⟨14,317,.cells #[D (⟨#[101,110,100]⟩:Ah)] 9 (0,0),λb=>.slice (some ⟨b,0,none⟩) 1 1⟩]),(16,false,[])] I (by kernel_rfl) ⟨⟨_,I,I,⟨(by kernel_rfl),(by kernel_rfl),(by kernel_rfl)⟩,λ_=>by kernel_rfl⟩,⟨_,I,I,⟨(by kernel_rfl),(by kernel_rfl),(by kernel_rfl)⟩,λ_=>by kernel_rfl⟩,Aj⟩ (BL.nil.cons.cons.cons.cons) (CO λB85 Af0=>(CP I (by kernel_rfl) (N h λAoe Bh5 h=>(Ex (hR.Dl Bh5 Bv3 Bv4) I ⟨(.tail _ (.tail _ (.tail _ (Af0 _ Bn)))),Aj⟩ ?_))));rintro _ _ ⟨Cdd,B60,Ci5,Bv6,rfl,rfl⟩;refine BU (GX (λw h_=>⟨h_.sat.on _ (.tail _ (.tail _ (.tail _ (.head _)))),h_.sat.on _ (.tail _ (.tail _ (.tail _ (.tail _ (Af0 _ Bn))))),Aj⟩) (BL.nil.cons.cons.cons.cons) (by kernel_rfl) (FJ λAzc=>(CO λB87 A8z=>(CP I (by kernel_rfl) (Ak (N h λAjy Bdj h=>(Er (ys:=[(⟨#[100,111]⟩:Ah)]) Bg I C_ (by kernel_rfl) (by kernel_rfl) (by kernel_rfl) (by kernel_rfl) Bdj Bv6 (Cp (n:=1) Bg [(⟨#[100,111]⟩:Ah)] (by kernel_rfl) I (by decide) 1 I) λCdh B61 Ci6 Bv8=>(GX (λw h_=>⟨h_.sat.on _ (.tail _ (.tail _ (.tail _ (.tail _ (.head _))))),h_.sat.on _ (.tail _ (.tail _ (.tail _ (.tail _ (.tail _ (A8z _ Bn)))))),Aj⟩) (BL.nil.cons.cons.cons.cons.cons) (by kernel_rfl) (CO λB9a A81=>(CP I (by kernel_rfl) ?_))))))))));refine N h λAoj Bh6 h=>(Ex (hR.Bc Bh6 Bv8 Bv5) I ⟨(.tail _ (.tail _ (.tail _ (.tail _ (A81 _ Bn))))),Aj⟩ ?_);rintro _ _ ⟨Cdk,B63,Ci9,Bv9,rfl,rfl⟩;refine BU (DV (BL.nil.cons.cons.cons.cons.cons) (by kernel_rfl) (FJ λAze=>(CO λB9d Cer=>(CP I (by kernel_rfl) (Ak (N h λRD Bdl h=>(Er (ys:=[(⟨#[101,110,100]⟩:Ah)]) Bg I C_ (by kernel_rfl) (by kernel_rfl) (by kernel_rfl) (by kernel_rfl) Bdl Bv9 (Cp (n:=1) Bg [(⟨#[101,110,100]⟩:Ah)] (by kernel_rfl) I (by decide) 1 I) λVU SU Uc Bwc=>(DV (BL.nil.cons.cons.cons.cons.cons.cons) (by kernel_rfl) (CO λB9e Ces=>(CP I (by kernel_rfl) ?_))))))))));refine JB (v:=W SU RD Uc) (by kernel_rfl) (by kernel_rfl) (DV (BL.nil.cons.cons.cons.cons.cons.cons) (by kernel_rfl) (JV (K.weak (env':=[(4,W SU RD Uc)]) ?_ ⟨gr,Aj⟩)));refine K.eq (l':=VU :: bk Aze #[D (⟨#[101,110,100]⟩:Ah)] 9 :: bk Azc #[D (⟨#[100,111]⟩:Ah)] 9 :: bk Abp #[D (⟨#[61]⟩:Ah)] 9 :: bk Abn #[D (⟨#[102,111,114]⟩:Ah)] 9 :: bk b1 #[V AV,D B1,V B5,V BW,W Ch AI Ci] 34 :: X) I I (As (AT (B3 (Bh ?_))));obtain rfl:=Ap h;refine kdv (W SU RD Uc) [VU] (Ak (Ao (Ak (Ao (Ak (Ao (Ak (Ao (Ak (Ao ?_))))))))));exact Bb ⟨VU,SU,Uc,Bwc,I,I⟩;refine ksr (M 2 (G ?_));refine At h (λh=>?_) λh=>?_;refine AU (Kp (Xf:=X) [(0,0),(3,0),(4,3),(5,0),(6,3),(7,0)] [(2,true,[1]),(8,false,[]),(10,false,[9]),(11,false,[])] (λw=>Dh [bk b1 #[V AV,D B1,V B5,V BW,W Ch AI Ci] 34] w) (by kernel_rfl) (by kernel_rfl) (λ_ _ d _ _ h=>by cases d <;> exact h) (λw h_=>⟨h_.sat.on _ (.head _),Aj⟩) (λ_ _ h=>Dh.alloc h) ?_);simp only [Dz,List.filterMap_cons,List.filterMap_nil,List.getElem?_toArray,List.getElem?_cons_zero,List.getElem?_cons_succ,Option.map_some,List.drop_succ_cons,List.drop_zero,AH,AX];refine AJ 2 (B7 0 4 I (AJ 1 (B7 0 2 I (N h λXK Bdm h=>(R3 (T:=34) (R:=(AM 34)) (xs:=AI) 0 B5 I (by kernel_rfl) (by kernel_rfl) (by kernel_rfl) (.inl ⟨I,I⟩) (.inr ⟨_,.i64,I,(by kernel_rfl)⟩) (by kernel_rfl) (by kernel_rfl) Bdm BP λAuu Bnp Bwd=>(BF (K.weak (env':=[(3,pt b1),(5,V (Ar (((AI.length:Nat):Int) - 1))),(321,W F2 a0 F4),(328,W Auu XK Bnp)]) ?_ ⟨gr,gr,gr,gr,Aj⟩)))))));refine Kn [(2,true,[⟨1,322,.cells #[D (⟨#[102,111,114]⟩:Ah)] 9 (0,0),λb=>.slice (some ⟨b,0,none⟩) 1 1⟩]),(8,false,[]),(10,false,[⟨9,330,.cells #[D (⟨#[105,110]⟩:Ah)] 9 (0,0),λb=>.slice (some ⟨b,0,none⟩) 1 1⟩]),(11,false,[])] I (by kernel_rfl) ⟨⟨_,I,I,⟨(by kernel_rfl),(by kernel_rfl),(by kernel_rfl)⟩,λ_=>by kernel_rfl⟩,⟨_,I,I,⟨(by kernel_rfl),(by kernel_rfl),(by kernel_rfl)⟩,λ_=>by kernel_rfl⟩,Aj⟩ (BL.nil.cons.cons) (FJ λAbq=>(CO λB9j Cet=>(CP I (by kernel_rfl) (Aq (N h λAjz Bdo h=>(Er (ys:=[(⟨#[102,111,114]⟩:Ah)]) Bg I C_ (by kernel_rfl) (by kernel_rfl) (by kernel_rfl) (by kernel_rfl) Bdo Ea (Cp (n:=1) Bg [(⟨#[102,111,114]⟩:Ah)] (by kernel_rfl) I (by decide) 1 I) λCdl B64 Cje Bwe=>(GX (λw h_=>⟨h_.sat.on _ (.tail _ (.tail _ (.head _))),Aj⟩) (BL.nil.cons.cons.cons) (by kernel_rfl) (CO λB9l A9a=>(CP I (by kernel_rfl) (N h λAop Bh7 h=>?_))))))))));refine Ex (hR.Dl Bh7 Bwe Bwd) I ⟨(.tail _ (.tail _ (A9a _ Bn))),Aj⟩ ?_;rintro _ _ ⟨Cdm,B65,Cji,Bwh,rfl,rfl⟩;refine BU (DV (BL.nil.cons.cons.cons) (by kernel_rfl) (FJ λAbr=>(CO λB9m Ceu=>(CP I (by kernel_rfl) (Ak (N h λRF Bdp h=>(Er (ys:=[(⟨#[105,110]⟩:Ah)]) Bg I C_ (by kernel_rfl) (by kernel_rfl) (by kernel_rfl) (by kernel_rfl) Bdp Bwh (Cp (n:=1) Bg [(⟨#[105,110]⟩:Ah)] (by kernel_rfl) I (by decide) 1 I) λA6v U_ Xv Bwi=>(DV (BL.nil.cons.cons.cons.cons) (by kernel_rfl) (CO λB9n Cev=>(CP I (by kernel_rfl) ?_))))))))));refine JB (v:=W U_ RF Xv) (by kernel_rfl) (by kernel_rfl) (DV (BL.nil.cons.cons.cons.cons) (by kernel_rfl) (JV (K.weak (env':=[(3,pt b1),(5,V (Ar (((AI.length:Nat):Int) - 1))),(0,W U_ RF Xv)]) ?_ ⟨gr,gr,gr,Aj⟩)));refine K.eq (l':=A6v :: bk Abr #[D (⟨#[105,110]⟩:Ah)] 9 :: bk Abq #[D (⟨#[102,111,114]⟩:Ah)] 9 :: bk b1 #[V AV,D B1,V B5,V BW,W Ch AI Ci] 34 :: X) I I (As (AU (Kp (Xf:=X) [(0,0),(1,0),(2,3),(3,0),(4,3),(5,0),(6,0),(10,0),(11,3),(12,0),(13,0),(14,3)] [(7,true,[]),(9,true,[8]),(15,false,[]),(17,false,[16]),(18,false,[])] (λw=>Dh [bk b1 #[V AV,D B1,V B5,V BW,W Ch AI Ci] 34,DR] w) (by kernel_rfl) (by kernel_rfl) (λ_ _ d _ _ h=>by cases d <;> exact h) (λw h_=>⟨h_.sat.on _ (.tail _ (.tail _ (.tail _ (.head _)))),h_.sat.on _ (t4 Bn),Aj⟩) (λ_ _ h=>Dh.alloc h) ?_)));simp only [Dz,List.filterMap_cons,List.filterMap_nil,List.getElem?_toArray,List.getElem?_cons_zero,List.getElem?_cons_succ,Option.map_some,List.drop_succ_cons,List.drop_zero,AH,AX];refine AJ 2 (B7 0 4 I (AJ 1 (B7 0 2 I (AJ 1 (N h λXL Bdu h=>(R3 (T:=34) (R:=(AM 34)) (xs:=AI) B5 (Ar (((AI.length:Nat):Int) - 1)) I (by kernel_rfl) (by kernel_rfl) (by kernel_rfl) (.inr ⟨_,.i64,I,(by kernel_rfl)⟩) (.inr ⟨_,.i64,I,(by kernel_rfl)⟩) (by kernel_rfl) (by kernel_rfl) Bdu BP λAuv Bns Bwj=>(AJ 1 (B7 0 4 I (AJ 1 (N h λKN Blp h=>?_))))))))));refine H6 (T:=34) (kd:=.i64) (R:=(AM 34)) I Blp BP λClq Cnh Bzq A3f Cqc=>?_;obtain ⟨Auw,Bnt,rfl,Bwl⟩:=CB 34 Bzq;refine Gn I A3f (λw h_=>h_.mem _ (.tail _ (.head _))) (BF (K.weak (env':=[(332,W U_ RF Xv),(338,W Auv XL Bns),(346,.agg #[V KN.kind,D KN.text,V KN.n,V KN.at_,W Auw KN.kids Bnt])]) ?_ ⟨gr,gr,gr,Aj⟩));refine Kn [(7,true,[]),(9,true,[⟨8,340,.cells #[D (⟨#[100,111]⟩:Ah)] 9 (0,0),λb=>.slice (some ⟨b,0,none⟩) 1 1⟩]),(15,false,[]),(17,false,[⟨16,348,.cells #[D (⟨#[101,110,100]⟩:Ah)] 9 (0,0),λb=>.slice (some ⟨b,0,none⟩) 1 1⟩]),(18,false,[])] I (by kernel_rfl) ⟨⟨_,I,I,⟨(by kernel_rfl),(by kernel_rfl),(by kernel_rfl)⟩,λ_=>by kernel_rfl⟩,⟨_,I,I,⟨(by kernel_rfl),(by kernel_rfl),(by kernel_rfl)⟩,λ_=>by kernel_rfl⟩,Aj⟩ (BL.nil.cons.cons.cons.cons) (CO λB9o Af2=>(CP I (by kernel_rfl) (N h λAoq Bh8 h=>(Ex (hR.Dl Bh8 Bwi Bwj) I ⟨(.tail _ (.tail _ (.tail _ (Af2 _ Bn)))),Aj⟩ ?_))));rintro _ _ ⟨Cdn,B67,Cjj,Bwm,rfl,rfl⟩;refine BU (GX (λw h_=>⟨h_.sat.on _ (.tail _ (.tail _ (.tail _ (.head _)))),h_.sat.on _ (.tail _ (.tail _ (.tail _ (.tail _ (Af2 _ Bn))))),Aj⟩) (BL.nil.cons.cons.cons.cons) (by kernel_rfl) (FJ λAzh=>(CO λB9p A9b=>(CP I (by kernel_rfl) (Ak (N h λAj0 Bdy h=>(Er (ys:=[(⟨#[100,111]⟩:Ah)]) Bg I C_ (by kernel_rfl) (by kernel_rfl) (by kernel_rfl) (by kernel_rfl) Bdy Bwm (Cp (n:=1) Bg [(⟨#[100,111]⟩:Ah)] (by kernel_rfl) I (by decide) 1 I) λCdo B68 Cjk Bwp=>(GX (λw h_=>⟨h_.sat.on _ (.tail _ (.tail _ (.tail _ (.tail _ (.head _))))),h_.sat.on _ (.tail _ (.tail _ (.tail _ (.tail _ (.tail _ (A9b _ Bn)))))),Aj⟩) (BL.nil.cons.cons.cons.cons.cons) (by kernel_rfl) (CO λB9q A9d=>(CP I (by kernel_rfl) ?_))))))))));refine N h λAos Bib h=>(Ex (hR.Bc Bib Bwp Bwl) I ⟨(.tail _ (.tail _ (.tail _ (.tail _ (A9d _ Bn))))),Aj⟩ ?_);rintro _ _ ⟨Cdr,B7e,Cjm,Bwq,rfl,rfl⟩;refine BU (DV (BL.nil.cons.cons.cons.cons.cons) (by kernel_rfl) (FJ λAzi=>(CO λB9t Cew=>(CP I (by kernel_rfl) (Ak (N h λRG Bdz h=>(Er (ys:=[(⟨#[101,110,100]⟩:Ah)]) Bg I C_ (by kernel_rfl) (by kernel_rfl) (by kernel_rfl) (by kernel_rfl) Bdz Bwq (Cp (n:=1) Bg [(⟨#[101,110,100]⟩:Ah)] (by kernel_rfl) I (by decide) 1 I) λVV SV Ud Bwr=>(DV (BL.nil.cons.cons.cons.cons.cons.cons) (by kernel_rfl) (CO λB9u Cey=>(CP I (by kernel_rfl) ?_))))))))));refine JB (v:=W SV RG Ud) (by kernel_rfl) (by kernel_rfl) (DV (BL.nil.cons.cons.cons.cons.cons.cons) (by kernel_rfl) (JV (K.weak (env':=[(4,W SV RG Ud)]) ?_ ⟨gr,Aj⟩)));refine K.eq (l':=VV :: bk Azi #[D (⟨#[101,110,100]⟩:Ah)] 9 :: bk Azh #[D (⟨#[100,111]⟩:Ah)] 9 :: bk Abr #[D (⟨#[105,110]⟩:Ah)] 9 :: bk Abq #[D (⟨#[102,111,114]⟩:Ah)] 9 :: bk b1 #[V AV,D B1,V B5,V BW,W Ch AI Ci] 34 :: X) I I (As (AT (B3 (Bh ?_))));obtain rfl:=Ap h;refine kdv (W SV RG Ud) [VV] (Ak (Ao (Ak (Ao (Ak (Ao (Ak (Ao (Ak (Ao ?_))))))))));exact Bb ⟨VV,SV,Ud,Bwr,I,I⟩;refine ksr (M 2 (G ?_));refine At h (λh=>?_) λh=>?_;refine AU (kpr [(0,0),(1,0),(2,3),(5,0),(6,3),(7,0),(8,3),(9,0),(3,1),(4,1)] [0] (AJ 2 (B7 0 1 rfl (AJ 1 (B7 0 4 rfl (AJ 1 (B7 0 2 rfl (N h λAj3 Bd4 h=>(R3 (T:=34) (R:=(AM 34)) (xs:=AI) 0 B5 rfl (by kernel_rfl) (by kernel_rfl) (by kernel_rfl) (.inl ⟨rfl,rfl⟩) (.inr ⟨_,.i64,rfl,(by kernel_rfl)⟩) (by kernel_rfl) (by kernel_rfl) Bd4 BP λB7f Cjn Bws=>(kpt ?_))))))))));refine E_ #[D (⟨#[102,117,110,99,116,105,111,110]⟩:Ah),D B1,D (⟨#[40]⟩:Ah)] 9 3 λCa7=>(B_ [1] I (kpt (Aq (N h λAj4 Bd7 h=>(Er (ys:=[(⟨#[102,117,110,99,116,105,111,110]⟩:Ah),B1,(⟨#[40]⟩:Ah)]) Bg I C_ (by kernel_rfl) (by kernel_rfl) (by kernel_rfl) (by kernel_rfl) Bd7 Ea (Cp (n:=3) Bg [(⟨#[102,117,110,99,116,105,111,110]⟩:Ah),B1,(⟨#[40]⟩:Ah)] (by kernel_rfl) I (by decide) 1 I) λCds B7i Cjo Bwt=>(B_ [2] I (BF (N h λZm Bie h=>(AZ (hR.Dl Bie Bwt Bws) I ⟨(t2 Bn),Aj⟩ ?_)))))))));rintro _ _ ⟨Cdu,Auy,Bnv,Bwu,rfl,rfl⟩;refine BU (Ak (Ao (M 1 (G (AU (Kp (Xf:=X) [(0,0),(3,0),(4,3),(5,0),(6,0),(7,3)] [(2,true,[1]),(8,false,[]),(10,false,[9]),(11,false,[])] (λw=>Dh [bk b1 #[V AV,D B1,V B5,V BW,W Ch AI Ci] 34,DR] w) (by kernel_rfl) (by kernel_rfl) (λ_ _ d _ _ h=>by cases d <;> exact h) (λw h_=>⟨h_.sat.on _ (.tail _ (.head _)),h_.sat.on _ (t2 Bn),Aj⟩) (λ_ _ h=>Dh.alloc h) ?_))))));simp only [Dz,List.filterMap_cons,List.filterMap_nil,List.getElem?_toArray,List.getElem?_cons_zero,List.getElem?_cons_succ,Option.map_some,List.drop_succ_cons,List.drop_zero,AH,AX];refine AJ 2 (B7 0 4 I (AJ 1 (N h λKO Blr h=>(H6 (T:=34) (kd:=.i64) (R:=(AM 34)) I Blr BP λClr Cni Bzr A3h Cqi=>?_))));obtain ⟨Au0,Bnx,rfl,o755⟩:=CB 34 Bzr;refine Gn I A3h (λw h_=>h_.mem _ (.tail _ (.head _))) (BF (K.weak (env':=[(363,W Auy Zm Bnv),(370,.agg #[V KO.kind,D KO.text,V KO.n,V KO.at_,W Au0 KO.kids Bnx])]) ?_ ⟨gr,gr,Aj⟩));refine Kn [(2,true,[⟨1,364,.cells #[D (⟨#[41]⟩:Ah)] 9 (0,0),λb=>.slice (some ⟨b,0,none⟩) 1 1⟩]),(8,false,[]),(10,false,[⟨9,372,.cells #[D (⟨#[101,110,100]⟩:Ah)] 9 (0,0),λb=>.slice (some ⟨b,0,none⟩) 1 1⟩]),(11,false,[])] I (by kernel_rfl) ⟨⟨_,I,I,⟨(by kernel_rfl),(by kernel_rfl),(by kernel_rfl)⟩,λ_=>by kernel_rfl⟩,⟨_,I,I,⟨(by kernel_rfl),(by kernel_rfl),(by kernel_rfl)⟩,λ_=>by kernel_rfl⟩,Aj⟩ (BL.nil.cons.cons) (FJ λAzj=>(CO λB9v A9f=>(CP I (by kernel_rfl) (Ak (N h λAj5 Beb h=>(Er (ys:=[(⟨#[41]⟩:Ah)]) Bg I C_ (by kernel_rfl) (by kernel_rfl) (by kernel_rfl) (by kernel_rfl) Beb Bwu (Cp (n:=1) Bg [(⟨#[41]⟩:Ah)] (by kernel_rfl) I (by decide) 1 I) λh759 B7j Cjq Bww=>(GX (λw h_=>⟨h_.sat.on _ (.tail _ (.tail _ (.head _))),h_.sat.on _ (.tail _ (.tail _ (.tail _ (A9f _ Bn)))),Aj⟩) (BL.nil.cons.cons.cons) (by kernel_rfl) (CO λB9z A9l=>(CP I (by kernel_rfl) (N h λAot Bii h=>?_))))))))));refine Ex (hR.Bc Bii Bww o755) I ⟨(.tail _ (.tail _ (A9l _ Bn))),Aj⟩ ?_;rintro _ _ ⟨Cdv,B7k,Cjr,Bwy,rfl,rfl⟩;refine BU (DV (BL.nil.cons.cons.cons) (by kernel_rfl) (FJ λAzk=>(CO λB91 Cez=>(CP I (by kernel_rfl) (Ak (N h λRH Bec h=>(Er (ys:=[(⟨#[101,110,100]⟩:Ah)]) Bg I C_ (by kernel_rfl) (by kernel_rfl) (by kernel_rfl) (by kernel_rfl) Bec Bwy (Cp (n:=1) Bg [(⟨#[101,110,100]⟩:Ah)] (by kernel_rfl) I (by decide) 1 I) λVW SX Ue Bwz=>(DV (BL.nil.cons.cons.cons.cons) (by kernel_rfl) (CO λB95 Ce2=>(CP I (by kernel_rfl) ?_))))))))));refine JB (v:=W SX RH Ue) (by kernel_rfl) (by kernel_rfl) (DV (BL.nil.cons.cons.cons.cons) (by kernel_rfl) (JV (K.weak (env':=[(4,W SX RH Ue)]) ?_ ⟨gr,Aj⟩)));refine K.eq (l':=VW :: bk Azk #[D (⟨#[101,110,100]⟩:Ah)] 9 :: bk Azj #[D (⟨#[41]⟩:Ah)] 9 :: bk b1 #[V AV,D B1,V B5,V BW,W Ch AI Ci] 34 :: X) I I (As (AT (B3 (Bh ?_))));obtain rfl:=Ap h;exact kdv (W SX RH Ue) [VW] (Ak (Ao (Ak (Ao (Ak (Ao (Bb ⟨VW,SX,Ue,Bwz,I,I⟩)))))));exact AF (A_ (As (AA (a0,IJ,F2,F4) ⟨h,Ea⟩ sb rfl)))
def Dl.l0:Nat->(Rc:LA)->(a1:List Tree)->(J6:(List Ah)->Option (List Ah))->(l7:List Ah)->(x12:Int)->Option (List Ah)
 | 0,_,_,_,_,_=>none
 | m13+1,Rc,a1,J6,l7,x12=>cond (decide (x12 < ((a1.length:Nat):Int))) (A2 (λ(l15:D9)=>(Bm a1 x12).bind λx21=>(Rc.Bc l15 x21.kind x21.text x21.n x21.at_ x21.kids).bind λCJ=>Dl.l0 m13 Rc a1 J6 CJ (Ar (x12+1))) (λJ20=>cond (decide (x12 > 0)) ((apd 16 l7 [(⟨#[44]⟩:Ah)]).bind λl37=>J20 l37) (J20 l7))) (J6 l7)
def Dl.g (Rc:LA) (k:Nat) (a0:List Ah) (a1:List Tree):Option (List Ah):=A2 (λ(l1:List Ah)=>some (l1)) (λJ6=>Dl.l0 k Rc a1 J6 a0 0)
theorem Dl.BN {Rc:LA} (hR:Rc.Good) {k:Nat}:Dl.C (Dl.g Rc k):=by
 intro a0 r a1 IJ Hx F2 Fk F4 Fm h Ea KV;refine BC (args:=[W F2 a0 F4,W Fk a1 Fm]) Tryz.func28 I (AY I) ?_;intro A X hh_;obtain ⟨I3,_⟩:=hh_;unfold Dl.g at h;refine K.eq (env':=[(0,W F2 a0 F4),(1,W Fk a1 Fm)]) (l':=IJ :: X) I I (ksr (M 1 (G ?_)));obtain ⟨J6,hJ6,h⟩:=By h;refine Bz (τ:=(List Ah)×Am×(Option Addr)×Nat) (λt=>[(0,W t.2.2.1 t.1 t.2.2.2)]) (λt=>t.2.1 :: X) (λt=>J6 t.1=some r/\AC encS 9 1 t.2.1 (W t.2.2.1 t.1 t.2.2.2) t.1) ?_ ?_;rintro ⟨l1,h2,A3,k4⟩ ⟨h,o5⟩;subst hJ6;refine ksr (M 2 (G (AT ?_)));obtain rfl:=Ap h;exact kdv (W A3 l1 k4) [h2] (Bb ⟨h2,A3,k4,o5,I,I⟩);refine ksr (M 1 (G (Bq (CW (τ:=D9×Int×Am×AG×Nat) (λt=>[(0,W t.2.2.2.1 t.1 t.2.2.2.2),(1,W Fk a1 Fm),(5,V t.2.1)]) (λt=>t.2.2.1 :: X) (λm t=>Dl.l0 m Rc a1 J6 t.1 t.2.1=some r/\AC encS 9 1 t.2.2.1 (W t.2.2.2.1 t.1 t.2.2.2.2) t.1) k (a0,0,IJ,F2,F4) ⟨h,Ea⟩ sb I ?_))));clear h;rintro m13 ⟨l7,x12,h8,A9,k10⟩ ⟨h,Jb⟩;cases m13 with
 | zero=>simp [Dl.l0] at h
 | succ m13 =>
  simp only [Dl.l0] at h;refine AU (ksr (M 4 (G ?_)));refine At h (λh=>?_) λh=>?_;refine AF (As (AU (Bq ?_)));obtain ⟨J20,QS,h⟩:=By h;refine Bz (τ:=D9×Am×AG×Nat) (λt=>[(0,W t.2.2.1 t.1 t.2.2.2),(1,W Fk a1 Fm),(5,V x12)]) (λt=>t.2.1 :: X) (λt=>J20 t.1=some r/\AC encS 9 1 t.2.1 (W t.2.2.1 t.1 t.2.2.2) t.1) ?_ ?_;rintro ⟨l15,h16,D_,k18⟩ ⟨h,o19⟩;subst QS;refine AK (M 3 (N h λx21 Bj5 h=>(DA (T:=34) (kd:=.i64) (R:=(AM 34)) I Bj5 KV λp22 u25 q26 e23 y24=>?_)));obtain ⟨A27,k28,rfl,o29⟩:=CB 34 q26;refine DH I e23 (.tail _ I3) (N h λCJ LJ h=>(AZ (hR.Bc LJ o19 o29) I ⟨I3,Aj⟩ ?_));rintro _ _ ⟨h31,Ml,k33,Ip,rfl,rfl⟩;exact BU (M 1 (knl (A_ (As (AK (M 3 (G (Cw m13 (CJ,Ar (x12+1),h31,Ml,k33) (Nat.lt_succ_self _) ⟨h,Ip⟩ sb I))))))));refine ksr (M 2 (G ?_));refine At h (λh=>?_) λh=>?_;exact AK (M 1 (Bl #[D (⟨#[44]⟩:Ah)] 9 1 λVo=>(Ak (N h λl37 Bcg h=>(DG (ys:=[(⟨#[44]⟩:Ah)]) Bg rfl C_ Bcg Jb (Cp (n:=1) Bg [(⟨#[44]⟩:Ah)] (by kernel_rfl) rfl (by decide) 1 rfl) λh38 A39 k40 o41=>(Ak (Ao (M 1 (G (AA (l37,h38,A39,k40) ⟨h,o41⟩ sb rfl))))))))));exact AF (As (AA (l7,h8,A9,k10) ⟨h,Jb⟩ sb rfl));exact CH (B6 (B6 (CI (As (AA (l7,h8,A9,k10) ⟨h,Jb⟩ sb rfl)))))
def LA.at:Nat->LA
 | 0=>⟨λ_ _ _ _ _ _=>none,λ_ _=>none⟩
 | k+1=>⟨Bc.g (LA.at k) k,Dl.g (LA.at k) k⟩
theorem LA.good:∀ k,(LA.at k).Good
 | 0=>⟨(by unfold Bc.C;intros;rename_i h _ _;cases (show (none:Option _)=some _ from h)),(by unfold Dl.C;intros;rename_i h _ _;cases (show (none:Option _)=some _ from h))⟩
 | k+1=>⟨Bc.BN (k:=k) (LA.good k),Dl.BN (k:=k) (LA.good k)⟩
def Bc.f (k:Nat):=Bc.g (LA.at k) k
theorem Bc.ok {k:Nat}:Bc.C (Bc.f k):=Bc.BN (k:=k) (LA.good k)
end
section
open Go Go.RowKit Lx
namespace Lx
def Kr (r:Nat):Nat:=if r < 128 then 1 else if r < 2048 then 2 else if r < 65536 then 3 else 4
theorem Bpy (r:Nat):G5 r=decide (97<=r/\r<=122\/65<=r/\r<=90\/r=95\/(128<=r/\r<=1114111/\r≠65533/\Utf8.valid (r:Int)=true)):=by
 unfold G5;generalize Utf8.valid (r:Int)=v;rw [Bool.eq_iff_iff];cases v <;> simp only [decide_eq_true_eq,Bool.or_eq_true,Bool.and_eq_true,beq_iff_eq,bne_iff_ne,Bool.false_eq_true,and_false,or_false,and_true,ne_eq] <;> omega
theorem Asw (r:Nat) (h:1114111 < r):Utf8.valid (r:Int)=false:=by
 unfold Utf8.valid;simp;omega
def Em:Nat->Nat->Bs->Option Nat
 | 0,r,_=>some r
 | _+1,_,[]=>none
 | k+1,r,b :: t=>if 128<=b.toNat/\b.toNat < 192 then Em k (r * 64+b.toNat - 128) t else none
theorem Aqb:∀ (k r:Nat) (t:Bs),t.length < k->Em k r t=none
 | 0,_,_,h=>by omega
 | k+1,r,[],_=>rfl
 | k+1,r,b :: t,h=>by
  simp only [Em];split;exact Aqb k _ t (by simpa using h);rfl
def Fo (n:Nat) (x:Option Nat):Nat×Nat:=match x with | none=>(65533,1) | some r=>if Utf8.valid r=true/\Kr r=n then (r,n) else (65533,1)
theorem Asu (r:Nat) (h:r < 55296):Utf8.valid (r:Int)=true:=by
 unfold Utf8.valid;simp;omega
theorem Js (c:UInt8):(c.toNat / 64 == 2)=decide (128<=c.toNat/\c.toNat < 192):=by
 rw [Bool.eq_iff_iff];simp;omega
theorem A3l (b:UInt8) (t:Bs) (h:b.toNat < 128):Fo 1 (Em 0 b.toNat t)=Ba (b :: t):=by
 rw [Nr b t h];simp only [Em,Fo];rw [if_pos ⟨Asu _ (by omega),if_pos h⟩]
theorem A3m (b:UInt8) (t:Bs) (h1:192<=b.toNat) (h2:b.toNat < 224):Fo 2 (Em 1 (b.toNat - 192) t)=Ba (b :: t):=by
 have a0:¬ b.toNat < 128:=by omega
 have a1:(b.toNat / 32 == 6)=true:=by rw [beq_iff_eq];omega
 have a2:(b.toNat / 16 == 14)=false:=by rw [beq_eq_false_iff_ne];omega
 have a3:(b.toNat / 8 == 30)=false:=by rw [beq_eq_false_iff_ne];omega
 cases t with
 | nil=>simp [Ba,Em,Fo,a0,a1,a2,a3]
 | cons c t =>
  by_cases hc:128<=c.toNat/\c.toNat < 192
  ·have ev:(b.toNat - 192) * 64+c.toNat - 128=b.toNat % 32 * 64+c.toNat % 64:=by omega
   simp only [Em,if_pos hc,Fo];rw [ev];have hv:Utf8.valid ((b.toNat % 32 * 64+c.toNat % 64:Nat):Int)=true:=Asu _ (by omega);have hl:Kr (b.toNat % 32 * 64+c.toNat % 64)=2 ↔ 128<=b.toNat % 32 * 64+c.toNat % 64:=by
    unfold Kr
    (repeat' split) <;> omega
   simp only [Ba,List.getD_cons_zero,List.getD_cons_succ,AH,Js,a0,a1,hc,hv,hl];simp
  ·simp [Ba,Em,Fo,a0,a1,a2,a3,Js,hc]
theorem A3o (b:UInt8) (t:Bs) (h1:224<=b.toNat) (h2:b.toNat < 240):Fo 3 (Em 2 (b.toNat - 224) t)=Ba (b :: t):=by
 have a0:¬ b.toNat < 128:=by omega
 have a1:(b.toNat / 32 == 6)=false:=by rw [beq_eq_false_iff_ne];omega
 have a2:(b.toNat / 16 == 14)=true:=by rw [beq_iff_eq];omega
 have a3:(b.toNat / 8 == 30)=false:=by rw [beq_eq_false_iff_ne];omega
 match t with
 | []=>simp [Ba,Em,Fo,a0,a1,a2,a3]
 | [c] =>
  by_cases hc:128<=c.toNat/\c.toNat < 192 <;> simp [Ba,Em,Fo,a0,a1,a2,a3,Js,hc]
 | c :: d :: t =>
  by_cases hc:128<=c.toNat/\c.toNat < 192
  ·by_cases hd:128<=d.toNat/\d.toNat < 192
   ·have ev:((b.toNat - 224) * 64+c.toNat - 128) * 64+d.toNat - 128=b.toNat % 16 * 4096+c.toNat % 64 * 64+d.toNat % 64:=by omega
    simp only [Em,if_pos hc,if_pos hd,Fo];rw [ev];have hl:Kr (b.toNat % 16 * 4096+c.toNat % 64 * 64+d.toNat % 64)=3 ↔ 2048<=b.toNat % 16 * 4096+c.toNat % 64 * 64+d.toNat % 64:=by
     unfold Kr
     (repeat' split) <;> omega
    simp only [Ba,List.getD_cons_zero,List.getD_cons_succ,AH,Js,a0,a1,a2,hc,hd,hl];simp [and_comm]
   ·simp [Ba,Em,Fo,a0,a1,a2,a3,Js,hc,hd]
  ·simp [Ba,Em,Fo,a0,a1,a2,a3,Js,hc]
theorem A3p (b:UInt8) (t:Bs) (h1:240<=b.toNat) (h2:b.toNat < 248):Fo 4 (Em 3 (b.toNat - 240) t)=Ba (b :: t):=by
 have a0:¬ b.toNat < 128:=by omega
 have a1:(b.toNat / 32 == 6)=false:=by rw [beq_eq_false_iff_ne];omega
 have a2:(b.toNat / 16 == 14)=false:=by rw [beq_eq_false_iff_ne];omega
 have a3:(b.toNat / 8 == 30)=true:=by rw [beq_iff_eq];omega
 match t with
 | []=>simp [Ba,Em,Fo,a0,a1,a2,a3]
 | [c] =>
  by_cases hc:128<=c.toNat/\c.toNat < 192 <;> simp [Ba,Em,Fo,a0,a1,a2,a3,Js,hc]
 | [c,d] =>
  by_cases hc:128<=c.toNat/\c.toNat < 192 <;> by_cases hd:128<=d.toNat/\d.toNat < 192 <;> simp [Ba,Em,Fo,a0,a1,a2,a3,Js,hc,hd]
 | c :: d :: e :: t =>
  by_cases hc:128<=c.toNat/\c.toNat < 192
  ·by_cases hd:128<=d.toNat/\d.toNat < 192
   ·by_cases he:128<=e.toNat/\e.toNat < 192
    ·have ev:(((b.toNat - 240) * 64+c.toNat - 128) * 64+d.toNat - 128) * 64+e.toNat - 128=b.toNat % 8 * 262144+c.toNat % 64 * 4096+d.toNat % 64 * 64+e.toNat % 64:=by omega
     simp only [Em,if_pos hc,if_pos hd,if_pos he,Fo];rw [ev];have hl:Kr (b.toNat % 8 * 262144+c.toNat % 64 * 4096+d.toNat % 64 * 64+e.toNat % 64)=4 ↔ 65536<=b.toNat % 8 * 262144+c.toNat % 64 * 4096+d.toNat % 64 * 64+e.toNat % 64:=by
      unfold Kr
      (repeat' split) <;> omega
     simp only [Ba,List.getD_cons_zero,List.getD_cons_succ,AH,Js,a0,a1,a2,a3,hc,hd,he,hl];simp [and_comm]
    ·simp [Ba,Em,Fo,a0,a1,a2,a3,Js,hc,hd,he]
   ·simp [Ba,Em,Fo,a0,a1,a2,a3,Js,hc,hd]
  ·simp [Ba,Em,Fo,a0,a1,a2,a3,Js,hc]
theorem Adb (b:UInt8) (t:Bs) (h0:128<=b.toNat) (h:b.toNat < 192\/248<=b.toNat):Ba (b :: t)=(65533,1):=by
 have a0:¬ b.toNat < 128:=by omega
 have a1:(b.toNat / 32 == 6)=false:=by rw [beq_eq_false_iff_ne];have:=b.toNat_lt;omega
 have a2:(b.toNat / 16 == 14)=false:=by rw [beq_eq_false_iff_ne];omega
 have a3:(b.toNat / 8 == 30)=false:=by rw [beq_eq_false_iff_ne];omega
 simp [Ba,a0,a1,a2,a3]
end Lx
def Evt {α:Type} (g:Nat->Option α) (r:α):Prop:=∃ K,∀ k,K<=k->g k=some r
theorem Evt.bind {α β:Type} {g:Nat->Option α} {f:Nat->α->Option β} {a:α} {r:β} (h1:Evt g a) (h2:Evt (λk=>f k a) r):Evt (λk=>(g k).bind (f k)) r:=by
 obtain ⟨K1,h1⟩:=h1;obtain ⟨K2,h2⟩:=h2;exact ⟨max K1 K2,λk hk=>by show (g k).bind (f k)=some r;rw [h1 k (by omega)];exact h2 k (by omega)⟩
theorem wi (x:Int) (h0:-9223372036854775808<=x) (h1:x<=9223372036854775807):Ar x=x:=by unfold Ar IntKind.wrap;simp [IntKind.bits,IntKind.signed];omega
theorem wb (c:UInt8):Ar (c.toNat:Int)=c.toNat:=wi _ (by omega) (by have:=c.toNat_lt;omega)
theorem Eg {α:Type} (p:Prop) [Decidable p] (a b:α):cond (decide p) a b=if p then a else b:=Bool.cond_decide p a b
theorem Acv {α:Type} (x y:Int) (a b:α):cond (x == y) a b=if x=y then a else b:=by rw [<- Eg];rfl
theorem Acx {α:Type} (x y:Int) (a b:α):cond (x != y) a b=if x=y then b else a:=by
 by_cases h:x=y;subst h;simp;rw [if_neg h,show (x != y)=true from bne_iff_ne.2 h];rfl
theorem S1 (s:Ah) (i:Nat):C2 s (i:Int)=(bs s)[i]?:=by
 unfold C2;rw [if_pos (by omega),Int.toNat_natCast];simp only [bs];rcases Nat.lt_or_ge i s.size with h | h;rw [getElem?_pos s i h,List.getElem?_eq_getElem (by simpa using h)];rfl;rw [getElem?_neg s i (by omega),List.getElem?_eq_none (by simpa using h)]
theorem Apw (s:Ah) (i:Nat):C2 s (i:Int)=((bs s).drop i).head?:=by rw [S1,List.head?_drop]
theorem VL (k:Nat) (r:Nat):Gr.f k (r:Int)=some (Utf8.valid (r:Int)):=by
 have hv:Utf8.valid (r:Int)=decide (r < 55296\/(57343 < r/\r<=1114111)):=by
  unfold Utf8.valid;rw [Bool.eq_iff_iff];simp;omega
 unfold Gr.f;simp only [Eg];rw [hv];rw [if_pos (by omega)];by_cases h1:(r:Int)<=1114111;rw [if_pos h1];by_cases h2:(r:Int) < 55296;rw [if_pos h2];simp only [Al,Option.some.injEq,Bool.true_eq,decide_eq_true_eq];omega;rw [if_neg h2];simp only [Al,Option.some.injEq,decide_eq_decide];omega;rw [if_neg h1];simp only [Al,Option.some.injEq,Bool.false_eq,decide_eq_false_iff_not];omega
theorem bytes_eq (k:Nat) (r:Nat):Ky.f k (r:Int)=some ((Kr r:Nat):Int):=by
 unfold Ky.f A2 Kr;simp only [Eg,wi 2 (by omega) (by omega),show (1:Int)+1=2 from rfl,show (2:Int)+1=3 from rfl,show (3:Int)+1=4 from rfl];by_cases h1:r < 128;simp [show ¬ (r:Int) >= 128 by omega,show ¬ (r:Int) >= 2048 by omega,show ¬ (r:Int) >= 65536 by omega,h1];by_cases h2:r < 2048;simp [show (r:Int) >= 128 by omega,show ¬ (r:Int) >= 2048 by omega,show ¬ (r:Int) >= 65536 by omega,h1,h2];by_cases h3:r < 65536;simp [show (r:Int) >= 128 by omega,show (r:Int) >= 2048 by omega,show ¬ (r:Int) >= 65536 by omega,h1,h2,h3,wi 3 (by omega) (by omega)];simp [show (r:Int) >= 128 by omega,show (r:Int) >= 2048 by omega,show (r:Int) >= 65536 by omega,h1,h2,h3,wi 3 (by omega) (by omega),wi 4 (by omega) (by omega)]
theorem Aox (k:Nat) (r:Nat):Ma.f k (r:Int)=some (FO r):=by
 unfold Ma.f FO;simp only [Eg];by_cases h:(r:Int) >= 48;rw [if_pos h];simp only [Al,Option.some.injEq];rw [Bool.eq_iff_iff];simp;omega;rw [if_neg h];simp only [Al,Option.some.injEq];rw [Bool.eq_iff_iff];simp;omega
theorem Ao9 (k:Nat) (r:Nat):Mb.f k (r:Int)=some (G5 r):=by
 have hv:=Asw r;unfold Mb.f;simp only [Eg,Acv,Acx,VL,Al];rw [Bpy];generalize Utf8.valid (r:Int)=v at *;cases v
 ·(repeat' split) <;> simp <;> omega
 ·have hv:r<=1114111:=by
   rcases Nat.lt_or_ge 1114111 r with h | h
   ·cases hv h
   ·exact h
  (repeat' split) <;> simp <;> omega
theorem at_loop (s:Ah) (at_ n:Nat) (hs:s.size<=2000000) (hn:n<=4) (hn1:1<=n) (J:Int->Option (Int×Int×Int)):∀ (d i r k:Nat),d=n - i->1<=i->i<=n->at_ < s.size->r < 64 ^ i * 2->d < k ->
  FC.l0 k s (at_:Int) (n:Int) J (r:Int) (i:Int)=match Em d r ((bs s).drop (at_+i)) with | none=>some ((at_:Int),1,65533) | some r'=>J (r':Int)
 | 0,i,r,k,hd,h1,h2,ha,hr,hk=>by
  obtain ⟨k,rfl⟩:∃ m,k=m+1:=⟨k - 1,by omega⟩;have:i=n:=by omega
  subst this;simp only [FC.l0,Eg,Em];rw [if_neg (by omega)]
 | d+1,i,r,k,hd,h1,h2,ha,hr,hk=>by
  obtain ⟨k,rfl⟩:∃ m,k=m+1:=⟨k - 1,by omega⟩;have hlt:(i:Int) < n:=by omega
  have hr4:r < 33554432:=by
   have:64 ^ i<=64 ^ 4:=Nat.pow_le_pow_right (by omega) (by omega);omega
  simp only [FC.l0,Eg];rw [if_pos hlt,wi ((s.size:Int) - at_) (by omega) (by omega),wi ((at_:Int)+i) (by omega) (by omega)];by_cases hsh:s.size < at_+n;rw [if_pos (by omega)];simp only [Al,cond_true];rw [Aqb _ _ _ (by rw [BA,B0];omega)];rw [if_neg (by omega)];have hai:at_+i < (bs s).length:=by rw [B0];omega
  have hc:C2 s ((at_:Int)+i)=some (bs s)[at_+i]:=by rw [show (at_:Int)+i=((at_+i:Nat):Int) by omega,S1,List.getElem?_eq_getElem hai]
  rw [hc];simp only [Al];have hdr:(bs s).drop (at_+i)=(bs s)[at_+i] :: (bs s).drop (at_+(i+1)):=by rw [<- Nat.add_assoc];exact List.drop_eq_getElem_cons hai
  rw [hdr];generalize (bs s)[at_+i]=c;have hcl:=c.toNat_lt;by_cases hc1:c.toNat < 128;rw [if_pos (by omega)];simp only [Al,cond_true,Em];rw [if_neg (by omega)];rw [if_neg (by omega)];simp only [Al,Eg,Em];by_cases hc2:c.toNat < 192;rw [if_neg (by omega),if_pos (by omega),wb,wi ((r:Int) * 64) (by omega) (by omega),wi ((r:Int) * 64+(c.toNat:Int)) (by omega) (by omega),wi ((r:Int) * 64+(c.toNat:Int) - 128) (by omega) (by omega),wi ((i:Int)+1) (by omega) (by omega)];have hpw:=Nat.pow_succ 64 i;have:=at_loop s at_ n hs hn hn1 J d (i+1) (r * 64+c.toNat - 128) k (by omega) (by omega) (by omega) ha (by omega) (by omega);rw [<- this];congr 1 <;> omega;rw [if_pos (by omega),if_neg (by omega)]
theorem Abm (s:Ah) (at_:Nat) (k:Nat) (hs:s.size<=2000000) (ha:at_ < s.size) (hk:4 < k) :
  FC.f k s (at_:Int)=some ((at_:Int),(((Ba ((bs s).drop at_)).2:Nat):Int),(((Ba ((bs s).drop at_)).1:Nat):Int)):=by
 have hal:at_ < (bs s).length:=by rw [B0];omega
 have hdr:(bs s).drop at_=(bs s)[at_] :: (bs s).drop (at_+1):=List.drop_eq_getElem_cons hal;have hc:C2 s (at_:Int)=some (bs s)[at_]:=by rw [S1,List.getElem?_eq_getElem hal]
 unfold FC.f A2;rw [hc,hdr];generalize (bs s)[at_]=c at hdr;have hcl:=c.toNat_lt;have key:∀ (n r0:Nat),1<=n->n<=4->r0 < 128->Fo n (Em (n - 1) r0 ((bs s).drop (at_+1)))=Ba (c :: (bs s).drop (at_+1)) ->
   FC.l0 k s (at_:Int) (n:Int) (λx6=>(((Gr.f k x6).bind λr10=>cond (!r10) (some true) ((Ky.f k x6).bind λr12=>some (r12 != (n:Int)))):Option Bool).bind λq8=>cond q8 (some ((at_:Int),(1:Int),(65533:Int))) (some ((at_:Int),(n:Int),x6))) (r0:Int) 1 =
    some ((at_:Int),(((Ba (c :: (bs s).drop (at_+1))).2:Nat):Int),(((Ba (c :: (bs s).drop (at_+1))).1:Nat):Int)):=by
  intro n r0 h1 h2 h3 he;have:=at_loop s at_ n hs h2 h1 (λx6=>(((Gr.f k x6).bind λr10=>cond (!r10) (some true) ((Ky.f k x6).bind λr12=>some (r12 != (n:Int)))):Option Bool).bind λq8=>cond q8 (some ((at_:Int),(1:Int),(65533:Int))) (some ((at_:Int),(n:Int),x6))) (n - 1) 1 r0 k rfl (Nat.le_refl _) h1 ha (by omega) (by omega);rw [show ((1:Nat):Int)=1 from rfl] at this;rw [this,<- he];cases hst:Em (n - 1) r0 ((bs s).drop (at_+1)) with
  | none=>simp [Fo]
  | some r =>
   simp only [VL,bytes_eq,Al,Fo];cases hv:Utf8.valid (r:Int) with
   | false=>simp
   | true =>
    simp only [Bool.not_true,cond_false,Al,Acx,true_and];by_cases hl:Kr r=n;rw [if_pos (by omega),if_pos hl];rw [if_neg (by omega),if_neg hl];rfl
 simp only [Al,Eg,wb];by_cases h1:c.toNat < 128;rw [if_neg (by omega),if_neg (by omega),if_neg (by omega)];simp only [Al,cond_false];rw [if_neg (by omega)];exact key 1 c.toNat (by omega) (by omega) h1 (A3l c _ h1);by_cases h2:c.toNat < 192;rw [if_neg (by omega),if_neg (by omega),if_neg (by omega)];simp only [Al,cond_false];rw [if_pos (by omega),Adb c _ (by omega) (.inl h2)];rfl;by_cases h3:c.toNat < 224;rw [if_pos (by omega)];simp only [Al,Eg];rw [if_pos (by omega),wi _ (by omega) (by omega)];have:=key 2 (c.toNat - 192) (by omega) (by omega) (by omega) (A3m c _ (by omega) h3);rw [<- this];congr 1;omega;rw [if_pos (by omega)];simp only [Al,Eg];rw [if_neg (by omega)];by_cases h4:c.toNat < 240;rw [if_pos (by omega)];simp only [Al,Eg];rw [if_pos (by omega),wi _ (by omega) (by omega)];have:=key 3 (c.toNat - 224) (by omega) (by omega) (by omega) (A3o c _ (by omega) h4);rw [<- this];congr 1;omega;rw [if_pos (by omega)];simp only [Al,Eg];rw [if_neg (by omega),if_pos (by omega)];simp only [Al,Eg];by_cases h5:c.toNat < 248;rw [if_pos (by omega),wi _ (by omega) (by omega)];have:=key 4 (c.toNat - 240) (by omega) (by omega) (by omega) (A3p c _ (by omega) h5);rw [<- this];congr 1;omega;rw [if_neg (by omega),if_pos (by omega),Adb c _ (by omega) (.inr (by omega))];rfl
theorem at_eq (s:Ah) (at_:Nat) (k:Nat) (hs:s.size<=1000000) (ha:at_ < s.size) (hk:4 < k) :
  FC.f k s (at_:Int)=some ((at_:Int),(((Ba ((bs s).drop at_)).2:Nat):Int),(((Ba ((bs s).drop at_)).1:Nat):Int)):=Abm s at_ k (Nat.le_trans hs (by decide)) ha hk
theorem T2 {β:Type} (J:Bool->β) (b x:Bool):cond b (J b) (J x)=J (b || x):=by cases b <;> rfl
theorem toL (s:Ah):s.toList=bs s:=Lib.toList_data s
theorem Acp (l:Bs):bs (⟨l.toArray⟩:Ah)=l:=F3 l
theorem Ak5 (s:Ah) (hs:s.size<=1000000) (J:Int->Option Int):∀ (d n k:Nat),s.size - n<=d->n<=s.size->d+6<=k ->
  GF.l0 k s J (n:Int)=J ((n+Bp BJ ((bs s).drop n):Nat):Int)
 | d,n,k,hd,hn,hk=>by
  obtain ⟨k,rfl⟩:∃ m,k=m+1:=⟨k - 1,by omega⟩;simp only [GF.l0,Eg];by_cases h:n < s.size;rw [if_pos (by omega),at_eq s n k hs h (by omega)];have hne:(bs s).drop n≠[]:=by
   intro e;have:=congrArg List.length e;rw [BA,B0,AX] at this;omega
  have hw:=Gf ((bs s).drop n);have hw3:=hw.2.2 hne;rw [BA,B0] at hw3;simp only [Al,Ao9,Aox];rw [Mf BJ _ hne];unfold BJ;generalize G5 (Ba ((bs s).drop n)).1=x;generalize FO (Ba ((bs s).drop n)).1=y;have hgo:GF.l0 k s J (Ar ((n:Int)+((Ba ((bs s).drop n)).2:Int)))=J ((n+((Ba ((bs s).drop n)).2+Bp BJ (((bs s).drop n).drop (Ba ((bs s).drop n)).2)):Nat):Int):=by
   cases d with
   | zero=>omega
   | succ d =>
    rw [wi _ (by omega) (by omega),List.drop_drop,show (n:Int)+((Ba ((bs s).drop n)).2:Int)=((n+(Ba ((bs s).drop n)).2:Nat):Int) by omega];rw [Ak5 s hs J d (n+(Ba ((bs s).drop n)).2) k (by omega) (by omega) (by omega)];congr 2;omega
  cases x <;> cases y <;> simp only [Bool.not_true,Bool.not_false,cond_true,cond_false,Al,Bool.or_true,Bool.or_false,Bool.true_or,Bool.false_or,Bool.false_eq_true,if_true,if_false,Nat.add_zero] <;> exact hgo;rw [if_neg (by omega),List.drop_of_length_le (by rw [B0];omega)];rfl
theorem names_eq (s:Ah) (hs:s.size<=1000000) (at_ k:Nat) (h:at_<=s.size) (hk:s.size+6<=k):GF.f k s (at_:Int)=some ((Bp BJ ((bs s).drop at_):Nat):Int):=by
 unfold GF.f A2;have hle:=Jh BJ ((bs s).drop at_);rw [BA,B0] at hle;refine (Ak5 s hs _ (s.size - at_) at_ k (Nat.le_refl _) h (by omega)).trans ?_;rw [wi _ (by omega) (by omega)];congr 1;omega
theorem V8 (l w:Bs) (ws:List Bs):(w :: ws).contains l=((l == w) || ws.contains l):=by
 rw [List.contains_cons]
theorem Bl7 (k:Nat) (s:Ah):Ox.f k s=some (Ke (bs s)):=by
 unfold Ox.f;generalize hJ:(λ(x1:Bool)=>cond x1 (some true) (some false))=J;unfold A2;simp only [T2,toL];subst hJ;have e:∀ l:Bs,bs (⟨l.toArray⟩:Ah)=l:=Acp;simp only [e];unfold Ke UO;simp only [V8,List.contains_nil,Bool.or_false];generalize (_ || _:Bool)=x;cases x <;> rfl
theorem PO (s:Ah) (a b:Nat) (h1:a<=b) (h2:b<=s.size):FM s (a:Int) (b:Int)=some (str (((bs s).drop a).take (b - a))):=by
 unfold FM;rw [Eg,if_pos ⟨by omega,by omega,by omega⟩];congr 1;apply Acn;rw [F3,QI];simp
def MP:List Bs:=[[61,61],[126,61],[60,61],[62,61],[47,47],[46,46]]
def PU:Bs:=[43,45,42,37,60,62,61,35,40,41,123,125,91,93,59,44,46]
theorem B04:Gu=MP++PU.map (λc=>[c]):=rfl
theorem Ad1 (l:Bs):∀ ws:List Bs,(∀ s ∈ ws,s.length=2)->ws.find? (λs=>s.isPrefixOf l)=if ws.contains (l.take 2) then some (l.take 2) else none
 | [],_=>rfl
 | w :: ws,h=>by
  have hw:=h w (Db ..);rw [List.find?_cons,Ad1 l ws λs hs=>h s (DF _ hs),V8];have e:w.isPrefixOf l=(l.take 2 == w):=by
   rw [Bool.eq_iff_iff,List.isPrefixOf_iff_prefix,beq_iff_eq,List.prefix_iff_eq_take,hw];exact eq_comm
  rw [e];cases hc:(l.take 2 == w) with
  | true=>rw [<- beq_iff_eq.1 hc];simp
  | false=>simp
theorem Adz (c:UInt8) (t:Bs):∀ ws:Bs,(ws.map λc=>[c]).find? (λs=>s.isPrefixOf (c :: t))=if ws.contains c then some [c] else none
 | []=>rfl
 | w :: ws=>by
  rw [List.map_cons,List.find?_cons,Adz c t ws,List.contains_cons];have e:([w].isPrefixOf (c :: t))=(c == w):=by
   show ((w == c) && true)=_;rw [Bool.and_true,Bool.eq_iff_iff,beq_iff_eq,beq_iff_eq];exact eq_comm
  rw [e];cases hc:(c == w) with
  | true=>rw [beq_iff_eq.1 hc];simp
  | false=>simp
theorem B02 (c:UInt8) (t:Bs):Mg (c :: t)=if MP.contains ((c :: t).take 2) then some ((c :: t).take 2) else if PU.contains c then some [c] else none:=by
 unfold Mg;rw [B04,List.find?_append,Ad1 _ _ (by decide),Adz];split <;> rfl
theorem My (c d:UInt8):((c.toNat:Int) == (d.toNat:Int))=(c == d):=by
 rw [Bool.eq_iff_iff,beq_iff_eq,beq_iff_eq,<- UInt8.toNat_inj];omega
def Zz (l:Bs):Bs:=match Mg l with | none=>[] | some t=>t
set_option maxRecDepth 20000 in
theorem sign_eq (k:Nat) (s:Ah) (at_:Nat) (hs:s.size<=1000000) (h:at_ < s.size):Oy.f k s (at_:Int)=some (str (Zz ((bs s).drop at_))):=by
 have hal:at_ < (bs s).length:=by rw [B0];omega
 have hdr:(bs s).drop at_=(bs s)[at_] :: (bs s).drop (at_+1):=List.drop_eq_getElem_cons hal;have hc:C2 s (at_:Int)=some (bs s)[at_]:=by rw [S1,List.getElem?_eq_getElem hal]
 have e1:Ar ((at_:Int)+1)=((at_+1:Nat):Int):=by rw [wi _ (by omega) (by omega)];omega
 have e2:Ar ((at_:Int)+2)=((at_+2:Nat):Int):=by rw [wi _ (by omega) (by omega)];omega
 have e3:Ar ((s.size:Int) - 1)=(s.size:Int) - 1:=wi _ (by omega) (by omega);have Wr:((bs s).drop (at_+1)).length=s.size - (at_+1):=by rw [BA,B0]
 have h1:FM s (at_:Int) ((at_+1:Nat):Int)=some (str [(bs s)[at_]]):=by
  rw [PO s at_ (at_+1) (by omega) (by omega),hdr,show at_+1 - at_=1 by omega];rfl
 unfold Oy.f;rw [e1,e2,e3,hc,h1];unfold Zz;rw [hdr,B02];generalize (bs s)[at_]=c at *;have key:∀ b:Bool,b=PU.contains c->(A2 (λ(x3:Bool)=>cond x3 ((some (str [c])).bind λs6:Ah=>some (s6)) (some ((⟨#[]⟩:Ah)))) (λJ4=>J4 b):Option Ah)=some (str (match (if PU.contains c then some [c] else none) with | none=>[] | some t=>t)):=by
  intro b hb;rw [<- hb];cases b <;> rfl
 have one:∀ (J4:Bool->Option Ah),(cond ((c.toNat:Int) == (43:Int)) (J4 ((c.toNat:Int) == (43:Int))) (cond ((c.toNat:Int) == (45:Int)) (J4 ((c.toNat:Int) == (45:Int))) (cond ((c.toNat:Int) == (42:Int)) (J4 ((c.toNat:Int) == (42:Int))) (cond ((c.toNat:Int) == (37:Int)) (J4 ((c.toNat:Int) == (37:Int))) (cond ((c.toNat:Int) == (60:Int)) (J4 ((c.toNat:Int) == (60:Int))) (cond ((c.toNat:Int) == (62:Int)) (J4 ((c.toNat:Int) == (62:Int))) (cond ((c.toNat:Int) == (61:Int)) (J4 ((c.toNat:Int) == (61:Int))) (cond ((c.toNat:Int) == (35:Int)) (J4 ((c.toNat:Int) == (35:Int))) (cond ((c.toNat:Int) == (40:Int)) (J4 ((c.toNat:Int) == (40:Int))) (cond ((c.toNat:Int) == (41:Int)) (J4 ((c.toNat:Int) == (41:Int))) (cond ((c.toNat:Int) == (123:Int)) (J4 ((c.toNat:Int) == (123:Int))) (cond ((c.toNat:Int) == (125:Int)) (J4 ((c.toNat:Int) == (125:Int))) (cond ((c.toNat:Int) == (91:Int)) (J4 ((c.toNat:Int) == (91:Int))) (cond ((c.toNat:Int) == (93:Int)) (J4 ((c.toNat:Int) == (93:Int))) (cond ((c.toNat:Int) == (59:Int)) (J4 ((c.toNat:Int) == (59:Int))) (cond ((c.toNat:Int) == (44:Int)) (J4 ((c.toNat:Int) == (44:Int))) (J4 ((c.toNat:Int) == (46:Int)))))))))))))))))))=J4 (PU.contains c):=by
  intro J4;simp only [T2];congr 1;unfold PU;simp only [List.contains_cons,List.contains_nil,Bool.or_false];have e:=λd=>My c d;simp only [<- e];rfl
 unfold A2;simp only [Al];simp only [Eg];by_cases h2:at_+1 < s.size;obtain ⟨d,t,ht⟩:∃ d t,(bs s).drop (at_+1)=d :: t:=by
  cases hq:(bs s).drop (at_+1) with
  | nil=>rw [hq] at Wr;simp at Wr;omega
  | cons d t=>exact ⟨d,t,rfl⟩
 have hs2:FM s (at_:Int) ((at_+2:Nat):Int)=some (str [c,d]):=by
  rw [PO s at_ (at_+2) (by omega) (by omega),hdr,ht,show at_+2 - at_=2 by omega];rfl
 rw [if_pos (by omega),hs2,ht];simp only [Al];have two:∀ (DN:Bool->Option Ah),(cond ((str [c,d]).toList == (⟨#[61,61]⟩:Ah).toList) (DN ((str [c,d]).toList == (⟨#[61,61]⟩:Ah).toList)) (cond ((str [c,d]).toList == (⟨#[126,61]⟩:Ah).toList) (DN ((str [c,d]).toList == (⟨#[126,61]⟩:Ah).toList)) (cond ((str [c,d]).toList == (⟨#[60,61]⟩:Ah).toList) (DN ((str [c,d]).toList == (⟨#[60,61]⟩:Ah).toList)) (cond ((str [c,d]).toList == (⟨#[62,61]⟩:Ah).toList) (DN ((str [c,d]).toList == (⟨#[62,61]⟩:Ah).toList)) (cond ((str [c,d]).toList == (⟨#[47,47]⟩:Ah).toList) (DN ((str [c,d]).toList == (⟨#[47,47]⟩:Ah).toList)) (DN ((str [c,d]).toList == (⟨#[46,46]⟩:Ah).toList)))))))=DN (MP.contains [c,d]):=by
  intro J;simp only [T2,toL,F3];have e:∀ l:Bs,bs (⟨l.toArray⟩:Ah)=l:=Acp;simp only [e];unfold MP;simp only [V8,List.contains_nil,Bool.or_false]
 have NV:=key _ rfl;unfold A2 at NV;simp only [Al] at NV;rw [show (c :: d :: t).take 2=[c,d] from rfl];have one':=one (λx3=>cond x3 (some (str [c])) (some ((⟨#[]⟩:Ah))));refine (two (λx25=>cond x25 (some (str [c,d])) _)).trans ?_;cases hx:MP.contains [c,d] with
 | true=>rfl
 | false =>
  simp only [cond_false,Bool.false_eq_true,if_false];exact one'.trans NV
 have ht:(bs s).drop (at_+1)=[]:=List.eq_nil_of_length_eq_zero (by rw [Wr];omega);rw [if_neg (by omega),ht];have hx:MP.contains ([c].take 2)=false:=by
  show MP.contains [c]=false;unfold MP;simp
 rw [hx];simp only [Bool.false_eq_true,if_false];have NV:=key _ rfl;unfold A2 at NV;simp only [Al] at NV;exact (one (λx3=>cond x3 (some (str [c])) (some ((⟨#[]⟩:Ah))))).trans NV
theorem w8 (x:Int) (h0:0<=x) (h1:x < 256):IntKind.u8.wrap x=x:=by unfold IntKind.wrap;simp [IntKind.bits,IntKind.signed];omega
theorem tm (n m:Nat):Int.tmod (n:Int) (m:Int)=((n % m:Nat):Int):=(Int.ofNat_tmod n m).symm
theorem td (n m:Nat):Int.tdiv (n:Int) (m:Int)=((n / m:Nat):Int):=(Int.ofNat_tdiv n m).symm
def bI (b:Bs):List Int:=b.map λx=>(x.toNat:Int)
theorem O3 (b:Bs):strOfNums (bI b)=str b:=by
 unfold strOfNums bI str;congr 2;rw [List.map_map]
 conv=>rhs;rw [<- List.map_id b]
 apply List.map_congr_left;intro x _;simp
theorem OQ (s:Ah):EX s=bI (bs s):=rfl
theorem Agg (s:Ah) (hs:s.size<=1000000) (at_ most:Nat) (ha:at_<=1000010) (hm:most<=8):∀ (m j n k:Nat),m+j=most->n < 16 ^ j->m < k ->
  GD.l0 k s (at_:Int) (most:Int) (λa b=>some (a,b)) (n:Int) (j:Int)=some (((BD m ((bs s).drop (at_+j)) n j).1:Int),((BD m ((bs s).drop (at_+j)) n j).2:Int))
 | m,j,n,k,hj,hn,hk=>by
  obtain ⟨k,rfl⟩:∃ m,k=m+1:=⟨k - 1,by omega⟩;have h16:16 ^ j<=16 ^ 8:=Nat.pow_le_pow_right (by omega) (by omega);have hn2:n < 4294967296:=by omega
  simp only [GD.l0];cases m with
  | zero =>
   rw [Eg,if_neg (by omega)];simp [BD]
  | succ m =>
   rw [Eg,if_pos (by omega),wi ((at_:Int)+j) (by omega) (by omega)];simp only [Al];rcases Nat.lt_or_ge (at_+j) s.size with h | h;rw [Eg,if_pos (by omega)];have hal:at_+j < (bs s).length:=by rw [B0];omega
   have hdr:(bs s).drop (at_+j)=(bs s)[at_+j] :: (bs s).drop (at_+(j+1)):=by rw [<- Nat.add_assoc];exact List.drop_eq_getElem_cons hal
   have hc:C2 s ((at_:Int)+j)=some (bs s)[at_+j]:=by rw [show (at_:Int)+j=((at_+j:Nat):Int) by omega,S1,List.getElem?_eq_getElem hal]
   rw [hc,hdr];generalize (bs s)[at_+j]=c;have hcl:=c.toNat_lt;have hpw:=Nat.pow_succ 16 j;have ih:∀ d:Nat,d < 16->GD.l0 k s (at_:Int) (most:Int) (λa b=>some (a,b)) ((16 * n+d:Nat):Int) ((j:Int)+1)=some (((BD m ((bs s).drop (at_+(j+1))) (16 * n+d) (j+1)).1:Int),((BD m ((bs s).drop (at_+(j+1))) (16 * n+d) (j+1)).2:Int)):=λd hd=>by
    have:=Agg s hs at_ most ha hm m (j+1) (16 * n+d) k (by omega) (by omega) (by omega);rw [show ((j+1:Nat):Int)=(j:Int)+1 by omega] at this;exact this
   simp only [Al,A2,wb,BD];rw [wi ((j:Int)+1) (by omega) (by omega),wi ((n:Int) * 16) (by omega) (by omega),wi ((n:Int) * 16+c.toNat) (by omega) (by omega)];unfold hexD;have T:∀ {p:Prop} [Decidable p],p->decide p=true:=λh=>decide_eq_true h;have F:∀ {p:Prop} [Decidable p],¬ p->decide p=false:=λh=>decide_eq_false h;by_cases h1:48<=c.toNat/\c.toNat<=57;rw [if_pos h1,T (p:=(c.toNat:Int) >= 48) (by omega),T (p:=(c.toNat:Int)<=57) (by omega)];simp only [cond_true,Al];rw [wi ((n:Int) * 16+c.toNat - 48) (by omega) (by omega),<- ih (c.toNat - 48) (by omega)];congr 1;omega;rw [if_neg h1];by_cases h2:97<=c.toNat/\c.toNat<=102;rw [if_pos h2,T (p:=(c.toNat:Int) >= 48) (by omega),F (p:=(c.toNat:Int)<=57) (by omega),T (p:=(c.toNat:Int) >= 97) (by omega),T (p:=(c.toNat:Int)<=102) (by omega)];simp only [cond_true,cond_false,Al];rw [wi ((n:Int) * 16+c.toNat - 97) (by omega) (by omega),wi ((n:Int) * 16+c.toNat - 97+10) (by omega) (by omega),<- ih (c.toNat - 87) (by omega)];congr 1;omega;rw [if_neg h2];by_cases h3:65<=c.toNat/\c.toNat<=70;rw [if_pos h3,T (p:=(c.toNat:Int) >= 48) (by omega),F (p:=(c.toNat:Int)<=57) (by omega),F (p:=(c.toNat:Int) >= 97) (by omega),T (p:=(c.toNat:Int) >= 65) (by omega),T (p:=(c.toNat:Int)<=70) (by omega)];simp only [cond_true,cond_false,Al];rw [wi ((n:Int) * 16+c.toNat - 65) (by omega) (by omega),wi ((n:Int) * 16+c.toNat - 65+10) (by omega) (by omega),<- ih (c.toNat - 55) (by omega)];congr 1;omega;rw [if_neg h3];have hq:c.toNat < 48\/(57 < c.toNat/\c.toNat < 65)\/(70 < c.toNat/\c.toNat < 97)\/102 < c.toNat:=by omega
   rcases hq with h | h | h | h;rw [F (p:=(c.toNat:Int) >= 48) (by omega),F (p:=(c.toNat:Int) >= 97) (by omega),F (p:=(c.toNat:Int) >= 65) (by omega)];rfl;rw [T (p:=(c.toNat:Int) >= 48) (by omega),F (p:=(c.toNat:Int)<=57) (by omega),F (p:=(c.toNat:Int) >= 97) (by omega),F (p:=(c.toNat:Int) >= 65) (by omega)];rfl;rw [T (p:=(c.toNat:Int) >= 48) (by omega),F (p:=(c.toNat:Int)<=57) (by omega),F (p:=(c.toNat:Int) >= 97) (by omega),T (p:=(c.toNat:Int) >= 65) (by omega),F (p:=(c.toNat:Int)<=70) (by omega)];rfl;rw [T (p:=(c.toNat:Int) >= 48) (by omega),F (p:=(c.toNat:Int)<=57) (by omega),T (p:=(c.toNat:Int) >= 97) (by omega),F (p:=(c.toNat:Int)<=102) (by omega),T (p:=(c.toNat:Int) >= 65) (by omega),F (p:=(c.toNat:Int)<=70) (by omega)];rfl;rw [Eg,if_neg (by omega),List.drop_of_length_le (by rw [B0];omega)];simp [BD]
theorem Agd (s:Ah) (hs:s.size<=1000000) (at_ most k:Nat) (ha:at_<=1000010) (hm:most<=8) (hk:8 < k) :
  GD.f k s (at_:Int) (most:Int)=some (((BD most ((bs s).drop at_) 0 0).1:Int),((BD most ((bs s).drop at_) 0 0).2:Int)):=by
 unfold GD.f A2;exact Agg s hs at_ most ha hm most 0 0 k rfl (by omega) (by omega)
def encR (n:Nat):Ah×Int:=if Utf8.valid n then (Utf8.encode n,0) else (⟨#[]⟩,3)
theorem A3i (n:Nat) (hv:Utf8.valid (n:Int)=true):Utf8.encode (n:Int)=if n < 128 then str [UInt8.ofNat n] else if n < 2048 then str [UInt8.ofNat (192+n / 64),UInt8.ofNat (128+n % 64)] else if n < 65536 then str [UInt8.ofNat (224+n / 4096),UInt8.ofNat (128+n / 64 % 64),UInt8.ofNat (128+n % 64)] else str [UInt8.ofNat (240+n / 262144),UInt8.ofNat (128+n / 4096 % 64),UInt8.ofNat (128+n / 64 % 64),UInt8.ofNat (128+n % 64)]:=by
 unfold Utf8.encode;simp only [hv,if_true,Int.toNat_natCast];rfl
theorem encode_eq (n k:Nat) (hn:n<=4294967296) (hk:4 < k):HU.f k (n:Int)=some (encR n):=by
 unfold HU.f encR;rw [VL];simp only [Al];cases hv:Utf8.valid (n:Int) with
 | false=>rfl
 | true =>
  have hmax:n<=1114111:=by
   rcases Nat.lt_or_ge 1114111 n with h | h;rw [Asw n h] at hv;cases hv;exact h
  rw [bytes_eq,A3i n hv];obtain ⟨k,rfl⟩:∃ m,k=m+4:=⟨k - 4,by omega⟩;simp only [Bool.not_true,cond_false,Al,Acv,if_true];unfold Kr;have hb:∀ x y:Nat,x < 256->x=y->UInt8.ofNat ((x:Int).toNat)=UInt8.ofNat y:=λx y _ h=>by subst h;simp
  by_cases h1:n < 128;rw [if_pos h1,if_pos (by decide),if_pos h1,w8 _ (by omega) (by omega)];rfl;rw [if_neg h1,if_neg h1];by_cases h2:n < 2048;rw [if_pos h2,if_pos h2,if_neg (by decide)];have e:mkd 1 (0:Int) ((2:Nat):Int)=some [0,0]:=by decide
  rw [e];simp only [Al,A2];rw [show Ar (((2:Nat):Int) - 1)=1 by decide];simp only [HU.l0,Eg];rw [if_pos (by omega),show Bm [(0:Int),0] 1=some 0 by decide];simp only [Al,I5,Eg];rw [if_pos (by decide)];simp only [Al];rw [show Ar ((1:Int) - 1)=0 by decide,if_neg (by omega)];rw [show ((64:Int))=((64:Nat):Int) from rfl,tm,td,wi (128+((n % 64:Nat):Int)) (by omega) (by omega),w8 (128+((n % 64:Nat):Int)) (by omega) (by omega),wi ((n / 64:Nat):Int) (by omega) (by omega)];simp only [show ((1:Int)).toNat=1 from rfl,List.set_cons_succ,List.set_cons_zero,Bm,Int.le_refl,if_true,show ((0:Int)).toNat=0 from rfl,List.getElem?_cons_zero,Al];rw [if_neg (by decide),if_neg (by decide),if_pos (by simp)];simp only [Al,List.set_cons_zero];rw [wi (192+((n / 64:Nat):Int)) (by omega) (by omega),w8 (192+((n / 64:Nat):Int)) (by omega) (by omega)];simp only [strOfNums,str,List.map_cons,List.map_nil];rw [show ((192+((n / 64:Nat):Int)).toNat)=192+n / 64 by omega,show ((128+((n % 64:Nat):Int)).toNat)=128+n % 64 by omega];rw [if_neg h2,if_neg h2];by_cases h3:n < 65536;rw [if_pos h3,if_pos h3,if_neg (by decide)];have e:mkd 1 (0:Int) ((3:Nat):Int)=some [0,0,0]:=by decide
  rw [e];simp only [Al,A2];rw [show Ar (((3:Nat):Int) - 1)=2 by decide];simp only [HU.l0,Eg];rw [if_pos (by omega),show Bm [(0:Int),0,0] 2=some 0 by decide];simp only [Al,I5,Eg];rw [if_pos (by decide)];simp only [Al];rw [show Ar ((2:Int) - 1)=1 by decide,if_pos (by omega)];rw [show ((64:Int))=((64:Nat):Int) from rfl,tm,td,wi (128+((n % 64:Nat):Int)) (by omega) (by omega),w8 (128+((n % 64:Nat):Int)) (by omega) (by omega),wi ((n / 64:Nat):Int) (by omega) (by omega)];simp only [show ((2:Int)).toNat=2 from rfl,List.set_cons_succ,List.set_cons_zero,Bm,show (0:Int)<=1 by omega,if_true,show ((1:Int)).toNat=1 from rfl,List.getElem?_cons_zero,List.getElem?_cons_succ,Al];rw [if_pos (by simp)];simp only [Al];rw [show Ar ((1:Int) - 1)=0 by decide,if_neg (by omega)];rw [tm,td,wi (128+((n / 64 % 64:Nat):Int)) (by omega) (by omega),w8 (128+((n / 64 % 64:Nat):Int)) (by omega) (by omega),wi ((n / 64 / 64:Nat):Int) (by omega) (by omega)];simp only [Int.le_refl,if_true,show ((0:Int)).toNat=0 from rfl,List.getElem?_cons_zero,Al];rw [if_pos (by decide),if_neg (by decide),if_pos (by simp)];simp only [Al,List.set_cons_zero,List.set_cons_succ];rw [wi (224+((n / 64 / 64:Nat):Int)) (by omega) (by omega),w8 (224+((n / 64 / 64:Nat):Int)) (by omega) (by omega)];simp only [strOfNums,str,List.map_cons,List.map_nil];rw [show ((224+((n / 64 / 64:Nat):Int)).toNat)=224+n / 4096 by omega,show ((128+((n % 64:Nat):Int)).toNat)=128+n % 64 by omega,show ((128+((n / 64 % 64:Nat):Int)).toNat)=128+n / 64 % 64 by omega];rw [if_neg h3,if_neg h3,if_neg (by decide)];have e:mkd 1 (0:Int) ((4:Nat):Int)=some [0,0,0,0]:=by decide
  rw [e];simp only [Al,A2];rw [show Ar (((4:Nat):Int) - 1)=3 by decide];simp only [HU.l0,Eg];rw [if_pos (by omega),show Bm [(0:Int),0,0,0] 3=some 0 by decide];simp only [Al,I5,Eg];rw [if_pos (by decide)];simp only [Al];rw [show Ar ((3:Int) - 1)=2 by decide,if_pos (by omega)];rw [show ((64:Int))=((64:Nat):Int) from rfl,tm,td,wi (128+((n % 64:Nat):Int)) (by omega) (by omega),w8 (128+((n % 64:Nat):Int)) (by omega) (by omega),wi ((n / 64:Nat):Int) (by omega) (by omega)];simp only [show ((3:Int)).toNat=3 from rfl,List.set_cons_succ,List.set_cons_zero,Bm,show (0:Int)<=2 by omega,if_true,show ((2:Int)).toNat=2 from rfl,List.getElem?_cons_zero,List.getElem?_cons_succ,Al];rw [if_pos (by simp)];simp only [Al];rw [show Ar ((2:Int) - 1)=1 by decide,if_pos (by omega)];rw [tm,td,wi (128+((n / 64 % 64:Nat):Int)) (by omega) (by omega),w8 (128+((n / 64 % 64:Nat):Int)) (by omega) (by omega),wi ((n / 64 / 64:Nat):Int) (by omega) (by omega)];simp only [List.set_cons_succ,List.set_cons_zero,show (0:Int)<=1 by omega,if_true,show ((1:Int)).toNat=1 from rfl,List.getElem?_cons_zero,List.getElem?_cons_succ,Al];rw [if_pos (by simp)];simp only [Al];rw [show Ar ((1:Int) - 1)=0 by decide,if_neg (by omega)];rw [tm,td,wi (128+((n / 64 / 64 % 64:Nat):Int)) (by omega) (by omega),w8 (128+((n / 64 / 64 % 64:Nat):Int)) (by omega) (by omega),wi ((n / 64 / 64 / 64:Nat):Int) (by omega) (by omega)];simp only [Int.le_refl,if_true,show ((0:Int)).toNat=0 from rfl,List.getElem?_cons_zero,Al];rw [if_neg (by decide),if_pos (by decide),if_pos (by simp)];simp only [Al,List.set_cons_zero,List.set_cons_succ];rw [wi (240+((n / 64 / 64 / 64:Nat):Int)) (by omega) (by omega),w8 (240+((n / 64 / 64 / 64:Nat):Int)) (by omega) (by omega)];simp only [strOfNums,str,List.map_cons,List.map_nil];rw [show ((240+((n / 64 / 64 / 64:Nat):Int)).toNat)=240+n / 262144 by omega,show ((128+((n % 64:Nat):Int)).toNat)=128+n % 64 by omega,show ((128+((n / 64 % 64:Nat):Int)).toNat)=128+n / 64 % 64 by omega,show ((128+((n / 64 / 64 % 64:Nat):Int)).toNat)=128+n / 4096 % 64 by omega]
theorem dT {p:Prop} [Decidable p] (h:p):decide p=true:=decide_eq_true h
theorem dF {p:Prop} [Decidable p] (h:¬ p):decide p=false:=decide_eq_false h
theorem bq (c d:UInt8):((c.toNat:Int) == (d.toNat:Int))=decide (c=d):=by
 rw [My,Bool.eq_iff_iff,beq_iff_eq,decide_eq_true_eq]
theorem bn (c d:UInt8):((c.toNat:Int) != (d.toNat:Int))=decide (c≠d):=by
 rw [bne,My,Bool.eq_iff_iff,decide_eq_true_eq];simp
theorem Gg (s:Ah) (i:Nat) (h:i < s.size):(bs s).drop i=s[i] :: (bs s).drop (i+1):=drop_at s i h
theorem H_ (s:Ah) (i:Nat) (h:i < s.size):C2 s (i:Int)=some s[i]:=by rw [Apw,Gg s i h];rfl
theorem Ac1 (s:Ah) (hs:s.size<=1000000) (i:Nat) (hi:i<=1000000) (J:Int->Int->Option (List Int×Int)):∀ (m j n k:Nat),m+j=3->n < 1000 ^ (j+1)->m < k ->
  Iq.l0 k s (i:Int) J (n:Int) (j:Int)=J ((D6 m ((bs s).drop (i+1+j)) n j).1:Int) ((D6 m ((bs s).drop (i+1+j)) n j).2:Int)
 | m,j,n,k,hj,hn,hk=>by
  obtain ⟨k,rfl⟩:∃ m,k=m+1:=⟨k - 1,by omega⟩;simp only [Iq.l0];rw [wi ((i:Int)+1) (by omega) (by omega)];cases m with
  | zero =>
   rw [dF (p:=(j:Int) < 3) (by omega)];rfl
  | succ m =>
   rw [dT (p:=(j:Int) < 3) (by omega),wi ((i:Int)+1+j) (by omega) (by omega),show (i:Int)+1+j=((i+1+j:Nat):Int) by omega];rcases Nat.lt_or_ge (i+1+j) s.size with h | h;rw [dT (p:=((i+1+j:Nat):Int) < s.size) (by omega),H_ s _ h,Gg s _ h];generalize s[i+1+j]=c;have hcl:=c.toNat_lt;simp only [cond_true,Al,D6];have hnb:n < 1000000000:=by
    have:1000 ^ (j+1)<=1000 ^ 3:=Nat.pow_le_pow_right (by omega) (by omega);omega
   by_cases h1:48<=c.toNat;rw [dT (p:=(c.toNat:Int) >= 48) (by omega)];simp only [cond_true,Al];by_cases h2:c.toNat<=57;rw [dT (p:=(c.toNat:Int)<=57) (by omega),if_pos ⟨h1,h2⟩];simp only [cond_true];have hp:1000 ^ (j+1+1)=1000 ^ (j+1) * 1000:=Nat.pow_succ _ _;have hj3:j<=2:=by omega
   have hn3:10 * n+(c.toNat - 48) < 1000 ^ (j+1+1):=by
    have:1<=1000 ^ (j+1):=Nat.one_le_pow _ _ (by omega);omega
   have hw:n * 10<=10000000000:=by
    have:1000 ^ (j+1)<=1000 ^ 3:=Nat.pow_le_pow_right (by omega) (by omega);omega
   have:=Ac1 s hs i hi J m (j+1) (10 * n+(c.toNat - 48)) k (by omega) hn3 (by omega);rw [wb,wi ((n:Int) * 10) (by omega) (by omega),wi ((n:Int) * 10+c.toNat) (by omega) (by omega),wi ((n:Int) * 10+c.toNat - 48) (by omega) (by omega),wi ((j:Int)+1) (by omega) (by omega)];rw [show i+1+j+1=i+1+(j+1) by omega,<- this];congr 1;omega;rw [dF (p:=(c.toNat:Int)<=57) (by omega),if_neg (by omega)];rfl;rw [dF (p:=(c.toNat:Int) >= 48) (by omega),if_neg (by omega)];rfl;rw [dF (p:=((i+1+j:Nat):Int) < s.size) (by omega),List.drop_of_length_le (by rw [B0];omega)];rfl
def VE (l:Bs):List Int×Int:=match Ig l with | .ok b n=>(bI b,(n:Int)) | _=>([],0)
theorem A4i (s:Ah) (hs:s.size<=1000000) (i k:Nat) (hi:i+1 < s.size) (hk:20 < k):Iq.f k s (i:Int)=some (VE ((bs s).drop (i+1))):=by
 unfold Iq.f VE;have e1:Ar ((i:Int)+1)=((i+1:Nat):Int):=by rw [wi _ (by omega) (by omega)];omega
 have e2:Ar ((i:Int)+2)=((i+2:Nat):Int):=by rw [wi _ (by omega) (by omega)];omega
 have e3:Ar ((i:Int)+3)=((i+3:Nat):Int):=by rw [wi _ (by omega) (by omega)];omega
 rw [e1,e2,e3,H_ s _ hi,Gg s _ hi,show i+1+1=i+2 by omega];have hdec:=Ac1 s hs i (by omega) (λ(x34:Int) (x35:Int)=>((cond (x35 == (0:Int)) (some true) (some (decide (x34 > (255:Int)))):Option Bool).bind λq37=>cond q37 (some (([]:List Int),(0:Int))) (some ([IntKind.u8.wrap x34],Ar (x35+(1:Int)))))) 3 0 0 k rfl (by omega) (by omega);rw [Nat.add_zero,Gg s _ hi,show i+1+1=i+2 by omega] at hdec;generalize s[i+1]=c at *;have hcl:=c.toNat_lt;obtain ⟨E,hE⟩:∃ E,Ig (c :: (bs s).drop (i+2))=E:=⟨_,rfl⟩;have hE0:=hE;rw [hE];rw [OT] at hE;simp only [Al];by_cases c1:c=110;subst c1;subst hE;rfl;by_cases c2:c=116;subst c2;subst hE;rfl;by_cases c3:c=114;subst c3;subst hE;rfl;have f1:((c.toNat:Int) == 110)=false:=by rw [beq_eq_false_iff_ne];intro h;exact c1 (UInt8.toNat_inj.1 (by show c.toNat=110;omega))
 have f2:((c.toNat:Int) == 116)=false:=by rw [beq_eq_false_iff_ne];intro h;exact c2 (UInt8.toNat_inj.1 (by show c.toNat=116;omega))
 have f3:((c.toNat:Int) == 114)=false:=by rw [beq_eq_false_iff_ne];intro h;exact c3 (UInt8.toNat_inj.1 (by show c.toNat=114;omega))
 rw [f1,f2,f3];simp only [cond_false];generalize hJ9:(λ(x8:Bool)=>cond x8 (some ([(c.toNat:Int)],(2:Int))) _)=J9;unfold A2;simp only [T2];subst hJ9;by_cases c4:c=92\/c=34\/c=39;have hp:Fy c=c:=by
  unfold Fy;rw [if_neg c1,if_neg c2,if_neg c3,if_pos c4]
 have hb:(((c.toNat:Int) == 92) || (((c.toNat:Int) == 34) || ((c.toNat:Int) == 39)))=true:=by
  rcases c4 with rfl | rfl | rfl <;> rfl
 rw [if_pos (by rw [hp];rcases c4 with rfl | rfl | rfl <;> decide),hp] at hE;rw [hb,<- hE];rfl;have hp:Fy c=0:=by
  unfold Fy;rw [if_neg c1,if_neg c2,if_neg c3,if_neg c4]
 have hne:∀ d:UInt8,c≠d->((c.toNat:Int) == (d.toNat:Int))=false:=λd h=>by
  rw [beq_eq_false_iff_ne];intro he;exact h (UInt8.toNat_inj.1 (by omega))
 have hb:(((c.toNat:Int) == 92) || (((c.toNat:Int) == 34) || ((c.toNat:Int) == 39)))=false:=by
  simp only [not_or] at c4;have g1:=hne 92 c4.1;have g2:=hne 34 c4.2.1;have g3:=hne 39 c4.2.2;have g1:((c.toNat:Int) == 92)=false:=g1;have g2:((c.toNat:Int) == 34)=false:=g2;have g3:((c.toNat:Int) == 39)=false:=g3;rw [g1,g2,g3];rfl
 rw [hb];rw [hp,if_neg (by simp)] at hE;simp only [cond_false];by_cases c5:c=120;subst c5;rw [if_pos rfl] at hE;have:=Agd s hs (i+2) 2 k (by omega) (by omega) (by omega);rw [show (2:Int)=((2:Nat):Int) from rfl,this];have hle:=N1 2 ((bs s).drop (i+2)) 0 0 (by omega);have h16:16 ^ (BD 2 ((bs s).drop (i+2)) 0 0).2<=16 ^ 2:=Nat.pow_le_pow_right (by omega) (by omega);generalize BD 2 ((bs s).drop (i+2)) 0 0=g at *;simp only [Al];rw [show (((120:UInt8).toNat:Int) == 120)=true from rfl];simp only [cond_true];by_cases hg:g.2 < 2;rw [if_pos hg] at hE;rw [<- hE,show ((g.2:Int) == ((2:Nat):Int))=false by rw [beq_eq_false_iff_ne];omega];rfl;rw [if_neg hg] at hE;rw [<- hE,show ((g.2:Int) == ((2:Nat):Int))=true by rw [beq_iff_eq];omega,w8 _ (by omega) (by omega)];simp only [cond_true,bI,List.map_cons,List.map_nil];rw [show (UInt8.ofNat g.1).toNat=g.1 by simp;omega];rfl;rw [if_neg c5] at hE;rw [show ((c.toNat:Int) == 120)=false from hne 120 c5];simp only [cond_false];by_cases c6:c=117;subst c6;rw [show (((117:UInt8).toNat:Int) == 117)=true from rfl];simp only [cond_true];have hnd:∀ t:Bs,D6 3 (117 :: t) 0 0=(0,0):=λt=>rfl;clear hE;by_cases h2:i+2 < s.size;rw [dF (p:=((i+2:Nat):Int) >= s.size) (by omega),H_ s _ h2];rw [Gg s _ h2,show i+2+1=i+3 by omega] at hE0;generalize s[i+2]=d at *;simp only [cond_false,Al];by_cases hd:d=123;subst hd;rw [A3y] at hE0;unfold uF at hE0;rw [show (((123:UInt8).toNat:Int) != 123)=false from rfl];simp only [cond_false];have:=Agd s hs (i+3) 8 k (by omega) (by omega) (by omega);rw [show (8:Int)=((8:Nat):Int) from rfl,this];have hle:=N1 8 ((bs s).drop (i+3)) 0 0 (by omega);have h16:16 ^ (BD 8 ((bs s).drop (i+3)) 0 0).2<=16 ^ 8:=Nat.pow_le_pow_right (by omega) (by omega);have hdr:((bs s).drop (i+3)).drop (BD 8 ((bs s).drop (i+3)) 0 0).2=(bs s).drop (i+3+(BD 8 ((bs s).drop (i+3)) 0 0).2):=by rw [List.drop_drop]
 rw [hdr] at hE0;rw [BA,B0] at hle;generalize BD 8 ((bs s).drop (i+3)) 0 0=g at *;simp only [Al];rw [encode_eq g.1 k (by omega) (by omega)];simp only [Al,encR];rw [wi ((i+3:Nat)+(g.2:Int)) (by omega) (by omega),show ((i+3:Nat):Int)+(g.2:Int)=((i+3+g.2:Nat):Int) by omega];by_cases hg:g.2=0;rw [if_pos (.inl hg)] at hE0;rw [<- hE0,show ((g.2:Int) == 0)=true by rw [beq_iff_eq];omega];rfl;rw [show ((g.2:Int) == 0)=false by rw [beq_eq_false_iff_ne];omega];simp only [cond_false];cases hv:Utf8.valid (g.1:Int) with
 | false =>
  rw [if_pos (.inr (.inl hv))] at hE0;rw [<- hE0];rfl
 | true =>
  simp only [if_true];rw [show ((0:Int) != 0)=false from rfl];simp only [cond_false];rcases Nat.lt_or_ge (i+3+g.2) s.size with h3 | h3;rw [dF (p:=((i+3+g.2:Nat):Int) >= s.size) (by omega),H_ s _ h3];rw [Gg s _ h3] at hE0;generalize s[i+3+g.2]=z at *;rw [List.head?_cons] at hE0;simp only [cond_false,Al];by_cases hz:z=125;subst hz;rw [if_neg (by simp [hg,hv])] at hE0;rw [<- hE0,show (((125:UInt8).toNat:Int) != 125)=false from rfl];simp only [cond_false];have hes:=VC g.1;rw [dT (p:=(Utf8.encode (g.1:Int)).size<=140737488355328) (by omega),wi ((g.2:Int)+4) (by omega) (by omega)];simp only [cond_true,OQ];rw [show (g.2:Int)+4=((4+g.2:Nat):Int) by omega];rw [if_pos (.inr (.inr (by simpa using hz)))] at hE0;rw [<- hE0,show ((z.toNat:Int) != 125)=true by rw [bne_iff_ne];intro h;exact hz (UInt8.toNat_inj.1 (by show z.toNat=125;omega))];rfl;rw [List.drop_of_length_le (by rw [B0];omega),if_pos (.inr (.inr (by simp)))] at hE0;rw [<- hE0,dT (p:=((i+3+g.2:Nat):Int) >= s.size) (by omega)];rfl
 rw [OT,if_neg (by decide),if_neg (by decide),if_neg (by simpa using hd),hnd] at hE0;rw [<- hE0,show ((d.toNat:Int) != 123)=true by rw [bne_iff_ne];intro h;exact hd (UInt8.toNat_inj.1 (by show d.toNat=123;omega))];rfl;rw [List.drop_of_length_le (by rw [B0];omega),OT,if_neg (by decide),if_neg (by decide),if_neg (by simp),hnd] at hE0;rw [<- hE0,dT (p:=((i+2:Nat):Int) >= s.size) (by omega)];rfl;rw [if_neg (λh=>c6 h.1)] at hE;rw [show ((c.toNat:Int) == 117)=false from hne 117 c6];simp only [cond_false];rw [show ((0:Nat):Int)=0 from rfl] at hdec;refine hdec.trans ?_;have hle:=V9 3 (c :: (bs s).drop (i+2)) 0 0;have hk3:(D6 3 (c :: (bs s).drop (i+2)) 0 0).2<=3:=by
  have:∀ (m:Nat) (l:Bs) (n k:Nat),(D6 m l n k).2<=k+m:=by
   intro m;induction m with
   | zero=>intro l n k;simp [D6]
   | succ m ih =>
    intro l n k;cases l with
    | nil=>simp [D6]
    | cons b t =>
     rw [T3];split;have:=ih t (10 * n+(b.toNat - 48)) (k+1);omega;simp
  have:=this 3 (c :: (bs s).drop (i+2)) 0 0;omega
 generalize D6 3 (c :: (bs s).drop (i+2)) 0 0=g at *;by_cases hg:g.2=0;rw [if_pos (.inl hg)] at hE;rw [<- hE,show ((g.2:Int) == 0)=true by rw [beq_iff_eq];omega];rfl;rw [show ((g.2:Int) == 0)=false by rw [beq_eq_false_iff_ne];omega];simp only [cond_false,Al];by_cases hb2:g.1 > 255;rw [if_pos (.inr hb2)] at hE;rw [<- hE,dT (p:=(g.1:Int) > 255) (by omega)];rfl;rw [if_neg (by omega)] at hE;rw [<- hE,dF (p:=(g.1:Int) > 255) (by omega),w8 _ (by omega) (by omega),wi ((g.2:Int)+1) (by omega) (by omega)];simp only [cond_false,bI,List.map_cons,List.map_nil];rw [show (UInt8.ofNat g.1).toNat=g.1 by simp;omega,show (g.2:Int)+1=((1+g.2:Nat):Int) by omega]
theorem GP {α:Type} (b:Nat) (l ys:List α) (h:(l.length+ys.length) * b<=140737488355328):apd b l ys=some (l++ys):=by
 unfold apd;rw [dT h];rfl
theorem IM (a b:Bs):bI (a++b)=bI a++bI b:=by simp [bI]
theorem Eo (a:Bs):(bI a).length=a.length:=by simp [bI]
def KA (at_:Nat):Vi->Ah×Int×Int×Int
 | .bad c rel=>(⟨#[]⟩,0,c,((at_+rel:Nat):Int))
 | .ok v n=>(str v,(n:Int),0,0)
def S9 (s:Ah) (a1:Int) (l2:List Int) (x7:Int):Option (Ah×Int×Int×Int) :=
 (cond (decide (x7 >= (s.size:Int))) (some true) ((C2 s x7).bind λc13:UInt8=>some ((c13.toNat:Int) == (10:Int))):Option Bool).bind λq9=>cond q9 (some ((⟨#[]⟩:Ah),(0:Int),(4:Int),a1)) (cond (decide (((l2.length:Nat):Int) > (10000:Int))) (some ((⟨#[]⟩:Ah),(0:Int),(14:Int),a1)) (some ((strOfNums l2),Ar ((Ar (x7+(1:Int))) - a1),(0:Int),(0:Int))))
theorem ZA (s:Ah) (hs:s.size<=1000000) (at_:Nat) (q:UInt8) (ha:at_ < s.size) (hq:s[at_]=q):∀ (d i f k:Nat) (acc:Bs),s.size - i<=d->at_+1<=i->i<=s.size->acc.length<=i->s.size - i < f->d+25<=k ->
  Hk.l0 k s (at_:Int) (S9 s at_) (bI acc) (i:Int)=some (KA at_ (ED q f ((bs s).drop i) acc (i - at_)))
 | d,i,f,k,acc,hd,h1,h2,h3,h4,h5=>by
  obtain ⟨k,rfl⟩:∃ m,k=m+1:=⟨k - 1,by omega⟩;obtain ⟨f,rfl⟩:∃ m,f=m+1:=⟨f - 1,by omega⟩;simp only [Hk.l0];rcases Nat.lt_or_ge i s.size with h | h
  ·obtain ⟨d,rfl⟩:∃ m,d=m+1:=⟨d - 1,by omega⟩
   rw [dT (p:=(i:Int) < s.size) (by omega),H_ s i h,H_ s at_ ha,hq,Gg s i h,UJ];have hJ:S9 s at_ (bI acc) i=if s[i]=10 then some ((⟨#[]⟩:Ah),(0:Int),(4:Int),(at_:Int)) else if acc.length > 10000 then some ((⟨#[]⟩:Ah),(0:Int),(14:Int),(at_:Int)) else some (str acc,((i+1 - at_:Nat):Int),0,0):=by
    unfold S9;rw [dF (p:=(i:Int) >= s.size) (by omega),H_ s i h];simp only [cond_false,Al];rw [show ((s[i].toNat:Int) == 10)=decide (s[i]=10) from bq s[i] 10,Eg];split
    ·rfl
    ·rw [Eo,Eg,O3,wi ((i:Int)+1) (by omega) (by omega),wi ((i:Int)+1 - at_) (by omega) (by omega)]
     rw [show (i:Int)+1 - at_=((i+1 - at_:Nat):Int) by omega];split
     ·rw [if_pos (by omega)]
     ·rw [if_neg (by omega)]
   have hgo:s[i]≠10->s[i]≠q->s[i]≠92->Hk.l0 k s (at_:Int) (S9 s at_) (bI acc++[(s[i].toNat:Int)]) (Ar ((i:Int)+1))=some (KA at_ (ED q f ((bs s).drop (i+1)) (acc++[s[i]]) (i - at_+1))):=λ_ _ _=>by
    rw [wi _ (by omega) (by omega),show bI acc++[(s[i].toNat:Int)]=bI (acc++[s[i]]) by rw [IM];rfl];have:=ZA s hs at_ q ha hq d (i+1) f k (acc++[s[i]]) (by omega) (by omega) (by omega) (by simp;omega) (by omega) (by omega);rw [show i+1 - at_=i - at_+1 by omega] at this;exact this
   have Jt:=A4i s hs i k;generalize hc:s[i]=c at *;simp only [cond_true,Al];rw [show ((c.toNat:Int) != 10)=decide (c≠10) from bn c 10];by_cases c1:c=10
   ·rw [if_pos c1,dF (by simpa using c1)]
    simp only [cond_false,Al];rw [hJ,if_pos c1];simp [KA]
   rw [if_neg c1,dT c1];simp only [cond_true,Al,bn];by_cases c2:c=q
   ·rw [if_pos c2,dF (by simpa using c2)]
    simp only [cond_false];rw [hJ,if_neg c1];split
    ·simp [KA]
    ·simp only [KA]
     rw [show i - at_+1=i+1 - at_ by omega]
   rw [if_neg c2,dT c2];simp only [cond_true];rw [show ((c.toNat:Int) != 92)=decide (c≠92) from bn c 92];by_cases c3:c=92
   ·rw [if_pos c3,dF (by simpa using c3)]
    simp only [cond_false];rw [wi ((i:Int)+1) (by omega) (by omega),show (i:Int)+1=((i+1:Nat):Int) by omega];rcases Nat.lt_or_ge (i+1) s.size with h6 | h6
    ·rw [dF (p:=((i+1:Nat):Int) >= s.size) (by omega),Jt h6 (by omega)]
     simp only [cond_false,Al,VE];cases hE:Ig ((bs s).drop (i+1)) with
     | ended =>
      rw [Gg s _ h6,OT] at hE
      repeat' split at hE
      all_goals cases hE
     | Fh =>
      simp only [beq_self_eq_true,cond_true,KA];rw [show at_+(i - at_)=i by omega]
     | ok b n =>
      have hl:=VD hE;rw [BA,B0] at hl;rw [show ((n:Int) == 0)=false by rw [beq_eq_false_iff_ne];omega];simp only [cond_false];rw [GP _ _ _ (by rw [Eo,Eo];omega)];simp only [Al];rw [wi ((i:Int)+n) (by omega) (by omega),<- IM,show (i:Int)+n=((i+n:Nat):Int) by omega];have:=ZA s hs at_ q ha hq d (i+n) f k (acc++b) (by omega) (by omega) (by omega) (by simp;omega) (by omega) (by omega);rw [this,show i+n - at_=i - at_+n by omega,<- List.drop_drop,Gg s i h,hc]
    ·rw [dT (p:=((i+1:Nat):Int) >= s.size) (by omega),List.drop_of_length_le (by rw [B0];omega)]
     simp [Ig,KA]
   rw [if_neg c3,dT c3];simp only [cond_true];rw [GP _ _ _ (by rw [Eo];simp;omega)];exact hgo c1 c2 c3
  ·rw [dF (p:=(i:Int) < s.size) (by omega),List.drop_of_length_le (by rw [B0];omega),Aqy]
   simp only [cond_false,Al];unfold S9;rw [dT (p:=(i:Int) >= s.size) (by omega)];simp [KA]
theorem text_eq (s:Ah) (hs:s.size<=1000000) (at_ k:Nat) (ha:at_ < s.size) (hk:s.size+25<=k):Hk.f k s (at_:Int)=some (KA at_ (ED s[at_] (s.size - at_) ((bs s).drop (at_+1)) [] 1)):=by
 have:=ZA s hs at_ s[at_] ha rfl (s.size - (at_+1)) (at_+1) (s.size - at_) k [] (Nat.le_refl _) (Nat.le_refl _) (by omega) (by simp) (by omega) (by omega);rw [Nat.add_sub_cancel_left] at this;rw [<- this];unfold Hk.f A2;rw [wi _ (by omega) (by omega),show (at_:Int)+1=((at_+1:Nat):Int) by omega];rfl
def wD (hex:Bool) (b:UInt8):Option Nat :=
 if 48<=b.toNat/\b.toNat<=57 then some (b.toNat - 48) else if hex=true/\97<=b.toNat/\b.toNat<=102 then some (b.toNat - 87) else if hex=true/\65<=b.toNat/\b.toNat<=70 then some (b.toNat - 55) else none
theorem Asy {hex:Bool} {b:UInt8} {d:Nat} (h:wD hex b=some d):d < 16/\(hex=false->d < 10):=by
 unfold wD at h;split at h;cases h;omega;split at h;rename_i h2;cases h;exact ⟨by omega,λe=>by rw [e] at h2;simp at h2⟩;split at h;rename_i h3;cases h;exact ⟨by omega,λe=>by rw [e] at h3;simp at h3⟩;cases h
def wZ (hex:Bool) (b:UInt8):Int:=match wD hex b with | some d=>d | none=>-1
theorem ZO (k:Nat) (b:UInt8) (hex:Bool):Kz.f k (b.toNat:Int) hex=some (wZ hex b):=by
 have hb:=b.toNat_lt;unfold Kz.f wZ wD;rw [wb,wi ((b.toNat:Int) - 48) (by omega) (by omega),wi ((b.toNat:Int) - 97) (by omega) (by omega),wi ((b.toNat:Int) - 97+10) (by omega) (by omega),wi ((b.toNat:Int) - 65) (by omega) (by omega),wi ((b.toNat:Int) - 65+10) (by omega) (by omega)];have hq:b.toNat < 48\/(48<=b.toNat/\b.toNat<=57)\/(57 < b.toNat/\b.toNat < 65)\/(65<=b.toNat/\b.toNat<=70)\/(70 < b.toNat/\b.toNat < 97)\/(97<=b.toNat/\b.toNat<=102)\/102 < b.toNat:=by omega
 rcases hq with h | h | h | h | h | h | h;rw [dF (p:=(b.toNat:Int) >= 48) (by omega),dF (p:=(b.toNat:Int) >= 97) (by omega),dF (p:=(b.toNat:Int) >= 65) (by omega),if_neg (by omega),if_neg (by omega),if_neg (by omega)];cases hex <;> rfl;rw [dT (p:=(b.toNat:Int) >= 48) (by omega),dT (p:=(b.toNat:Int)<=57) (by omega),if_pos h];simp only [cond_true,Al];congr 1;omega;rw [dT (p:=(b.toNat:Int) >= 48) (by omega),dF (p:=(b.toNat:Int)<=57) (by omega),dF (p:=(b.toNat:Int) >= 97) (by omega),dF (p:=(b.toNat:Int) >= 65) (by omega),if_neg (by omega),if_neg (by omega),if_neg (by omega)];cases hex <;> rfl;rw [dT (p:=(b.toNat:Int) >= 48) (by omega),dF (p:=(b.toNat:Int)<=57) (by omega),dF (p:=(b.toNat:Int) >= 97) (by omega),dT (p:=(b.toNat:Int) >= 65) (by omega),dT (p:=(b.toNat:Int)<=70) (by omega),if_neg (by omega),if_neg (by omega)];cases hex;rfl;rw [if_pos ⟨rfl,h⟩];simp only [cond_true,cond_false,Al];congr 1;omega;rw [dT (p:=(b.toNat:Int) >= 48) (by omega),dF (p:=(b.toNat:Int)<=57) (by omega),dF (p:=(b.toNat:Int) >= 97) (by omega),dT (p:=(b.toNat:Int) >= 65) (by omega),dF (p:=(b.toNat:Int)<=70) (by omega),if_neg (by omega),if_neg (by omega),if_neg (by omega)];cases hex <;> rfl;rw [dT (p:=(b.toNat:Int) >= 48) (by omega),dF (p:=(b.toNat:Int)<=57) (by omega),dT (p:=(b.toNat:Int) >= 97) (by omega),dT (p:=(b.toNat:Int)<=102) (by omega),dT (p:=(b.toNat:Int) >= 65) (by omega),dF (p:=(b.toNat:Int)<=70) (by omega),if_neg (by omega)];cases hex;rw [if_neg (by simp),if_neg (by simp)];rfl;rw [if_pos ⟨rfl,h⟩];simp only [cond_true,cond_false,Al];congr 1;omega;rw [dT (p:=(b.toNat:Int) >= 48) (by omega),dF (p:=(b.toNat:Int)<=57) (by omega),dT (p:=(b.toNat:Int) >= 97) (by omega),dF (p:=(b.toNat:Int)<=102) (by omega),dT (p:=(b.toNat:Int) >= 65) (by omega),dF (p:=(b.toNat:Int)<=70) (by omega),if_neg (by omega),if_neg (by omega),if_neg (by omega)];cases hex <;> rfl
def Mi (hex:Bool) (n d:Nat):Nat:=if hex then (n * 16+d) % 18446744073709551616 else min (10 * n+d) 18446744073709551615
def szB (hex:Bool):Nat->Bs->Option Nat
 | n,[]=>some n
 | n,b :: t=>match wD hex b with | none=>none | some d=>szB hex (Mi hex n d) t
theorem T4 (b:UInt8) (t:Bs) (h:128<=b.toNat):128<=(Ba (b :: t)).1:=by
 have hb:=b.toNat_lt;unfold Ba;simp only [List.getD_cons_zero];rw [if_neg (by omega)]
 (repeat' split) <;> simp_all <;> omega
theorem Ap0 (hex:Bool):∀ (f n:Nat) (l:Bs),l.length<=f->JJ hex f n l=szB hex n l
 | 0,n,l,h=>by
  have:l=[]:=List.eq_nil_of_length_eq_zero (by omega);subst this;rfl
 | f+1,n,[],h=>rfl
 | f+1,n,b :: t,h=>by
  simp only [AH] at h;simp only [JJ,szB];by_cases hb:b.toNat < 128;rw [Nr b t hb];simp only [List.drop_succ_cons,List.drop_zero];have ih:=λm=>Ap0 hex f m t (by omega);simp only [ih];unfold I1 wD Mi;by_cases h1:48<=b.toNat/\b.toNat<=57;rw [if_pos h1,if_pos h1];simp only [];rw [if_neg (by simp;omega)];rw [if_neg h1,if_neg h1];by_cases h2:97<=b.toNat/\b.toNat<=102;rw [if_pos h2];cases hex with
  | true=>rw [if_pos ⟨rfl,h2⟩];simp
  | false=>rw [if_neg (by simp),if_neg (by simp)];simp;omega
  rw [if_neg h2,if_neg (show ¬ (hex=true/\97<=b.toNat/\b.toNat<=102) from λh=>h2 h.2)];by_cases h3:65<=b.toNat/\b.toNat<=70;rw [if_pos h3];cases hex with
  | true=>rw [if_pos ⟨rfl,h3⟩];simp
  | false=>rw [if_neg (by simp)];simp;omega
  rw [if_neg h3,if_neg (show ¬ (hex=true/\65<=b.toNat/\b.toNat<=70) from λh=>h3 h.2)];have hh:=T4 b t (by omega);have e:I1 (Ba (b :: t)).1=none:=by
   unfold I1;rw [if_neg (by omega),if_neg (by omega),if_neg (by omega)]
  have e2:wD hex b=none:=by
   unfold wD;rw [if_neg (by omega),if_neg (by omega),if_neg (by omega)]
  rw [e,e2]
theorem Aql (hex:Bool):∀ (l:Bs) (n:Nat),(szB hex n l).isSome=l.all λb=>(wD hex b).isSome
 | [],_=>rfl
 | b :: t,n=>by
  simp only [szB,List.all_cons];cases hw:wD hex b with
  | none=>rfl
  | some d=>simp only [Option.isSome_some,Bool.true_and];exact Aql hex t _
theorem Acu (s:Ah) (hs:s.size<=1000000) (hex:Bool) (J:Unit->Option (Int×Int)):∀ (d i k:Nat),s.size - i<=d->i<=s.size->d < k ->
  D3.l2 k hex s J (i:Int)=if (((bs s).drop i).all λb=>(wD hex b).isSome)=true then J () else some (0,4)
 | d,i,k,hd,hi,hk=>by
  obtain ⟨k,rfl⟩:∃ m,k=m+1:=⟨k - 1,by omega⟩;simp only [D3.l2];rcases Nat.lt_or_ge i s.size with h | h;obtain ⟨d,rfl⟩:∃ m,d=m+1:=⟨d - 1,by omega⟩;rw [dT (p:=(i:Int) < s.size) (by omega),H_ s i h,Gg s i h,wi ((i:Int)+1) (by omega) (by omega),show (i:Int)+1=((i+1:Nat):Int) by omega];simp only [cond_true,Al,ZO,List.all_cons];rw [Acu s hs hex J d (i+1) k (by omega) (by omega) (by omega)];by_cases hw:(wD hex s[i]).isSome=true;obtain ⟨x,hx⟩:=Option.isSome_iff_exists.1 hw;have hz:wZ hex s[i]=x:=by unfold wZ;rw [hx]
  rw [hz,dF (by omega)];simp only [hw,Bool.true_and,cond_false];have hx:wD hex s[i]=none:=by simpa using hw
  have hz:wZ hex s[i]=-1:=by unfold wZ;rw [hx]
  rw [hz,dT (by omega)];simp only [hw,Bool.false_and,cond_true,Bool.false_eq_true,if_false];rw [dF (p:=(i:Int) < s.size) (by omega),List.drop_of_length_le (by rw [B0];omega)];rfl
theorem Ba5 (u d:Nat) (hu:u < 18446744073709551616) (hd:d < 16):Ar (Ar (sint u * 16)+(d:Int))=sint ((u * 16+d) % 18446744073709551616):=by unfold Ar IntKind.wrap sint;simp [IntKind.bits,IntKind.signed];omega
theorem Agc (s:Ah) (hs:s.size<=1000000) (J:Int->Option (Int×Int)):∀ (d i k u u':Nat),s.size - i<=d->i<=s.size->d < k->u < 18446744073709551616->szB true u ((bs s).drop i)=some u' ->
  D3.l0 k s J (sint u) (i:Int)=J (sint u')
 | d,i,k,u,u',hd,hi,hk,hu,hz=>by
  obtain ⟨k,rfl⟩:∃ m,k=m+1:=⟨k - 1,by omega⟩;simp only [D3.l0];rcases Nat.lt_or_ge i s.size with h | h;obtain ⟨d,rfl⟩:∃ m,d=m+1:=⟨d - 1,by omega⟩;rw [dT (p:=(i:Int) < s.size) (by omega),H_ s i h,wi ((i:Int)+1) (by omega) (by omega),show (i:Int)+1=((i+1:Nat):Int) by omega];rw [Gg s i h] at hz;simp only [cond_true,Al,ZO];simp only [szB] at hz;cases hw:wD true s[i] with
  | none=>rw [hw] at hz;cases hz
  | some x =>
   rw [hw] at hz;have hx:=(Asy hw).1;have hzz:wZ true s[i]=x:=by unfold wZ;rw [hw]
   rw [hzz,Ba5 u x hu hx];exact Agc s hs J d (i+1) k _ u' (by omega) (by omega) (by omega) (Nat.mod_lt _ (by omega)) hz
  rw [dF (p:=(i:Int) < s.size) (by omega)];rw [List.drop_of_length_le (by rw [B0];omega)] at hz;cases hz;rfl
theorem Aqs:∀ (l:Bs) (u u':Nat),szB false u l=some u'->u<=18446744073709551615->u<=u'
 | [],u,u',h,_=>by cases h;exact Nat.le_refl _
 | b :: t,u,u',h,hu=>by
  simp only [szB] at h;cases hw:wD false b with
  | none=>rw [hw] at h;cases h
  | some d =>
   rw [hw] at h;have:=Aqs t _ u' h (by unfold Mi;simp;omega);unfold Mi at this;simp at this;omega
theorem B2m (x:Int) (h:x<=0):Int.tdiv x 10=-((-x) / 10):=by
 obtain ⟨n,hn⟩:∃ n:Nat,x=-(n:Int):=⟨x.natAbs,by omega⟩;subst hn;rw [Int.neg_tdiv,show (10:Int)=((10:Nat):Int) from rfl,td];omega
theorem Ac2 (s:Ah) (hs:s.size<=1000000) (J:Int->Option (Int×Int)):∀ (d i k u u':Nat),s.size - i<=d->i<=s.size->d < k->u<=9223372036854775808->szB false u ((bs s).drop i)=some u' ->
  D3.l1 k s J (-(u:Int)) (i:Int)=if u' > 9223372036854775808 then some (0,14) else J (-(u':Int))
 | d,i,k,u,u',hd,hi,hk,hu,hz=>by
  obtain ⟨k,rfl⟩:∃ m,k=m+1:=⟨k - 1,by omega⟩;simp only [D3.l1];rcases Nat.lt_or_ge i s.size with h | h;obtain ⟨d,rfl⟩:∃ m,d=m+1:=⟨d - 1,by omega⟩;rw [dT (p:=(i:Int) < s.size) (by omega),H_ s i h,wi ((i:Int)+1) (by omega) (by omega),show (i:Int)+1=((i+1:Nat):Int) by omega];rw [Gg s i h] at hz;simp only [cond_true,Al,ZO];simp only [szB] at hz;cases hw:wD false s[i] with
  | none=>rw [hw] at hz;cases hz
  | some x =>
   rw [hw] at hz;have hx:=(Asy hw).2 rfl;have hzz:wZ false s[i]=x:=by unfold wZ;rw [hw]
   rw [hzz,wi ((-9223372036854775808:Int)+(x:Int)) (by omega) (by omega),B2m _ (by omega)];have hm:=Aqs _ _ u' hz (by unfold Mi;simp;omega);have hst:Mi false u x=min (10 * u+x) 18446744073709551615:=rfl;rw [wi (-(-(-9223372036854775808+(x:Int)) / 10)) (by omega) (by omega)];by_cases hb:10 * u+x > 9223372036854775808;rw [dT (by omega),if_pos (by omega)];rfl;rw [dF (by omega)];simp only [cond_false];rw [wi (-(u:Int) * 10) (by omega) (by omega),wi (-(u:Int) * 10 - (x:Int)) (by omega) (by omega)];have he:Mi false u x=10 * u+x:=by rw [hst];omega
   have hz:szB false (Mi false u x) ((bs s).drop (i+1))=some u':=hz;rw [he] at hz;rw [show -(u:Int) * 10 - (x:Int)=-((10 * u+x:Nat):Int) by omega];exact Ac2 s hs J d (i+1) k _ u' (by omega) (by omega) (by omega) (by omega) hz
  rw [dF (p:=(i:Int) < s.size) (by omega)];rw [List.drop_of_length_le (by rw [B0];omega)] at hz;cases hz;rw [if_neg (by omega)];rfl
theorem Aqq:∀ (l:Bs) (hex:Bool) (u u':Nat),szB hex u l=some u'->u < 18446744073709551616->u' < 18446744073709551616
 | [],_,u,u',h,hu=>by cases h;exact hu
 | b :: t,hex,u,u',h,hu=>by
  simp only [szB] at h;cases hw:wD hex b with
  | none=>rw [hw] at h;cases h
  | some d =>
   rw [hw] at h;refine Aqq t hex _ u' h ?_;unfold Mi;split;exact Nat.mod_lt _ (by omega);omega
def Zp (k:Nat) (hex:Bool) (x2:Ah):Option (Int×Int) :=
 cond ((x2.size:Int) == (0:Int)) (some ((0:Int),(4:Int))) (A2 (λ(_:Unit)=>cond hex (A2 (λ(x7:Int)=>A2 (λ(x9:Int)=>some (x9,(0:Int))) (λKU=>cond false (KU (Ar (0 - x7))) (KU x7))) (λJ8=>D3.l0 k x2 J8 (0:Int) (0:Int))) (A2 (λ(x18:Int)=>cond false (some (x18,(0:Int))) (cond (x18 == (-9223372036854775808:Int)) (some ((0:Int),(14:Int))) (some (Ar (0 - x18),(0:Int))))) (λJ19=>D3.l1 k x2 J19 (0:Int) (0:Int)))) (λJ5=>D3.l2 k hex x2 J5 (0:Int)))
theorem Ao1 (k:Nat) (hex:Bool) (x:Ah) (hs:x.size<=1000000) (hk:x.size < k):Zp k hex x=some (if bs x=[] then ((0,4):Int×Int) else match szB hex 0 (bs x) with | none=>(0,4) | some u=>if !hex && decide (u > 9223372036854775807) then (0,14) else (sint u,0)):=by
 unfold Zp A2;by_cases he:bs x=[];have h0:x.size=0:=by rw [<- B0,he];rfl
 rw [if_pos he,show ((x.size:Int) == 0)=true by rw [beq_iff_eq];omega];rfl;have h0:x.size≠0:=λh=>he (List.eq_nil_of_length_eq_zero (by rw [B0];exact h));rw [if_neg he,show ((x.size:Int) == 0)=false by rw [beq_eq_false_iff_ne];omega];simp only [cond_false];have hc:=Acu x hs hex (λ(_:Unit)=>cond hex (D3.l0 k x (λx7=>some (x7,0)) 0 0) (D3.l1 k x (λx18=>cond (x18 == (-9223372036854775808:Int)) (some ((0:Int),(14:Int))) (some (Ar (0 - x18),(0:Int)))) 0 0)) x.size 0 k (by omega) (by omega) hk;rw [show ((0:Nat):Int)=0 from rfl,List.drop_zero] at hc;refine hc.trans ?_;rw [<- Aql hex (bs x) 0];cases hz:szB hex 0 (bs x) with
 | none=>simp
 | some u =>
  rw [if_pos (show (some u).isSome=true from rfl)];have hlt:=Aqq _ _ _ _ hz (by omega);cases hex with
  | true =>
   have:=Agc x hs (λx7=>some (x7,0)) x.size 0 k 0 u (by omega) (by omega) hk (by omega) hz;rw [show sint 0=0 from rfl,show ((0:Nat):Int)=0 from rfl] at this;simp only [cond_true,this,Bool.not_true,Bool.false_and,Bool.false_eq_true,if_false]
  | false =>
   have:=Ac2 x hs (λx18=>cond (x18 == (-9223372036854775808:Int)) (some ((0:Int),(14:Int))) (some (Ar (0 - x18),(0:Int)))) x.size 0 k 0 u (by omega) (by omega) hk (by omega) hz;rw [show -((0:Nat):Int)=0 from rfl,show ((0:Nat):Int)=0 from rfl] at this;simp only [cond_false,this,Bool.not_false,Bool.true_and];by_cases h1:u > 9223372036854775808;rw [if_pos h1,if_pos (by simp;omega)];rw [if_neg h1];by_cases h2:u=9223372036854775808;rw [show ((-(u:Int)) == (-9223372036854775808:Int))=true by rw [beq_iff_eq];omega,if_pos (by simp;omega)];rfl;rw [show ((-(u:Int)) == (-9223372036854775808:Int))=false by rw [beq_eq_false_iff_ne];omega,if_neg (by simp;omega),wi _ (by omega) (by omega)];simp only [cond_false];unfold sint;rw [if_pos (by omega)];congr 2;omega
theorem Bav:∀ (l:Bs),l.length<=1->Eb l=false
 | [],_=>rfl
 | [a],_=>by
  unfold Eb;simp only [List.isPrefixOf,Bool.and_false,Bool.or_self]
 | a :: b :: t,h=>by simp at h
theorem parse_eq (k:Nat) (s:Ah) (hs:s.size<=1000000) (hk:s.size < k):Ow.f k s=some (Es (bs s)):=by
 have hq:((cond (decide ((s.size:Int) >= (2:Int))) ((C2 s (0:Int)).bind λc38:UInt8=>cond ((c38.toNat:Int) == (48:Int)) ((C2 s (1:Int)).bind λc40:UInt8=>cond ((c40.toNat:Int) == (120:Int)) (some true) ((C2 s (1:Int)).bind λTy:UInt8=>some ((Ty.toNat:Int) == (88:Int)))) (some false)) (some false)):Option Bool)=some (Eb (bs s)):=by
  unfold Eb;rcases Nat.lt_or_ge 1 s.size with h | h;rw [dT (p:=(s.size:Int) >= 2) (by omega)];have e0:=H_ s 0 (by omega);have e1:=H_ s 1 h;have d0:=Gg s 0 (by omega);have d1:=Gg s 1 h;rw [show ((0:Nat):Int)=0 from rfl] at e0;rw [show ((1:Nat):Int)=1 from rfl] at e1;rw [List.drop_zero] at d0;rw [d0,d1,e0,e1];generalize s[0]=a;generalize s[1]=b;simp only [cond_true,Al];rw [show ((a.toNat:Int) == 48)=decide (a=48) from bq a 48,show ((b.toNat:Int) == 120)=decide (b=120) from bq b 120,show ((b.toNat:Int) == 88)=decide (b=88) from bq b 88];by_cases ha:a=48;subst ha;rw [dT rfl];have hx:∀ y:UInt8,([48,y].isPrefixOf (48 :: b :: (bs s).drop (1+1)))=((y == b) && true):=λy=>rfl;rw [hx,hx];simp only [cond_true];by_cases hb:b=120;subst hb;rfl;rw [dF hb,show ((120:UInt8) == b)=false by rw [beq_eq_false_iff_ne];exact λe=>hb e.symm];simp only [cond_false,Bool.false_or];have e:((88:UInt8) == b)=decide (b=88):=by
   rw [Bool.eq_iff_iff,beq_iff_eq,decide_eq_true_eq];exact eq_comm
  rw [e];cases decide (b=88) <;> rfl;rw [dF ha];simp only [cond_false,List.isPrefixOf];rw [show ((48:UInt8) == a)=false by rw [beq_eq_false_iff_ne];exact λe=>ha e.symm];rfl;rw [dF (p:=(s.size:Int) >= 2) (by omega)];have hl:(bs s).length<=1:=by rw [B0];omega
  have:=Bav (bs s) hl;unfold Eb at this;rw [this];rfl
 unfold Ow.f D3.f;rw [hq];unfold Es;simp only [Al];have hT:∀ hex x2,Zp k hex x2=cond ((x2.size:Int) == (0:Int)) (some ((0:Int),(4:Int))) (A2 (λ(_:Unit)=>cond hex (A2 (λ(x7:Int)=>A2 (λ(x9:Int)=>some (x9,(0:Int))) (λKU=>cond false (KU (Ar (0 - x7))) (KU x7))) (λJ8=>D3.l0 k x2 J8 (0:Int) (0:Int))) (A2 (λ(x18:Int)=>cond false (some (x18,(0:Int))) (cond (x18 == (-9223372036854775808:Int)) (some ((0:Int),(14:Int))) (some (Ar (0 - x18),(0:Int))))) (λJ19=>D3.l1 k x2 J19 (0:Int) (0:Int)))) (λJ5=>D3.l2 k hex x2 J5 (0:Int))):=λ_ _=>rfl;simp only [<- hT];have hz:=λhex x=>Ap0 hex (x:Bs).length 0 x (Nat.le_refl _);unfold EU;simp only [hz];unfold A2;generalize Eb (bs s)=hex at *;cases hex with
 | false =>
  simp only [cond_false,Bool.false_eq_true,if_false];rw [Ao1 k false s hs hk];simp only [Al];rfl
 | true =>
  simp only [cond_true,if_true];rcases Nat.lt_or_ge 1 s.size with h | h;have:=PO s 2 s.size (by omega) (Nat.le_refl _);rw [show ((2:Nat):Int)=2 from rfl,List.take_of_length_le (by rw [BA,B0];omega)] at this;rw [this];simp only [Al];rw [Ao1 k true _ (by rw [Gv,BA,B0];omega) (by rw [Gv,BA,B0];omega),F3];rfl;exfalso;rw [dF (p:=(s.size:Int) >= 2) (by omega)] at hq;cases hq
def Io (l:Bs):Nat:=(l.takeWhile (λb=>b != 10)).length
theorem Apt (b:UInt8) (t:Bs):(Ba (b :: t)).1=10 ↔ b=10:=by
 by_cases h:b.toNat < 128;rw [Nr b t h];constructor;intro e;exact UInt8.toNat_inj.1 (by show b.toNat=10;exact e);intro e;subst e;rfl;have:=T4 b t (by omega);constructor;intro e;omega;intro e;subst e;exact absurd (by decide) h
theorem Bqe (x y:Bs) (h:∀ b ∈ x,b≠10):Io (x++y)=x.length+Io y:=by
 unfold Io;rw [List.takeWhile_append_of_pos (λb hb=>by simpa using h b hb),Bv]
theorem Zr:∀ (n:Nat) (l:Bs),l.length<=n->Bp Jv l=Io l
 | n,[],_=>rfl
 | 0,b :: t,h=>by simp at h
 | n+1,b :: t,h=>by
  rw [Mf Jv (b :: t) (by simp)];unfold Jv;by_cases hb:b=10
  ·subst hb
   rw [if_neg (by simp [(Apt 10 t).2 rfl])];rfl
  ·have hr:(Ba (b :: t)).1≠10:=λe=>hb ((Apt b t).1 e)
   rw [if_pos (by simpa using hr)];have hw:=Gf (b :: t);have hw3:=hw.2.2 (by simp);have ih:=Zr n ((b :: t).drop (Ba (b :: t)).2) (by rw [BA];omega);unfold Jv at ih;rw [ih]
   conv=>rhs;rw [<- List.take_append_drop (Ba (b :: t)).2 (b :: t)]
   rw [Bqe _ _ (λx hx=>?_),List.length_take,Nat.min_eq_left hw3];intro e;subst e;have:=A01 (b :: t) 10 hx (by decide);exact hr this.1
theorem Ako (s:Ah) (hs:s.size<=1000000) (J:Int->Option (List (Int×Ah×Int×Int)×Int×Int)):∀ (d i k:Nat),s.size - i<=d->i<=s.size->d < k ->
  EA.l1 k s J (i:Int)=J ((i+Io ((bs s).drop i):Nat):Int)
 | d,i,k,hd,hi,hk=>by
  obtain ⟨k,rfl⟩:∃ m,k=m+1:=⟨k - 1,by omega⟩;simp only [EA.l1];rcases Nat.lt_or_ge i s.size with h | h;obtain ⟨d,rfl⟩:∃ m,d=m+1:=⟨d - 1,by omega⟩;rw [dT (p:=(i:Int) < s.size) (by omega),H_ s i h,wi ((i:Int)+1) (by omega) (by omega),show (i:Int)+1=((i+1:Nat):Int) by omega];have ih:=Ako s hs J d (i+1) k (by omega) (by omega) (by omega);rw [Gg s i h];simp only [cond_true,Al];rw [show ((s[i].toNat:Int) != 10)=decide (s[i]≠10) from bn s[i] 10];by_cases hb:s[i]=10;rw [dF (by simpa using hb),show Io (s[i] :: (bs s).drop (i+1))=0 by unfold Io;rw [List.takeWhile_cons_of_neg (by simpa using hb)];rfl];rfl;rw [dT hb,show Io (s[i] :: (bs s).drop (i+1))=Io ((bs s).drop (i+1))+1 by unfold Io;rw [List.takeWhile_cons_of_pos (by simpa using hb)];rfl];simp only [cond_true];rw [ih];congr 2;omega;rw [dF (p:=(i:Int) < s.size) (by omega),List.drop_of_length_le (by rw [B0];omega)];rfl
def S2:(Int×Int) ⊕ List Tok->List (Int×Ah×Int×Int)×Int×Int
 | .inl (c,p)=>([],c,p)
 | .inr l=>(l.map FH,0,0)
def Zu (s:Ah) (l3:List (Int×Ah×Int×Int)):Option (List (Int×Ah×Int×Int)×Int×Int) :=
 (apd 40 l3 [((6:Int),(⟨#[]⟩:Ah),(0:Int),(s.size:Int))]).bind λl10=>some (l10,(0:Int),(0:Int))
theorem Bz7 (b:UInt8) (t:Bs) (h:KZ b=false):Bp Cn (b :: t)=0:=by
 rw [Mf Cn (b :: t) (by simp),if_neg];intro he;by_cases hb:b.toNat < 128;rw [Nr b t hb] at he;rw [Az0 he] at h;cases h;have:=T4 b t (by omega);unfold Cn at he;simp at he;omega
theorem B0b (b:UInt8) (t:Bs):(Ba (b :: t)).1=34\/(Ba (b :: t)).1=39 ↔ b=34\/b=39:=by
 by_cases hb:b.toNat < 128;rw [Nr b t hb];constructor;rintro (h | h);exact .inl (UInt8.toNat_inj.1 h);exact .inr (UInt8.toNat_inj.1 h);rintro (h | h) <;> subst h;exact .inl rfl;exact .inr rfl;have:=T4 b t (by omega);constructor;rintro (h | h) <;> omega;rintro (h | h) <;> (subst h;exact absurd (by decide) hb)
theorem Z7 (q:UInt8):∀ (f g:Nat) (l acc:Bs) (i:Nat),l.length < f->l.length < g->ED q f l acc i=ED q g l acc i
 | 0,_,l,_,_,h,_=>by omega
 | _,0,l,_,_,_,h=>by omega
 | f+1,g+1,[],_,_,_,_=>rfl
 | f+1,g+1,b :: t,acc,i,h,h'=>by
  simp only [AH] at h h';rw [UJ,UJ];split;rfl;split;rfl;split;cases hE:Ig t with
  | ended=>rfl
  | Fh=>rfl
  | ok e n =>
   have:=VD hE;exact Z7 q f g _ _ _ (by rw [BA];simp;omega) (by rw [BA];simp;omega)
  exact Z7 q f g _ _ _ (by omega) (by omega)
set_option maxHeartbeats 1000000 in
theorem B0s (s:Ah) (hs:s.size<=20000):∀ (d at_ k:Nat) (acc:List Tok),s.size - at_<=d->at_<=s.size->acc.length<=at_->d+30000<=k ->
  EA.l0 k s (Zu s) (acc.map FH) (at_:Int)=some (S2 (Iu ((bs s).drop at_) at_ acc)):=by
  intro d;induction d using Nat.strongRecOn with
  | _ d IH =>
  intro at_ k acc hd ha hacc hk;have hs1:s.size<=1000000:=by omega
  obtain ⟨k,rfl⟩:∃ m,k=m+1:=⟨k - 1,by omega⟩;simp only [EA.l0];rcases Nat.lt_or_ge at_ s.size with h | h;obtain ⟨d,rfl⟩:∃ m,d=m+1:=⟨d - 1,by omega⟩;have ih:=λ(n:Nat) (acc:List Tok) (h1:1<=n) (h2:at_+n<=s.size) (h3:acc.length<=at_+n)=>IH d (by omega) (at_+n) k acc (by omega) h2 h3 (by omega);have hat:=at_eq s at_ k hs1 h (by omega);have hnm:=names_eq s hs1 at_ k (by omega) (by omega);have htx:=text_eq s hs1 at_ k h (by omega);have hsg:=sign_eq k s at_ hs1 h;have hln:=λJ=>Ako s hs1 J (s.size - at_) at_ k (Nat.le_refl _) ha (by omega);have hrl:=Jh BJ ((bs s).drop at_);have hdr:=Gg s at_ h;have hlen:((bs s).drop (at_+1)).length=s.size - (at_+1):=by rw [BA,B0]
  rw [BA,B0] at hrl;have hnext:at_+1 < s.size->C2 s ((at_+1:Nat):Int)=((bs s).drop (at_+1)).head?:=λ_=>Apw s (at_+1);have hsub:=λ(n:Nat) (h2:at_+n<=s.size)=>PO s at_ (at_+n) (by omega) h2;rw [dT (p:=(at_:Int) < s.size) (by omega),H_ s at_ h,wi ((at_:Int)+1) (by omega) (by omega),show (at_:Int)+1=((at_+1:Nat):Int) by omega];rw [hdr] at hat hnm hsg hln hrl hsub ⊢;have hdd:∀ n,(s[at_] :: (bs s).drop (at_+1)).drop n=(bs s).drop (at_+n):=λn=>by rw [<- hdr,List.drop_drop]
  generalize hc:s[at_]=c at *;generalize ht:(bs s).drop (at_+1)=t at *;have hcl:=c.toNat_lt;simp only [cond_true,Al];have hbl:((cond ((c.toNat:Int) == (32:Int)) (some true) (cond ((c.toNat:Int) == (9:Int)) (some true) (cond ((c.toNat:Int) == (10:Int)) (some true) (some ((c.toNat:Int) == (13:Int)))))):Option Bool)=some (KZ c):=by
   unfold KZ;rw [show ((c.toNat:Int) == 32)=(c == 32) from My c 32,show ((c.toNat:Int) == 9)=(c == 9) from My c 9,show ((c.toNat:Int) == 10)=(c == 10) from My c 10,show ((c.toNat:Int) == 13)=(c == 13) from My c 13];cases (c == 32) <;> cases (c == 9) <;> cases (c == 10) <;> rfl
  rw [hbl];simp only [Al];cases hB:KZ c with
  | true =>
   simp only [cond_true];have:=B0f t at_ acc [c] (by simpa using hB);rw [show c :: t=[c]++t from rfl,this,<- ht];exact ih 1 acc (by omega) (by omega) (by omega)
  | false =>
   simp only [cond_false];have hr0:=Bz7 c t hB;have hstep:=PQ (c :: t) at_ acc;rw [hr0,List.drop_zero] at hstep;simp only [Nat.add_zero] at hstep;have hst:De (c :: t)=if [45,45].isPrefixOf (c :: t) then .skip (Bp Jv (c :: t)) else if G5 (Ba (c :: t)).1 then (if Bp BJ (c :: t) > 40 then .bad 14 0 else .tok (if Ke ((c :: t).take (Bp BJ (c :: t))) then 2 else 1) ((c :: t).take (Bp BJ (c :: t))) 0 (Bp BJ (c :: t)))
    else if FO (Ba (c :: t)).1 then (if (Es ((c :: t).take (Bp BJ (c :: t)))).2≠0 then .bad (Es ((c :: t).take (Bp BJ (c :: t)))).2 0 else .tok 3 ((c :: t).take (Bp BJ (c :: t))) (Es ((c :: t).take (Bp BJ (c :: t)))).1 (Bp BJ (c :: t)))
    else if (Ba (c :: t)).1=34\/(Ba (c :: t)).1=39 then (match ED (UInt8.ofNat (Ba (c :: t)).1) (c :: t).length t [] 1 with | .bad c r=>.bad c r | .ok v k=>.tok 4 v 0 k)
    else (match Mg (c :: t) with | none=>.bad 4 0 | some s=>.tok 5 s 0 s.length):=by
    unfold De;rw [if_neg (by simp)];rfl
   have Baq:((cond ((c.toNat:Int) == (45:Int)) (cond (decide (((at_+1:Nat):Int) < (s.size:Int))) ((C2 s ((at_+1:Nat):Int)).bind λTz:UInt8=>some ((Tz.toNat:Int) == (45:Int))) (some false)) (some false)):Option Bool)=some ([45,45].isPrefixOf (c :: t)):=by
    rw [show ((c.toNat:Int) == 45)=decide (c=45) from bq c 45];by_cases h45:c=45;subst h45;rw [dT rfl];simp only [cond_true];rcases Nat.lt_or_ge (at_+1) s.size with h1 | h1;rw [dT (p:=((at_+1:Nat):Int) < s.size) (by omega),hnext h1];cases t with
    | nil=>simp at hlen;omega
    | cons e t =>
     simp only [cond_true,List.head?_cons,Al];rw [show ((e.toNat:Int) == 45)=(e == 45) from My e 45];show some (e == 45)=some ((45 == (45:UInt8)) && ((45 == e) && true));rw [show ((45:UInt8) == e)=(e == 45) by rw [Bool.eq_iff_iff,beq_iff_eq,beq_iff_eq];exact eq_comm];cases (e == 45) <;> rfl
    rw [dF (p:=((at_+1:Nat):Int) < s.size) (by omega)];have:t=[]:=List.eq_nil_of_length_eq_zero (by omega);subst this;rfl;rw [dF h45];show some false=some ((45 == c) && _);rw [show ((45:UInt8) == c)=false by rw [beq_eq_false_iff_ne];exact λe=>h45 e.symm];rfl
   rw [Baq];simp only [Al];have htok:∀ (n:Nat) (kind:Int) (text:Bs) (v:Int),1<=n->at_+n<=s.size->De (c :: t)=.tok kind text v n ->
     ((apd 40 (acc.map FH) [(kind,str text,v,(at_:Int))]).bind λl45=>EA.l0 k s (Zu s) l45 (Ar ((at_:Int)+(n:Int))))=some (S2 (Iu (c :: t) at_ acc)):=by
    intro n kind text v h1 h2 h3;rw [h3] at hstep;rw [hstep,GP _ _ _ (by simp;omega)];simp only [Al];rw [wi _ (by omega) (by omega),show (at_:Int)+(n:Int)=((at_+n:Nat):Int) by omega,hdd];have:=ih n (acc++[⟨kind,text,v,at_⟩]) h1 h2 (by simp;omega);rw [List.map_append] at this;exact this
   have hbad:∀ (cd:Int) (rel:Nat),De (c :: t)=.bad cd rel->S2 (Iu (c :: t) at_ acc)=([],cd,((at_+rel:Nat):Int)):=by
    intro cd rel h3;rw [h3] at hstep;rw [hstep];rfl
   cases hp:[45,45].isPrefixOf (c :: t) with
   | true =>
    rw [hp,if_pos rfl] at hst;rw [hst] at hstep;rw [Zr _ _ (Nat.le_refl _)] at hstep;simp only [cond_true,A2];rw [hln];have hn1:1<=Io (c :: t)/\Io (c :: t)<=s.size - at_:=by
     have:=(K9 (c :: t)).1 _ hst;rw [Zr _ _ (Nat.le_refl _)] at this;simp only [AH] at this;omega
    rw [hstep];show _=some (S2 (Iu (List.drop (Io (c :: t)) (c :: t)) (at_+Io (c :: t)) acc));rw [hdd];exact ih (Io (c :: t)) acc hn1.1 (by omega) (by omega)
   | false =>
    rw [hp,if_neg (by simp)] at hst;simp only [cond_false];rw [hat];simp only [Al,A2,Ao9,Aox];have hrq:=B0b c t;have hwd:=(Gf (c :: t)).1;have hrun1:G5 (Ba (c :: t)).1=true\/FO (Ba (c :: t)).1=true->1<=Bp BJ (c :: t):=λh=>by
     rw [Mf BJ _ (by simp),if_pos (by unfold BJ;rcases h with h | h <;> simp [h])];omega
    cases hL:G5 (Ba (c :: t)).1 with
    | true =>
     rw [hL,if_pos rfl] at hst;have h1:=hrun1 (.inl hL);simp only [cond_true];rw [hnm];simp only [Al];by_cases h40:Bp BJ (c :: t) > 40;rw [dT (p:=((Bp BJ (c :: t):Nat):Int) > 40) (by omega)];rw [if_pos h40] at hst;rw [hbad _ _ hst];rfl;rw [dF (p:=((Bp BJ (c :: t):Nat):Int) > 40) (by omega)];rw [if_neg h40] at hst;simp only [cond_false];rw [wi ((at_:Int)+(Bp BJ (c :: t):Nat)) (by omega) (by omega),show (at_:Int)+((Bp BJ (c :: t):Nat):Int)=((at_+Bp BJ (c :: t):Nat):Int) by omega,hsub _ (by omega),Nat.add_sub_cancel_left];simp only [Al,Bl7,F3];cases hW:Ke ((c :: t).take (Bp BJ (c :: t))) with
     | true =>
      rw [hW] at hst;simp only [cond_true];rw [show ((at_+Bp BJ (c :: t):Nat):Int)=(at_:Int)+((Bp BJ (c :: t):Nat):Int) by omega];have:=htok (Bp BJ (c :: t)) 2 _ 0 h1 (by omega) hst;rw [wi _ (by omega) (by omega)] at this;exact this
     | false =>
      rw [hW] at hst;simp only [cond_false];rw [show ((at_+Bp BJ (c :: t):Nat):Int)=(at_:Int)+((Bp BJ (c :: t):Nat):Int) by omega];have:=htok (Bp BJ (c :: t)) 1 _ 0 h1 (by omega) hst;rw [wi _ (by omega) (by omega)] at this;exact this
    | false =>
     rw [hL,if_neg (by simp)] at hst;simp only [cond_false];cases hD:FO (Ba (c :: t)).1 with
     | true =>
      rw [hD,if_pos rfl] at hst;have h1:=hrun1 (.inr hD);simp only [cond_true];rw [hnm];simp only [Al];rw [wi ((at_:Int)+(Bp BJ (c :: t):Nat)) (by omega) (by omega),show (at_:Int)+((Bp BJ (c :: t):Nat):Int)=((at_+Bp BJ (c :: t):Nat):Int) by omega,hsub _ (by omega),Nat.add_sub_cancel_left];simp only [Al];have hsz:(str ((c :: t).take (Bp BJ (c :: t)))).size<=20000:=by rw [Gv,List.length_take];simp only [AH];omega
      rw [parse_eq k _ (by omega) (by omega),F3];simp only [Al];by_cases hP:(Es ((c :: t).take (Bp BJ (c :: t)))).2=0;rw [show ((Es ((c :: t).take (Bp BJ (c :: t)))).2 != 0)=false by rw [hP];rfl];rw [if_neg (by simpa using hP)] at hst;simp only [cond_false];rw [show ((at_+Bp BJ (c :: t):Nat):Int)=(at_:Int)+((Bp BJ (c :: t):Nat):Int) by omega];have:=htok (Bp BJ (c :: t)) 3 _ _ h1 (by omega) hst;rw [wi _ (by omega) (by omega)] at this;exact this;rw [show ((Es ((c :: t).take (Bp BJ (c :: t)))).2 != 0)=true by rw [bne_iff_ne];exact hP];rw [if_pos hP] at hst;rw [hbad _ _ hst];rfl
     | false =>
      rw [hD,if_neg (by simp)] at hst;simp only [cond_false];have hqb:((cond ((c.toNat:Int) == (34:Int)) (some true) (some ((c.toNat:Int) == (39:Int)))):Option Bool)=some (decide (c=34\/c=39)):=by
       rw [show ((c.toNat:Int) == 34)=decide (c=34) from bq c 34,show ((c.toNat:Int) == 39)=decide (c=39) from bq c 39];by_cases q1:c=34;rw [dT q1,dT (show c=34\/c=39 from .inl q1)];rfl;rw [dF q1];by_cases q2:c=39;rw [dT q2,dT (show c=34\/c=39 from .inr q2)];rfl;rw [dF q2,dF (show ¬ (c=34\/c=39) from λh=>h.elim q1 q2)];rfl
      rw [hqb];simp only [Al];by_cases hQ:c=34\/c=39;rw [dT hQ];rw [if_pos (hrq.2 hQ)] at hst;simp only [cond_true];have hrc:UInt8.ofNat (Ba (c :: t)).1=c:=by
       rw [Nr c t (by rcases hQ with rfl | rfl <;> decide)];simp
      rw [hrc,Z7 c (c :: t).length (s.size - at_) t [] 1 (by simp) (by omega)] at hst;rw [htx];simp only [Al];cases hT:ED c (s.size - at_) t [] 1 with
      | bad cd rel =>
       rw [hT] at hst;have hcd:cd≠0:=Abt _ _ _ hst;simp only [KA];rw [show (cd != 0)=true by rw [bne_iff_ne];exact hcd,hbad _ _ hst];rfl
      | ok v n =>
       rw [hT] at hst;have hn:=(K9 (c :: t)).2 _ _ _ _ hst;simp only [AH] at hn;simp only [KA];rw [show ((0:Int) != 0)=false from rfl];simp only [cond_false];exact htok n 4 v 0 hn.1 (by omega) hst
      rw [dF hQ];rw [if_neg (λh=>hQ (hrq.1 h))] at hst;simp only [cond_false];rw [hsg];simp only [Al,Zz];cases hS:Mg (c :: t) with
      | none =>
       rw [hS] at hst;rw [hbad _ _ hst];rfl
      | some x =>
       rw [hS] at hst;have hn:=(K9 (c :: t)).2 _ _ _ _ hst;simp only [AH] at hn;simp only [];rw [Gv,show ((x.length:Int) == 0)=false by rw [beq_eq_false_iff_ne];omega];simp only [cond_false];exact htok x.length 5 x 0 hn.1 (by omega) hst
  have e:at_=s.size:=by omega
  rw [dF (p:=(at_:Int) < s.size) (by omega),List.drop_of_length_le (by rw [B0];omega)];simp only [cond_false];have:Iu [] at_ acc=.inr (acc++[⟨6,[],0,at_⟩]):=by rw [PQ];rfl
  rw [this];unfold Zu;rw [GP _ _ _ (by simp;omega)];simp only [Al,S2,List.map_append];rw [e];rfl
theorem B0o (k:Nat) (s:Ah) (hk:50000<=k):EA.f k s=some (P0 s):=by
 unfold EA.f P0;by_cases h:s.size<=20000;rw [dF (by omega),B0e _ (by rw [B0];exact h)];simp only [cond_false];have:=B0s s h s.size 0 k [] (by omega) (by omega) (by simp) (by omega);rw [List.drop_zero] at this;refine Eq.trans this ?_;cases Iu (bs s) 0 [] with
 | inl x=>obtain ⟨c,p⟩:=x;rfl
 | inr l=>rfl
 rw [dT (by omega)];unfold FF;rw [if_pos (by rw [B0];omega)];rfl
def EZ (n:Nat):UInt8:=if n < 10 then UInt8.ofNat (48+n) else UInt8.ofNat (87+n)
def JE:Bs->Bs
 | []=>[]
 | c :: t =>
  if c=92\/c=34 then [92,c] else if c=10 then [92,110] else if c=13 then [92,114]
  else if c.toNat < 32\/c=127 then [92,UInt8.ofNat (48+c.toNat / 100),UInt8.ofNat (48+c.toNat / 10 % 10),UInt8.ofNat (48+c.toNat % 10)]
  else if (Ba (c :: t)).1=65533/\(Ba (c :: t)).2=1 then [92,120,EZ (c.toNat / 16),EZ (c.toNat % 16)]
  else (c :: t).take (Ba (c :: t)).2
theorem Je (c:UInt8) (t:Bs):JE (c :: t)=if c=92\/c=34 then [92,c] else if c=10 then [92,110] else if c=13 then [92,114]
  else if c.toNat < 32\/c=127 then [92,UInt8.ofNat (48+c.toNat / 100),UInt8.ofNat (48+c.toNat / 10 % 10),UInt8.ofNat (48+c.toNat % 10)]
  else if (Ba (c :: t)).1=65533/\(Ba (c :: t)).2=1 then [92,120,EZ (c.toNat / 16),EZ (c.toNat % 16)]
  else (c :: t).take (Ba (c :: t)).2:=rfl
def FV:Nat->Bs->Bs
 | 0,_=>[]
 | f+1,l=>if l=[] then [] else JE l++FV f (l.drop (Ba l).2)
def PB (l:Bs):Bs:=34 :: (FV l.length l++[34])
theorem YQ (l:Bs):(JE l).length<=4 * (Ba l).2:=by
 have hw:=Gf l;cases l with
 | nil=>simp [JE]
 | cons c t =>
  rw [Je]
  repeat' split
  all_goals first | (simp only [AH,AX];omega) | (rw [List.length_take];omega)
theorem U6:∀ (f:Nat) (l:Bs),(FV f l).length<=4 * l.length
 | 0,_=>by simp [FV]
 | f+1,l=>by
  unfold FV;by_cases h:l=[];rw [if_pos h];simp;rw [if_neg h,Bv];have h1:=YQ l;have h2:=U6 f (l.drop (Ba l).2);have hw:=Gf l;have:=hw.2.2 h;rw [BA] at h2;omega
def HY:Nat->Bs->Nat->List (Int×Int×Int)
 | 0,_,_=>[]
 | f+1,l,at_=>if l=[] then [] else ((at_:Int),((Ba l).2:Int),((Ba l).1:Int)) :: HY f (l.drop (Ba l).2) (at_+(Ba l).2)
theorem Bl0 {α:Type} (pre:List α) (x:α) (t:List α):Bm (pre++x :: t) (pre.length:Int)=some x:=by
 unfold Bm;rw [if_pos (by omega)];simp
theorem ZM (m:Nat) (a:Bs) (c:UInt8) (h:a.length<=100000000):FX.f m (bI a) (c.toNat:Int)=some (bI (a++[c])):=by
 unfold FX.f Lw.f;simp only [Al];rw [GP _ _ _ (by rw [Eo];simp;omega),IM];rfl
theorem SJ (m:Nat) (a:Bs) (s:Ah) (h:a.length<=100000000) (hs:s.size<=100000000):Gw.f m (bI a) s=some ((s.size:Int),bI (a++bs s)):=by
 unfold Gw.f Lw.f;simp only [Al];rw [OQ,GP _ _ _ (by rw [Eo,Eo,B0];omega),IM];rfl
theorem A0v {i:Nat} (h1:100<=i) (h2:i < 1000):Lib.decDigits i=[UInt8.ofNat (48+i / 100),UInt8.ofNat (48+i / 10 % 10),UInt8.ofNat (48+i % 10)]:=by
 rw [Lib.decDigits,dif_neg (by omega),Lib.decDigits_two (by omega) (by omega),show i / 10 / 10=i / 100 by omega];rfl
theorem A1h (m:Nat) (c:UInt8):Lz.f m (Ar (c.toNat:Int))=some (str (Lib.decDigits c.toNat)):=by
 unfold Lz.f strconv_Itoa.f;have:=c.toNat_lt;rw [wb,dT (by omega)];simp only [cond_true,Al];unfold Lib.itoa;rw [if_neg (by omega)];rfl
theorem UF (a b:Bs) (h:a.length+b.length<=1000000000):GJ (str a) (str b)=some (str (a++b)):=by
 unfold GJ;rw [dT (by rw [Gv,Gv];omega)];have:str a++str b=str (a++b):=Acn (by rw [F3];simp [bs,str]);rw [this];rfl
theorem Bz1 (m:Nat) (k:Nat) (hk:k<=3):strings_Repeat.f m (⟨#[48]⟩:Ah) (k:Int)=some (str (List.replicate k 48)):=by
 unfold strings_Repeat.f;rw [dT (by refine ⟨by omega,by omega,?_⟩;show 1<=1000;omega)];simp only [cond_true,Int.toNat_natCast];have:∀ k,k<=3->Lib.repeatL [48] k=List.replicate k 48:=by
  intro k hk
  match k,hk with
  | 0,_=>rfl
  | 1,_=>rfl
  | 2,_=>rfl
  | 3,_=>rfl
 show some (str (Lib.repeatL [48] k))=_;rw [this k hk]
theorem A1a (m:Nat) (c:UInt8) (hc:c.toNat < 1000):((strings_Repeat.f m (⟨#[48]⟩:Ah) (Ar ((3:Int) - ((str (Lib.decDigits c.toNat)).size:Int)))).bind λOz=>(GJ (⟨#[92]⟩:Ah) Oz).bind λO2:Ah=>GJ O2 (str (Lib.decDigits c.toNat))) =
  some (str [92,UInt8.ofNat (48+c.toNat / 100),UInt8.ofNat (48+c.toNat / 10 % 10),UInt8.ofNat (48+c.toNat % 10)]):=by
 have key:∀ (l:Bs) (k:Nat),l.length+k=3->((strings_Repeat.f m (⟨#[48]⟩:Ah) (Ar ((3:Int) - ((str l).size:Int)))).bind λOz=>(GJ (⟨#[92]⟩:Ah) Oz).bind λO2:Ah=>GJ O2 (str l))=some (str (92 :: (List.replicate k 48++l))):=by
  intro l k hl;rw [Gv,wi _ (by omega) (by omega),show (3:Int) - (l.length:Int)=(k:Int) by omega,Bz1 m k (by omega)];simp only [Al];rw [show (⟨#[92]⟩:Ah)=str [92] from rfl,UF _ _ (by simp;omega)];simp only [Al];rw [UF _ _ (by simp;omega)];simp
 rcases Nat.lt_or_ge c.toNat 10 with h | h;rw [Lib.decDigits_one h,key _ 2 rfl,show c.toNat / 100=0 by omega,show c.toNat / 10 % 10=0 by omega,show c.toNat % 10=c.toNat by omega];rfl;rcases Nat.lt_or_ge c.toNat 100 with h' | h';rw [Lib.decDigits_two (by omega) h',key _ 1 rfl,show c.toNat / 100=0 by omega,show c.toNat / 10 % 10=c.toNat / 10 by omega];rfl;rw [A0v h' hc,key _ 0 rfl];rfl
def hexW (c:UInt8):Option Ah :=
 (C2 (⟨#[48,49,50,51,52,53,54,55,56,57,97,98,99,100,101,102]⟩:Ah) (Int.fdiv (c.toNat:Int) 16)).bind λNp:UInt8=>(GJ (⟨#[92,120]⟩:Ah) (Utf8.encode (Np.toNat:Int))).bind λO1:Ah =>
  (C2 (⟨#[48,49,50,51,52,53,54,55,56,57,97,98,99,100,101,102]⟩:Ah) (IntKind.u8.wrap ((BitVec.ofInt 8 (c.toNat:Int) &&& BitVec.ofInt 8 (15:Int)).toNat:Int))).bind λNq:UInt8=>GJ O1 (Utf8.encode (Nq.toNat:Int))
theorem Ba3:∀ n:Fin 256,(hexW (UInt8.ofNat n.val)).map bs=some [92,120,EZ (n.val / 16),EZ (n.val % 16)]:=by decide +kernel
theorem Ba2 (c:UInt8):hexW c=some (str [92,120,EZ (c.toNat / 16),EZ (c.toNat % 16)]):=by
 have h:=Ba3 ⟨c.toNat,c.toNat_lt⟩;have e:UInt8.ofNat c.toNat=c:=UInt8.ofNat_toNat;simp only [e] at h;cases hx:hexW c with
 | none=>rw [hx] at h;cases h
 | some s =>
  rw [hx] at h;simp only [Option.map_some,Option.some.injEq] at h;rw [<- h,S6]
theorem Ba4 {α:Type} (c:UInt8) (F:Ah->Option α):((C2 (⟨#[48,49,50,51,52,53,54,55,56,57,97,98,99,100,101,102]⟩:Ah) (Int.fdiv (c.toNat:Int) 16)).bind λNp:UInt8=>(GJ (⟨#[92,120]⟩:Ah) (Utf8.encode (Np.toNat:Int))).bind λO1:Ah =>
  (C2 (⟨#[48,49,50,51,52,53,54,55,56,57,97,98,99,100,101,102]⟩:Ah) (IntKind.u8.wrap ((BitVec.ofInt 8 (c.toNat:Int) &&& BitVec.ofInt 8 (15:Int)).toNat:Int))).bind λNq:UInt8=>(GJ O1 (Utf8.encode (Nq.toNat:Int))).bind F)=F (str [92,120,EZ (c.toNat / 16),EZ (c.toNat % 16)]):=by
 have hp:=Ba2 c;unfold hexW at hp;obtain ⟨Np,g1,hp⟩:=Option.bind_eq_some_iff.1 hp;obtain ⟨O1,g2,hp⟩:=Option.bind_eq_some_iff.1 hp;obtain ⟨Nq,g3,hp⟩:=Option.bind_eq_some_iff.1 hp;rw [g1,Al,g2,Al,g3,Al,hp];rfl
section
variable (s:Ah) (hs:s.size<=1048576)
include hs
theorem Amd (J:List Int->Option Ah):∀ (d at_ m:Nat) (pre:List (Int×Int×Int)) (acc:Bs),s.size - at_<=d->at_<=s.size->d < m->pre.length<=at_->acc.length<=1+4 * at_ ->
  G6.l0 m s J (pre++HY d ((bs s).drop at_) at_) (pre.length:Int) (bI acc)=J (bI (acc++FV d ((bs s).drop at_)))
 | d,at_,m,pre,acc,hd,ha,hm,hp,hacc=>by
  obtain ⟨m,rfl⟩:∃ m',m=m'+1:=⟨m - 1,by omega⟩;rcases Nat.lt_or_ge at_ s.size with h | h
  rotate_left
  ·have e0:(bs s).drop at_=[]:=List.drop_of_length_le (by rw [B0];omega)
   have e1:HY d [] at_=[]:=by cases d <;> simp [HY]
   have e2:FV d []=[]:=by cases d <;> simp [FV]
   rw [e0,e1,e2,List.append_nil,List.append_nil,G6.l0];rw [dF (by omega)];rfl
  obtain ⟨d,rfl⟩:∃ d',d=d'+1:=⟨d - 1,by omega⟩;have hl:=Gg s at_ h;have hne:(bs s).drop at_≠[]:=by rw [hl];simp
  have hw:=Gf ((bs s).drop at_);have hw3:=hw.2.2 hne;rw [BA,B0] at hw3;obtain ⟨c,hc⟩:∃ c,c=s[at_]:=⟨_,rfl⟩;obtain ⟨t,ht⟩:∃ t,t=(bs s).drop (at_+1):=⟨_,rfl⟩;rw [<- hc,<- ht] at hl;obtain ⟨w,hww⟩:∃ w,w=(Ba ((bs s).drop at_)).2:=⟨_,rfl⟩;obtain ⟨r,hrr⟩:∃ r,r=(Ba ((bs s).drop at_)).1:=⟨_,rfl⟩;have eR:HY (d+1) ((bs s).drop at_) at_=((at_:Int),(w:Int),(r:Int)) :: HY d ((bs s).drop (at_+w)) (at_+w):=by
   rw [HY,if_neg hne,<- hww,<- hrr,List.drop_drop]
  have eQ:FV (d+1) ((bs s).drop at_)=JE ((bs s).drop at_)++FV d ((bs s).drop (at_+w)):=by
   rw [FV,if_neg hne,<- hww,List.drop_drop]
  have hql:=YQ ((bs s).drop at_);rw [<- hww] at hw hw3 hql;have ih:=Amd J d (at_+w) m (pre++[((at_:Int),(w:Int),(r:Int))]) (acc++JE ((bs s).drop at_)) (by omega) (by omega) (by omega) (by simp;omega) (by rw [Bv];omega);rw [eR,eQ,G6.l0,dT (by simp;omega)];simp only [cond_true];generalize hJ:(λ(Li:List Int)=>G6.l0 m s J (pre++((at_:Int),(w:Int),(r:Int)) :: HY d ((bs s).drop (at_+w)) (at_+w)) (Ar ((pre.length:Int)+(1:Int))) Li)=K;have next:K (bI (acc++JE ((bs s).drop at_)))=J (bI (acc++(JE ((bs s).drop at_)++FV d ((bs s).drop (at_+w))))):=by
   rw [<- hJ];simp only;rw [wi _ (by omega) (by omega)];rw [Bx,Bx,Bv] at ih;exact ih
  unfold A2;rw [Bl0];simp only [Al];rw [H_ s at_ h,<- hc];simp only [Al];rw [<- next];clear next ih hJ;have hlen:acc.length<=100000000:=by omega
  have e92:((c.toNat:Int) == (92:Int))=decide (c=92):=bq c 92;have e34:((c.toNat:Int) == (34:Int))=decide (c=34):=bq c 34;have e10:((c.toNat:Int) == (10:Int))=decide (c=10):=bq c 10;have e13:((c.toNat:Int) == (13:Int))=decide (c=13):=bq c 13;have e127:((c.toNat:Int) == (127:Int))=decide (c=127):=bq c 127;rw [e92,e34,e10,e13,e127];have b92:∀ a:Bs,a.length<=100000000->FX.f m (bI a) (92:Int)=some (bI (a++[92])):=λa ha=>ZM m a 92 ha;have q1:(cond (decide (c=92)) (some true) (some (decide (c=34))):Option Bool)=some (decide (c=92\/c=34)):=by
   by_cases h1:c=92 <;> simp [h1]
  rw [q1];simp only [Al];rw [hl];by_cases c1:c=92\/c=34
  ·rw [dT c1]
   simp only [cond_true];rw [b92 _ hlen];simp only [Al];rw [ZM m _ c (by simp;omega)];simp only [Al];rw [Je,if_pos c1,Bx];rfl
  rw [dF c1];simp only [cond_false];by_cases c2:c=10
  ·rw [dT c2]
   simp only [cond_true];rw [SJ m _ _ hlen (by decide)];simp only [Al];rw [Je,if_neg c1,if_pos c2];rfl
  rw [dF c2];simp only [cond_false];by_cases c3:c=13
  ·rw [dT c3]
   simp only [cond_true];rw [SJ m _ _ hlen (by decide)];simp only [Al];rw [Je,if_neg c1,if_neg c2,if_pos c3];rfl
  rw [dF c3];simp only [cond_false];have q2:(cond (decide ((c.toNat:Int) < 32)) (some true) (some (decide (c=127))):Option Bool)=some (decide (c.toNat < 32\/c=127)):=by
   by_cases h1:c.toNat < 32
   ·rw [dT (p:=(c.toNat:Int) < 32) (by omega),dT (p:=c.toNat < 32\/c=127) (.inl h1)];rfl
   ·rw [dF (p:=(c.toNat:Int) < 32) (by omega)]
    simp [h1]
  rw [q2];simp only [Al];by_cases c4:c.toNat < 32\/c=127
  ·rw [dT c4]
   simp only [cond_true];rw [A1h];simp only [Al];have hp:=A1a m c (by have:=c.toNat_lt;omega);obtain ⟨Oz,g1,hp⟩:=Option.bind_eq_some_iff.1 hp;obtain ⟨O2,g2,hp⟩:=Option.bind_eq_some_iff.1 hp;rw [g1];simp only [Al];rw [g2];simp only [Al];rw [hp];simp only [Al];rw [SJ m _ _ hlen (by rw [Gv];simp)];simp only [Al];rw [Je,if_neg c1,if_neg c2,if_neg c3,if_pos c4,F3]
  rw [dF c4];simp only [cond_false];have q3:(cond ((r:Int) == (65533:Int)) (some ((w:Int) == (1:Int))) (some false):Option Bool)=some (decide (r=65533/\w=1)):=by
   by_cases h1:r=65533
   ·rw [show ((r:Int) == (65533:Int))=true by rw [beq_iff_eq];omega]
    simp only [cond_true,Option.some.injEq,h1,true_and];rw [Bool.eq_iff_iff,beq_iff_eq,decide_eq_true_eq];omega
   ·rw [show ((r:Int) == (65533:Int))=false by rw [beq_eq_false_iff_ne];omega]
    simp [h1]
  rw [q3];simp only [Al];rw [hl] at hww hrr;by_cases c5:r=65533/\w=1
  ·rw [dT c5]
   simp only [cond_true];rw [Ba4];rw [SJ m _ _ hlen (by rw [Gv];simp)];simp only [Al];rw [Je,if_neg c1,if_neg c2,if_neg c3,if_neg c4,if_pos (by rw [<- hrr,<- hww];exact c5),F3]
  ·rw [dF c5]
   simp only [cond_false];rw [wi _ (by omega) (by omega),show (at_:Int)+(w:Int)=((at_+w:Nat):Int) by omega,PO s at_ (at_+w) (by omega) (by omega)];simp only [Al];rw [show at_+w - at_=w by omega];rw [SJ m _ _ hlen (by rw [Gv,List.length_take];omega)];simp only [Al];rw [Je,if_neg c1,if_neg c2,if_neg c3,if_neg c4,if_neg (by rw [<- hrr,<- hww];exact c5),F3,<- hww,hl]
 termination_by d=>d
end
theorem wrN (x:Int) (h1:-9223372036854775808<=x) (h2:x<=9223372036854775807):Ar x=x:=by unfold Ar IntKind.wrap;simp [IntKind.bits,IntKind.signed];omega
theorem Rt {α:Type} {l m:List α} {x:α} {i:Int} (h:i=l.length):Bm (l++x :: m) i=some x:=by
 subst h;unfold Bm;rw [if_pos (by omega)];simp
theorem stN {α:Type} {l m:List α} {x y:α} {i:Int} (h:i=l.length):I5 (l++x :: m) i y=some (l++y :: m):=by
 subst h;unfold I5;rw [dT (by simp;omega)];simp
def rdG:Nat->Nat->Bs
 | 0,_=>[]
 | m+1,v=>if v=0 then [] else UInt8.ofNat (48+v % 10) :: rdG m (v / 10)
theorem Aow:∀ m,rdG m 0=[]
 | 0=>rfl
 | m+1=>by unfold rdG;rw [if_pos rfl]
theorem Sv:∀ m v,(rdG m v).length<=m
 | 0,_=>Nat.le_refl _
 | m+1,v=>by
  unfold rdG;split;exact Nat.zero_le _;have:=Sv m (v / 10);simp;omega
theorem rd_dec:∀ (m v:Nat),0 < v->v < 10 ^ m->(rdG m v).reverse=Lib.decDigits v
 | 0,v,h,h'=>by simp at h';omega
 | m+1,v,h,h'=>by
  unfold rdG;rw [if_neg (by omega),List.reverse_cons];by_cases h9:v < 10;rw [show v / 10=0 by omega,Aow,Lib.decDigits_one h9,show v % 10=v by omega];rfl;rw [rd_dec m (v / 10) (by omega) (by rw [Nat.pow_succ] at h';omega),Lib.decDigits.eq_1 v,dif_neg h9]
theorem Ad4 (J:List Int->Option Ah):∀ (m v Ac:Nat) (acc:Bs),v < 10 ^ m->v<=9223372036854775807->m < Ac->acc.length+m<=1000->E2.l1 Ac J (bI acc) (v:Int)=J (bI (acc++rdG m v))
 | 0,v,Ac,acc,h,h9,hM,hl=>by
  obtain ⟨Ac,rfl⟩:∃ M',Ac=M'+1:=⟨Ac - 1,by omega⟩;have:v=0:=by simp at h;omega
  subst this;simp only [E2.l1];rw [show ((((0:Nat):Int)) != (0:Int))=false from rfl];simp [rdG]
 | m+1,v,Ac,acc,h,h9,hM,hl=>by
  obtain ⟨Ac,rfl⟩:∃ M',Ac=M'+1:=⟨Ac - 1,by omega⟩;simp only [E2.l1,A2];by_cases hv:v=0;subst hv;rw [show ((((0:Nat):Int)) != (0:Int))=false from rfl,Aow];simp;have e1:Int.tmod (v:Int) 10=((v % 10:Nat):Int):=by rw [Int.tmod_eq_emod_of_nonneg (by omega)];omega
  have e2:Int.tdiv (v:Int) 10=((v / 10:Nat):Int):=by rw [Int.tdiv_eq_ediv_of_nonneg (by omega)];omega
  rw [show ((v:Int) != (0:Int))=true by rw [bne_iff_ne];omega,e1,e2,dF (by omega)];simp only [cond_true,cond_false];have h10:v % 10 < 10:=Nat.mod_lt _ (by decide);rw [wrN (48+((v % 10:Nat):Int)) (by omega) (by omega),w8 _ (by omega) (by omega),wrN _ (by omega) (by omega)];have hb:[(48+((v % 10:Nat):Int))]=bI [UInt8.ofNat (48+v % 10)]:=by
   simp only [bI,List.map_cons,List.map_nil,UInt8.toNat_ofNat'];rw [show (48+v % 10) % 2 ^ 8=48+v % 10 by omega];simp
  rw [hb,GP _ _ _ (by rw [Eo,Eo];simp;omega),<- IM];simp only [Al];rw [Ad4 J m (v / 10) Ac _ (by rw [Nat.pow_succ] at h;omega) (by omega) (by omega) (by simp;omega)];congr 2;rw [Bx,List.singleton_append,rdG.eq_2,if_neg hv]
theorem Bz2 (J:List Int->Option Ah):∀ (n:Nat) (mid p q:List Int) (m:Nat),mid.length<=n->p.length=q.length->p.length+mid.length+q.length<=1000->mid.length+1<=m ->
  E2.l0 m J (p++(mid++q)) (p.length:Int)=J (p++(mid.reverse++q)):=by
 intro n;induction n with
 | zero =>
  intro mid p q m hn he hl hm;obtain ⟨m,rfl⟩:∃ m',m=m'+1:=⟨m - 1,by omega⟩;obtain rfl:mid=[]:=List.eq_nil_of_length_eq_zero (by omega);have hz:(p++([]++q)).length=2 * p.length:=by simp;omega
  simp only [AX] at hl;simp only [E2.l0,hz];rw [show Int.tdiv ((2 * p.length:Nat):Int) 2=(p.length:Int) by rw [Int.tdiv_eq_ediv_of_nonneg (by omega)];omega,wrN _ (by omega) (by omega),dF (by omega)];rfl
 | succ n ih =>
  intro mid p q m hn he hl hm;obtain ⟨m,rfl⟩:∃ m',m=m'+1:=⟨m - 1,by omega⟩;cases mid with
  | nil=>exact ih [] p q (m+1) (Nat.zero_le _) he hl hm
  | cons a r =>
   rcases List.eq_nil_or_concat r with rfl | ⟨mid,b,rfl⟩;have hz:(p++([a]++q)).length=2 * p.length+1:=by simp;omega
   simp only [AH,AX] at hl;simp only [E2.l0,hz];rw [show Int.tdiv ((2 * p.length+1:Nat):Int) 2=(p.length:Int) by rw [Int.tdiv_eq_ediv_of_nonneg (by omega)];omega,wrN _ (by omega) (by omega),dF (by omega)];rfl;simp only [List.concat_eq_append,AH,Bv,AX] at hn hl hm ⊢;have hlen:(p++(a :: (mid++[b])++q)).length=2 * p.length+mid.length+2:=by simp;omega
   have hlen2:(p++(b :: (mid++[b])++q)).length=2 * p.length+mid.length+2:=by simp;omega
   have e1:p++(a :: (mid++[b])++q)=(p++a :: mid)++b :: q:=by simp
   have e2:p++(a :: (mid++[b])++q)=p++a :: (mid++[b]++q):=by simp
   have e3:p++b :: (mid++[b]++q)=(p++b :: mid)++b :: q:=by simp
   have i1:Bm (p++(a :: (mid++[b])++q)) ((p.length:Int)+mid.length+1)=some b:=by rw [e1];exact Rt (by simp;omega)
   have i2:Bm (p++(a :: (mid++[b])++q)) (p.length:Int)=some a:=by rw [e2];exact Rt rfl
   have i3:I5 (p++(a :: (mid++[b])++q)) (p.length:Int) b=some ((p++b :: mid)++b :: q):=by rw [e2,stN rfl,e3]
   have i4:Bm ((p++b :: mid)++b :: q) ((p.length:Int)+mid.length+1)=some b:=Rt (by simp;omega);have i5:I5 ((p++b :: mid)++b :: q) ((p.length:Int)+mid.length+1) a=some ((p++b :: mid)++a :: q):=stN (by simp;omega);have hl3:((p++b :: mid)++b :: q).length=2 * p.length+mid.length+2:=by simp;omega
   simp only [E2.l0,hlen];rw [show Int.tdiv ((2 * p.length+mid.length+2:Nat):Int) 2=((p.length+mid.length / 2+1:Nat):Int) by rw [Int.tdiv_eq_ediv_of_nonneg (by omega)];omega,wrN _ (by omega) (by omega),dT (by omega)];have ea:Ar (Ar (((2 * p.length+mid.length+2:Nat):Int) - 1) - (p.length:Int))=(p.length:Int)+mid.length+1:=by
    rw [wrN (((2 * p.length+mid.length+2:Nat):Int) - 1) (by omega) (by omega),wrN _ (by omega) (by omega)];omega
   simp only [cond_true,ea,i1,i2,i3,Al,hl3,i4,i5];rw [wrN _ (by omega) (by omega)];have:=ih mid (p++[b]) (a :: q) m (by omega) (by simp;omega) (by simp;omega) (by omega);simp only [Bv,List.length_singleton,Bx,List.singleton_append] at this;simp only [Bx,List.cons_append,List.nil_append];rw [show ((p.length:Nat):Int)+1=((p.length+1:Nat):Int) by omega,this];simp
theorem Bz3 (k n:Nat) (hk:1000<=k) (h:n<=9223372036854775807):E2.f k (n:Int)=some (str (Lib.decDigits n)):=by
 unfold E2.f A2;by_cases h0:n=0;subst h0;rw [show ((((0:Nat):Int)) == (0:Int))=true from rfl,Lib.decDigits_one (by decide)];rfl;rw [show ((n:Int) == (0:Int))=false by rw [beq_eq_false_iff_ne];omega];simp only [cond_false];have:=Ad4 (λl2=>A2 (λ(l8:List Int)=>A2 (λ(DI:List Int)=>some ((strOfNums DI))) (λJ19=>E2.l0 k J19 l8 (0:Int))) (λJ13=>cond (decide ((n:Int) < (0:Int))) ((apd 1 l2 [(45:Int)]).bind λl54=>J13 l54) (J13 l2))) 19 n k [] (by omega) h (by omega) (by simp);refine this.trans ?_;unfold A2;rw [dF (by omega)];simp only [cond_false,List.nil_append];have hr:=Bz2 (λDI=>some (strOfNums DI)) 19 (bI (rdG 19 n)) [] [] k (by rw [Eo];exact Sv 19 n) rfl (by rw [Eo];have:=Sv 19 n;simp;omega) (by rw [Eo];have:=Sv 19 n;omega);simp only [List.nil_append,List.append_nil,AX] at hr;refine hr.trans ?_;rw [show (bI (rdG 19 n)).reverse=bI (rdG 19 n).reverse by simp [bI],rd_dec 19 n (by omega) (by omega),O3]
def hexS:Ah:=⟨#[48,49,50,51,52,53,54,55,56,57,97,98,99,100,101,102]⟩
theorem Baz:∀ i:Fin 16,C2 hexS (i.val:Int)=some (EZ i.val):=by decide +kernel
theorem Ba0:∀ i:Fin 16,(FM hexS (i.val:Int) ((i.val:Int)+1)).map bs=some [EZ i.val]:=by decide +kernel
theorem B2e {i:Nat} (h:i < 16):FM hexS (i:Int) ((i:Int)+1)=some (str [EZ i]):=by
 have:=Ba0 ⟨i,h⟩;cases hs:FM hexS (i:Int) ((i:Int)+1) with
 | none=>simp only [hs] at this;cases this
 | some s =>
  simp only [hs,Option.map_some,Option.some.injEq] at this;rw [<- this,S6]
def hxG:Nat->Nat->Bs
 | 0,_=>[]
 | j+1,u=>hxG j (u / 16)++[EZ (u % 16)]
def hyG:Nat->Nat->Bs
 | 0,_=>[]
 | j+1,u=>EZ (u / 16 ^ j % 16) :: hyG j u
theorem Agv:∀ (j u:Nat),hyG (j+1) u=hyG j (u / 16)++[EZ (u % 16)]
 | 0,u=>by simp [hyG]
 | j+1,u=>by
  have ih:=Agv j u;rw [hyG,ih,hyG,List.cons_append];rw [Nat.div_div_eq_div_mul,Nat.pow_succ,Nat.mul_comm 16]
theorem hxy:∀ (j u:Nat),hxG j u=hyG j u
 | 0,_=>rfl
 | j+1,u=>by rw [hxG,hxy j,Agv]
theorem Xi:∀ (j u:Nat),(hyG j u).length=j
 | 0,_=>rfl
 | j+1,u=>by simp [hyG,Xi j u]
theorem w64 (x:Int) (h0:0<=x) (h1:x < 18446744073709551616):IntKind.u64.wrap x=x:=by unfold IntKind.wrap;simp [IntKind.bits,IntKind.signed];omega
theorem Ac3 (J:Ah->Option Ah):∀ (j u m:Nat) (acc:Bs),u < 18446744073709551616->j<=16->j < m->acc.length+j<=100->GH.l0 m J (str acc) ((16 - j:Nat):Int) (u:Int)=J (str (hxG j u++acc))
 | 0,u,m,acc,hu,hj,hm,hl=>by
  obtain ⟨m,rfl⟩:∃ m',m=m'+1:=⟨m - 1,by omega⟩;simp only [GH.l0];rw [dF (by omega)];rfl
 | j+1,u,m,acc,hu,hj,hm,hl=>by
  obtain ⟨m,rfl⟩:∃ m',m=m'+1:=⟨m - 1,by omega⟩;simp only [GH.l0];have e1:Int.tmod (u:Int) 16=((u % 16:Nat):Int):=by rw [Int.tmod_eq_emod_of_nonneg (by omega)];omega
  have e2:Int.tdiv (u:Int) 16=((u / 16:Nat):Int):=by rw [Int.tdiv_eq_ediv_of_nonneg (by omega)];omega
  have h16:u % 16 < 16:=Nat.mod_lt _ (by decide);have hsub:=B2e h16;unfold hexS at hsub;rw [dT (by omega),e1,e2,w64 _ (by omega) (by omega),w64 _ (by omega) (by omega),hsub];simp only [cond_true,Al];rw [UF _ _ (by simp;omega)];simp only [Al];rw [wrN _ (by omega) (by omega),show (((16 - (j+1):Nat):Int))+1=((16 - j:Nat):Int) by omega];rw [Ac3 J j (u / 16) m _ (by omega) (by omega) (by omega) (by simp;omega)];simp [hxG]
theorem Bzv (k:Nat) (hk:100<=k) (n:Int) (h0:n < 0) (h1:-9223372036854775808<=n):GH.f k n=some (str (48 :: 120 :: hyG 16 (n+18446744073709551616).toNat)):=by
 unfold GH.f A2;rw [dF (by omega)];simp only [cond_false];have hu:IntKind.u64.wrap n=(((n+18446744073709551616).toNat:Nat):Int):=by unfold IntKind.wrap;simp [IntKind.bits,IntKind.signed];omega
 rw [hu];refine (Ac3 _ 16 _ k [] (by omega) (by omega) (by omega) (by simp)).trans ?_;rw [show (⟨#[48,120]⟩:Ah)=str [48,120] from rfl,UF _ _ (by rw [hxy,List.append_nil,Xi];decide),hxy,List.append_nil];rfl
theorem Axr (v:Nat) (hv:v < 18446744073709551616):(BitVec.ofInt 64 (v:Int) &&& BitVec.ofInt 64 (15:Int)).toNat=v % 16:=by
 have e1:(BitVec.ofInt 64 (v:Int)).toNat=v:=by simp;omega
 rw [BitVec.toNat_and,e1];exact Nat.and_two_pow_sub_one_eq_mod v 4
theorem Ak8 (n:Int) (u:Nat) (hn:IntKind.u64.wrap n=(u:Int)) (hu:u < 18446744073709551616) (J:List Int->Option Ah):∀ (j m:Nat) (acc:Bs),j<=16->j < m->acc.length+j<=100 ->
  HI.l0 m n J (bI acc) (4 * (j:Int) - 4)=J (bI (acc++hyG j u))
 | 0,m,acc,hj,hm,hl=>by
  obtain ⟨m,rfl⟩:∃ m',m=m'+1:=⟨m - 1,by omega⟩;simp only [HI.l0];rw [dF (by omega)];simp [hyG]
 | j+1,m,acc,hj,hm,hl=>by
  obtain ⟨m,rfl⟩:∃ m',m=m'+1:=⟨m - 1,by omega⟩;have e0:(4 * ((j+1:Nat):Int) - 4)=((4 * j:Nat):Int):=by omega
  have e1:Int.fdiv (u:Int) (2 ^ min (Int.toNat ((4 * j:Nat):Int)) 64)=((u / 16 ^ j:Nat):Int):=by
   rw [Int.toNat_natCast,Nat.min_eq_left (by omega),Int.fdiv_eq_ediv_of_nonneg _ (by exact Int.le_of_lt (Int.pow_pos (by decide)))];rw [show (16:Nat) ^ j=2 ^ (4 * j) by rw [Nat.pow_mul]]
   norm_cast
  have hlt:u / 16 ^ j < 18446744073709551616:=Nat.lt_of_le_of_lt (Nat.div_le_self _ _) hu;have h16:u / 16 ^ j % 16 < 16:=Nat.mod_lt _ (by decide);have hix:=Baz ⟨u / 16 ^ j % 16,h16⟩;unfold hexS at hix;simp only [HI.l0];rw [e0,dT (p:=((4 * j:Nat):Int) >= 0) (by omega),hn,e1,Axr _ hlt,w64 _ (by omega) (by omega),hix];simp only [cond_true,Al];rw [show [((EZ (u / 16 ^ j % 16)).toNat:Int)]=bI [EZ (u / 16 ^ j % 16)] from rfl,GP _ _ _ (by rw [Eo,Eo];simp;omega),<- IM];simp only [Al];rw [wrN _ (by omega) (by omega),show (((4 * j:Nat):Int)) - 4=4 * (j:Int) - 4 by omega,Ak8 n u hn hu J j m _ (by omega) (by omega) (by simp;omega)];simp [hyG]
def H8 (n:Int):Ah:=if 0<=n then str (Lib.decDigits n.toNat) else str (48 :: 120 :: hyG 16 (n+18446744073709551616).toNat)
theorem digits_eq (k:Nat) (hk:1000<=k) (n:Int) (h1:-9223372036854775808<=n) (h2:n<=9223372036854775807):GH.f k n=some (H8 n):=by
 unfold H8;by_cases h0:0<=n;rw [if_pos h0];obtain ⟨v,rfl⟩:=Int.eq_ofNat_of_zero_le h0;unfold GH.f;rw [dT (by omega)];simp only [cond_true];rw [Bz3 k v hk (by omega)];rfl;rw [if_neg h0];exact Bzv k (by omega) n (by omega) h1
theorem Bql (k:Nat) (hk:1000<=k) (n:Int) (h1:-9223372036854775808<=n) (h2:n<=9223372036854775807):HI.f k n=some (H8 n):=by
 unfold H8 HI.f A2;by_cases h0:0<=n;rw [if_pos h0,dT (by omega)];unfold Lz.f strconv_Itoa.f;rw [dT (by omega)];simp only [cond_true,Al];unfold Lib.itoa;rw [if_neg (by omega)];rfl;rw [if_neg h0,dF (by omega)];simp only [cond_false];have hu:IntKind.u64.wrap n=(((n+18446744073709551616).toNat:Nat):Int):=by unfold IntKind.wrap;simp [IntKind.bits,IntKind.signed];omega
 refine (Ak8 n _ hu (by omega) _ 16 k [48,120] (by omega) (by omega) (by decide)).trans ?_;rw [O3];rfl
end
end Go.Proofs.YtaifddambjmiiaaGreatDoor
