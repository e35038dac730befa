/- Texts of mine for parseTexts_card, part 5. -/
import Derived.Test.YtaifddambjmiiaaGreatDoorTxD
set_option linter.unusedSimpArgs false
set_option linter.unusedVariables false
set_option linter.unusedSectionVars false
namespace Go.Proofs.YtaifddambjmiiaaGreatDoor
set_option maxRecDepth 100000
section
open Go Go.RowKit
structure PE where
 Cr:List (Int×Ah×Int×Int)->Int->Int->Option (PR (Int×Ah×Int×Int×List Tree×Int))
 Hg:List (Int×Ah×Int×Int)->Int->Option (PR (Int×Ah×Int×Int×List Tree×Int))
 Dy:List (Int×Ah×Int×Int)->Int->Option (PR (Int×Ah×Int×Int×List Tree×Int))
 E8:List (Int×Ah×Int×Int)->Int->Option (PR (List Tree×Int))
 Hd:List (Int×Ah×Int×Int)->Int->Option (PR (Int×Ah×Int×Int×List Tree×Int))
 Dp:List (Int×Ah×Int×Int)->Int->Option (PR (List Tree×Int))
def Cr.C (fC:List (Int×Ah×Int×Int)->Int->Int->Option (PR (Int×Ah×Int×Int×List Tree×Int))):Prop:=∀ {Ai:List (Int×Ah×Int×Int)} {An a1:Int} {b0 Ax:Nat} {Be:Am} {Aw:AG} {r:PR (Int×Ah×Int×Int×List Tree×Int)} (h:fC Ai An a1=some r) (Au:Ce e60 4 Be (W Aw Ai Ax) Ai),Ct Tryz.prog 75 #[pt b0,V a1] [bk b0 #[W Aw Ai Ax,V An] 57] [Be] (PR.Post G3 (λ(r:Int×Ah×Int×Int×List Tree×Int) e l1=>∃ (H0_:Am) (A0_:AG) (c0_:Nat),Bi (AM 29) 29 H0_ (W A0_ r.2.2.2.2.1 c0_) r.2.2.2.2.1/\e=.returned (.agg #[V r.1,D r.2.1,V r.2.2.1,V r.2.2.2.1,W A0_ r.2.2.2.2.1 c0_])/\l1=[H0_,bk b0 #[W Aw Ai Ax,V r.2.2.2.2.2] 57]) r)
def Hg.C (fC:List (Int×Ah×Int×Int)->Int->Option (PR (Int×Ah×Int×Int×List Tree×Int))):Prop:=∀ {Ai:List (Int×Ah×Int×Int)} {An:Int} {b0 Ax:Nat} {Be:Am} {Aw:AG} {r:PR (Int×Ah×Int×Int×List Tree×Int)} (h:fC Ai An=some r) (Au:Ce e60 4 Be (W Aw Ai Ax) Ai),Ct Tryz.prog 104 #[pt b0] [bk b0 #[W Aw Ai Ax,V An] 57] [Be] (PR.Post G3 (λ(r:Int×Ah×Int×Int×List Tree×Int) e l1=>∃ (H0_:Am) (A0_:AG) (c0_:Nat),Bi (AM 29) 29 H0_ (W A0_ r.2.2.2.2.1 c0_) r.2.2.2.2.1/\e=.returned (.agg #[V r.1,D r.2.1,V r.2.2.1,V r.2.2.2.1,W A0_ r.2.2.2.2.1 c0_])/\l1=[H0_,bk b0 #[W Aw Ai Ax,V r.2.2.2.2.2] 57]) r)
def Dy.C (fC:List (Int×Ah×Int×Int)->Int->Option (PR (Int×Ah×Int×Int×List Tree×Int))):Prop:=∀ {Ai:List (Int×Ah×Int×Int)} {An:Int} {b0 Ax:Nat} {Be:Am} {Aw:AG} {r:PR (Int×Ah×Int×Int×List Tree×Int)} (h:fC Ai An=some r) (Au:Ce e60 4 Be (W Aw Ai Ax) Ai),Ct Tryz.prog 106 #[pt b0] [bk b0 #[W Aw Ai Ax,V An] 57] [Be] (PR.Post G3 (λ(r:Int×Ah×Int×Int×List Tree×Int) e l1=>∃ (H0_:Am) (A0_:AG) (c0_:Nat),Bi (AM 29) 29 H0_ (W A0_ r.2.2.2.2.1 c0_) r.2.2.2.2.1/\e=.returned (.agg #[V r.1,D r.2.1,V r.2.2.1,V r.2.2.2.1,W A0_ r.2.2.2.2.1 c0_])/\l1=[H0_,bk b0 #[W Aw Ai Ax,V r.2.2.2.2.2] 57]) r)
def E8.C (fC:List (Int×Ah×Int×Int)->Int->Option (PR (List Tree×Int))):Prop:=∀ {Ai:List (Int×Ah×Int×Int)} {An:Int} {b0 Ax:Nat} {Be:Am} {Aw:AG} {r:PR (List Tree×Int)} (h:fC Ai An=some r) (Au:Ce e60 4 Be (W Aw Ai Ax) Ai),Ct Tryz.prog 129 #[pt b0] [bk b0 #[W Aw Ai Ax,V An] 57] [Be] (PR.Post G3 (λ(r:List Tree×Int) e l1=>∃ (H0_:Am) (A0_:AG) (c0_:Nat),Bi (AM 29) 29 H0_ (W A0_ r.1 c0_) r.1/\e=.returned (W A0_ r.1 c0_)/\l1=[H0_,bk b0 #[W Aw Ai Ax,V r.2] 57]) r)
def Hd.C (fC:List (Int×Ah×Int×Int)->Int->Option (PR (Int×Ah×Int×Int×List Tree×Int))):Prop:=∀ {Ai:List (Int×Ah×Int×Int)} {An:Int} {b0 Ax:Nat} {Be:Am} {Aw:AG} {r:PR (Int×Ah×Int×Int×List Tree×Int)} (h:fC Ai An=some r) (Au:Ce e60 4 Be (W Aw Ai Ax) Ai),Ct Tryz.prog 140 #[pt b0] [bk b0 #[W Aw Ai Ax,V An] 57] [Be] (PR.Post G3 (λ(r:Int×Ah×Int×Int×List Tree×Int) e l1=>∃ (H0_:Am) (A0_:AG) (c0_:Nat),Bi (AM 29) 29 H0_ (W A0_ r.2.2.2.2.1 c0_) r.2.2.2.2.1/\e=.returned (.agg #[V r.1,D r.2.1,V r.2.2.1,V r.2.2.2.1,W A0_ r.2.2.2.2.1 c0_])/\l1=[H0_,bk b0 #[W Aw Ai Ax,V r.2.2.2.2.2] 57]) r)
def Dp.C (fC:List (Int×Ah×Int×Int)->Int->Option (PR (List Tree×Int))):Prop:=∀ {Ai:List (Int×Ah×Int×Int)} {An:Int} {b0 Ax:Nat} {Be:Am} {Aw:AG} {r:PR (List Tree×Int)} (h:fC Ai An=some r) (Au:Ce e60 4 Be (W Aw Ai Ax) Ai),Ct Tryz.prog 35 #[pt b0] [bk b0 #[W Aw Ai Ax,V An] 57] [Be] (PR.Post G3 (λ(r:List Tree×Int) e l1=>∃ (H0_:Am) (A0_:AG) (c0_:Nat),Bi (AM 29) 29 H0_ (W A0_ r.1 c0_) r.1/\e=.returned (W A0_ r.1 c0_)/\l1=[H0_,bk b0 #[W Aw Ai Ax,V r.2] 57]) r)
structure PE.Good (R:PE):Prop where
 Cr:Cr.C R.Cr
 Hg:Hg.C R.Hg
 Dy:Dy.C R.Dy
 E8:E8.C R.E8
 Hd:Hd.C R.Hd
 Dp:Dp.C R.Dp
def Cr.l0:Nat->(Rc:PE)->(Ai:List (Int×Ah×Int×Int))->(a1:Int)->(r2:Int×Ah×Int×Int×List Tree×Int)->(x9:Int)->(x10:Ah)->(x11:Int)->(l12:List Tree)->(x17:Int)->Option (PR (Int×Ah×Int×Int×List Tree×Int))
 | 0,_,_,_,_,_,_,_,_,_=>none
 | m18+1,Rc,Ai,a1,r2,x9,x10,x11,l12,x17=>(DC.f m18 Ai x17).bind λr19=>(Oq.f m18 r19.1 r19.2.1 r19.2.2.1 r19.2.2.2).bind λr21=>cond (decide (r21<=a1)) (some (PR.ok (x9,x10,x11,r2.2.2.2.1,l12,x17))) (A2 (λ(x23:Int)=>PR.bind (Rc.Cr Ai (Ar (x17+1)) x23) λr25=>Cr.l0 m18 Rc Ai a1 r2 11 r19.2.1 0 ([(Tree.mk x9 x10 x11 r2.2.2.2.1 l12),(Tree.mk r25.1 r25.2.1 r25.2.2.1 r25.2.2.2.1 r25.2.2.2.2.1)]) r25.2.2.2.2.2) (λL4=>cond (r21 == 4) (L4 (Ar (r21 - 1))) (L4 r21)))
def Cr.g (Rc:PE) (k:Nat) (Ai:List (Int×Ah×Int×Int)) (An:Int) (a1:Int):Option (PR (Int×Ah×Int×Int×List Tree×Int)):=PR.bind (Rc.Hg Ai An) λr2=>Cr.l0 k Rc Ai a1 r2 r2.1 r2.2.1 r2.2.2.1 r2.2.2.2.2.1 r2.2.2.2.2.2
theorem Cr.BN {Rc:PE} (hR:Rc.Good) {k:Nat}:Cr.C (Cr.g Rc k):=by
 intro Ai An a1 b0 Ax Be Aw r h Au;refine BC Tryz.func75 I (AY I) ?_;intro A X hh_;obtain ⟨Ay,_⟩:=hh_;unfold Cr.g at h;refine ksr (knp #[V 0,D noS,V 0,V 0,nS] 29 λb1=>(AP (M 1 (Ak (C9 h (λ_ hr2=>(hR.Hg hr2 Au)) I ⟨(.tail _ Ay),Aj⟩ (λ_ e=>Bw (kpn 1 e I)) λr2 h=>?_)))));rintro _ _ ⟨h3,A4,k5,o6,rfl,rfl⟩;refine AR (knp #[V 0,D noS,V 0,V 0,nS] 29 λb8=>(AB 0 5 #[V r2.1,D r2.2.1,V r2.2.2.1,V r2.2.2.2.1,W A4 r2.2.2.2.2.1 k5] (G (Bq (Ak (Av (Av (Av (CW (τ:=Int×Ah×Int×(List Tree)×Int×Am×AG×Nat) (λt=>[(0,pt b0),(1,V a1),(4,pt b1),(5,pt b8)]) (c8 λa b c d e f g i=>bk b8 #[V a,D b,V c,V r2.2.2.2.1,W g d i] 29 :: bk b0 #[W Aw Ai Ax,V e] 57 :: bk b1 #[V 0,D noS,V 0,V 0,nS] 29 :: f :: X) (λm=>c8 λa b c d e f g i=>Cr.l0 m Rc Ai a1 r2 a b c d e=some r/\Bi (AM 29) 29 f (W g d i) d) k (r2.1,r2.2.1,r2.2.2.1,r2.2.2.2.2.1,r2.2.2.2.2.2,h3,A4,k5) ⟨h,o6⟩ sb I ?_)))))))));clear h;rintro m18 ⟨x9,x10,x11,l12,x17,h13,EV,k15⟩ ⟨h,o16⟩;rcases m18 with _ | m18;simp [Cr.l0] at h;simp only [Cr.l0] at h;refine Bq (ksr (M 1 (Ak (N h λr19 hr19 h=>(Bf (DC.ok hr19 Au) I ⟨(t3 Ay),Aj⟩ (knp #[V 0,D noS,V 0,V 0] 60 λb20=>(AB 0 4 #[V r19.1,D r19.2.1,V r19.2.2.1,V r19.2.2.2] (AP (C0 0 0 4 I (N h λr21 LI h=>(CQ (Oq.ok LI) trivial (M 1 (G (AU (ksr (M 3 (G (At h (λh=>?_) λh=>?_))))))))))))))))));refine ksr (C0 2 0 5 I (Ao (Ak (Ao (Ak (AB 0 5 #[V x9,D x10,V x11,V r2.2.2.2.1,W EV l12 k15] (G (AT (Bh (B3 (Bh (B3 ?_))))))))))));obtain rfl:=Ap h;exact Do 0 5 I [h13,bk b0 #[W Aw Ai Ax,V x17] 57] (Ao (Ak (Bb (PR.okI ⟨h13,EV,k15,o16,I,I⟩))));refine AF (As (ksr (M 3 (kld 1 1 I (M 3 (Ak (AB 1 1 #[W Aw Ai Ax,V (Ar (x17+1))] (AP (M 2 (G ?_))))))))));obtain ⟨L4,Wa,h⟩:=By h;refine Bz (τ:=Int) (λt=>[(0,pt b0),(1,V a1),(4,pt b1),(5,pt b8),(6,pt b20),(8,V t)]) (λt=>bk b0 #[W Aw Ai Ax,V (Ar (x17+1))] 57 :: bk b20 #[V r19.1,D r19.2.1,V r19.2.2.1,V r19.2.2.2] 60 :: bk b8 #[V x9,D x10,V x11,V r2.2.2.2.1,W EV l12 k15] 29 :: bk b1 #[V 0,D noS,V 0,V 0,nS] 29 :: h13 :: X) (λt=>L4 t=some r) ?_ ?_;rintro x23 h;subst Wa;refine kpr [(0,0),(1,3),(2,0),(3,3),(4,3),(5,0),(6,0),(7,1),(8,1)] [1,2] (AJ 1 (B7 0 1 I (AJ 1 (B7 1 3 I (H5 1 0 5 I (AJ 2 (kpt (ocp h (λ_ Gj=>(hR.Cr Gj Au)) I ⟨(t4 Ay),Aj⟩ (λ_ e=>Co (Bw (Co (kpn 4 e I)))) λr25 h=>?_))))))));rintro _ _ ⟨h26,A27,k28,o29,rfl,rfl⟩;exact AR (B_ [2,3] I (kpt (E_ #[V x9,D x10,V x11,V r2.2.2.2.1,W EV l12 k15,V r25.1,D r25.2.1,V r25.2.2.1,V r25.2.2.2.1,W A27 r25.2.2.2.2.1 k28] 29 2 λb31=>(B_ [3,4] I (BF (M 1 (Cu (AB 0 5 #[V 11,D r19.2.1,V 0,V r2.2.2.2.1,.slice (some ⟨b31,0,none⟩) 2 2] (Cu (Ao (knl (A_ (As (Aq (BI (Ko λp32=>(Aq (BZ (T:=29) (n:=2) (xs:=[(Tree.mk x9 x10 x11 r2.2.2.2.1 l12),(Tree.mk r25.1 r25.2.1 r25.2.2.1 r25.2.2.2.1 r25.2.2.2.2.1)]) (B2.cons (BO (k:=x9) (t:=x10) (n:=x11) (a:=r2.2.2.2.1) 29 o16) p32 (B2.one (BO (k:=r25.1) (t:=r25.2.1) (n:=r25.2.2.1) (a:=r25.2.2.2.1) 29 o29))) I I (AY I) λh33 Ip=>(Av (Av (Av (Cw m18 (11,r19.2.1,0,[(Tree.mk x9 x10 x11 r2.2.2.2.1 l12),(Tree.mk r25.1 r25.2.1 r25.2.2.1 r25.2.2.2.1 r25.2.2.2.2.1)],r25.2.2.2.2.2,h33,(some ⟨b31,0,none⟩),2) (Nat.lt_succ_self _) ⟨h,Ip⟩ sb I))))))))))))))))))))));refine ksr (M 2 (G (At h (λh=>?_) λh=>?_)));exact AK (M 3 (G (AA (Ar (r21 - 1)) h sb I)));exact AF (As (AA r21 h sb I))
def Hg.g (Rc:PE) (k:Nat) (Ai:List (Int×Ah×Int×Int)) (An:Int):Option (PR (Int×Ah×Int×Int×List Tree×Int)):=(DC.f k Ai An).bind λr2=>A2 (λ(x5:Int) (x6:Ah) (x7:Int)=>some (PR.ok (x5,x6,x7,r2.2.2.2,[],Ar (An+1)))) (λJ8=>cond (r2.1 == 3) (J8 4 (⟨#[]⟩:Ah) r2.2.2.1) (cond (r2.1 == 4) (J8 5 r2.2.1 0) ((DQ.f k Ai An (⟨#[110,105,108]⟩:Ah)).bind λr11=>cond r11 (J8 1 (⟨#[]⟩:Ah) 0) ((DQ.f k Ai An (⟨#[116,114,117,101]⟩:Ah)).bind λr13=>cond r13 (J8 2 (⟨#[]⟩:Ah) 0) ((DQ.f k Ai An (⟨#[102,97,108,115,101]⟩:Ah)).bind λCs=>cond Cs (J8 3 (⟨#[]⟩:Ah) 0) (A2 (λ(x17:Bool) (x18:Int)=>cond x17 (PR.bind (Rc.Cr Ai x18 7) λr21=>some (PR.ok (10,r2.2.1,0,r2.2.2.2,[(Tree.mk r21.1 r21.2.1 r21.2.2.1 r21.2.2.2.1 r21.2.2.2.2.1)],r21.2.2.2.2.2))) ((Ca.f k Ai x18 (⟨#[123]⟩:Ah)).bind λCJ=>cond CJ.1 (PR.bind (Rc.E8 Ai CJ.2) λr32=>some (PR.ok (12,(⟨#[]⟩:Ah),0,r2.2.2.2,r32.1,r32.2))) (PR.bind (Rc.Dy Ai CJ.2) λr38=>some (PR.ok (r38.1,r38.2.1,r38.2.2.1,r38.2.2.2.1,r38.2.2.2.2.1,r38.2.2.2.2.2))))) (λJ19=>(Ca.f k Ai An (⟨#[110,111,116]⟩:Ah)).bind λr44=>cond r44.1 (J19 r44.1 r44.2) ((Ca.f k Ai r44.2 (⟨#[35]⟩:Ah)).bind λHn=>cond Hn.1 (J19 Hn.1 Hn.2) ((Ca.f k Ai Hn.2 (⟨#[45]⟩:Ah)).bind λr48=>J19 r48.1 r48.2)))))))))
theorem Hg.BN {Rc:PE} (hR:Rc.Good) {k:Nat}:Hg.C (Hg.g Rc k):=by
 intro Ai An b0 Ax Be Aw r h Au;refine BC Tryz.func104 I (AY I) ?_;intro A X hh_;obtain ⟨Ay,_⟩:=hh_;unfold Hg.g at h;refine ksr (knp #[V 0,D noS,V 0,V 0,nS] 29 λb1=>(AP (M 1 (Ak (N h λr2 hr2 h=>(Bf (DC.ok hr2 Au) I ⟨(.tail _ Ay),Aj⟩ (knp #[V 0,D noS,V 0,V 0] 60 λb3=>(AB 0 4 #[V r2.1,D r2.2.1,V r2.2.2.1,V r2.2.2.2] (AP (M 1 (kld 0 3 I (M 1 (knp #[V 0,D noS,V 0,V 0,nS] 29 λb4=>(AB 0 5 #[V 0,D noS,V 0,V r2.2.2.2,nS] (G ?_)))))))))))))));obtain ⟨J8,hJ8,h⟩:=By h;refine Bz (τ:=Int×Ah×Int) (λt=>[(0,pt b0),(2,pt b1),(4,pt b4)]) (c3 λa b c=>bk b4 #[V a,D b,V c,V r2.2.2.2,nS] 29 :: bk b0 #[W Aw Ai Ax,V An] 57 :: bk b1 #[V 0,D noS,V 0,V 0,nS] 29 :: X) (c3 λa b c=>J8 a b c=some r) ?_ ?_;rintro ⟨x5,x6,x7⟩ h;subst hJ8;refine ksr (M 3 (kld 1 1 I (M 3 (Ak (AB 1 1 #[W Aw Ai Ax,V (Ar (An+1))] (AP (C0 1 0 5 I (Ak (Ao (Ak (AB 0 5 #[V x5,D x6,V x7,V r2.2.2.2,nS] (G (AT ?_)))))))))))));obtain rfl:=Ap h;exact Do 0 5 I [none_,bk b0 #[W Aw Ai Ax,V (Ar (An+1))] 57] (CX (Ak (Ao (Bb (PR.okI ⟨none_,none,0,(Bi.nil (AM 29) 29 none_),I,I⟩)))));refine Bq (ksr (M 1 (kld 1 0 I (M 2 (G (At h (λh=>?_) λh=>?_))))));exact kpr [(0,0),(1,3),(2,0),(3,1)] [1] (AJ 1 (B7 0 2 I (AJ 1 (kpt (ost 0 1 #[V 4,D noS,V 0,V r2.2.2.2,nS] (B_ [1] I (BF (M 1 (AB 2 1 #[V 4,D noS,V r2.2.2.1,V r2.2.2.2,nS] (Ak (Ao (knl (A_ (As (AA (4,(⟨#[]⟩:Ah),r2.2.2.1) h sb I)))))))))))))));refine ksr (M 1 (kld 1 0 I (M 2 (G (At h (λh=>?_) λh=>?_)))));exact kpr [(0,0),(1,3),(2,0),(3,1)] [1] (AJ 1 (B7 0 1 I (AJ 1 (kpt (ost 0 1 #[V 5,D noS,V 0,V r2.2.2.2,nS] (B_ [1] I (BF (M 1 (AB 1 1 #[V 5,D r2.2.1,V 0,V r2.2.2.2,nS] (Ak (Ao (knl (A_ (As (AA (5,r2.2.1,0) h sb I)))))))))))))));refine ksr (M 1 (Aq (N h λr11 JY h=>(Bf (DQ.ok JY Au) I ⟨(t3 Ay),Aj⟩ (M 1 (G (At h (λh=>?_) λh=>?_)))))));exact AK (M 1 (Ak (AB 0 1 #[V 1,D noS,V 0,V r2.2.2.2,nS] (Aq (Ao (knl (A_ (As (AA (1,(⟨#[]⟩:Ah),0) h sb I)))))))));refine ksr (M 1 (N h λr13 GZ h=>(Bf (DQ.ok GZ Au) I ⟨(t3 Ay),Aj⟩ (M 1 (G (At h (λh=>?_) λh=>?_))))));exact AK (M 1 (Ak (AB 0 1 #[V 2,D noS,V 0,V r2.2.2.2,nS] (Aq (Ao (knl (A_ (As (AA (2,(⟨#[]⟩:Ah),0) h sb I)))))))));refine ksr (M 1 (N h λCs JZ h=>(Bf (DQ.ok JZ Au) I ⟨(t3 Ay),Aj⟩ (M 1 (G (At h (λh=>?_) λh=>?_))))));exact AK (M 1 (Ak (AB 0 1 #[V 3,D noS,V 0,V r2.2.2.2,nS] (Aq (Ao (knl (A_ (As (AA (3,(⟨#[]⟩:Ah),0) h sb I)))))))));obtain ⟨J19,LD,h⟩:=By h;refine Bz (τ:=Bool×Int) (λt=>[(0,pt b0),(2,pt b1),(3,pt b3),(40,bv t.1)]) (λt=>bk b0 #[W Aw Ai Ax,V t.2] 57 :: bk b3 #[V r2.1,D r2.2.1,V r2.2.2.1,V r2.2.2.2] 60 :: bk b1 #[V 0,D noS,V 0,V 0,nS] 29 :: X) (λt=>J19 t.1 t.2=some r) ?_ ?_;rintro ⟨x17,x18⟩ h;subst LD;refine At h (λh=>?_) λh=>?_;refine AU (kpr [(0,0),(1,3),(2,0),(3,3),(4,0),(5,1),(6,1)] [1] (AJ 1 (B7 0 1 I (AJ 1 (B7 0 3 I (AJ 1 (kpt (ocp h (λ_ LI=>(hR.Cr LI Au)) I ⟨(t2 Ay),Aj⟩ (λ_ e=>Bw (Co (Bw (kpn 2 e I)))) λr21 h=>?_))))))));rintro _ _ ⟨h22,A23,k24,Ks,rfl,rfl⟩;refine AR (B_ [2] I (kpt (E_ #[V r21.1,D r21.2.1,V r21.2.2.1,V r21.2.2.2.1,W A23 r21.2.2.2.2.1 k24] 29 1 λb27=>(B_ [3] I (BF (M 1 (Cu (AB 0 5 #[V 10,D r2.2.1,V 0,V r2.2.2.2,.slice (some ⟨b27,0,none⟩) 1 1] (Cu (Ao (G (AT (B3 (Bh (Aq (Aq (BZ (T:=29) (n:=1) (xs:=[(Tree.mk r21.1 r21.2.1 r21.2.2.1 r21.2.2.2.1 r21.2.2.2.2.1)]) (B2.one (BO (k:=r21.1) (t:=r21.2.1) (n:=r21.2.2.1) (a:=r21.2.2.2.1) 29 Ks)) I I (AY I) λh28 o29=>?_)))))))))))))))));obtain rfl:=Ap h;exact Do 1 5 I [h28,bk b0 #[W Aw Ai Ax,V r21.2.2.2.2.2] 57] (Ak (Ao (Bb (PR.okI ⟨h28,(some ⟨b27,0,none⟩),1,o29,I,I⟩))));refine ksr (M 1 (N h λCJ LJ h=>(Bf (Ca.ok LJ Au) I ⟨(t2 Ay),Aj⟩ (M 1 (G (At h (λh=>?_) λh=>?_))))));refine AU (kpr [(0,0),(1,3),(2,0),(3,1)] [1] (AJ 1 (B7 0 3 I (AJ 1 (kpt (ocp h (λ_ NB=>(hR.E8 NB Au)) I ⟨(t2 Ay),Aj⟩ (λ_ e=>Bw (Co (Bw (kpn 2 e I)))) λr32 h=>?_))))));rintro _ _ ⟨h33,A34,NP,Oc,rfl,rfl⟩;refine AR (B_ [2] I (BF (M 1 (Av (AB 0 5 #[V 12,D noS,V 0,V r2.2.2.2,W A34 r32.1 NP] (Av (Ao (G (AT (B3 (Bh ?_)))))))))));obtain rfl:=Ap h;exact Do 0 5 I [h33,bk b0 #[W Aw Ai Ax,V r32.2] 57] (Ao (Bb (PR.okI ⟨h33,A34,NP,Oc,I,I⟩)));refine ksr (M 1 (C9 h (λ_ ND=>(hR.Dy ND Au)) I ⟨(t2 Ay),Aj⟩ (λ_ e=>Bw (Co (Bw (kpn 2 e I)))) λr38 h=>?_));rintro _ _ ⟨h39,SP,k41,P4,rfl,rfl⟩;refine AR (Aq (Ao (Aq (AB 0 5 #[V r38.1,D r38.2.1,V r38.2.2.1,V r38.2.2.2.1,W SP r38.2.2.2.2.1 k41] (G (AT (B3 (Bh ?_))))))));obtain rfl:=Ap h;exact Do 0 5 I [h39,bk b0 #[W Aw Ai Ax,V r38.2.2.2.2.2] 57] (Ao (Bb (PR.okI ⟨h39,SP,k41,P4,I,I⟩)));refine ksr (M 1 (N h λr44 Ra h=>(Bf (Ca.ok Ra Au) I ⟨(t3 Ay),Aj⟩ (Ak (Ao (M 1 (G (At h (λh=>?_) λh=>?_))))))));exact AF (As (AA (r44.1,r44.2) h sb I));refine ksr (M 1 (N h λHn Rb h=>(Bf (Ca.ok Rb Au) I ⟨(t2 Ay),Aj⟩ (M 1 (G (At h (λh=>?_) λh=>?_))))));exact AF (As (AA (Hn.1,Hn.2) h sb I));exact AK (M 1 (N h λr48 Re h=>(Bf (Ca.ok Re Au) I ⟨(t2 Ay),Aj⟩ (M 1 (G (AA (r48.1,r48.2) h sb I))))))
def Dy.l0:Nat->(Rc:PE)->(Ai:List (Int×Ah×Int×Int))->(r2:Int×Ah×Int×Int)->(x15:Int)->(x16:Ah)->(x17:Int)->(x18:Int)->(l19:List Tree)->(x24:Int)->Option (PR (Int×Ah×Int×Int×List Tree×Int))
 | 0,_,_,_,_,_,_,_,_,_=>none
 | Fq+1,Rc,Ai,r2,x15,x16,x17,x18,l19,x24=>(Ca.f Fq Ai x24 (⟨#[91]⟩:Ah)).bind λB4=>cond B4.1 (PR.bind (Rc.Cr Ai B4.2 0) λr28=>PR.bind (Cy.f Fq Ai r28.2.2.2.2.2 (⟨#[93]⟩:Ah)) λEB=>Dy.l0 Fq Rc Ai r2 7 (⟨#[]⟩:Ah) 0 r2.2.2.2 ([(Tree.mk x15 x16 x17 x18 l19),(Tree.mk r28.1 r28.2.1 r28.2.2.1 r28.2.2.2.1 r28.2.2.2.2.1)]) EB) ((Ca.f Fq Ai B4.2 (⟨#[46]⟩:Ah)).bind λr40=>cond r40.1 (PR.bind (FU.f Fq Ai r40.2) λD5=>Dy.l0 Fq Rc Ai r2 7 (⟨#[]⟩:Ah) 0 r2.2.2.2 ([(Tree.mk x15 x16 x17 x18 l19),(Tree.mk 5 D5.2.1 D5.2.2.1 D5.2.2.2.1 D5.2.2.2.2.1)]) D5.2.2.2.2.2) ((Ca.f Fq Ai r40.2 (⟨#[40]⟩:Ah)).bind λr53=>cond r53.1 (A2 (λ(l56:List Tree) (x61:Int)=>PR.bind (Cy.f Fq Ai x61 (⟨#[41]⟩:Ah)) λCF=>Dy.l0 Fq Rc Ai r2 8 (⟨#[]⟩:Ah) 0 r2.2.2.2 l56 CF) (λL6=>(DQ.f Fq Ai r53.2 (⟨#[41]⟩:Ah)).bind λr65=>cond (!r65) (PR.bind (Rc.Dp Ai r53.2) λLn=>(apd 64 [(Tree.mk x15 x16 x17 x18 l19)] Ln.1).bind λHa=>L6 Ha Ln.2) (L6 ([(Tree.mk x15 x16 x17 x18 l19)]) r53.2))) (some (PR.ok (x15,x16,x17,x18,l19,r53.2)))))
def Dy.g (Rc:PE) (k:Nat) (Ai:List (Int×Ah×Int×Int)) (An:Int):Option (PR (Int×Ah×Int×Int×List Tree×Int)):=(DC.f k Ai An).bind λr2=>A2 (λ(x4:Int) (x5:Ah) (x6:Int) (x7:Int) (l8:List Tree) (Cq:Int)=>Dy.l0 k Rc Ai r2 x4 x5 x6 x7 l8 Cq) (λJ14=>(Ca.f k Ai An (⟨#[40]⟩:Ah)).bind λDw=>cond Dw.1 (PR.bind (Rc.Cr Ai Dw.2 0) λCg=>PR.bind (Cy.f k Ai Cg.2.2.2.2.2 (⟨#[41]⟩:Ah)) λr91=>J14 9 (⟨#[]⟩:Ah) 0 r2.2.2.2 ([(Tree.mk Cg.1 Cg.2.1 Cg.2.2.1 Cg.2.2.2.1 Cg.2.2.2.2.1)]) r91) (PR.bind (FU.f k Ai Dw.2) λr95=>J14 r95.1 r95.2.1 r95.2.2.1 r95.2.2.2.1 r95.2.2.2.2.1 r95.2.2.2.2.2))
theorem Dy.BN {Rc:PE} (hR:Rc.Good) {k:Nat}:Dy.C (Dy.g Rc k):=by
 intro Ai An b0 Ax Be Aw r h Au;refine BC Tryz.func106 I (AY I) ?_;intro A X hh_;obtain ⟨Ay,_⟩:=hh_;unfold Dy.g at h;refine ksr (knp #[V 0,D noS,V 0,V 0,nS] 29 λb1=>(AP (M 1 (Ak (N h λr2 hr2 h=>(Bf (DC.ok hr2 Au) I ⟨(.tail _ Ay),Aj⟩ (M 2 (AP (knp #[V 0,D noS,V 0,V 0,nS] 29 λb3=>(G ?_))))))))));obtain ⟨J14,IU,h⟩:=By h;refine Bz (τ:=Int×Ah×Int×Int×(List Tree)×Int×Am×AG×Nat) (λt=>[(0,pt b0),(2,pt b1),(3,V r2.2.2.2),(4,pt b3)]) (c9 λa b c d e f g i j=>bk b3 #[V a,D b,V c,V d,W i e j] 29 :: bk b0 #[W Aw Ai Ax,V f] 57 :: bk b1 #[V 0,D noS,V 0,V 0,nS] 29 :: g :: X) (c9 λa b c d e f g i j=>J14 a b c d e f=some r/\Bi (AM 29) 29 g (W i e j) e) ?_ ?_;rintro ⟨x4,x5,x6,x7,l8,Cq,h9,GK,k11⟩ ⟨h,HA⟩;subst IU;refine Bq (CW (τ:=Int×Ah×Int×Int×(List Tree)×Int×Am×AG×Nat) (λt=>[(0,pt b0),(2,pt b1),(3,V r2.2.2.2),(4,pt b3)]) (c9 λa b c d e f g i j=>bk b3 #[V a,D b,V c,V d,W i e j] 29 :: bk b0 #[W Aw Ai Ax,V f] 57 :: bk b1 #[V 0,D noS,V 0,V 0,nS] 29 :: g :: X) (λm=>c9 λa b c d e f g i j=>Dy.l0 m Rc Ai r2 a b c d e f=some r/\Bi (AM 29) 29 g (W i e j) e) k (x4,x5,x6,x7,l8,Cq,h9,GK,k11) ⟨h,HA⟩ sb I ?_);clear h;rintro Fq ⟨x15,x16,x17,x18,l19,x24,h20,A21,k22⟩ ⟨h,G9⟩;rcases Fq with _ | Fq;simp [Dy.l0] at h;simp only [Dy.l0] at h;refine Bq (Bq (ksr (M 1 (Ak (N h λB4 IV h=>(Bf (Ca.ok IV Au) I ⟨(t3 Ay),Aj⟩ (M 1 (G (At h (λh=>?_) λh=>?_)))))))));refine AU (kpr [(0,0),(1,3),(2,0),(3,1)] [1] (AJ 1 (H5 0 0 5 I (AJ 1 (kpt (ocp h (λ_ NA=>(hR.Cr NA Au)) I ⟨(t3 Ay),Aj⟩ (λ_ e=>Bw (Co (Co (Bw (Co (kpn 3 e I)))))) λr28 h=>?_))))));rintro _ _ ⟨h29,Ix,k31,o32,rfl,rfl⟩;refine AR (B_ [2] I (BF (Bl #[V x15,D x16,V x17,V x18,W A21 l19 k22,V r28.1,D r28.2.1,V r28.2.2.1,V r28.2.2.2.1,W Ix r28.2.2.2.2.1 k31] 29 2 λQE=>(M 1 (Av (AB 0 5 #[V 7,D noS,V 0,V r2.2.2.2,.slice (some ⟨QE,0,none⟩) 2 2] (CY (M 1 (Av (C9 h (λ_ NC=>(Cy.ok NC Au)) I ⟨(t5 Ay),Aj⟩ (λ_ e=>Co (Co (Bw (Co (kpn 5 e I))))) λEB h=>?_))))))))));rintro _ _ ⟨rfl,rfl⟩;exact BU (knl (A_ (A_ (As (Av (BI (Ko λp37=>(Av (BZ (T:=29) (n:=2) (xs:=[(Tree.mk x15 x16 x17 x18 l19),(Tree.mk r28.1 r28.2.1 r28.2.2.1 r28.2.2.2.1 r28.2.2.2.2.1)]) (B2.cons (BO (k:=x15) (t:=x16) (n:=x17) (a:=x18) 29 G9) p37 (B2.one (BO (k:=r28.1) (t:=r28.2.1) (n:=r28.2.2.1) (a:=r28.2.2.2.1) 29 o32))) I I (AY I) λh38 o39=>(Av (Aq (Av (Cw Fq (7,(⟨#[]⟩:Ah),0,r2.2.2.2,[(Tree.mk x15 x16 x17 x18 l19),(Tree.mk r28.1 r28.2.1 r28.2.2.1 r28.2.2.2.1 r28.2.2.2.2.1)],EB,h38,(some ⟨QE,0,none⟩),2) (Nat.lt_succ_self _) ⟨h,o39⟩ sb I)))))))))))));refine ksr (M 1 (N h λr40 LL h=>(Bf (Ca.ok LL Au) I ⟨(t3 Ay),Aj⟩ (M 1 (G (At h (λh=>?_) λh=>?_))))));refine ksr (M 1 (C9 h (λ_ Q_=>(FU.ok Q_ Au)) I ⟨(t3 Ay),Aj⟩ (λ_ e=>Bw (Co (Co (Bw (Co (kpn 3 e I)))))) λD5 h=>?_));rintro _ _ ⟨h43,A44,k45,MI,rfl,rfl⟩;exact AR (knp #[V 0,D noS,V 0,V 0,nS] 29 λVp=>(AB 0 5 #[V D5.1,D D5.2.1,V D5.2.2.1,V D5.2.2.2.1,W A44 D5.2.2.2.2.1 k45] (AP (M 1 (AB 0 1 #[V 5,D D5.2.1,V D5.2.2.1,V D5.2.2.2.1,W A44 D5.2.2.2.2.1 k45] (CY (M 1 (C0 3 0 5 I (C0 0 0 5 I (Ao (Bl #[V x15,D x16,V x17,V x18,W A21 l19 k22,V 5,D D5.2.1,V D5.2.2.1,V D5.2.2.2.1,W A44 D5.2.2.2.2.1 k45] 29 2 λb49=>(M 1 (Av (AB 0 5 #[V 7,D noS,V 0,V r2.2.2.2,.slice (some ⟨b49,0,none⟩) 2 2] (knl (A_ (A_ (As (Aq (BI (Ko λp50=>(Aq (BZ (T:=29) (n:=2) (xs:=[(Tree.mk x15 x16 x17 x18 l19),(Tree.mk 5 D5.2.1 D5.2.2.1 D5.2.2.2.1 D5.2.2.2.2.1)]) (B2.cons (BO (k:=x15) (t:=x16) (n:=x17) (a:=x18) 29 G9) p50 (B2.one (BO (k:=5) (t:=D5.2.1) (n:=D5.2.2.1) (a:=D5.2.2.2.1) 29 MI))) I I (AY I) λh51 LX=>(Av (Av (Av (Cw Fq (7,(⟨#[]⟩:Ah),0,r2.2.2.2,[(Tree.mk x15 x16 x17 x18 l19),(Tree.mk 5 D5.2.1 D5.2.2.1 D5.2.2.2.1 D5.2.2.2.2.1)],D5.2.2.2.2.2,h51,(some ⟨b49,0,none⟩),2) (Nat.lt_succ_self _) ⟨h,LX⟩ sb I)))))))))))))))))))))))))));refine ksr (M 1 (N h λr53 Bhv h=>(Bf (Ca.ok Bhv Au) I ⟨(t3 Ay),Aj⟩ (M 1 (G (At h (λh=>?_) λh=>?_))))));refine ksr (M 1 (C0 1 0 5 I (Bl #[V x15,D x16,V x17,V x18,W A21 l19 k22] 29 1 λVr=>(M 1 (Aq (AB 0 5 #[V 8,D noS,V 0,V r2.2.2.2,.slice (some ⟨Vr,0,none⟩) 1 1] (G ?_)))))));obtain ⟨L6,We,h⟩:=By h;refine Bz (τ:=(List Tree)×Int×Am×AG×Nat) (λt=>[(0,pt b0),(2,pt b1),(3,V r2.2.2.2),(4,pt b3)]) (c5 λa b c d e=>bk b3 #[V 8,D noS,V 0,V r2.2.2.2,W d a e] 29 :: bk b0 #[W Aw Ai Ax,V b] 57 :: bk b1 #[V 0,D noS,V 0,V 0,nS] 29 :: c :: X) (c5 λa b c d e=>L6 a b=some r/\Bi (AM 29) 29 c (W d a e) a) ?_ ?_;rintro ⟨l56,x61,h57,Mo,k59⟩ ⟨h,o60⟩;subst We;refine AK (M 1 (Ak (C9 h (λ_ Kc=>(Cy.ok Kc Au)) I ⟨(t3 Ay),Aj⟩ (λ_ e=>Co (Co (Bw (Co (kpn 3 e I))))) λCF h=>?_)));rintro _ _ ⟨rfl,rfl⟩;exact BU (knl (A_ (A_ (As (Av (Av (Aq (Av (Cw Fq (8,(⟨#[]⟩:Ah),0,r2.2.2.2,l56,CF,h57,Mo,k59) (Nat.lt_succ_self _) ⟨h,o60⟩ sb I)))))))));refine ksr (M 1 (Aq (N h λr65 WR h=>(Bf (DQ.ok WR Au) I ⟨(t4 Ay),Aj⟩ (M 1 (G (At h (λh=>?_) λh=>?_)))))));refine kpr [(0,0),(1,3),(2,0),(3,1)] [1] (AJ 1 (B7 0 4 I (AJ 1 (kpt (ocp h (λ_ WU=>(hR.Dp WU Au)) I ⟨(t4 Ay),Aj⟩ (λ_ e=>Bw (Co (Co (Bw (Co (kpn 4 e I)))))) λLn h=>?_)))));rintro _ _ ⟨h68,A69,k70,P6,rfl,rfl⟩;exact AR (B_ [2] I (BF (BI (Cu (BZ (T:=29) (n:=1) (xs:=[(Tree.mk x15 x16 x17 x18 l19)]) (B2.one (BO (k:=x15) (t:=x16) (n:=x17) (a:=x18) 29 G9)) I I (AY I) λh73 Ku=>(Ak (Ak (N h λHa Bea h=>(Df I F5 I Bea Ku P6 λh76 Nd NS o79=>(M 1 (Aq (AB 4 1 #[V 8,D noS,V 0,V r2.2.2.2,W Nd Ha NS] (G (Ak (Av (Av (Av (AA (Ha,Ln.2,h76,Nd,NS) ⟨h,o79⟩ sb I))))))))))))))))));exact AF (As (Cu (Av (BZ (T:=29) (n:=1) (xs:=[(Tree.mk x15 x16 x17 x18 l19)]) (B2.one (BO (k:=x15) (t:=x16) (n:=x17) (a:=x18) 29 G9)) I I (AY I) λh80 Yy=>(Av (Aq (Av (AA ([(Tree.mk x15 x16 x17 x18 l19)],r53.2,h80,(some ⟨Vr,0,none⟩),1) ⟨h,Yy⟩ sb I))))))));refine ksr (C0 1 0 5 I (Ak (Ao (Ak (AB 0 5 #[V x15,D x16,V x17,V x18,W A21 l19 k22] (G (AT (B3 (B3 (Bh (B3 ?_)))))))))));obtain rfl:=Ap h;exact Do 0 5 I [h20,bk b0 #[W Aw Ai Ax,V r53.2] 57] (Ao (Ak (Bb (PR.okI ⟨h20,A21,k22,G9,I,I⟩))));refine ksr (M 1 (Ak (N h λDw NL h=>(Bf (Ca.ok NL Au) I ⟨(t2 Ay),Aj⟩ (G (At h (λh=>?_) λh=>?_))))));refine ksr (M 2 (C9 h (λ_ Rn=>(hR.Cr Rn Au)) I ⟨(t2 Ay),Aj⟩ (λ_ e=>Bw (Bw (kpn 2 e I))) λCg h=>?_));rintro _ _ ⟨h85,A86,Uf,o88,rfl,rfl⟩;refine AR (Bl #[V Cg.1,D Cg.2.1,V Cg.2.2.1,V Cg.2.2.2.1,W A86 Cg.2.2.2.2.1 Uf] 29 1 λb90=>(M 1 (Av (AB 0 5 #[V 9,D noS,V 0,V r2.2.2.2,.slice (some ⟨b90,0,none⟩) 1 1] (CY (M 1 (Av (C9 h (λ_ Rp=>(Cy.ok Rp Au)) I ⟨(t4 Ay),Aj⟩ (λ_ e=>Bw (kpn 4 e I)) λr91 h=>?_))))))));rintro _ _ ⟨rfl,rfl⟩;exact BU (G (Av (Av (BZ (T:=29) (n:=1) (xs:=[(Tree.mk Cg.1 Cg.2.1 Cg.2.2.1 Cg.2.2.2.1 Cg.2.2.2.2.1)]) (B2.one (BO (k:=Cg.1) (t:=Cg.2.1) (n:=Cg.2.2.1) (a:=Cg.2.2.2.1) 29 o88)) I I (AY I) λh93 Yz=>(Av (Aq (Av (AA (9,(⟨#[]⟩:Ah),0,r2.2.2.2,[(Tree.mk Cg.1 Cg.2.1 Cg.2.2.1 Cg.2.2.2.1 Cg.2.2.2.2.1)],r91,h93,(some ⟨b90,0,none⟩),1) ⟨h,Yz⟩ sb I))))))));refine AK (M 1 (C9 h (λ_ NM=>(FU.ok NM Au)) I ⟨(t2 Ay),Aj⟩ (λ_ e=>Bw (kpn 2 e I)) λr95 h=>?_));rintro _ _ ⟨h96,Nf,NU,Oi,rfl,rfl⟩;exact AR (Aq (AB 0 5 #[V r95.1,D r95.2.1,V r95.2.2.1,V r95.2.2.2.1,W Nf r95.2.2.2.2.1 NU] (G (Ak (Av (Av (Av (AA (r95.1,r95.2.1,r95.2.2.1,r95.2.2.2.1,r95.2.2.2.2.1,r95.2.2.2.2.2,h96,Nf,NU) ⟨h,Oi⟩ sb I))))))))
def E8.l0:Nat->(Rc:PE)->(Ai:List (Int×Ah×Int×Int))->(J7:(List Tree)->Int->Option (PR (List Tree×Int)))->(l10:List Tree)->(x15:Int)->Option (PR (List Tree×Int))
 | 0,_,_,_,_,_=>none
 | m16+1,Rc,Ai,J7,l10,x15=>(DQ.f m16 Ai x15 (⟨#[125]⟩:Ah)).bind λEe=>cond (!Ee) (PR.bind (Rc.Hd Ai x15) λr19=>(apd 64 l10 [(Tree.mk r19.1 r19.2.1 r19.2.2.1 r19.2.2.2.1 r19.2.2.2.2.1)]).bind λl28=>A2 (λ(x33:Bool) (x34:Int)=>cond x33 (J7 l28 x34) (E8.l0 m16 Rc Ai J7 l28 x34)) (λJ35=>(Ca.f m16 Ai r19.2.2.2.2.2 (⟨#[44]⟩:Ah)).bind λEC=>cond (!EC.1) ((Ca.f m16 Ai EC.2 (⟨#[59]⟩:Ah)).bind λr39=>J35 (!r39.1) r39.2) (J35 false EC.2))) (J7 l10 x15)
def E8.g (Rc:PE) (k:Nat) (Ai:List (Int×Ah×Int×Int)) (An:Int):Option (PR (List Tree×Int)):=A2 (λ(l1:List Tree) (x6:Int)=>PR.bind (Cy.f k Ai x6 (⟨#[125]⟩:Ah)) λr8=>some (PR.ok (l1,r8))) (λJ7=>E8.l0 k Rc Ai J7 ([]) An)
theorem E8.BN {Rc:PE} (hR:Rc.Good) {k:Nat}:E8.C (E8.g Rc k):=by
 intro Ai An b0 Ax Be Aw r h Au;refine BC Tryz.func129 I (AY I) ?_;intro A X hh_;obtain ⟨Ay,_⟩:=hh_;unfold E8.g at h;refine ksr (M 1 (AP (M 1 (G ?_))));obtain ⟨J7,hJ7,h⟩:=By h;refine Bz (τ:=(List Tree)×Int×Am×AG×Nat) (c5 λa _ _ d e=>[(0,pt b0),(3,W d a e)]) (λt=>bk b0 #[W Aw Ai Ax,V t.2.1] 57 :: t.2.2.1 :: X) (c5 λa b c d e=>J7 a b=some r/\Bi (AM 29) 29 c (W d a e) a) ?_ ?_;rintro ⟨l1,x6,h2,A3,k4⟩ ⟨h,o5⟩;subst hJ7;refine ksr (M 1 (C9 h (λ_ hr8=>(Cy.ok hr8 Au)) I ⟨(.tail _ Ay),Aj⟩ (λ_ e=>Bw (kpn 1 e I)) λr8 h=>?_));rintro _ _ ⟨rfl,rfl⟩;refine BU (AP (M 2 (G (AT ?_))));obtain rfl:=Ap h;exact kdv (W A3 l1 k4) [h2,bk b0 #[W Aw Ai Ax,V r8] 57] (Ak (Bb (PR.okI ⟨h2,A3,k4,o5,I,I⟩)));refine Bq (CX (Ak (CW (τ:=(List Tree)×Int×Am×AG×Nat) (c5 λa _ _ d e=>[(0,pt b0),(3,W d a e)]) (λt=>bk b0 #[W Aw Ai Ax,V t.2.1] 57 :: t.2.2.1 :: X) (λm=>c5 λa b c d e=>E8.l0 m Rc Ai J7 a b=some r/\Bi (AM 29) 29 c (W d a e) a) k ([],An,none_,none,0) ⟨h,(Bi.nil (AM 29) 29 none_)⟩ sb I ?_)));clear h;rintro m16 ⟨l10,x15,h11,A12,k13⟩ ⟨h,Jc⟩;rcases m16 with _ | m16;simp [E8.l0] at h;simp only [E8.l0] at h;refine AU (ksr (M 1 (N h λEe Ij h=>(Bf (DQ.ok Ij Au) I ⟨(.tail _ Ay),Aj⟩ (M 1 (G (At h (λh=>?_) λh=>?_)))))));refine AF (As (Bq (ksr (M 2 (C9 h (λ_ hr19=>(hR.Hd hr19 Au)) I ⟨(.tail _ Ay),Aj⟩ (λ_ e=>Bw (Co (Bw (Co (Bw (kpn 1 e I)))))) λr19 h=>?_)))));rintro _ _ ⟨h20,A21,k22,G9,rfl,rfl⟩;refine AR (Bl #[V r19.1,D r19.2.1,V r19.2.2.1,V r19.2.2.2.1,W A21 r19.2.2.2.2.1 k22] 29 1 λb25=>(Ak (Ak (BZ (T:=29) (n:=1) (xs:=[(Tree.mk r19.1 r19.2.1 r19.2.2.1 r19.2.2.2.1 r19.2.2.2.2.1)]) (B2.one (BO (k:=r19.1) (t:=r19.2.1) (n:=r19.2.2.1) (a:=r19.2.2.2.1) 29 G9)) I I (AY I) λh26 Kt=>(Aq (N h λl28 Wi h=>(Df I F5 I Wi Jc Kt λh29 Ix k31 o32=>(M 1 (G ?_)))))))));obtain ⟨J35,Wb,h⟩:=By h;refine Bz (τ:=Bool×Int) (λt=>[(0,pt b0),(3,W Ix l28 k31),(19,bv t.1)]) (λt=>h29 :: bk b0 #[W Aw Ai Ax,V t.2] 57 :: X) (λt=>J35 t.1 t.2=some r) ?_ ?_;rintro ⟨x33,x34⟩ h;subst Wb;refine At h (λh=>?_) λh=>?_;exact CH (R0 I (B6 (CI (As (Ak (AA (l28,x34,h29,Ix,k31) ⟨h,o32⟩ sb I))))));exact AF (A_ (As (Ak (Cw m16 (l28,x34,h29,Ix,k31) (Nat.lt_succ_self _) ⟨h,o32⟩ sb I))));refine AK (M 1 (Ak (N h λEC LK h=>(Bf (Ca.ok LK Au) I ⟨(.tail _ Ay),Aj⟩ (M 2 (Bt 15 h (λh=>?_) λh=>?_))))));exact M 1 (N h λr39 hr39 h=>(Bf (Ca.ok hr39 Au) I ⟨(.tail _ Ay),Aj⟩ (M 2 (G (Ak (AA (!r39.1,r39.2) h sb I))))));exact M 4 (G (Ak (AA (false,EC.2) h sb I)));exact CH (B6 (B6 (CI (As (AA (l10,x15,h11,A12,k13) ⟨h,Jc⟩ sb I)))))
def Hd.g (Rc:PE) (k:Nat) (Ai:List (Int×Ah×Int×Int)) (An:Int):Option (PR (Int×Ah×Int×Int×List Tree×Int)):=(DC.f k Ai An).bind λr2=>A2 (λ(x5:Int) (l6:List Tree) (x11:Int)=>PR.bind (Rc.Cr Ai x11 0) λr13=>(apd 64 l6 [(Tree.mk r13.1 r13.2.1 r13.2.2.1 r13.2.2.2.1 r13.2.2.2.2.1)]).bind λPq=>some (PR.ok (x5,(⟨#[]⟩:Ah),0,r2.2.2.2,Pq,r13.2.2.2.2.2))) (λJ12=>(Ca.f k Ai An (⟨#[91]⟩:Ah)).bind λr27=>cond r27.1 (PR.bind (Rc.Cr Ai r27.2 0) λr29=>PR.bind (Cy.f k Ai r29.2.2.2.2.2 (⟨#[93]⟩:Ah)) λr36=>PR.bind (Cy.f k Ai r36 (⟨#[61]⟩:Ah)) λr38=>J12 14 ([(Tree.mk r29.1 r29.2.1 r29.2.2.1 r29.2.2.2.1 r29.2.2.2.2.1)]) r38) ((cond (r2.1 == 1) ((Bm Ai (Ar (r27.2+1))).bind λx57=>cond (x57.1 == 5) ((Bm Ai (Ar (r27.2+1))).bind λx65=>some (x65.2.1.toList == (⟨#[61]⟩:Ah).toList)) (some false)) (some false):Option Bool).bind λq42=>cond q42 (PR.bind (FU.f k Ai r27.2) λr44=>PR.bind (Cy.f k Ai r44.2.2.2.2.2 (⟨#[61]⟩:Ah)) λr52=>J12 14 ([(Tree.mk 5 r44.2.1 r44.2.2.1 r44.2.2.2.1 r44.2.2.2.2.1)]) r52) (J12 13 ([]) r27.2)))
theorem Hd.BN {Rc:PE} (hR:Rc.Good) {k:Nat}:Hd.C (Hd.g Rc k):=by
 intro Ai An b0 Ax Be Aw r h Au;refine BC Tryz.func140 I (AY I) ?_;intro A X hh_;obtain ⟨Ay,_⟩:=hh_;unfold Hd.g at h;refine ksr (knp #[V 0,D noS,V 0,V 0,nS] 29 λb1=>(AP (M 1 (Ak (N h λr2 hr2 h=>(Bf (DC.ok hr2 Au) I ⟨(.tail _ Ay),Aj⟩ (knp #[V 0,D noS,V 0,V 0] 60 λb3=>(AB 0 4 #[V r2.1,D r2.2.1,V r2.2.2.1,V r2.2.2.2] (AP (M 1 (kld 0 3 I (M 1 (knp #[V 0,D noS,V 0,V 0,nS] 29 λb4=>(AB 0 5 #[V 14,D noS,V 0,V r2.2.2.2,nS] (G ?_)))))))))))))));obtain ⟨J12,LC,h⟩:=By h;refine Bz (τ:=Int×(List Tree)×Int×Am×AG×Nat) (λt=>[(0,pt b0),(2,pt b1),(4,pt b4)]) (c6 λa b c d e f=>bk b4 #[V a,D noS,V 0,V r2.2.2.2,W e b f] 29 :: bk b0 #[W Aw Ai Ax,V c] 57 :: bk b1 #[V 0,D noS,V 0,V 0,nS] 29 :: d :: X) (c6 λa b c d e f=>J12 a b c=some r/\Bi (AM 29) 29 d (W e b f) b) ?_ ?_;rintro ⟨x5,l6,x11,h7,A8,k9⟩ ⟨h,o10⟩;subst LC;refine AU (kpr [(0,0),(1,3),(2,0),(3,1),(4,1)] [0] (AJ 1 (B7 0 4 I (AJ 1 (kpt (Ak (ocp h (λ_ GZ=>(hR.Cr GZ Au)) I ⟨(t3 Ay),Aj⟩ (λ_ e=>Bw (kpn 3 e I)) λr13 h=>?_)))))));rintro _ _ ⟨h14,SM,k16,o17,rfl,rfl⟩;refine AR (B_ [2] I (kpt (E_ #[V r13.1,D r13.2.1,V r13.2.2.1,V r13.2.2.2.1,W SM r13.2.2.2.2.1 k16] 29 1 λb19=>(B_ [3] I (BF (Ak (Ak (BZ (T:=29) (n:=1) (xs:=[(Tree.mk r13.1 r13.2.1 r13.2.2.1 r13.2.2.2.1 r13.2.2.2.2.1)]) (B2.one (BO (k:=r13.1) (t:=r13.2.1) (n:=r13.2.2.1) (a:=r13.2.2.2.1) 29 o17)) I I (AY I) λh20 o21=>(Cu (N h λPq Bbx h=>(Df I F5 I Bbx o10 o21 λh23 OA k25 RZ=>(M 1 (Aq (AB 4 1 #[V x5,D noS,V 0,V r2.2.2.2,W OA Pq k25] (AP (C0 0 0 5 I (Ao (Aq (AB 0 5 #[V x5,D noS,V 0,V r2.2.2.2,W OA Pq k25] (G (AT ?_)))))))))))))))))))));obtain rfl:=Ap h;exact Do 0 5 I [h23,bk b0 #[W Aw Ai Ax,V r13.2.2.2.2.2] 57] (Ao (Bb (PR.okI ⟨h23,OA,k25,RZ,I,I⟩)));refine Bq (ksr (M 1 (Aq (N h λr27 J_ h=>(Bf (Ca.ok J_ Au) I ⟨(t3 Ay),Aj⟩ (M 1 (G (At h (λh=>?_) λh=>?_))))))));refine ksr (M 1 (C9 h (λ_ Ka=>(hR.Cr Ka Au)) I ⟨(t3 Ay),Aj⟩ (λ_ e=>Bw (Co (Bw (kpn 3 e I)))) λr29 h=>?_));rintro _ _ ⟨h30,II,k32,Hb,rfl,rfl⟩;refine AR (Av (Ao (Bl #[V r29.1,D r29.2.1,V r29.2.2.1,V r29.2.2.2.1,W II r29.2.2.2.2.1 k32] 29 1 λQF=>(M 1 (Av (AB 4 1 #[V 14,D noS,V 0,V r2.2.2.2,.slice (some ⟨QF,0,none⟩) 1 1] (AP (M 1 (Av (C9 h (λ_ Kb=>(Cy.ok Kb Au)) I ⟨(t4 Ay),Aj⟩ (λ_ e=>Bw (Co (Bw (kpn 4 e I)))) λr36 h=>?_))))))))));rintro _ _ ⟨rfl,rfl⟩;refine BU (CY (M 1 (C9 h (λ_ ND=>(Cy.ok ND Au)) I ⟨(t4 Ay),Aj⟩ (λ_ e=>Co (Bw (kpn 4 e I))) λr38 h=>?_)));rintro _ _ ⟨rfl,rfl⟩;exact BU (knl (A_ (As (Av (Av (BZ (T:=29) (n:=1) (xs:=[(Tree.mk r29.1 r29.2.1 r29.2.2.1 r29.2.2.2.1 r29.2.2.2.2.1)]) (B2.one (BO (k:=r29.1) (t:=r29.2.1) (n:=r29.2.2.1) (a:=r29.2.2.2.1) 29 Hb)) I I (AY I) λh40 o41=>(Av (Aq (Av (AA (14,[(Tree.mk r29.1 r29.2.1 r29.2.2.1 r29.2.2.2.1 r29.2.2.2.2.1)],r38,h40,(some ⟨QF,0,none⟩),1) ⟨h,o41⟩ sb I))))))))));refine N h λq42 W4 h=>?_;refine C5 [(0,pt b0),(2,pt b1),(4,pt b4),(23,bv q42)] (bk b0 #[W Aw Ai Ax,V r27.2] 57 :: bk b4 #[V 14,D noS,V 0,V r2.2.2.2,nS] 29 :: bk b1 #[V 0,D noS,V 0,V 0,nS] 29 :: X) ?_ ?_;clear W4;refine At h (λh=>?_) λh=>?_;refine ksr (M 1 (C9 h (λ_ Ra=>(FU.ok Ra Au)) I ⟨(t2 Ay),Aj⟩ (λ_ e=>Bw (Co (Bw (kpn 2 e I)))) λr44 h=>?_));rintro _ _ ⟨h45,OB,k47,LW,rfl,rfl⟩;refine AR (knp #[V 0,D noS,V 0,V 0,nS] 29 λb50=>(AB 0 5 #[V r44.1,D r44.2.1,V r44.2.2.1,V r44.2.2.2.1,W OB r44.2.2.2.2.1 k47] (AP (M 1 (AB 0 1 #[V 5,D r44.2.1,V r44.2.2.1,V r44.2.2.2.1,W OB r44.2.2.2.2.1 k47] (AP (C0 0 0 5 I (Ao (Bl #[V 5,D r44.2.1,V r44.2.2.1,V r44.2.2.2.1,W OB r44.2.2.2.2.1 k47] 29 1 λb51=>(M 1 (Av (AB 4 1 #[V 14,D noS,V 0,V r2.2.2.2,.slice (some ⟨b51,0,none⟩) 1 1] (CY (M 1 (Av (C9 h (λ_ NE=>(Cy.ok NE Au)) I ⟨(t4 Ay),Aj⟩ (λ_ e=>Co (Bw (kpn 4 e I))) λr52 h=>?_))))))))))))))));rintro _ _ ⟨rfl,rfl⟩;exact BU (knl (A_ (As (Av (Av (BZ (T:=29) (n:=1) (xs:=[(Tree.mk 5 r44.2.1 r44.2.2.1 r44.2.2.2.1 r44.2.2.2.2.1)]) (B2.one (BO (k:=5) (t:=r44.2.1) (n:=r44.2.2.1) (a:=r44.2.2.2.1) 29 LW)) I I (AY I) λh54 Sd=>(Av (Aq (Av (AA (14,[(Tree.mk 5 r44.2.1 r44.2.2.1 r44.2.2.2.1 r44.2.2.2.2.1)],r52,h54,(some ⟨b51,0,none⟩),1) ⟨h,Sd⟩ sb I))))))))));exact AK (M 1 (Ak (AB 0 1 #[V 13,D noS,V 0,V r2.2.2.2,nS] (knl (A_ (As (CX (Av (Av (Av (AA (13,[],r27.2,none_,none,0) ⟨h,(Bi.nil (AM 29) 29 none_)⟩ sb I)))))))))));have h:=W4;clear W4;refine LP [(0,0),(1,3),(2,0),(3,0),(4,0),(5,0),(6,0),(7,3),(8,0),(9,0),(10,0),(11,3),(12,0),(13,0),(14,0),(15,3),(16,0),(17,0),(18,0),(19,0),(20,0),(21,0),(22,3),(23,0),(24,0),(25,0),(26,3),(27,0)] [bk b0 #[W Aw Ai Ax,V r27.2] 57,bk b3 #[V r2.1,D r2.2.1,V r2.2.2.1,V r2.2.2.2] 60,Be] (λw h_=>⟨h_.sat.on _ (.head _),h_.sat.on _ (.tail _ (.tail _ (.head _))),h_.sat.on _ (t4 Ay),Aj⟩) (AJ 1 (B7 1 0 I (AJ 2 (Bt 27 h (λh=>?_) λh=>?_))));refine AJ 3 (B7 0 0 I (AJ 3 (B7 0 1 I (AJ 1 (N h λx57 Xg h=>(MA (T:=60) (kd:=.i64) T5 I Xg Au λp58 e59 y60=>?_))))));have e59:Elem _ p58 [V x57.1,D x57.2.1,V x57.2.2.1,V x57.2.2.2]:=e59;refine X6 (off:=0) I e59 y60 λp61 e62 y63=>?_;have e62:Elem _ p61 [V x57.1,D x57.2.1,V x57.2.2.1,V x57.2.2.2]:=e62;refine R2 I (by kernel_rfl) (by kernel_rfl) (by kernel_rfl) (by kernel_rfl) e62 (λw h_=>h_.mem _ (.tail _ (.tail _ (.head _)))) (AJ 3 (Bt 42 h (λh=>?_) λh=>?_));refine AJ 3 (B7 0 0 I (AJ 3 (B7 0 1 I (AJ 1 (BF (N h λx65 Xh h=>(Im (T:=60) (kd:=.i64) T5 I Xh Au λp66 e67 y68=>?_)))))));have e67:Elem _ p66 [V x65.1,D x65.2.1,V x65.2.2.1,V x65.2.2.2]:=e67;refine Aq (Ao (M8 (off:=1) I e67 y68 λp69 e70 y71=>?_));have e70:Elem _ p69 [D x65.2.1,V x65.2.2.1,V x65.2.2.2]:=e70;exact Jy I (by kernel_rfl) (by kernel_rfl) (by kernel_rfl) (by kernel_rfl) e70 (t3 Ay) (M 3 (G (AW ⟨gr,gr,gr,gb (Ap h),Aj⟩)));exact AJ 3 (DB (by kernel_rfl) (by kernel_rfl) (AJ 3 (DB (by kernel_rfl) (by kernel_rfl) (AJ 1 (BF (M 6 (G (Aq (Ao (AW ⟨gr,gr,gr,gb (Ap h),Aj⟩))))))))));exact AJ 3 (DB (by kernel_rfl) (by kernel_rfl) (AJ 3 (DB (by kernel_rfl) (by kernel_rfl) (AJ 3 (DB (by kernel_rfl) (by kernel_rfl) (AJ 6 (DB (by kernel_rfl) (by kernel_rfl) (AJ 3 (DB (by kernel_rfl) (by kernel_rfl) (AJ 1 (BF (M 6 (G (Aq (Ao (AW ⟨gr,gr,gr,gb (Ap h),Aj⟩))))))))))))))))
def Dp.l0:Nat->(Rc:PE)->(Ai:List (Int×Ah×Int×Int))->(J14:(List Tree)->Int->Option (PR (List Tree×Int)))->(l15:List Tree)->(x20:Int)->Option (PR (List Tree×Int))
 | 0,_,_,_,_,_=>none
 | m21+1,Rc,Ai,J14,l15,x20=>(Ca.f m21 Ai x20 (⟨#[44]⟩:Ah)).bind λFE=>cond FE.1 (PR.bind (Rc.Cr Ai FE.2 0) λB4=>(apd 64 l15 [(Tree.mk B4.1 B4.2.1 B4.2.2.1 B4.2.2.2.1 B4.2.2.2.2.1)]).bind λFR=>Dp.l0 m21 Rc Ai J14 FR B4.2.2.2.2.2) (J14 l15 FE.2)
def Dp.g (Rc:PE) (k:Nat) (Ai:List (Int×Ah×Int×Int)) (An:Int):Option (PR (List Tree×Int)):=PR.bind (Rc.Cr Ai An 0) λr1=>A2 (λ(l8:List Tree) (Cq:Int)=>some (PR.ok (l8,Cq))) (λJ14=>Dp.l0 k Rc Ai J14 ([(Tree.mk r1.1 r1.2.1 r1.2.2.1 r1.2.2.2.1 r1.2.2.2.2.1)]) r1.2.2.2.2.2)
theorem Dp.BN {Rc:PE} (hR:Rc.Good) {k:Nat}:Dp.C (Dp.g Rc k):=by
 intro Ai An b0 Ax Be Aw r h Au;refine BC Tryz.func35 I (AY I) ?_;intro A X hh_;obtain ⟨Ay,_⟩:=hh_;unfold Dp.g at h;refine ksr (M 1 (AP (M 1 (C9 h (λ_ hr1=>(hR.Cr hr1 Au)) I ⟨Ay,Aj⟩ (λ_ e=>Bw (kpn 0 e I)) λr1 h=>?_))));rintro _ _ ⟨h2,A3,k4,o5,rfl,rfl⟩;refine AR (Bl #[V r1.1,D r1.2.1,V r1.2.2.1,V r1.2.2.2.1,W A3 r1.2.2.2.2.1 k4] 29 1 λb7=>(M 1 (G ?_)));obtain ⟨J14,IU,h⟩:=By h;refine Bz (τ:=(List Tree)×Int×Am×AG×Nat) (c5 λa _ _ d e=>[(3,W d a e)]) (λt=>bk b0 #[W Aw Ai Ax,V t.2.1] 57 :: t.2.2.1 :: X) (c5 λa b c d e=>J14 a b=some r/\Bi (AM 29) 29 c (W d a e) a) ?_ ?_;rintro ⟨l8,Cq,h9,GK,k11⟩ ⟨h,HA⟩;subst IU;refine ksr (M 2 (G (AT ?_)));obtain rfl:=Ap h;exact kdv (W GK l8 k11) [h9,bk b0 #[W Aw Ai Ax,V Cq] 57] (Ak (Bb (PR.okI ⟨h9,GK,k11,HA,I,I⟩)));refine Bq (Ak (Ak (BZ (T:=29) (n:=1) (xs:=[(Tree.mk r1.1 r1.2.1 r1.2.2.1 r1.2.2.2.1 r1.2.2.2.2.1)]) (B2.one (BO (k:=r1.1) (t:=r1.2.1) (n:=r1.2.2.1) (a:=r1.2.2.2.1) 29 o5)) I I (AY I) λh22 G9=>(Ak (CW (τ:=(List Tree)×Int×Am×AG×Nat) (c5 λa _ _ d e=>[(0,pt b0),(3,W d a e)]) (λt=>bk b0 #[W Aw Ai Ax,V t.2.1] 57 :: t.2.2.1 :: X) (λm=>c5 λa b c d e=>Dp.l0 m Rc Ai J14 a b=some r/\Bi (AM 29) 29 c (W d a e) a) k ([(Tree.mk r1.1 r1.2.1 r1.2.2.1 r1.2.2.2.1 r1.2.2.2.2.1)],r1.2.2.2.2.2,h22,(some ⟨b7,0,none⟩),1) ⟨h,G9⟩ sb I ?_)))));clear h;rintro m21 ⟨l15,x20,h16,D_,k18⟩ ⟨h,o19⟩;rcases m21 with _ | m21;simp [Dp.l0] at h;simp only [Dp.l0] at h;refine AU (ksr (M 1 (N h λFE N9 h=>(Bf (Ca.ok N9 Au) I ⟨(.tail _ Ay),Aj⟩ (G (At h (λh=>?_) λh=>?_))))));refine AF (As (Bq (AK (M 2 (C9 h (λ_ IV=>(hR.Cr IV Au)) I ⟨(.tail _ Ay),Aj⟩ (λ_ e=>Co (Bw (Co (Bw (kpn 1 e I))))) λB4 h=>?_)))));rintro _ _ ⟨h27,A28,k29,Sa,rfl,rfl⟩;exact AR (Bl #[V B4.1,D B4.2.1,V B4.2.2.1,V B4.2.2.2.1,W A28 B4.2.2.2.2.1 k29] 29 1 λb32=>(Ak (Ak (BZ (T:=29) (n:=1) (xs:=[(Tree.mk B4.1 B4.2.1 B4.2.2.1 B4.2.2.2.1 B4.2.2.2.2.1)]) (B2.one (BO (k:=B4.1) (t:=B4.2.1) (n:=B4.2.2.1) (a:=B4.2.2.2.1) 29 Sa)) I I (AY I) λh33 Ip=>(Aq (N h λFR LF h=>(Df I F5 I LF o19 Ip λh36 A37 k38 o39=>(M 1 (knl (A_ (As (Ak (Cw m21 (FR,B4.2.2.2.2.2,h36,A37,k38) (Nat.lt_succ_self _) ⟨h,o39⟩ sb I)))))))))))));exact CH (B6 (B6 (CI (As (AA (l15,FE.2,h16,D_,k18) ⟨h,o19⟩ sb I)))))
def PE.at:Nat->PE
 | 0=>⟨λ_ _ _=>none,λ_ _=>none,λ_ _=>none,λ_ _=>none,λ_ _=>none,λ_ _=>none⟩
 | k+1=>⟨Cr.g (PE.at k) k,Hg.g (PE.at k) k,Dy.g (PE.at k) k,E8.g (PE.at k) k,Hd.g (PE.at k) k,Dp.g (PE.at k) k⟩
theorem PE.good:∀ k,(PE.at k).Good
 | 0=>⟨(by unfold Cr.C;intros;rename_i h _;cases (show (none:Option _)=some _ from h)),(by unfold Hg.C;intros;rename_i h _;cases (show (none:Option _)=some _ from h)),(by unfold Dy.C;intros;rename_i h _;cases (show (none:Option _)=some _ from h)),(by unfold E8.C;intros;rename_i h _;cases (show (none:Option _)=some _ from h)),(by unfold Hd.C;intros;rename_i h _;cases (show (none:Option _)=some _ from h)),(by unfold Dp.C;intros;rename_i h _;cases (show (none:Option _)=some _ from h))⟩
 | k+1=>⟨Cr.BN (k:=k) (PE.good k),Hg.BN (k:=k) (PE.good k),Dy.BN (k:=k) (PE.good k),E8.BN (k:=k) (PE.good k),Hd.BN (k:=k) (PE.good k),Dp.BN (k:=k) (PE.good k)⟩
def Cr.f (k:Nat):=Cr.g (PE.at k) k
theorem Cr.ok {k:Nat}:Cr.C (Cr.f k):=Cr.BN (k:=k) (PE.good k)
def Dy.f (k:Nat):=Dy.g (PE.at k) k
theorem Dy.ok {k:Nat}:Dy.C (Dy.f k):=Dy.BN (k:=k) (PE.good k)
def Dp.f (k:Nat):=Dp.g (PE.at k) k
theorem Dp.ok {k:Nat}:Dp.C (Dp.f k):=Dp.BN (k:=k) (PE.good k)
structure PS where
 CA:List (Int×Ah×Int×Int)->Int->Bool->Option (PR (Int×Ah×Int×Int×List Tree×Int))
 He:List (Int×Ah×Int×Int)->Int->Option (PR (Int×Ah×Int×Int×List Tree×Int))
 Hh:List (Int×Ah×Int×Int)->Int->Option (PR (Int×Ah×Int×Int×List Tree×Int))
 ER:List (Int×Ah×Int×Int)->Int->Option (PR (List Tree×Int))
 Hf:List (Int×Ah×Int×Int)->Int->Int->Option (PR (Int×Ah×Int×Int×List Tree×Int))
 ES:List (Int×Ah×Int×Int)->Int->Option (PR (Int×Ah×Int×Int×List Tree×Int))
def CA.C (fC:List (Int×Ah×Int×Int)->Int->Bool->Option (PR (Int×Ah×Int×Int×List Tree×Int))):Prop:=∀ {Ai:List (Int×Ah×Int×Int)} {An:Int} {a1:Bool} {b0 Ax:Nat} {Be:Am} {Aw:AG} {r:PR (Int×Ah×Int×Int×List Tree×Int)} (h:fC Ai An a1=some r) (Au:Ce e60 4 Be (W Aw Ai Ax) Ai),Ct Tryz.prog 16 #[pt b0,bv a1] [bk b0 #[W Aw Ai Ax,V An] 57] [Be] (PR.Post G3 (λ(r:Int×Ah×Int×Int×List Tree×Int) e l1=>∃ (H0_:Am) (A0_:AG) (c0_:Nat),Bi (AM 29) 29 H0_ (W A0_ r.2.2.2.2.1 c0_) r.2.2.2.2.1/\e=.returned (.agg #[V r.1,D r.2.1,V r.2.2.1,V r.2.2.2.1,W A0_ r.2.2.2.2.1 c0_])/\l1=[H0_,bk b0 #[W Aw Ai Ax,V r.2.2.2.2.2] 57]) r)
def He.C (fC:List (Int×Ah×Int×Int)->Int->Option (PR (Int×Ah×Int×Int×List Tree×Int))):Prop:=∀ {Ai:List (Int×Ah×Int×Int)} {An:Int} {b0 Ax:Nat} {Be:Am} {Aw:AG} {r:PR (Int×Ah×Int×Int×List Tree×Int)} (h:fC Ai An=some r) (Au:Ce e60 4 Be (W Aw Ai Ax) Ai),Ct Tryz.prog 36 #[pt b0] [bk b0 #[W Aw Ai Ax,V An] 57] [Be] (PR.Post G3 (λ(r:Int×Ah×Int×Int×List Tree×Int) e l1=>∃ (H0_:Am) (A0_:AG) (c0_:Nat),Bi (AM 29) 29 H0_ (W A0_ r.2.2.2.2.1 c0_) r.2.2.2.2.1/\e=.returned (.agg #[V r.1,D r.2.1,V r.2.2.1,V r.2.2.2.1,W A0_ r.2.2.2.2.1 c0_])/\l1=[H0_,bk b0 #[W Aw Ai Ax,V r.2.2.2.2.2] 57]) r)
def Hh.C (fC:List (Int×Ah×Int×Int)->Int->Option (PR (Int×Ah×Int×Int×List Tree×Int))):Prop:=∀ {Ai:List (Int×Ah×Int×Int)} {An:Int} {b0 Ax:Nat} {Be:Am} {Aw:AG} {r:PR (Int×Ah×Int×Int×List Tree×Int)} (h:fC Ai An=some r) (Au:Ce e60 4 Be (W Aw Ai Ax) Ai),Ct Tryz.prog 37 #[pt b0] [bk b0 #[W Aw Ai Ax,V An] 57] [Be] (PR.Post G3 (λ(r:Int×Ah×Int×Int×List Tree×Int) e l1=>∃ (H0_:Am) (A0_:AG) (c0_:Nat),Bi (AM 29) 29 H0_ (W A0_ r.2.2.2.2.1 c0_) r.2.2.2.2.1/\e=.returned (.agg #[V r.1,D r.2.1,V r.2.2.1,V r.2.2.2.1,W A0_ r.2.2.2.2.1 c0_])/\l1=[H0_,bk b0 #[W Aw Ai Ax,V r.2.2.2.2.2] 57]) r)
def ER.C (fC:List (Int×Ah×Int×Int)->Int->Option (PR (List Tree×Int))):Prop:=∀ {Ai:List (Int×Ah×Int×Int)} {An:Int} {b0 Ax:Nat} {Be:Am} {Aw:AG} {r:PR (List Tree×Int)} (h:fC Ai An=some r) (Au:Ce e60 4 Be (W Aw Ai Ax) Ai),Ct Tryz.prog 79 #[pt b0] [bk b0 #[W Aw Ai Ax,V An] 57] [Be] (PR.Post G3 (λ(r:List Tree×Int) e l1=>∃ (H0_:Am) (A0_:AG) (c0_:Nat),Bi (AM 29) 29 H0_ (W A0_ r.1 c0_) r.1/\e=.returned (W A0_ r.1 c0_)/\l1=[H0_,bk b0 #[W Aw Ai Ax,V r.2] 57]) r)
def Hf.C (fC:List (Int×Ah×Int×Int)->Int->Int->Option (PR (Int×Ah×Int×Int×List Tree×Int))):Prop:=∀ {Ai:List (Int×Ah×Int×Int)} {An a1:Int} {b0 Ax:Nat} {Be:Am} {Aw:AG} {r:PR (Int×Ah×Int×Int×List Tree×Int)} (h:fC Ai An a1=some r) (Au:Ce e60 4 Be (W Aw Ai Ax) Ai),Ct Tryz.prog 80 #[pt b0,V a1] [bk b0 #[W Aw Ai Ax,V An] 57] [Be] (PR.Post G3 (λ(r:Int×Ah×Int×Int×List Tree×Int) e l1=>∃ (H0_:Am) (A0_:AG) (c0_:Nat),Bi (AM 29) 29 H0_ (W A0_ r.2.2.2.2.1 c0_) r.2.2.2.2.1/\e=.returned (.agg #[V r.1,D r.2.1,V r.2.2.1,V r.2.2.2.1,W A0_ r.2.2.2.2.1 c0_])/\l1=[H0_,bk b0 #[W Aw Ai Ax,V r.2.2.2.2.2] 57]) r)
def ES.C (fC:List (Int×Ah×Int×Int)->Int->Option (PR (Int×Ah×Int×Int×List Tree×Int))):Prop:=∀ {Ai:List (Int×Ah×Int×Int)} {An:Int} {b0 Ax:Nat} {Be:Am} {Aw:AG} {r:PR (Int×Ah×Int×Int×List Tree×Int)} (h:fC Ai An=some r) (Au:Ce e60 4 Be (W Aw Ai Ax) Ai),Ct Tryz.prog 81 #[pt b0] [bk b0 #[W Aw Ai Ax,V An] 57] [Be] (PR.Post G3 (λ(r:Int×Ah×Int×Int×List Tree×Int) e l1=>∃ (H0_:Am) (A0_:AG) (c0_:Nat),Bi (AM 29) 29 H0_ (W A0_ r.2.2.2.2.1 c0_) r.2.2.2.2.1/\e=.returned (.agg #[V r.1,D r.2.1,V r.2.2.1,V r.2.2.2.1,W A0_ r.2.2.2.2.1 c0_])/\l1=[H0_,bk b0 #[W Aw Ai Ax,V r.2.2.2.2.2] 57]) r)
structure PS.Good (R:PS):Prop where
 CA:CA.C R.CA
 He:He.C R.He
 Hh:Hh.C R.Hh
 ER:ER.C R.ER
 Hf:Hf.C R.Hf
 ES:ES.C R.ES
def CA.l0:Nat->(Rc:PS)->(Ai:List (Int×Ah×Int×Int))->(a1:Bool)->(r2:Int×Ah×Int×Int)->(l4:List Tree)->(x9:Int)->Option (PR (Int×Ah×Int×Int×List Tree×Int))
 | 0,_,_,_,_,_,_=>none
 | m10+1,Rc,Ai,a1,r2,l4,x9=>(DC.f m10 Ai x9).bind λr11=>(Ca.f m10 Ai x9 (⟨#[59]⟩:Ah)).bind λr13=>cond r13.1 (CA.l0 m10 Rc Ai a1 r2 l4 r13.2) ((Ca.f m10 Ai r13.2 (⟨#[114,101,116,117,114,110]⟩:Ah)).bind λCs=>cond Cs.1 (A2 (λ(l18:List Tree) (x23:Int)=>(Ca.f m10 Ai x23 (⟨#[59]⟩:Ah)).bind λr25=>(apd 64 l4 [(Tree.mk 30 (⟨#[]⟩:Ah) 0 r11.2.2.2 l18)]).bind λl29=>some (PR.ok (20,(⟨#[]⟩:Ah),0,r2.2.2.2,l29,r25.2))) (λL4=>((LZ.f m10 Ai Cs.2).bind λD5=>cond (!D5) ((DQ.f m10 Ai Cs.2 (⟨#[59]⟩:Ah)).bind λr44=>some (!r44)) (some false):Option Bool).bind λYG=>cond YG (PR.bind (Dp.f m10 Ai Cs.2) λr36=>L4 r36.1 r36.2) (L4 ([]) Cs.2))) ((cond a1 ((DQ.f m10 Ai Cs.2 (⟨#[102,117,110,99,116,105,111,110]⟩:Ah)).bind λFW=>some FW) (some false):Option Bool).bind λOv=>cond Ov (PR.bind (Rc.He Ai Cs.2) λr47=>(apd 64 l4 [(Tree.mk r47.1 r47.2.1 r47.2.2.1 r47.2.2.2.1 r47.2.2.2.2.1)]).bind λl56=>CA.l0 m10 Rc Ai a1 r2 l56 r47.2.2.2.2.2) ((LZ.f m10 Ai Cs.2).bind λDd=>cond Dd (some (PR.ok (20,(⟨#[]⟩:Ah),0,r2.2.2.2,l4,Cs.2))) (PR.bind (Rc.Hh Ai Cs.2) λCF=>(apd 64 l4 [(Tree.mk CF.1 CF.2.1 CF.2.2.1 CF.2.2.2.1 CF.2.2.2.2.1)]).bind λMD=>CA.l0 m10 Rc Ai a1 r2 MD CF.2.2.2.2.2))))
def CA.g (Rc:PS) (k:Nat) (Ai:List (Int×Ah×Int×Int)) (An:Int) (a1:Bool):Option (PR (Int×Ah×Int×Int×List Tree×Int)):=(DC.f k Ai An).bind λr2=>CA.l0 k Rc Ai a1 r2 ([]) An
theorem CA.BN {Rc:PS} (hR:Rc.Good) {k:Nat}:CA.C (CA.g Rc k):=by
 intro Ai An a1 b0 Ax Be Aw r h Au;refine BC Tryz.func16 I (AY I) ?_;intro A X hh_;obtain ⟨Ay,_⟩:=hh_;unfold CA.g at h;refine ksr (knp #[V 0,D noS,V 0,V 0,nS] 29 λb1=>(AP (M 1 (Ak (N h λr2 hr2 h=>(Bf (DC.ok hr2 Au) I ⟨(.tail _ Ay),Aj⟩ (M 2 (knp #[V 0,D noS,V 0,V 0,nS] 29 λb3=>(AB 0 5 #[V 20,D noS,V 0,V r2.2.2.2,nS] (G (Bq (CX (Av (Av (Av (CW (τ:=(List Tree)×Int×Am×AG×Nat) (λt=>[(0,pt b0),(1,bv a1),(4,pt b1),(5,pt b3)]) (c5 λa b c d e=>bk b3 #[V 20,D noS,V 0,V r2.2.2.2,W d a e] 29 :: bk b0 #[W Aw Ai Ax,V b] 57 :: bk b1 #[V 0,D noS,V 0,V 0,nS] 29 :: c :: X) (λm=>c5 λa b c d e=>CA.l0 m Rc Ai a1 r2 a b=some r/\Bi (AM 29) 29 c (W d a e) a) k ([],An,none_,none,0) ⟨h,(Bi.nil (AM 29) 29 none_)⟩ sb I ?_))))))))))))))));clear h;rintro m10 ⟨l4,x9,h5,A6,k7⟩ ⟨h,o8⟩;rcases m10 with _ | m10;simp [CA.l0] at h;simp only [CA.l0] at h;refine Bq (ksr (M 1 (Ak (N h λr11 JY h=>(Bf (DC.ok JY Au) I ⟨(t3 Ay),Aj⟩ (knp #[V 0,D noS,V 0,V 0] 60 λb12=>(AB 0 4 #[V r11.1,D r11.2.1,V r11.2.2.1,V r11.2.2.2] (G (Bq (ksr (M 1 (Ak (N h λr13 GZ h=>(Bf (Ca.ok GZ Au) I ⟨(t4 Ay),Aj⟩ (M 1 (G (At h (λh=>?_) λh=>?_)))))))))))))))));exact AF (A_ (A_ (As (Ak (Ao (Av (Av (Aq (Av (Cw m10 (l4,r13.2,h5,A6,k7) (Nat.lt_succ_self _) ⟨h,o8⟩ sb I))))))))));refine ksr (M 1 (N h λCs JZ h=>(Bf (Ca.ok JZ Au) I ⟨(t4 Ay),Aj⟩ (M 1 (G (At h (λh=>?_) λh=>?_))))));refine ksr (M 1 (kld 1 3 I (Ak (Ao (M 1 (knp #[V 0,D noS,V 0,V 0,nS] 29 λb17=>(AB 0 5 #[V 30,D noS,V 0,V r11.2.2.2,nS] (G ?_))))))));obtain ⟨L4,Wa,h⟩:=By h;refine Bz (τ:=(List Tree)×Int×Am×AG×Nat) (λt=>[(0,pt b0),(4,pt b1),(5,pt b3),(7,pt b17)]) (c5 λa b c d e=>bk b17 #[V 30,D noS,V 0,V r11.2.2.2,W d a e] 29 :: bk b0 #[W Aw Ai Ax,V b] 57 :: bk b3 #[V 20,D noS,V 0,V r2.2.2.2,W A6 l4 k7] 29 :: bk b1 #[V 0,D noS,V 0,V 0,nS] 29 :: h5 :: c :: X) (c5 λa b c d e=>L4 a b=some r/\Bi (AM 29) 29 c (W d a e) a) ?_ ?_;rintro ⟨l18,x23,h19,A20,k21⟩ ⟨h,Yg⟩;subst Wa;refine ksr (M 1 (Ak (N h λr25 Gj h=>(Bf (Ca.ok Gj Au) I ⟨(t5 Ay),Aj⟩ (AP (M 1 (kld 2 4 I (C0 1 0 5 I (Ak (Ao (Bl #[V 30,D noS,V 0,V r11.2.2.2,W A20 l18 k21] 29 1 λb26=>(BI (Ak (BZ (T:=29) (n:=1) (xs:=[(Tree.mk 30 (⟨#[]⟩:Ah) 0 r11.2.2.2 l18)]) (B2.one (BO (k:=30) (t:=(⟨#[]⟩:Ah)) (n:=0) (a:=r11.2.2.2) 29 Yg)) I I (AY I) λh27 R_=>(Cu (N h λl29 Wj h=>(Df I F5 I Wj o8 R_ λh30 II k32 Hb=>(M 1 (Aq (AB 4 1 #[V 20,D noS,V 0,V r2.2.2.2,W II l29 k32] (AP (C0 0 0 5 I (Ao (Aq (AB 0 5 #[V 20,D noS,V 0,V r2.2.2.2,W II l29 k32] (G (AT (B3 (B3 (Bh (B3 ?_)))))))))))))))))))))))))))))));obtain rfl:=Ap h;exact Do 0 5 I [h30,bk b0 #[W Aw Ai Ax,V r25.2] 57] (Ao (Bb (PR.okI ⟨h30,II,k32,Hb,I,I⟩)));refine N h λYG W0 h=>?_;refine C5 [(0,pt b0),(4,pt b1),(5,pt b3),(7,pt b17),(37,bv YG)] (bk b17 #[V 30,D noS,V 0,V r11.2.2.2,nS] 29 :: bk b0 #[W Aw Ai Ax,V Cs.2] 57 :: bk b3 #[V 20,D noS,V 0,V r2.2.2.2,W A6 l4 k7] 29 :: bk b1 #[V 0,D noS,V 0,V 0,nS] 29 :: h5 :: X) ?_ ?_;clear W0;refine At h (λh=>?_) λh=>?_;refine AK (M 1 (Ak (C9 h (λ_ Kb=>(Dp.ok Kb Au)) I ⟨(t4 Ay),Aj⟩ (λ_ e=>Bw (Co (Co (Bw (Co (kpn 4 e I)))))) λr36 h=>?_)));rintro _ _ ⟨h37,A38,k39,Yr,rfl,rfl⟩;exact AR (M 1 (Aq (AB 4 1 #[V 30,D noS,V 0,V r11.2.2.2,W A38 r36.1 k39] (G (Ak (BI (BI (BI (BI (BI (AA (r36.1,r36.2,h37,A38,k39) ⟨h,Yr⟩ sb I)))))))))));exact AF (As (CX (BI (BI (BI (BI (BI (AA ([],Cs.2,none_,none,0) ⟨h,(Bi.nil (AM 29) 29 none_)⟩ sb I))))))));have h:=W0;clear W0;refine AK (M 1 (Ak (N h λD5 Q_ h=>(Bf (LZ.ok Q_ Au) I ⟨(t4 Ay),Aj⟩ (M 2 (Bt 33 h (λh=>?_) λh=>?_))))));exact M 1 (N h λr44 Ra h=>(Bf (DQ.ok Ra Au) I ⟨(t4 Ay),Aj⟩ (M 2 (G (Cu (Cu (Cu (Av (Cu (AW ⟨gr,gr,gr,gr,gb (Ap h),Aj⟩))))))))));exact M 4 (G (Cu (Cu (Cu (Av (Cu (AW ⟨gr,gr,gr,gr,gb (Ap h),Aj⟩)))))));refine N h λOv N7 h=>?_;refine C5 [(0,pt b0),(1,bv a1),(4,pt b1),(5,pt b3),(50,bv Ov)] (bk b0 #[W Aw Ai Ax,V Cs.2] 57 :: bk b3 #[V 20,D noS,V 0,V r2.2.2.2,W A6 l4 k7] 29 :: bk b1 #[V 0,D noS,V 0,V 0,nS] 29 :: h5 :: X) ?_ ?_;clear N7;refine At h (λh=>?_) λh=>?_;refine kpr [(0,0),(1,3),(2,0),(3,1),(4,1)] [1] (AJ 1 (B7 0 4 I (AJ 1 (kpt (ocp h (λ_ hr47=>(hR.He hr47 Au)) I ⟨(t3 Ay),Aj⟩ (λ_ e=>Co (Co (Bw (Co (kpn 3 e I))))) λr47 h=>?_)))));rintro _ _ ⟨h48,A49,Pd,Oe,rfl,rfl⟩;exact AR (B_ [2] I (kpt (E_ #[V r47.1,D r47.2.1,V r47.2.2.1,V r47.2.2.2.1,W A49 r47.2.2.2.2.1 Pd] 29 1 λb53=>(B_ [3] I (BF (Ak (Ak (BZ (T:=29) (n:=1) (xs:=[(Tree.mk r47.1 r47.2.1 r47.2.2.1 r47.2.2.2.1 r47.2.2.2.2.1)]) (B2.one (BO (k:=r47.1) (t:=r47.2.1) (n:=r47.2.2.1) (a:=r47.2.2.2.1) 29 Oe)) I I (AY I) λh54 Sd=>(Cu (N h λl56 Wn h=>(Df I F5 I Wn o8 Sd λh57 Mo k59 o60=>(M 1 (Aq (AB 4 1 #[V 20,D noS,V 0,V r2.2.2.2,W Mo l56 k59] (knl (A_ (A_ (As (Ak (Av (Av (Av (Cw m10 (l56,r47.2.2.2.2.2,h57,Mo,k59) (Nat.lt_succ_self _) ⟨h,o60⟩ sb I)))))))))))))))))))))));refine ksr (M 1 (N h λDd NH h=>(Bf (LZ.ok NH Au) I ⟨(t3 Ay),Aj⟩ (M 1 (G (At h (λh=>?_) λh=>?_))))));refine ksr (C0 1 0 5 I (Ak (Ao (Ak (AB 0 5 #[V 20,D noS,V 0,V r2.2.2.2,W A6 l4 k7] (G (AT (B3 (B3 (Bh (B3 ?_)))))))))));obtain rfl:=Ap h;exact Do 0 5 I [h5,bk b0 #[W Aw Ai Ax,V Cs.2] 57] (Ao (Ak (Bb (PR.okI ⟨h5,A6,k7,o8,I,I⟩))));refine kpr [(0,0),(1,3),(2,0),(3,1),(4,1)] [1] (AJ 1 (B7 0 4 I (AJ 1 (kpt (ocp h (λ_ Kc=>(hR.Hh Kc Au)) I ⟨(t3 Ay),Aj⟩ (λ_ e=>Co (Co (Bw (Co (kpn 3 e I))))) λCF h=>?_)))));rintro _ _ ⟨h64,JO,Kg,o67,rfl,rfl⟩;exact AR (B_ [2] I (kpt (E_ #[V CF.1,D CF.2.1,V CF.2.2.1,V CF.2.2.2.1,W JO CF.2.2.2.2.1 Kg] 29 1 λb69=>(B_ [3] I (BF (Ak (Ak (BZ (T:=29) (n:=1) (xs:=[(Tree.mk CF.1 CF.2.1 CF.2.2.1 CF.2.2.2.1 CF.2.2.2.2.1)]) (B2.one (BO (k:=CF.1) (t:=CF.2.1) (n:=CF.2.2.1) (a:=CF.2.2.2.1) 29 o67)) I I (AY I) λh70 P6=>(Cu (N h λMD Wq h=>(Df I F5 I Wq o8 P6 λh73 SW k75 Yx=>(M 1 (Aq (AB 4 1 #[V 20,D noS,V 0,V r2.2.2.2,W SW MD k75] (knl (A_ (A_ (As (Ak (Av (Av (Av (Cw m10 (MD,CF.2.2.2.2.2,h73,SW,k75) (Nat.lt_succ_self _) ⟨h,Yx⟩ sb I)))))))))))))))))))))));have h:=N7;clear N7;refine AK (M 2 (Bt 52 h (λh=>?_) λh=>?_));exact M 1 (N h λFW Rm h=>(Bf (DQ.ok Rm Au) I ⟨(t4 Ay),Aj⟩ (Ak (Ao (M 2 (G (AW ⟨gr,gr,gr,gr,gb (Ap h),Aj⟩)))))));exact M 4 (G (Ak (Ao (AW ⟨gr,gr,gr,gr,gb (Ap h),Aj⟩))))
def He.g (Rc:PS) (k:Nat) (Ai:List (Int×Ah×Int×Int)) (An:Int):Option (PR (Int×Ah×Int×Int×List Tree×Int)):=(DC.f k Ai An).bind λr2=>PR.bind (Cy.f k Ai An (⟨#[102,117,110,99,116,105,111,110]⟩:Ah)) λr4=>PR.bind (FU.f k Ai r4) λr6=>PR.bind (Cy.f k Ai r6.2.2.2.2.2 (⟨#[40]⟩:Ah)) λr12=>A2 (λ(x14:Int) (l15:List Tree)=>PR.bind (Cy.f k Ai x14 (⟨#[41]⟩:Ah)) λr21=>PR.bind (Rc.CA Ai r21 false) λBY=>(apd 64 l15 [(Tree.mk BY.1 BY.2.1 BY.2.2.1 BY.2.2.2.1 BY.2.2.2.2.1)]).bind λl32=>PR.bind (Cy.f k Ai BY.2.2.2.2.2 (⟨#[101,110,100]⟩:Ah)) λEC=>some (PR.ok (31,r6.2.1,((l15.length:Nat):Int),r2.2.2.2,l32,EC))) (λJ20=>(DQ.f k Ai r12 (⟨#[41]⟩:Ah)).bind λr39=>cond (!r39) (PR.bind (Gq.f k Ai r12) λIr=>J20 Ir.2 Ir.1) (J20 r12 ([])))
theorem He.BN {Rc:PS} (hR:Rc.Good) {k:Nat}:He.C (He.g Rc k):=by
 intro Ai An b0 Ax Be Aw r h Au;refine BC Tryz.func36 I (AY I) ?_;intro A X hh_;obtain ⟨Ay,_⟩:=hh_;unfold He.g at h;refine ksr (knp #[V 0,D noS,V 0,V 0,nS] 29 λb1=>(AP (M 1 (Ak (N h λr2 hr2 h=>(Bf (DC.ok hr2 Au) I ⟨(.tail _ Ay),Aj⟩ (M 2 (knp #[V 0,D noS,V 0,V 0,nS] 29 λb3=>(AB 0 5 #[V 31,D noS,V 0,V r2.2.2.2,nS] (AP (M 1 (Ak (C9 h (λ_ hr4=>(Cy.ok hr4 Au)) I ⟨(t2 Ay),Aj⟩ (λ_ e=>Bw (kpn 2 e I)) λr4 h=>?_)))))))))))));rintro _ _ ⟨rfl,rfl⟩;refine BU (AP (M 1 (C9 h (λ_ NG=>(FU.ok NG Au)) I ⟨(t2 Ay),Aj⟩ (λ_ e=>Bw (kpn 2 e I)) λr6 h=>?_)));rintro _ _ ⟨h7,A8,k9,o10,rfl,rfl⟩;refine AR (M 2 (Aq (AB 1 1 #[V 31,D r6.2.1,V 0,V r2.2.2.2,nS] (Ak (Ao (AP (M 1 (Ak (C9 h (λ_ LG=>(Cy.ok LG Au)) I ⟨(t2 Ay),Aj⟩ (λ_ e=>Bw (kpn 2 e I)) λr12 h=>?_)))))))));rintro _ _ ⟨rfl,rfl⟩;refine BU (G ?_);obtain ⟨J20,QS,h⟩:=By h;refine Bz (τ:=Int×(List Tree)×Am×AG×Nat) (λt=>[(0,pt b0),(2,pt b1),(3,pt b3)]) (c5 λa b c d e=>bk b0 #[W Aw Ai Ax,V a] 57 :: bk b3 #[V 31,D r6.2.1,V 0,V r2.2.2.2,W d b e] 29 :: bk b1 #[V 0,D noS,V 0,V 0,nS] 29 :: c :: X) (c5 λa b c d e=>J20 a b=some r/\Bi (AM 29) 29 c (W d b e) b) ?_ ?_;rintro ⟨x14,l15,h16,D_,k18⟩ ⟨h,o19⟩;subst QS;refine ksr (M 1 (kld 1 4 I (M 2 (Ak (AB 2 1 #[V 31,D r6.2.1,V ((l15.length:Nat):Int),V r2.2.2.2,W D_ l15 k18] (AP (M 1 (Ak (C9 h (λ_ LI=>(Cy.ok LI Au)) I ⟨(t3 Ay),Aj⟩ (λ_ e=>Bw (kpn 3 e I)) λr21 h=>?_)))))))));rintro _ _ ⟨rfl,rfl⟩;refine BU (G (AU (kpr [(0,0),(1,3),(2,0),(3,1),(4,1)] [1] (AJ 1 (B7 0 4 I (AJ 1 (kpt (ocp h (λ_ Gi=>(hR.CA Gi Au)) I ⟨(t3 Ay),Aj⟩ (λ_ e=>Bw (kpn 3 e I)) λBY h=>?_))))))));rintro _ _ ⟨h24,A25,k26,Kt,rfl,rfl⟩;refine AR (B_ [2] I (kpt (E_ #[V BY.1,D BY.2.1,V BY.2.2.1,V BY.2.2.2.1,W A25 BY.2.2.2.2.1 k26] 29 1 λb29=>(B_ [3] I (BF (Ak (Ak (BZ (T:=29) (n:=1) (xs:=[(Tree.mk BY.1 BY.2.1 BY.2.2.1 BY.2.2.2.1 BY.2.2.2.2.1)]) (B2.one (BO (k:=BY.1) (t:=BY.2.1) (n:=BY.2.2.1) (a:=BY.2.2.2.1) 29 Kt)) I I (AY I) λh30 Ob=>(Cu (N h λl32 Bcc h=>(Df I F5 I Bcc o19 Ob λh33 A34 NP Oc=>(M 1 (Aq (AB 4 1 #[V 31,D r6.2.1,V ((l15.length:Nat):Int),V r2.2.2.2,W A34 l32 NP] (AP (M 1 (Aq (C9 h (λ_ LK=>(Cy.ok LK Au)) I ⟨(t3 Ay),Aj⟩ (λ_ e=>Bw (kpn 3 e I)) λEC h=>?_))))))))))))))))));rintro _ _ ⟨rfl,rfl⟩;refine BU (AP (C0 1 0 5 I (Ak (Ao (Aq (AB 0 5 #[V 31,D r6.2.1,V ((l15.length:Nat):Int),V r2.2.2.2,W A34 l32 NP] (G (AT ?_))))))));obtain rfl:=Ap h;exact Do 0 5 I [h33,bk b0 #[W Aw Ai Ax,V EC] 57] (Ao (Ak (Bb (PR.okI ⟨h33,A34,NP,Oc,I,I⟩))));refine ksr (M 1 (N h λr39 hr39 h=>(Bf (DQ.ok hr39 Au) I ⟨(t2 Ay),Aj⟩ (M 1 (G (At h (λh=>?_) λh=>?_))))));refine AK (M 1 (C9 h (λ_ QZ=>(Gq.ok QZ Au)) I ⟨(t2 Ay),Aj⟩ (λ_ e=>Bw (kpn 2 e I)) λIr h=>?_));rintro _ _ ⟨h42,Nc,NQ,Sb,rfl,rfl⟩;exact AR (M 1 (Aq (AB 4 1 #[V 31,D r6.2.1,V 0,V r2.2.2.2,W Nc Ir.1 NQ] (G (Ak (Av (Aq (Av (AA (Ir.2,Ir.1,h42,Nc,NQ) ⟨h,Sb⟩ sb I)))))))));exact AF (As (CX (Av (Av (Av (AA (r12,[],none_,none,0) ⟨h,(Bi.nil (AM 29) 29 none_)⟩ sb I))))))
def Hh.g (Rc:PS) (k:Nat) (Ai:List (Int×Ah×Int×Int)) (An:Int):Option (PR (Int×Ah×Int×Int×List Tree×Int)):=(DC.f k Ai An).bind λr2=>A2 (λ(x5:Int) (x6:Int) (l7:List Tree) (x12:Int)=>some (PR.ok (x5,(⟨#[]⟩:Ah),x6,r2.2.2.2,l7,x12))) (λJ13=>(Ca.f k Ai An (⟨#[100,111]⟩:Ah)).bind λr14=>cond r14.1 (PR.bind (Rc.CA Ai r14.2 false) λr16=>PR.bind (Cy.f k Ai r16.2.2.2.2.2 (⟨#[101,110,100]⟩:Ah)) λBY=>J13 28 0 ([(Tree.mk r16.1 r16.2.1 r16.2.2.1 r16.2.2.2.1 r16.2.2.2.2.1)]) BY) ((Ca.f k Ai r14.2 (⟨#[119,104,105,108,101]⟩:Ah)).bind λr27=>cond r27.1 (PR.bind (Cr.f k Ai r27.2 0) λr29=>PR.bind (Cy.f k Ai r29.2.2.2.2.2 (⟨#[100,111]⟩:Ah)) λr36=>PR.bind (Rc.CA Ai r36 false) λr38=>(apd 64 [(Tree.mk r29.1 r29.2.1 r29.2.2.1 r29.2.2.2.1 r29.2.2.2.2.1)] [(Tree.mk r38.1 r38.2.1 r38.2.2.1 r38.2.2.2.1 r38.2.2.2.2.1)]).bind λl49=>PR.bind (Cy.f k Ai r38.2.2.2.2.2 (⟨#[101,110,100]⟩:Ah)) λGs=>J13 25 0 l49 Gs) ((Ca.f k Ai r27.2 (⟨#[105,102]⟩:Ah)).bind λEl=>cond El.1 (PR.bind (Rc.ER Ai El.2) λJG=>J13 24 0 JG.1 JG.2) ((Ca.f k Ai El.2 (⟨#[102,111,114]⟩:Ah)).bind λr64=>cond r64.1 (PR.bind (Rc.Hf Ai r64.2 r2.2.2.2) λCS=>some (PR.ok (CS.1,CS.2.1,CS.2.2.1,CS.2.2.2.1,CS.2.2.2.2.1,CS.2.2.2.2.2))) ((Ca.f k Ai r64.2 (⟨#[108,111,99,97,108]⟩:Ah)).bind λLo=>cond Lo.1 (PR.bind (Gq.f k Ai Lo.2) λDK=>(Ca.f k Ai DK.2 (⟨#[61]⟩:Ah)).bind λr80=>cond r80.1 (PR.bind (Dp.f k Ai r80.2) λDw=>(apd 64 DK.1 Dw.1).bind λJ0=>J13 21 ((DK.1.length:Nat):Int) J0 Dw.2) (J13 21 ((DK.1.length:Nat):Int) DK.1 r80.2)) ((Ca.f k Ai Lo.2 (⟨#[98,114,101,97,107]⟩:Ah)).bind λr93=>cond r93.1 (J13 29 0 ([]) r93.2) (PR.bind (Rc.ES Ai r93.2) λr95=>some (PR.ok (r95.1,r95.2.1,r95.2.2.1,r95.2.2.2.1,r95.2.2.2.2.1,r95.2.2.2.2.2)))))))))
theorem Hh.BN {Rc:PS} (hR:Rc.Good) {k:Nat}:Hh.C (Hh.g Rc k):=by
 intro Ai An b0 Ax Be Aw r h Au;refine BC Tryz.func37 I (AY I) ?_;intro A X hh_;obtain ⟨Ay,_⟩:=hh_;unfold Hh.g at h;refine ksr (knp #[V 0,D noS,V 0,V 0,nS] 29 λb1=>(AP (M 1 (Ak (N h λr2 hr2 h=>(Bf (DC.ok hr2 Au) I ⟨(.tail _ Ay),Aj⟩ (knp #[V 0,D noS,V 0,V 0] 60 λb3=>(AB 0 4 #[V r2.1,D r2.2.1,V r2.2.2.1,V r2.2.2.2] (AP (M 1 (kld 0 3 I (M 1 (knp #[V 0,D noS,V 0,V 0,nS] 29 λb4=>(AB 0 5 #[V 0,D noS,V 0,V r2.2.2.2,nS] (G ?_)))))))))))))));obtain ⟨J13,Nz,h⟩:=By h;refine Bz (τ:=Int×Int×(List Tree)×Int×Am×AG×Nat) (λt=>[(2,pt b1),(4,pt b4)]) (c7 λa b c d e f g=>bk b4 #[V a,D noS,V b,V r2.2.2.2,W f c g] 29 :: bk b0 #[W Aw Ai Ax,V d] 57 :: bk b1 #[V 0,D noS,V 0,V 0,nS] 29 :: e :: X) (c7 λa b c d e f g=>J13 a b c d=some r/\Bi (AM 29) 29 e (W f c g) c) ?_ ?_;rintro ⟨x5,x6,l7,x12,h8,A9,k10⟩ ⟨h,Jb⟩;subst Nz;refine ksr (C0 0 0 5 I (Ao (Ak (AB 0 5 #[V x5,D noS,V x6,V r2.2.2.2,W A9 l7 k10] (G (AT ?_))))));obtain rfl:=Ap h;exact Do 0 5 I [h8,bk b0 #[W Aw Ai Ax,V x12] 57] (Ao (Ak (Bb (PR.okI ⟨h8,A9,k10,Jb,I,I⟩))));refine Bq (ksr (M 1 (Aq (N h λr14 Bfj h=>(Bf (Ca.ok Bfj Au) I ⟨(t3 Ay),Aj⟩ (M 1 (G (At h (λh=>?_) λh=>?_))))))));refine ksr (M 1 (C9 h (λ_ QX=>(hR.CA QX Au)) I ⟨(t3 Ay),Aj⟩ (λ_ e=>Bw (Co (Bw (kpn 3 e I)))) λr16 h=>?_));rintro _ _ ⟨h17,ZY,k19,o20,rfl,rfl⟩;refine AR (Av (Ao (Bl #[V r16.1,D r16.2.1,V r16.2.2.1,V r16.2.2.2.1,W ZY r16.2.2.2.2.1 k19] 29 1 λb22=>(M 1 (Av (AB 0 1 #[V 28,D noS,V 0,V r2.2.2.2,nS] (M 1 (AB 4 1 #[V 28,D noS,V 0,V r2.2.2.2,.slice (some ⟨b22,0,none⟩) 1 1] (CY (M 1 (Av (C9 h (λ_ Gi=>(Cy.ok Gi Au)) I ⟨(t4 Ay),Aj⟩ (λ_ e=>Co (Bw (kpn 4 e I))) λBY h=>?_))))))))))));rintro _ _ ⟨rfl,rfl⟩;exact BU (knl (A_ (As (Av (Av (BZ (T:=29) (n:=1) (xs:=[(Tree.mk r16.1 r16.2.1 r16.2.2.1 r16.2.2.2.1 r16.2.2.2.2.1)]) (B2.one (BO (k:=r16.1) (t:=r16.2.1) (n:=r16.2.2.1) (a:=r16.2.2.2.1) 29 o20)) I I (AY I) λh25 RZ=>(Av (Aq (Av (AA (28,0,[(Tree.mk r16.1 r16.2.1 r16.2.2.1 r16.2.2.2.1 r16.2.2.2.2.1)],BY,h25,(some ⟨b22,0,none⟩),1) ⟨h,RZ⟩ sb I))))))))));refine ksr (M 1 (N h λr27 J_ h=>(Bf (Ca.ok J_ Au) I ⟨(t3 Ay),Aj⟩ (M 1 (G (At h (λh=>?_) λh=>?_))))));refine ksr (M 1 (C9 h (λ_ Ka=>(Cr.ok Ka Au)) I ⟨(t3 Ay),Aj⟩ (λ_ e=>Bw (Co (Bw (kpn 3 e I)))) λr29 h=>?_));rintro _ _ ⟨h30,II,k32,Hb,rfl,rfl⟩;refine AR (Av (Ao (Bl #[V r29.1,D r29.2.1,V r29.2.2.1,V r29.2.2.2.1,W II r29.2.2.2.2.1 k32] 29 1 λQF=>(M 1 (Av (AB 0 1 #[V 25,D noS,V 0,V r2.2.2.2,nS] (M 1 (AB 4 1 #[V 25,D noS,V 0,V r2.2.2.2,.slice (some ⟨QF,0,none⟩) 1 1] (AP (M 1 (Av (C9 h (λ_ Kb=>(Cy.ok Kb Au)) I ⟨(t4 Ay),Aj⟩ (λ_ e=>Bw (Co (Bw (kpn 4 e I)))) λr36 h=>?_))))))))))));rintro _ _ ⟨rfl,rfl⟩;refine BU (G (AU (kpr [(0,0),(1,3),(2,0),(3,1),(4,1)] [1] (AJ 1 (B7 0 4 I (AJ 1 (kpt (ocp h (λ_ ND=>(hR.CA ND Au)) I ⟨(t4 Ay),Aj⟩ (λ_ e=>Bw (Co (Bw (kpn 4 e I)))) λr38 h=>?_))))))));rintro _ _ ⟨h39,SP,k41,P4,rfl,rfl⟩;refine AR (B_ [2] I (kpt (E_ #[V r38.1,D r38.2.1,V r38.2.2.1,V r38.2.2.2.1,W SP r38.2.2.2.2.1 k41] 29 1 λb44=>(B_ [3] I (BF (Ak (Ak (BZ (T:=29) (n:=1) (xs:=[(Tree.mk r38.1 r38.2.1 r38.2.2.1 r38.2.2.2.1 r38.2.2.2.2.1)]) (B2.one (BO (k:=r38.1) (t:=r38.2.1) (n:=r38.2.2.1) (a:=r38.2.2.2.1) 29 P4)) I I (AY I) λh45 MI=>(Cu (Cu (BZ (T:=29) (n:=1) (xs:=[(Tree.mk r29.1 r29.2.1 r29.2.2.1 r29.2.2.2.1 r29.2.2.2.2.1)]) (B2.one (BO (k:=r29.1) (t:=r29.2.1) (n:=r29.2.2.1) (a:=r29.2.2.2.1) 29 Hb)) I I (AY I) λh47 LW=>(Ak (Ak (N h λl49 hl49 h=>(Df I F5 I hl49 LW MI λh50 Mm k52 Of=>(M 1 (Aq (AB 4 1 #[V 25,D noS,V 0,V r2.2.2.2,W Mm l49 k52] (CY (M 1 (Aq (C9 h (λ_ NF=>(Cy.ok NF Au)) I ⟨(t3 Ay),Aj⟩ (λ_ e=>Co (Bw (kpn 3 e I))) λGs h=>?_))))))))))))))))))))));rintro _ _ ⟨rfl,rfl⟩;exact BU (knl (A_ (As (Aq (Av (Aq (Av (AA (25,0,l49,Gs,h50,Mm,k52) ⟨h,Of⟩ sb I))))))));refine ksr (M 1 (N h λEl Rf h=>(Bf (Ca.ok Rf Au) I ⟨(t3 Ay),Aj⟩ (M 1 (G (At h (λh=>?_) λh=>?_))))));refine AK (M 1 (C9 h (λ_ WQ=>(hR.ER WQ Au)) I ⟨(t3 Ay),Aj⟩ (λ_ e=>Co (Bw (kpn 3 e I))) λJG h=>?_));rintro _ _ ⟨h59,SS,Ub,Og,rfl,rfl⟩;exact AR (Av (Ao (M 1 (Aq (AB 0 1 #[V 24,D noS,V 0,V r2.2.2.2,nS] (M 1 (AB 4 1 #[V 24,D noS,V 0,V r2.2.2.2,W SS JG.1 Ub] (knl (A_ (As (Ak (Av (Av (Av (AA (24,0,JG.1,JG.2,h59,SS,Ub) ⟨h,Og⟩ sb I)))))))))))))));refine ksr (M 1 (N h λr64 NI h=>(Bf (Ca.ok NI Au) I ⟨(t3 Ay),Aj⟩ (M 1 (G (At h (λh=>?_) λh=>?_))))));refine ksr (M 2 (kld 2 3 I (Ak (Ao (Ak (Ao (C9 h (λ_ Ri=>(hR.Hf Ri Au)) I ⟨(.tail _ Ay),Aj⟩ (λ_ e=>Bw (Co (Bw (kpn 1 e I)))) λCS h=>?_)))))));rintro _ _ ⟨M2,Mp,k69,MJ,rfl,rfl⟩;refine AR (Aq (AB 0 5 #[V CS.1,D CS.2.1,V CS.2.2.1,V CS.2.2.2.1,W Mp CS.2.2.2.2.1 k69] (G (AT (B3 (Bh ?_))))));obtain rfl:=Ap h;exact Do 0 5 I [M2,bk b0 #[W Aw Ai Ax,V CS.2.2.2.2.2] 57] (Ao (Bb (PR.okI ⟨M2,Mp,k69,MJ,I,I⟩)));refine ksr (M 1 (N h λLo WW h=>(Bf (Ca.ok WW Au) I ⟨(t3 Ay),Aj⟩ (Aq (Ao (M 1 (G (At h (λh=>?_) λh=>?_))))))));refine ksr (M 1 (C9 h (λ_ Rk=>(Gq.ok Rk Au)) I ⟨(t2 Ay),Aj⟩ (λ_ e=>Bw (Co (Bw (kpn 2 e I)))) λDK h=>?_));rintro _ _ ⟨h75,Va,Xw,o78,rfl,rfl⟩;refine AR (M 1 (Aq (AB 0 1 #[V 21,D noS,V 0,V r2.2.2.2,nS] (M 1 (AB 4 1 #[V 21,D noS,V 0,V r2.2.2.2,W Va DK.1 Xw] (AP (M 1 (kld 0 4 I (M 2 (AB 2 1 #[V 21,D noS,V ((DK.1.length:Nat):Int),V r2.2.2.2,W Va DK.1 Xw] (AP (M 1 (Aq (N h λr80 NK h=>(Bf (Ca.ok NK Au) I ⟨(t3 Ay),Aj⟩ (G (At h (λh=>?_) λh=>?_)))))))))))))))));refine kpr [(0,0),(1,3),(2,0),(3,1)] [1] (AJ 1 (B7 0 4 I (AJ 1 (kpt (ocp h (λ_ NL=>(Dp.ok NL Au)) I ⟨(t3 Ay),Aj⟩ (λ_ e=>Co (Bw (kpn 3 e I))) λDw h=>?_)))));rintro _ _ ⟨TL,A84,NT,o86,rfl,rfl⟩;exact AR (B_ [2] I (BF (Av (N h λJ0 Bel h=>(Df I F5 I Bel o78 o86 λh89 Q5 k91 Se=>(M 1 (Aq (AB 4 1 #[V 21,D noS,V ((DK.1.length:Nat):Int),V r2.2.2.2,W Q5 J0 k91] (knl (A_ (As (Ak (Av (Av (Av (AA (21,((DK.1.length:Nat):Int),J0,Dw.2,h89,Q5,k91) ⟨h,Se⟩ sb I))))))))))))))));exact AF (A_ (As (Aq (Av (Aq (Av (AA (21,((DK.1.length:Nat):Int),DK.1,r80.2,h75,Va,Xw) ⟨h,o78⟩ sb I)))))));refine ksr (M 1 (N h λr93 Xa h=>(Bf (Ca.ok Xa Au) I ⟨(t2 Ay),Aj⟩ (M 1 (G (At h (λh=>?_) λh=>?_))))));exact AK (M 1 (Ak (AB 0 1 #[V 29,D noS,V 0,V r2.2.2.2,nS] (knl (A_ (As (CX (Av (Av (Av (AA (29,0,[],r93.2,none_,none,0) ⟨h,(Bi.nil (AM 29) 29 none_)⟩ sb I)))))))))));refine ksr (M 1 (C9 h (λ_ NM=>(hR.ES NM Au)) I ⟨(t2 Ay),Aj⟩ (λ_ e=>Bw (Co (Bw (kpn 2 e I)))) λr95 h=>?_));rintro _ _ ⟨h96,Nf,NU,Oi,rfl,rfl⟩;refine AR (Aq (Ao (Aq (AB 0 5 #[V r95.1,D r95.2.1,V r95.2.2.1,V r95.2.2.2.1,W Nf r95.2.2.2.2.1 NU] (G (AT (B3 (Bh ?_))))))));obtain rfl:=Ap h;exact Do 0 5 I [h96,bk b0 #[W Aw Ai Ax,V r95.2.2.2.2.2] 57] (Ao (Bb (PR.okI ⟨h96,Nf,NU,Oi,I,I⟩)))
def ER.l0:Nat->(Rc:PS)->(Ai:List (Int×Ah×Int×Int))->(J7:(List Tree)->Int->Option (PR (List Tree×Int)))->(D7:List Tree)->(x38:Int)->Option (PR (List Tree×Int))
 | 0,_,_,_,_,_=>none
 | m39+1,Rc,Ai,J7,D7,x38=>PR.bind (Cr.f m39 Ai x38 0) λr40=>(apd 64 D7 [(Tree.mk r40.1 r40.2.1 r40.2.2.1 r40.2.2.2.1 r40.2.2.2.2.1)]).bind λl49=>PR.bind (Cy.f m39 Ai r40.2.2.2.2.2 (⟨#[116,104,101,110]⟩:Ah)) λGs=>PR.bind (Rc.CA Ai Gs false) λEl=>(apd 64 l49 [(Tree.mk El.1 El.2.1 El.2.2.1 El.2.2.2.1 El.2.2.2.2.1)]).bind λRC=>(Ca.f m39 Ai El.2.2.2.2.2 (⟨#[101,108,115,101,105,102]⟩:Ah)).bind λCZ=>cond (!CZ.1) (J7 RC CZ.2) (ER.l0 m39 Rc Ai J7 RC CZ.2)
def ER.g (Rc:PS) (k:Nat) (Ai:List (Int×Ah×Int×Int)) (An:Int):Option (PR (List Tree×Int)):=A2 (λ(l1:List Tree) (x6:Int)=>A2 (λ(l8:List Tree) (Cq:Int)=>PR.bind (Cy.f k Ai Cq (⟨#[101,110,100]⟩:Ah)) λCs=>some (PR.ok (l8,Cs))) (λJ14=>(Ca.f k Ai x6 (⟨#[101,108,115,101]⟩:Ah)).bind λEe=>cond Ee.1 (PR.bind (Rc.CA Ai Ee.2 false) λr19=>(apd 64 l1 [(Tree.mk r19.1 r19.2.1 r19.2.2.1 r19.2.2.2.1 r19.2.2.2.2.1)]).bind λl28=>J14 l28 r19.2.2.2.2.2) (J14 l1 Ee.2))) (λJ7=>ER.l0 k Rc Ai J7 ([]) An)
theorem ER.BN {Rc:PS} (hR:Rc.Good) {k:Nat}:ER.C (ER.g Rc k):=by
 intro Ai An b0 Ax Be Aw r h Au;refine BC Tryz.func79 I (AY I) ?_;intro A X hh_;obtain ⟨Ay,_⟩:=hh_;unfold ER.g at h;refine ksr (M 1 (AP (M 1 (G ?_))));obtain ⟨J7,hJ7,h⟩:=By h;refine Bz (τ:=(List Tree)×Int×Am×AG×Nat) (c5 λa _ _ d e=>[(0,pt b0),(3,W d a e)]) (λt=>bk b0 #[W Aw Ai Ax,V t.2.1] 57 :: t.2.2.1 :: X) (c5 λa b c d e=>J7 a b=some r/\Bi (AM 29) 29 c (W d a e) a) ?_ ?_;rintro ⟨l1,x6,h2,A3,k4⟩ ⟨h,o5⟩;subst hJ7;obtain ⟨J14,IU,h⟩:=By h;refine Bz (τ:=(List Tree)×Int×Am×AG×Nat) (c5 λa _ _ d e=>[(0,pt b0),(3,W d a e)]) (λt=>bk b0 #[W Aw Ai Ax,V t.2.1] 57 :: t.2.2.1 :: X) (c5 λa b c d e=>J14 a b=some r/\Bi (AM 29) 29 c (W d a e) a) ?_ ?_;rintro ⟨l8,Cq,h9,GK,k11⟩ ⟨h,HA⟩;subst IU;refine ksr (M 1 (C9 h (λ_ JZ=>(Cy.ok JZ Au)) I ⟨(.tail _ Ay),Aj⟩ (λ_ e=>Bw (kpn 1 e I)) λCs h=>?_));rintro _ _ ⟨rfl,rfl⟩;refine BU (AP (M 2 (G (AT ?_))));obtain rfl:=Ap h;exact kdv (W GK l8 k11) [h9,bk b0 #[W Aw Ai Ax,V Cs] 57] (Ak (Bb (PR.okI ⟨h9,GK,k11,HA,I,I⟩)));refine ksr (M 1 (N h λEe Ij h=>(Bf (Ca.ok Ij Au) I ⟨(.tail _ Ay),Aj⟩ (G (At h (λh=>?_) λh=>?_)))));refine AK (M 2 (C9 h (λ_ hr19=>(hR.CA hr19 Au)) I ⟨(.tail _ Ay),Aj⟩ (λ_ e=>Bw (kpn 1 e I)) λr19 h=>?_));rintro _ _ ⟨h20,A21,k22,G9,rfl,rfl⟩;exact AR (Bl #[V r19.1,D r19.2.1,V r19.2.2.1,V r19.2.2.2.1,W A21 r19.2.2.2.2.1 k22] 29 1 λb25=>(Ak (Ak (BZ (T:=29) (n:=1) (xs:=[(Tree.mk r19.1 r19.2.1 r19.2.2.1 r19.2.2.2.1 r19.2.2.2.2.1)]) (B2.one (BO (k:=r19.1) (t:=r19.2.1) (n:=r19.2.2.1) (a:=r19.2.2.2.1) 29 G9)) I I (AY I) λh26 Kt=>(Aq (N h λl28 Wi h=>(Df I F5 I Wi o5 Kt λh29 Ix k31 o32=>(M 1 (G (Ak (AA (l28,r19.2.2.2.2.2,h29,Ix,k31) ⟨h,o32⟩ sb I)))))))))));exact AF (As (AA (l1,Ee.2,h2,A3,k4) ⟨h,o5⟩ sb I));refine Bq (CX (Ak (CW (τ:=(List Tree)×Int×Am×AG×Nat) (c5 λa _ _ d e=>[(0,pt b0),(3,W d a e)]) (λt=>bk b0 #[W Aw Ai Ax,V t.2.1] 57 :: t.2.2.1 :: X) (λm=>c5 λa b c d e=>ER.l0 m Rc Ai J7 a b=some r/\Bi (AM 29) 29 c (W d a e) a) k ([],An,none_,none,0) ⟨h,(Bi.nil (AM 29) 29 none_)⟩ sb I ?_)));clear h;rintro m39 ⟨D7,x38,h34,A35,H4⟩ ⟨h,F9⟩;rcases m39 with _ | m39;simp [ER.l0] at h;simp only [ER.l0] at h;refine Bq (ksr (M 2 (C9 h (λ_ LL=>(Cr.ok LL Au)) I ⟨(.tail _ Ay),Aj⟩ (λ_ e=>Bw (Co (Bw (Co (Bw (kpn 1 e I)))))) λr40 h=>?_)));rintro _ _ ⟨h41,A42,LO,Od,rfl,rfl⟩;refine AR (Bl #[V r40.1,D r40.2.1,V r40.2.2.1,V r40.2.2.2.1,W A42 r40.2.2.2.2.1 LO] 29 1 λb46=>(Ak (Ak (BZ (T:=29) (n:=1) (xs:=[(Tree.mk r40.1 r40.2.1 r40.2.2.1 r40.2.2.2.1 r40.2.2.2.2.1)]) (B2.one (BO (k:=r40.1) (t:=r40.2.1) (n:=r40.2.2.1) (a:=r40.2.2.2.1) 29 Od)) I I (AY I) λh47 LW=>(Aq (N h λl49 hl49 h=>(Df I F5 I hl49 F9 LW λh50 Mm k52 Of=>(M 1 (AP (M 1 (Ak (C9 h (λ_ NF=>(Cy.ok NF Au)) I ⟨(.tail _ Ay),Aj⟩ (λ_ e=>Bw (Co (Bw (Co (Bw (kpn 1 e I)))))) λGs h=>?_))))))))))));rintro _ _ ⟨rfl,rfl⟩;refine BU (AP (M 2 (C9 h (λ_ Rf=>(hR.CA Rf Au)) I ⟨(.tail _ Ay),Aj⟩ (λ_ e=>Bw (Co (Bw (Co (Bw (kpn 1 e I)))))) λEl h=>?_)));rintro _ _ ⟨h57,Mo,k59,o60,rfl,rfl⟩;refine AR (Bl #[V El.1,D El.2.1,V El.2.2.1,V El.2.2.2.1,W Mo El.2.2.2.2.1 k59] 29 1 λb62=>(Ak (Ak (BZ (T:=29) (n:=1) (xs:=[(Tree.mk El.1 El.2.1 El.2.2.1 El.2.2.2.1 El.2.2.2.2.1)]) (B2.one (BO (k:=El.1) (t:=El.2.1) (n:=El.2.2.1) (a:=El.2.2.2.1) 29 o60)) I I (AY I) λh63 o64=>(Aq (N h λRC Bdk h=>(Df I F5 I Bdk Of o64 λh66 A67 k68 o69=>(M 1 (AP (M 1 (Ak (N h λCZ Rj h=>(Bf (Ca.ok Rj Au) I ⟨(.tail _ Ay),Aj⟩ (M 1 (G (At h (λh=>?_) λh=>?_))))))))))))))));exact CH (R0 I (B6 (CI (As (AA (RC,CZ.2,h66,A67,k68) ⟨h,o69⟩ sb I)))));exact AF (A_ (As (Cw m39 (RC,CZ.2,h66,A67,k68) (Nat.lt_succ_self _) ⟨h,o69⟩ sb I)))
def Hf.g (Rc:PS) (k:Nat) (Ai:List (Int×Ah×Int×Int)) (An:Int) (a1:Int):Option (PR (Int×Ah×Int×Int×List Tree×Int)):=PR.bind (FU.f k Ai An) λr2=>A2 (λ(x10:Int) (x11:Int) (l12:List Tree) (x17:Int)=>PR.bind (Cy.f k Ai x17 (⟨#[100,111]⟩:Ah)) λr19=>PR.bind (Rc.CA Ai r19 false) λr21=>(apd 64 l12 [(Tree.mk r21.1 r21.2.1 r21.2.2.1 r21.2.2.2.1 r21.2.2.2.2.1)]).bind λLh=>PR.bind (Cy.f k Ai r21.2.2.2.2.2 (⟨#[101,110,100]⟩:Ah)) λEB=>some (PR.ok (x10,(⟨#[]⟩:Ah),x11,a1,Lh,EB))) (λIe=>(Ca.f k Ai r2.2.2.2.2.2 (⟨#[61]⟩:Ah)).bind λEC=>cond EC.1 (PR.bind (Cr.f k Ai EC.2 0) λr39=>(apd 64 [(Tree.mk r2.1 r2.2.1 r2.2.2.1 r2.2.2.2.1 r2.2.2.2.2.1)] [(Tree.mk r39.1 r39.2.1 r39.2.2.1 r39.2.2.2.1 r39.2.2.2.2.1)]).bind λNX=>PR.bind (Cy.f k Ai r39.2.2.2.2.2 (⟨#[44]⟩:Ah)) λr55=>PR.bind (Cr.f k Ai r55 0) λr57=>(apd 64 NX [(Tree.mk r57.1 r57.2.1 r57.2.2.1 r57.2.2.2.1 r57.2.2.2.2.1)]).bind λLR=>(Ca.f k Ai r57.2.2.2.2.2 (⟨#[44]⟩:Ah)).bind λr71=>cond r71.1 (PR.bind (Cr.f k Ai r71.2 0) λr73=>(apd 64 LR [(Tree.mk r73.1 r73.2.1 r73.2.2.1 r73.2.2.2.1 r73.2.2.2.2.1)]).bind λUq=>Ie 26 0 Uq r73.2.2.2.2.2) (Ie 26 0 LR r71.2)) (A2 (λ(x87:Int) (J0:List Tree)=>PR.bind (Cy.f k Ai x87 (⟨#[105,110]⟩:Ah)) λU9=>PR.bind (Dp.f k Ai U9) λLp=>(apd 64 J0 Lp.1).bind λPo=>Ie 27 ((J0.length:Nat):Int) Po Lp.2) (λTj=>(Ca.f k Ai EC.2 (⟨#[44]⟩:Ah)).bind λSp=>cond Sp.1 (PR.bind (Gq.f k Ai Sp.2) λU8=>(apd 64 [(Tree.mk r2.1 r2.2.1 r2.2.2.1 r2.2.2.2.1 r2.2.2.2.2.1)] U8.1).bind λUl=>Tj U8.2 Ul) (Tj Sp.2 ([(Tree.mk r2.1 r2.2.1 r2.2.2.1 r2.2.2.2.1 r2.2.2.2.2.1)])))))
theorem Hf.BN {Rc:PS} (hR:Rc.Good) {k:Nat}:Hf.C (Hf.g Rc k):=by
 intro Ai An a1 b0 Ax Be Aw r h Au;refine BC Tryz.func80 I (AY I) ?_;intro A X hh_;obtain ⟨Ay,_⟩:=hh_;unfold Hf.g at h;refine ksr (knp #[V 0,D noS,V 0,V 0,nS] 29 λb1=>(AP (M 2 (Ak (C9 h (λ_ hr2=>(FU.ok hr2 Au)) I ⟨(.tail _ Ay),Aj⟩ (λ_ e=>Bw (kpn 1 e I)) λr2 h=>?_)))));rintro _ _ ⟨h3,A4,k5,o6,rfl,rfl⟩;refine AR (Bl #[V r2.1,D r2.2.1,V r2.2.2.1,V r2.2.2.2.1,W A4 r2.2.2.2.2.1 k5] 29 1 λb8=>(M 1 (knp #[V 0,D noS,V 0,V 0,nS] 29 λb9=>(AB 0 5 #[V 27,D noS,V 0,V a1,.slice (some ⟨b8,0,none⟩) 1 1] (G ?_)))));obtain ⟨Ie,VY,h⟩:=By h;refine Bz (τ:=Int×Int×(List Tree)×Int×Am×AG×Nat) (λt=>[(0,pt b0),(4,pt b1),(5,pt b9)]) (c7 λa b c d e f g=>bk b9 #[V a,D noS,V b,V a1,W f c g] 29 :: bk b0 #[W Aw Ai Ax,V d] 57 :: bk b1 #[V 0,D noS,V 0,V 0,nS] 29 :: e :: X) (c7 λa b c d e f g=>Ie a b c d=some r/\Bi (AM 29) 29 e (W f c g) c) ?_ ?_;rintro ⟨x10,x11,l12,x17,h13,EV,k15⟩ ⟨h,o16⟩;subst VY;refine ksr (M 1 (Ak (C9 h (λ_ hr19=>(Cy.ok hr19 Au)) I ⟨(t3 Ay),Aj⟩ (λ_ e=>Bw (kpn 3 e I)) λr19 h=>?_)));rintro _ _ ⟨rfl,rfl⟩;refine BU (G (AU (kpr [(0,0),(1,3),(2,0),(3,1),(4,1)] [1] (AJ 1 (B7 0 4 I (AJ 1 (kpt (ocp h (λ_ LI=>(hR.CA LI Au)) I ⟨(t3 Ay),Aj⟩ (λ_ e=>Bw (kpn 3 e I)) λr21 h=>?_))))))));rintro _ _ ⟨h22,A23,k24,Ks,rfl,rfl⟩;refine AR (B_ [2] I (kpt (E_ #[V r21.1,D r21.2.1,V r21.2.2.1,V r21.2.2.2.1,W A23 r21.2.2.2.2.1 k24] 29 1 λb27=>(B_ [3] I (BF (Ak (Ak (BZ (T:=29) (n:=1) (xs:=[(Tree.mk r21.1 r21.2.1 r21.2.2.1 r21.2.2.2.1 r21.2.2.2.2.1)]) (B2.one (BO (k:=r21.1) (t:=r21.2.1) (n:=r21.2.2.1) (a:=r21.2.2.2.1) 29 Ks)) I I (AY I) λh28 o29=>(Cu (N h λLh Bca h=>(Df I F5 I Bca o16 o29 λh31 Ml k33 Ip=>(M 1 (Aq (AB 4 1 #[V x10,D noS,V x11,V a1,W Ml Lh k33] (AP (M 1 (Aq (C9 h (λ_ NC=>(Cy.ok NC Au)) I ⟨(t3 Ay),Aj⟩ (λ_ e=>Bw (kpn 3 e I)) λEB h=>?_))))))))))))))))));rintro _ _ ⟨rfl,rfl⟩;refine BU (AP (C0 1 0 5 I (Ak (Ao (Aq (AB 0 5 #[V x10,D noS,V x11,V a1,W Ml Lh k33] (G (AT ?_))))))));obtain rfl:=Ap h;exact Do 0 5 I [h31,bk b0 #[W Aw Ai Ax,V EB] 57] (Ao (Ak (Bb (PR.okI ⟨h31,Ml,k33,Ip,I,I⟩))));refine ksr (M 1 (Av (N h λEC LK h=>(Bf (Ca.ok LK Au) I ⟨(t4 Ay),Aj⟩ (G (At h (λh=>?_) λh=>?_))))));refine ksr (M 1 (Ak (AB 0 1 #[V 26,D noS,V 0,V a1,.slice (some ⟨b8,0,none⟩) 1 1] (G (AU (kpr [(0,0),(1,3),(2,0),(3,1),(4,1)] [0] (AJ 1 (B7 0 4 I (AJ 1 (kpt (Ak (ocp h (λ_ hr39=>(Cr.ok hr39 Au)) I ⟨(t4 Ay),Aj⟩ (λ_ e=>Bw (Bw (kpn 4 e I))) λr39 h=>?_))))))))))));rintro _ _ ⟨h40,Ic,k42,I7,rfl,rfl⟩;refine AR (B_ [2] I (kpt (E_ #[V r39.1,D r39.2.1,V r39.2.2.1,V r39.2.2.2.1,W Ic r39.2.2.2.2.1 k42] 29 1 λb45=>(B_ [3] I (BF (Ak (Ak (BZ (T:=29) (n:=1) (xs:=[(Tree.mk r39.1 r39.2.1 r39.2.2.1 r39.2.2.2.1 r39.2.2.2.2.1)]) (B2.one (BO (k:=r39.1) (t:=r39.2.1) (n:=r39.2.2.1) (a:=r39.2.2.2.1) 29 I7)) I I (AY I) λh46 LV=>(Cu (Cu (BZ (T:=29) (n:=1) (xs:=[(Tree.mk r2.1 r2.2.1 r2.2.2.1 r2.2.2.2.1 r2.2.2.2.2.1)]) (B2.one (BO (k:=r2.1) (t:=r2.2.1) (n:=r2.2.2.1) (a:=r2.2.2.2.1) 29 o6)) I I (AY I) λh48 o49=>(Ak (Ak (N h λNX Bct h=>(Df I F5 I Bct o49 LV λh51 Mn M4 o54=>(M 1 (Aq (AB 4 1 #[V 26,D noS,V 0,V a1,W Mn NX M4] (AP (M 1 (Aq (C9 h (λ_ WO=>(Cy.ok WO Au)) I ⟨(t3 Ay),Aj⟩ (λ_ e=>Bw (Bw (kpn 3 e I))) λr55 h=>?_))))))))))))))))))))));rintro _ _ ⟨rfl,rfl⟩;refine BU (G (AU (kpr [(0,0),(1,3),(2,0),(3,1),(4,1)] [1] (AJ 1 (B7 0 4 I (AJ 1 (kpt (ocp h (λ_ WP=>(Cr.ok WP Au)) I ⟨(t3 Ay),Aj⟩ (λ_ e=>Bw (Bw (kpn 3 e I))) λr57 h=>?_))))))));rintro _ _ ⟨h58,A59,k60,Yu,rfl,rfl⟩;refine AR (B_ [2] I (kpt (E_ #[V r57.1,D r57.2.1,V r57.2.2.1,V r57.2.2.2.1,W A59 r57.2.2.2.2.1 k60] 29 1 λb63=>(B_ [3] I (BF (Ak (Ak (BZ (T:=29) (n:=1) (xs:=[(Tree.mk r57.1 r57.2.1 r57.2.2.1 r57.2.2.2.1 r57.2.2.2.2.1)]) (B2.one (BO (k:=r57.1) (t:=r57.2.1) (n:=r57.2.2.1) (a:=r57.2.2.2.1) 29 Yu)) I I (AY I) λh64 Yv=>(Av (N h λLR Wo h=>(Df I F5 I Wo o54 Yv λM2 Mp k69 MJ=>(M 1 (Aq (AB 4 1 #[V 26,D noS,V 0,V a1,W Mp LR k69] (AP (M 1 (Aq (N h λr71 NJ h=>(Bf (Ca.ok NJ Au) I ⟨(t3 Ay),Aj⟩ (G (At h (λh=>?_) λh=>?_)))))))))))))))))))));refine kpr [(0,0),(1,3),(2,0),(3,1),(4,1)] [1] (AJ 1 (B7 0 4 I (AJ 1 (kpt (ocp h (λ_ Bid=>(Cr.ok Bid Au)) I ⟨(t3 Ay),Aj⟩ (λ_ e=>Bw (kpn 3 e I)) λr73 h=>?_)))));rintro _ _ ⟨h74,A75,Lf,LY,rfl,rfl⟩;exact AR (B_ [2] I (kpt (E_ #[V r73.1,D r73.2.1,V r73.2.2.1,V r73.2.2.2.1,W A75 r73.2.2.2.2.1 Lf] 29 1 λb79=>(B_ [3] I (BF (Ak (Ak (BZ (T:=29) (n:=1) (xs:=[(Tree.mk r73.1 r73.2.1 r73.2.2.1 r73.2.2.2.1 r73.2.2.2.2.1)]) (B2.one (BO (k:=r73.1) (t:=r73.2.1) (n:=r73.2.2.1) (a:=r73.2.2.2.1) 29 LY)) I I (AY I) λh80 Yy=>(Av (N h λUq Bei h=>(Df I F5 I Bei MJ Yy λTL A84 NT o86=>(M 1 (Aq (AB 4 1 #[V 26,D noS,V 0,V a1,W A84 Uq NT] (G (Ak (Av (Av (Av (AA (26,0,Uq,r73.2.2.2.2.2,TL,A84,NT) ⟨h,o86⟩ sb I))))))))))))))))))));exact AF (As (Aq (Av (Aq (Av (AA (26,0,LR,r71.2,M2,Mp,k69) ⟨h,MJ⟩ sb I))))));obtain ⟨Tj,A8a,h⟩:=By h;refine Bz (τ:=Int×(List Tree)×Am×AG×Nat) (λt=>[(0,pt b0),(4,pt b1),(5,pt b9)]) (c5 λa b c d e=>bk b0 #[W Aw Ai Ax,V a] 57 :: bk b9 #[V 27,D noS,V 0,V a1,W d b e] 29 :: bk b1 #[V 0,D noS,V 0,V 0,nS] 29 :: c :: X) (c5 λa b c d e=>Tj a b=some r/\Bi (AM 29) 29 c (W d b e) b) ?_ ?_;rintro ⟨x87,J0,h89,Q5,k91⟩ ⟨h,Se⟩;subst A8a;refine ksr (M 1 (kld 1 4 I (M 2 (Ak (AB 2 1 #[V 27,D noS,V ((J0.length:Nat):Int),V a1,W Q5 J0 k91] (AP (M 1 (Ak (C9 h (λ_ Biu=>(Cy.ok Biu Au)) I ⟨(t3 Ay),Aj⟩ (λ_ e=>Bw (Bw (kpn 3 e I))) λU9 h=>?_)))))))));rintro _ _ ⟨rfl,rfl⟩;refine BU (G (kpr [(0,0),(1,3),(2,0),(3,1)] [1] (AJ 1 (B7 0 4 I (AJ 1 (kpt (ocp h (λ_ Xb=>(Dp.ok Xb Au)) I ⟨(t3 Ay),Aj⟩ (λ_ e=>Bw (kpn 3 e I)) λLp h=>?_)))))));rintro _ _ ⟨h97,A98,k99,Bqr,rfl,rfl⟩;exact AR (B_ [2] I (BF (Cu (N h λPo Ba9 h=>(Df I F5 I Ba9 Se Bqr λTJ Qz Ru XZ=>(M 1 (Aq (AB 4 1 #[V 27,D noS,V ((J0.length:Nat):Int),V a1,W Qz Po Ru] (G (Ak (Av (Av (Av (AA (27,((J0.length:Nat):Int),Po,Lp.2,TJ,Qz,Ru) ⟨h,XZ⟩ sb I))))))))))))));refine ksr (M 1 (N h λSp Be0 h=>(Bf (Ca.ok Be0 Au) I ⟨(t4 Ay),Aj⟩ (G (At h (λh=>?_) λh=>?_)))));refine kpr [(0,0),(1,3),(2,0),(3,1)] [1] (AJ 1 (B7 0 4 I (AJ 1 (kpt (ocp h (λ_ Be4=>(Gq.ok Be4 Au)) I ⟨(t4 Ay),Aj⟩ (λ_ e=>Bw (Bw (kpn 4 e I))) λU8 h=>?_)))));rintro _ _ ⟨A5p,B3u,Cfs,Bq6,rfl,rfl⟩;exact AR (B_ [2] I (BF (Cu (Cu (BZ (T:=29) (n:=1) (xs:=[(Tree.mk r2.1 r2.2.1 r2.2.2.1 r2.2.2.2.1 r2.2.2.2.2.1)]) (B2.one (BO (k:=r2.1) (t:=r2.2.1) (n:=r2.2.2.1) (a:=r2.2.2.2.1) 29 o6)) I I (AY I) λVM RW=>(Ak (Ak (N h λUl Bbd h=>(Df I F5 I Bbd RW Bq6 λA5v SL TW X_=>(M 1 (Aq (AB 4 1 #[V 27,D noS,V 0,V a1,W SL Ul TW] (G (Ak (Av (Aq (Av (AA (U8.2,Ul,A5v,SL,TW) ⟨h,X_⟩ sb I))))))))))))))))));exact AF (As (Av (Av (BZ (T:=29) (n:=1) (xs:=[(Tree.mk r2.1 r2.2.1 r2.2.2.1 r2.2.2.2.1 r2.2.2.2.2.1)]) (B2.one (BO (k:=r2.1) (t:=r2.2.1) (n:=r2.2.2.1) (a:=r2.2.2.2.1) 29 o6)) I I (AY I) λh122 RY=>(Av (Av (Av (AA (Sp.2,[(Tree.mk r2.1 r2.2.1 r2.2.2.1 r2.2.2.2.1 r2.2.2.2.2.1)],h122,(some ⟨b8,0,none⟩),1) ⟨h,RY⟩ sb I))))))))
def ES.l0:Nat->(Ai:List (Int×Ah×Int×Int))->(DN:(List Tree)->Int->Option (PR (Int×Ah×Int×Int×List Tree×Int)))->(x42:Int)->(x43:Ah)->(x44:Int)->(x45:Int)->(l46:List Tree)->(l51:List Tree)->(x56:Int)->Option (PR (Int×Ah×Int×Int×List Tree×Int))
 | 0,_,_,_,_,_,_,_,_,_=>none
 | LU+1,Ai,DN,x42,x43,x44,x45,l46,l51,x56=>A2 (λ(_:Unit)=>(apd 64 l51 [(Tree.mk x42 x43 x44 x45 l46)]).bind λPt=>(Ca.f LU Ai x56 (⟨#[44]⟩:Ah)).bind λLn=>cond (!Ln.1) (DN Pt Ln.2) (PR.bind (Dy.f LU Ai Ln.2) λCZ=>ES.l0 LU Ai DN CZ.1 CZ.2.1 CZ.2.2.1 CZ.2.2.2.1 CZ.2.2.2.2.1 Pt CZ.2.2.2.2.2)) (λTg=>(Ot.f LU x42 x43 x44 x45 l46).bind λMN=>cond (!MN) (PR.bind (IA.f LU Ai x56 x45) λFW=>Tg ()) (Tg ()))
def ES.g (Rc:PS) (k:Nat) (Ai:List (Int×Ah×Int×Int)) (An:Int):Option (PR (Int×Ah×Int×Int×List Tree×Int)):=PR.bind (Dy.f k Ai An) λr2=>((DQ.f k Ai r2.2.2.2.2.2 (⟨#[61]⟩:Ah)).bind λr80=>cond (!r80) ((DQ.f k Ai r2.2.2.2.2.2 (⟨#[44]⟩:Ah)).bind λDw=>some (!Dw)) (some false):Option Bool).bind λq9=>cond q9 (A2 (λ(_:Unit)=>some (PR.ok (23,(⟨#[]⟩:Ah),0,r2.2.2.2.1,[(Tree.mk r2.1 r2.2.1 r2.2.2.1 r2.2.2.2.1 r2.2.2.2.2.1)],r2.2.2.2.2.2))) (λJ11=>cond (r2.1 != 8) ((DC.f k Ai r2.2.2.2.2.2).bind λr16=>PR.bind (IA.f k Ai r2.2.2.2.2.2 r16.2.2.2) λEe=>J11 ()) (J11 ()))) (A2 (λ(Ck:List Tree) (x25:Int)=>PR.bind (Cy.f k Ai x25 (⟨#[61]⟩:Ah)) λr27=>PR.bind (Dp.f k Ai r27) λr29=>(apd 64 Ck r29.1).bind λFR=>some (PR.ok (22,(⟨#[]⟩:Ah),((Ck.length:Nat):Int),r2.2.2.2.1,FR,r29.2))) (λDN=>ES.l0 k Ai DN r2.1 r2.2.1 r2.2.2.1 r2.2.2.2.1 r2.2.2.2.2.1 ([]) r2.2.2.2.2.2))
theorem ES.BN {Rc:PS} (hR:Rc.Good) {k:Nat}:ES.C (ES.g Rc k):=by
 intro Ai An b0 Ax Be Aw r h Au;refine BC Tryz.func81 I (AY I) ?_;intro A X hh_;obtain ⟨Ay,_⟩:=hh_;unfold ES.g at h;refine ksr (knp #[V 0,D noS,V 0,V 0,nS] 29 λb1=>(AP (M 1 (Ak (C9 h (λ_ hr2=>(Dy.ok hr2 Au)) I ⟨(.tail _ Ay),Aj⟩ (λ_ e=>Bw (kpn 1 e I)) λr2 h=>?_)))));rintro _ _ ⟨h3,A4,k5,o6,rfl,rfl⟩;refine AR (knp #[V 0,D noS,V 0,V 0,nS] 29 λb8=>(AB 0 5 #[V r2.1,D r2.2.1,V r2.2.2.1,V r2.2.2.2.1,W A4 r2.2.2.2.2.1 k5] (G (AU (N h λq9 hq9 h=>?_)))));refine C5 [(0,pt b0),(2,pt b1),(3,pt b8),(15,bv q9)] (bk b8 #[V r2.1,D r2.2.1,V r2.2.2.1,V r2.2.2.2.1,W A4 r2.2.2.2.2.1 k5] 29 :: h3 :: bk b0 #[W Aw Ai Ax,V r2.2.2.2.2.2] 57 :: bk b1 #[V 0,D noS,V 0,V 0,nS] 29 :: X) ?_ ?_;clear hq9;refine At h (λh=>?_) λh=>?_;obtain ⟨J11,Ny,h⟩:=By h;refine Bz (τ:=Unit) (λt=>[(2,pt b1),(3,pt b8)]) (λt=>bk b8 #[V r2.1,D r2.2.1,V r2.2.2.1,V r2.2.2.2.1,W A4 r2.2.2.2.2.1 k5] 29 :: h3 :: bk b0 #[W Aw Ai Ax,V r2.2.2.2.2.2] 57 :: bk b1 #[V 0,D noS,V 0,V 0,nS] 29 :: X) (λt=>J11 ()=some r) ?_ ?_;rintro ⟨⟩ h;subst Ny;refine ksr (M 1 (kld 0 3 I (C0 0 0 5 I (Ao (Bl #[V r2.1,D r2.2.1,V r2.2.2.1,V r2.2.2.2.1,W A4 r2.2.2.2.2.1 k5] 29 1 λb12=>(M 1 (Av (AB 0 5 #[V 23,D noS,V 0,V r2.2.2.2.1,.slice (some ⟨b12,0,none⟩) 1 1] (G (AT (Bh (Aq (Aq (BZ (T:=29) (n:=1) (xs:=[(Tree.mk r2.1 r2.2.1 r2.2.2.1 r2.2.2.2.1 r2.2.2.2.2.1)]) (B2.one (BO (k:=r2.1) (t:=r2.2.1) (n:=r2.2.2.1) (a:=r2.2.2.2.1) 29 o6)) I I (AY I) λh13 Jc=>?_))))))))))))));obtain rfl:=Ap h;exact Do 1 5 I [h13,bk b0 #[W Aw Ai Ax,V r2.2.2.2.2.2] 57] (Ak (Ao (Bb (PR.okI ⟨h13,(some ⟨b12,0,none⟩),1,Jc,I,I⟩))));refine ksr (M 1 (kld 0 0 I (M 1 (G (At h (λh=>?_) λh=>?_)))));refine AK (M 2 (Aq (N h λr16 QX h=>(Bf (DC.ok QX Au) I ⟨(t3 Ay),Aj⟩ (M 1 (C9 h (λ_ Ij=>(IA.ok Ij Au)) I ⟨(t3 Ay),Aj⟩ (λ_ e=>Bw (Bw (kpn 3 e I))) λEe h=>?_))))));rintro _ _ ⟨rfl,rfl⟩;exact BU (G (Av (Ak (Av (Av (AA () h sb I))))));exact AF (As (AA () h sb I));refine AF (As (ksr (M 1 (kld 0 3 I (M 1 (knp #[V 0,D noS,V 0,V 0,nS] 29 λb19=>(AB 0 5 #[V 22,D noS,V 0,V r2.2.2.2.1,nS] (G ?_))))))));obtain ⟨DN,QT,h⟩:=By h;refine Bz (τ:=(List Tree)×Int×Am×AG×Nat) (λt=>[(0,pt b0),(2,pt b1),(4,pt b19)]) (c5 λa b c d e=>bk b19 #[V 22,D noS,V 0,V r2.2.2.2.1,W d a e] 29 :: bk b0 #[W Aw Ai Ax,V b] 57 :: bk b1 #[V 0,D noS,V 0,V 0,nS] 29 :: c :: X) (c5 λa b c d e=>DN a b=some r/\Bi (AM 29) 29 c (W d a e) a) ?_ ?_;rintro ⟨Ck,x25,h21,F1,k23⟩ ⟨h,Ew⟩;subst QT;refine ksr (M 1 (kld 0 4 I (M 2 (AB 2 1 #[V 22,D noS,V ((Ck.length:Nat):Int),V r2.2.2.2.1,W F1 Ck k23] (AP (M 1 (Ak (C9 h (λ_ J_=>(Cy.ok J_ Au)) I ⟨(t3 Ay),Aj⟩ (λ_ e=>Bw (kpn 3 e I)) λr27 h=>?_))))))));rintro _ _ ⟨rfl,rfl⟩;refine BU (G (AU (kpr [(0,0),(1,3),(2,0),(3,1)] [1] (AJ 1 (B7 0 4 I (AJ 1 (kpt (ocp h (λ_ Ka=>(Dp.ok Ka Au)) I ⟨(t3 Ay),Aj⟩ (λ_ e=>Bw (kpn 3 e I)) λr29 h=>?_))))))));rintro _ _ ⟨h30,II,k32,Hb,rfl,rfl⟩;refine AR (B_ [2] I (BF (Cu (N h λFR LF h=>(Df I F5 I LF Ew Hb λh36 A37 k38 o39=>(M 1 (Aq (AB 4 1 #[V 22,D noS,V ((Ck.length:Nat):Int),V r2.2.2.2.1,W A37 FR k38] (AP (C0 0 0 5 I (Ao (Aq (AB 0 5 #[V 22,D noS,V ((Ck.length:Nat):Int),V r2.2.2.2.1,W A37 FR k38] (G (AT ?_)))))))))))))));obtain rfl:=Ap h;exact Do 0 5 I [h36,bk b0 #[W Aw Ai Ax,V r29.2] 57] (Ao (Bb (PR.okI ⟨h36,A37,k38,o39,I,I⟩)));refine ksr (C0 1 0 5 I (Ak (Ao (knp #[V 0,D noS,V 0,V 0,nS] 29 λb40=>(AB 0 5 #[V r2.1,D r2.2.1,V r2.2.2.1,V r2.2.2.2.1,W A4 r2.2.2.2.2.1 k5] (G (Bq (CX (Av (BI (BI (BI (BI (CW (τ:=Int×Ah×Int×Int×(List Tree)×(List Tree)×Int×Nat×Am×AG×Nat×Am×AG×Nat) (λt=>[(0,pt b0),(2,pt b1),(4,pt b19),(5,pt t.2.2.2.2.2.2.2.1)]) (c14 λa b c d e f g i j l n o p q=>bk i #[V a,D b,V c,V d,W l e n] 29 :: bk b19 #[V 22,D noS,V 0,V r2.2.2.2.1,W p f q] 29 :: bk b0 #[W Aw Ai Ax,V g] 57 :: bk b1 #[V 0,D noS,V 0,V 0,nS] 29 :: j :: o :: X) (λm=>c14 λa b c d e f g _ j l n o p q=>ES.l0 m Ai DN a b c d e f g=some r/\Bi (AM 29) 29 j (W l e n) e/\Bi (AM 29) 29 o (W p f q) f) k (r2.1,r2.2.1,r2.2.2.1,r2.2.2.2.1,r2.2.2.2.2.1,[],r2.2.2.2.2.2,b40,h3,A4,k5,none_,none,0) ⟨h,o6,(Bi.nil (AM 29) 29 none_)⟩ sb I ?_))))))))))))));clear h;rintro LU ⟨x42,x43,x44,x45,l46,l51,x56,Tv,h47,A48,k49,h52,A53,k54⟩ ⟨h,P5,Sd⟩;rcases LU with _ | LU;simp [ES.l0] at h;simp only [ES.l0] at h;refine AU (Bq ?_);obtain ⟨Tg,A7u,h⟩:=By h;refine Bz (τ:=Unit) (λt=>[(0,pt b0),(2,pt b1),(4,pt b19),(5,pt Tv)]) (λt=>bk Tv #[V x42,D x43,V x44,V x45,W A48 l46 k49] 29 :: bk b19 #[V 22,D noS,V 0,V r2.2.2.2.1,W A53 l51 k54] 29 :: bk b0 #[W Aw Ai Ax,V x56] 57 :: bk b1 #[V 0,D noS,V 0,V 0,nS] 29 :: h47 :: h52 :: X) (λt=>Tg ()=some r) ?_ ?_;rintro ⟨⟩ h;subst A7u;refine ksr (M 1 (kld 1 4 I (C0 0 0 5 I (Bl #[V x42,D x43,V x44,V x45,W A48 l46 k49] 29 1 λb59=>(BI (Ak (BZ (T:=29) (n:=1) (xs:=[(Tree.mk x42 x43 x44 x45 l46)]) (B2.one (BO (k:=x42) (t:=x43) (n:=x44) (a:=x45) 29 P5)) I I (AY I) λh60 Yu=>(BI (N h λPt Bdf h=>(Df I F5 I Bdf Sd Yu λh63 A64 k65 o66=>(M 1 (Aq (AB 4 1 #[V 22,D noS,V 0,V r2.2.2.2.1,W A64 Pt k65] (AP (M 1 (Av (N h λLn WU h=>(Bf (Ca.ok WU Au) I ⟨(t4 Ay),Aj⟩ (M 1 (G (At h (λh=>?_) λh=>?_)))))))))))))))))))));exact CH (R0 I (B6 (B6 (CI (As (Av (Ao (Aq (Av (Aq (Av (AA (Pt,Ln.2,h63,A64,k65) ⟨h,o66⟩ sb I))))))))))));refine AF (A_ (As (AU (ksr (C0 3 0 5 I (Av (Ao (CY (knp #[V 0,D noS,V 0,V 0,nS] 29 λb69=>(AB 0 5 #[V x42,D x43,V x44,V x45,W A48 l46 k49] (CY (M 1 (Ak (C9 h (λ_ Rj=>(Dy.ok Rj Au)) I ⟨(t4 Ay),Aj⟩ (λ_ e=>Bw (Co (Bw (kpn 4 e I)))) λCZ h=>?_))))))))))))));rintro _ _ ⟨h71,KR,Ld,Ku,rfl,rfl⟩;exact AR (Aq (AB 0 5 #[V CZ.1,D CZ.2.1,V CZ.2.2.1,V CZ.2.2.2.1,W KR CZ.2.2.2.2.1 Ld] (G (Cu (Aq (BI (Cu (BI (BI (Cw LU (CZ.1,CZ.2.1,CZ.2.2.1,CZ.2.2.2.1,CZ.2.2.2.2.1,Pt,CZ.2.2.2.2.2,b69,h71,KR,Ld,h63,A64,k65) (Nat.lt_succ_self _) ⟨h,Ku,o66⟩ sb I))))))))));refine ksr (C0 0 0 5 I (N h λMN Rl h=>(CQ (Ot.ok Rl (Bi.rd P5)) ⟨(.tail _ (.tail _ (.tail _ (.tail _ (.head _))))),Aj⟩ (M 1 (G (At h (λh=>?_) λh=>?_))))));refine AK (M 2 (kld 0 3 I (Aq (C9 h (λ_ Rm=>(IA.ok Rm Au)) I ⟨(t5 Ay),Aj⟩ (λ_ e=>Bw (Co (Bw (Bw (Co (Bw (kpn 5 e I))))))) λFW h=>?_))));rintro _ _ ⟨rfl,rfl⟩;exact BU (G (BI (BI (BI (Av (BI (BI (AA () h sb I))))))));exact AF (As (AA () h sb I));have h:=hq9;clear hq9;refine AK (M 1 (Aq (N h λr80 NK h=>(Bf (DQ.ok NK Au) I ⟨(t3 Ay),Aj⟩ (M 2 (Bt 11 h (λh=>?_) λh=>?_))))));exact M 1 (N h λDw NL h=>(Bf (DQ.ok NL Au) I ⟨(t3 Ay),Aj⟩ (M 2 (G (Av (Ak (Av (Av (AW ⟨gr,gr,gr,gb (Ap h),Aj⟩)))))))));exact M 4 (G (Av (Ak (Av (Av (AW ⟨gr,gr,gr,gb (Ap h),Aj⟩))))))
def PS.at:Nat->PS
 | 0=>⟨λ_ _ _=>none,λ_ _=>none,λ_ _=>none,λ_ _=>none,λ_ _ _=>none,λ_ _=>none⟩
 | k+1=>⟨CA.g (PS.at k) k,He.g (PS.at k) k,Hh.g (PS.at k) k,ER.g (PS.at k) k,Hf.g (PS.at k) k,ES.g (PS.at k) k⟩
theorem PS.good:∀ k,(PS.at k).Good
 | 0=>⟨(by unfold CA.C;intros;rename_i h _;cases (show (none:Option _)=some _ from h)),(by unfold He.C;intros;rename_i h _;cases (show (none:Option _)=some _ from h)),(by unfold Hh.C;intros;rename_i h _;cases (show (none:Option _)=some _ from h)),(by unfold ER.C;intros;rename_i h _;cases (show (none:Option _)=some _ from h)),(by unfold Hf.C;intros;rename_i h _;cases (show (none:Option _)=some _ from h)),(by unfold ES.C;intros;rename_i h _;cases (show (none:Option _)=some _ from h))⟩
 | k+1=>⟨CA.BN (k:=k) (PS.good k),He.BN (k:=k) (PS.good k),Hh.BN (k:=k) (PS.good k),ER.BN (k:=k) (PS.good k),Hf.BN (k:=k) (PS.good k),ES.BN (k:=k) (PS.good k)⟩
def CA.f (k:Nat):=CA.g (PS.at k) k
theorem CA.ok {k:Nat}:CA.C (CA.f k):=CA.BN (k:=k) (PS.good k)
def Jd.f (k:Nat) (a0:Ah):Option (Int×Ah×Int×Int×List Tree×Int×Int):=(RL.f k a0).bind λr3=>cond (r3.2.1 != 0) (some (0,(⟨#[]⟩:Ah),0,0,[],r3.2.1,r3.2.2)) (PR.elim (CA.f k r3.1 0 true) (λPc=>some (0,(⟨#[]⟩:Ah),0,0,[],4,Pc)) λr10=>A2 (λ(_:Unit)=>some (r10.1,r10.2.1,r10.2.2.1,r10.2.2.2.1,r10.2.2.2.2.1,0,0)) (λIK=>(DC.f k r3.1 r10.2.2.2.2.2).bind λEe=>cond (Ee.1 != 6) ((DC.f k r3.1 r10.2.2.2.2.2).bind λr19=>PR.elim (IA.f k r3.1 r10.2.2.2.2.2 r19.2.2.2) (λi21=>some (0,(⟨#[]⟩:Ah),0,0,[],4,i21)) λr20=>IK ()) (IK ())))
theorem Jd.ok {k:Nat} {a0:Ah} {Af:Am} {r:Int×Ah×Int×Int×List Tree×Int×Int} (h:Jd.f k a0=some r) (hG:SY Af): Ct Tryz.prog 6 #[D a0] [] [Af] (λe l1=>∃ (H0_:Am) (A0_:AG) (c0_:Nat),Bi (AM 29) 29 H0_ (W A0_ r.2.2.2.2.1 c0_) r.2.2.2.2.1/\e=.returned (.tuple #[.agg #[V r.1,D r.2.1,V r.2.2.1,V r.2.2.2.1,W A0_ r.2.2.2.2.1 c0_],.agg #[V r.2.2.2.2.2.1,V r.2.2.2.2.2.2]])/\l1=[H0_]):=by
 refine A0t Tryz.func6 I (AY I) ?_;intro A X hh_;obtain ⟨Cj,_⟩:=hh_;unfold Jd.f at h;refine ksr (knp #[V 0,D noS,V 0,V 0,nS] 29 λb1=>(knp #[V 0,V 0] 24 λb2=>(AP (M 1 (N h λr3 hr3 h=>(AZ (RL.ok hr3 hG) I ⟨(t2 Cj),Aj⟩ ?_))))));rintro _ _ ⟨h4,A5,k6,o7,rfl,rfl⟩;refine BU (M 4 (Ak (AB 0 2 #[V r3.2.1,V r3.2.2] (G (AU (ksr (M 1 (kld 0 0 I (M 1 (G (At h (λh=>?_) λh=>?_)))))))))));refine AU (Bn2 (kpr [(0,0),(1,3),(2,1)] [0] (AJ 1 (H5 0 0 2 I (kpt (Aq (ost 0 5 #[V 0,D noS,V 0,V 0,nS] (B_ [1] I (BF (Ak (AB 0 2 #[V r3.2.1,V r3.2.2] (Aq (Ao (knl (Bn3 (As (AT (Bh ?_))))))))))))))))));obtain rfl:=Ap h;exact Bn0 (v:=.tuple #[.agg #[V 0,D noS,V 0,V 0,nS],.agg #[V r3.2.1,V r3.2.2]]) [.val (V 0),.val (D noS),.val (V 0),.val (V 0),.val (nS),.val (V r3.2.1),.val (V r3.2.2)] [.ld ⟨b1,0,none⟩ (V 0),.ld ⟨b1,1,none⟩ (D noS),.ld ⟨b1,2,none⟩ (V 0),.ld ⟨b1,3,none⟩ (V 0),.ld ⟨b1,4,none⟩ (nS),.ld ⟨b2,0,none⟩ (V r3.2.1),.ld ⟨b2,1,none⟩ (V r3.2.2)] [none_] (by kernel_rfl) (by kernel_rfl) ⟨⟨1,_,_,_,I,I,I⟩,⟨1,_,_,_,I,I,I⟩,⟨1,_,_,_,I,I,I⟩,⟨1,_,_,_,I,I,I⟩,⟨1,_,_,_,I,I,I⟩,⟨0,_,_,_,I,I,I⟩,⟨0,_,_,_,I,I,I⟩,Aj⟩ (CX (Ak (Ao (Ak (Ao (Bb ⟨none_,none,0,(Bi.nil (AM 29) 29 none_),I,I⟩))))));refine AF (As (ksr (M 1 (Boe { target:=.fn (.func 15) #[pt b1,pt b2],args:=#[] } (by kernel_rfl) (by kernel_rfl) (by kernel_rfl) (AP (M 2 (knp #[W A5 r3.1 k6,V 0] 57 λb9=>(M 1 (AP (M 1 ?_))))))))));rcases Al8 h with ⟨Pc,Ii,h⟩ | ⟨r10,Ii,h⟩;refine AZ (CA.ok Ii (AC.rd o7)) I ⟨(.tail _ (.head _)),Aj⟩ ?_;rintro _ _ ⟨rfl,rfl⟩;refine Alb (Bw (Ak (Ao (Ak ?_))));obtain rfl:=Ap h;exact Aie (v:=.tuple #[.agg #[V 0,D noS,V 0,V 0,nS],.agg #[V 4,V Pc]]) (bk b1 #[V 0,D noS,V 0,V 0,nS] 29 :: bk b2 #[V 4,V Pc] 24 :: X) (λ_=>by kernel_rfl) (λw_ hw_=>Alz hw_) [.val (V 0),.val (D noS),.val (V 0),.val (V 0),.val (nS),.val (V 4),.val (V Pc)] [.ld ⟨b1,0,none⟩ (V 0),.ld ⟨b1,1,none⟩ (D noS),.ld ⟨b1,2,none⟩ (V 0),.ld ⟨b1,3,none⟩ (V 0),.ld ⟨b1,4,none⟩ (nS),.ld ⟨b2,0,none⟩ (V 4),.ld ⟨b2,1,none⟩ (V Pc)] [none_] (by kernel_rfl) (by kernel_rfl) ⟨⟨0,_,_,_,I,I,I⟩,⟨0,_,_,_,I,I,I⟩,⟨0,_,_,_,I,I,I⟩,⟨0,_,_,_,I,I,I⟩,⟨0,_,_,_,I,I,I⟩,⟨1,_,_,_,I,I,I⟩,⟨1,_,_,_,I,I,I⟩,Aj⟩ λw_ hw_=>(⟨⟨none_,none,0,(Bi.nil (AM 29) 29 none_),I,I⟩,St.XV 1 hw_.tail.tail⟩);refine AZ (CA.ok Ii (AC.rd o7)) I ⟨(.tail _ (.head _)),Aj⟩ ?_;rintro _ _ ⟨h11,A12,k13,Jc,rfl,rfl⟩;refine AR (Cu (AB 0 5 #[V r10.1,D r10.2.1,V r10.2.2.1,V r10.2.2.2.1,W A12 r10.2.2.2.2.1 k13] (G ?_)));obtain ⟨IK,VX,h⟩:=By h;refine Bz (τ:=Unit) (λt=>[(2,pt b1),(3,pt b2)]) (λt=>bk b1 #[V r10.1,D r10.2.1,V r10.2.2.1,V r10.2.2.2.1,W A12 r10.2.2.2.2.1 k13] 29 :: h11 :: bk b2 #[V r3.2.1,V r3.2.2] 24 :: X) (λt=>IK ()=some r) ?_ ?_;rintro ⟨⟩ h;subst VX;refine ksr (C0 0 0 5 I (M 1 (AB 0 5 #[V r10.1,D r10.2.1,V r10.2.2.1,V r10.2.2.2.1,W A12 r10.2.2.2.2.1 k13] (Aq (AB 0 2 #[V 0,V 0] (G (AT ?_)))))));obtain rfl:=Ap h;exact Bny (λ_=>by kernel_rfl) (Bxm (pt b1) (pt b2)) (v:=.tuple #[.agg #[V r10.1,D r10.2.1,V r10.2.2.1,V r10.2.2.2.1,W A12 r10.2.2.2.2.1 k13],.agg #[V 0,V 0]]) [.val (V r10.1),.val (D r10.2.1),.val (V r10.2.2.1),.val (V r10.2.2.2.1),.val (W A12 r10.2.2.2.2.1 k13),.val (V 0),.val (V 0)] [.ld ⟨b1,0,none⟩ (V r10.1),.ld ⟨b1,1,none⟩ (D r10.2.1),.ld ⟨b1,2,none⟩ (V r10.2.2.1),.ld ⟨b1,3,none⟩ (V r10.2.2.2.1),.ld ⟨b1,4,none⟩ (W A12 r10.2.2.2.2.1 k13),.ld ⟨b2,0,none⟩ (V 0),.ld ⟨b2,1,none⟩ (V 0)] [h11] (by kernel_rfl) (by kernel_rfl) ⟨⟨1,_,_,_,I,I,I⟩,⟨1,_,_,_,I,I,I⟩,⟨1,_,_,_,I,I,I⟩,⟨1,_,_,_,I,I,I⟩,⟨1,_,_,_,I,I,I⟩,⟨0,_,_,_,I,I,I⟩,⟨0,_,_,_,I,I,I⟩,Aj⟩ (Ao (Ao (Bn1 ⟨h11,A12,k13,Jc,I,I⟩)));refine ksr (M 1 (Aq (N h λEe Ij h=>(Bf (DC.ok Ij (AC.rd o7)) I ⟨(.tail _ (.tail _ (.tail _ (.head _)))),Aj⟩ (M 2 (G (At h (λh=>?_) λh=>?_)))))));refine AK (M 2 (N h λr19 hr19 h=>(Bf (DC.ok hr19 (AC.rd o7)) I ⟨(.tail _ (.tail _ (.tail _ (.head _)))),Aj⟩ (M 1 ?_))));rcases Al8 h with ⟨i21,LH,h⟩ | ⟨r20,LH,h⟩;refine AZ (IA.ok LH (AC.rd o7)) I ⟨(.tail _ (.tail _ (.tail _ (.head _)))),Aj⟩ ?_;rintro _ _ ⟨rfl,rfl⟩;refine Alb (Bw (Ak (Ao (Aq (Ao ?_)))));obtain rfl:=Ap h;exact Aie (v:=.tuple #[.agg #[V 0,D noS,V 0,V 0,nS],.agg #[V 4,V i21]]) (bk b1 #[V 0,D noS,V 0,V 0,nS] 29 :: bk b2 #[V 4,V i21] 24 :: X) (λ_=>by kernel_rfl) (λw_ hw_=>Alz hw_) [.val (V 0),.val (D noS),.val (V 0),.val (V 0),.val (nS),.val (V 4),.val (V i21)] [.ld ⟨b1,0,none⟩ (V 0),.ld ⟨b1,1,none⟩ (D noS),.ld ⟨b1,2,none⟩ (V 0),.ld ⟨b1,3,none⟩ (V 0),.ld ⟨b1,4,none⟩ (nS),.ld ⟨b2,0,none⟩ (V 4),.ld ⟨b2,1,none⟩ (V i21)] [none_] (by kernel_rfl) (by kernel_rfl) ⟨⟨0,_,_,_,I,I,I⟩,⟨0,_,_,_,I,I,I⟩,⟨0,_,_,_,I,I,I⟩,⟨0,_,_,_,I,I,I⟩,⟨0,_,_,_,I,I,I⟩,⟨1,_,_,_,I,I,I⟩,⟨1,_,_,_,I,I,I⟩,Aj⟩ λw_ hw_=>(⟨⟨none_,none,0,(Bi.nil (AM 29) 29 none_),I,I⟩,St.XV 1 hw_.tail.tail⟩);exact Bf (IA.ok LH (AC.rd o7)) I ⟨(.tail _ (.tail _ (.tail _ (.head _)))),Aj⟩ (Ao (Av (Ao (G (AA () h sb I)))));exact AF (As (Ao (Av (Ao (AA () h sb I)))))
abbrev Tk:=Int×Ah×Int×Int
inductive PV (α:Type) where
 | ok (a:α) (r:List Tk)
 | bad (at_:Int)
def PV.bind {α β:Type} (x:Option (PV α)) (f:α->List Tk->Option (PV β)):Option (PV β) :=
 match x with
 | none=>none
 | some (.ok a r)=>f a r
 | some (.bad i)=>some (.bad i)
def hd (ts:List Tk):Tk:=ts.headD (6,⟨#[]⟩,0,0)
def isT (w:Ah) (t:Tk):Bool:=(t.1 == 2 || t.1 == 5) && t.2.1.toList == w.toList
def Az (w:Ah) (ts:List Tk):Bool:=isT w (hd ts)
def Fw (w:Ah) (ts:List Tk):Option (PV Unit):=if Az w ts then some (.ok () ts.tail) else some (.bad (hd ts).2.2.2)
abbrev EN:Ah:=⟨#[59]⟩
abbrev D0:Ah:=⟨#[44]⟩
abbrev Cb:Ah:=⟨#[61]⟩
abbrev DS:Ah:=⟨#[40]⟩
abbrev CV:Ah:=⟨#[41]⟩
abbrev FQ:Ah:=⟨#[91]⟩
abbrev kRb:Ah:=⟨#[93]⟩
abbrev Kj:Ah:=⟨#[123]⟩
abbrev G_:Ah:=⟨#[125]⟩
abbrev Aib:Ah:=⟨#[46]⟩
abbrev M5:Ah:=⟨#[35]⟩
abbrev IX:Ah:=⟨#[45]⟩
abbrev Jw:Ah:=⟨#[114,101,116,117,114,110]⟩
abbrev Gm:Ah:=⟨#[102,117,110,99,116,105,111,110]⟩
abbrev BM:Ah:=⟨#[101,110,100]⟩
abbrev Ik:Ah:=⟨#[101,108,115,101]⟩
abbrev FP:Ah:=⟨#[101,108,115,101,105,102]⟩
abbrev Dt:Ah:=⟨#[100,111]⟩
abbrev Km:Ah:=⟨#[119,104,105,108,101]⟩
abbrev kIf:Ah:=⟨#[105,102]⟩
abbrev Jx:Ah:=⟨#[116,104,101,110]⟩
abbrev F6:Ah:=⟨#[102,111,114]⟩
abbrev Il:Ah:=⟨#[105,110]⟩
abbrev I4:Ah:=⟨#[108,111,99,97,108]⟩
abbrev Kh:Ah:=⟨#[98,114,101,97,107]⟩
abbrev Kk:Ah:=⟨#[110,105,108]⟩
abbrev Kl:Ah:=⟨#[116,114,117,101]⟩
abbrev Ki:Ah:=⟨#[102,97,108,115,101]⟩
abbrev M6:Ah:=⟨#[110,111,116]⟩
abbrev kOr:Ah:=⟨#[111,114]⟩
abbrev Pe:Ah:=⟨#[97,110,100]⟩
abbrev Ph:Ah:=⟨#[60]⟩
abbrev kGt:Ah:=⟨#[62]⟩
abbrev kLe:Ah:=⟨#[60,61]⟩
abbrev kGe:Ah:=⟨#[62,61]⟩
abbrev Pi:Ah:=⟨#[126,61]⟩
abbrev Pg:Ah:=⟨#[61,61]⟩
abbrev Pf:Ah:=⟨#[46,46]⟩
abbrev Pk:Ah:=⟨#[43]⟩
abbrev Pm:Ah:=⟨#[42]⟩
abbrev Pl:Ah:=⟨#[47,47]⟩
abbrev Pj:Ah:=⟨#[37]⟩
abbrev noB:Ah:=⟨#[]⟩
def I8 (kind:Int) (ts:List Tk):Option (PV Tree) :=
 if (hd ts).1=1 then some (.ok (.mk kind (hd ts).2.1 0 (hd ts).2.2.2 []) ts.tail) else some (.bad (hd ts).2.2.2)
def Gp:Nat->List Tree->List Tk->Option (PV (List Tree))
 | 0,_,_=>none
 | f+1,acc,ts=>if Az D0 ts then PV.bind (I8 6 ts.tail) λn r=>Gp f (acc++[n]) r else some (.ok acc ts)
def ML (f:Nat) (ts:List Tk):Option (PV (List Tree)):=PV.bind (I8 6 ts) λn r=>Gp f [n] r
def Cv (ts:List Tk):Int :=
 if Az kOr ts then 1 else if Az Pe ts then 2
 else if Az Ph ts || Az kGt ts || Az kLe ts || Az kGe ts || Az Pi ts || Az Pg ts then 3
 else if Az Pf ts then 4 else if Az Pk ts || Az IX ts then 5 else if Az Pm ts || Az Pl ts || Az Pj ts then 6 else 0
def IQ (ts:List Tk):Bool:=(hd ts).1 == 6 || Az BM ts || Az Ik ts || Az FP ts
mutual
def Dv:Nat->Int->List Tk->Option (PV Tree)
 | 0,_,_=>none
 | f+1,least,ts=>PV.bind (EQ f ts) λn r=>Fc f least n r
def Fc:Nat->Int->Tree->List Tk->Option (PV Tree)
 | 0,_,_,_=>none
 | f+1,least,n,ts =>
  if Cv ts<=least then some (.ok n ts)
  else PV.bind (Dv f (if Cv ts=4 then 3 else Cv ts) ts.tail) λm r=>Fc f least (.mk 11 (hd ts).2.1 0 n.at_ [n,m]) r
def EQ:Nat->List Tk->Option (PV Tree)
 | 0,_=>none
 | f+1,ts =>
  if (hd ts).1=3 then some (.ok (.mk 4 noB (hd ts).2.2.1 (hd ts).2.2.2 []) ts.tail)
  else if (hd ts).1=4 then some (.ok (.mk 5 (hd ts).2.1 0 (hd ts).2.2.2 []) ts.tail)
  else if Az Kk ts then some (.ok (.mk 1 noB 0 (hd ts).2.2.2 []) ts.tail)
  else if Az Kl ts then some (.ok (.mk 2 noB 0 (hd ts).2.2.2 []) ts.tail)
  else if Az Ki ts then some (.ok (.mk 3 noB 0 (hd ts).2.2.2 []) ts.tail)
  else if Az M6 ts || Az M5 ts || Az IX ts then PV.bind (Dv f 7 ts.tail) λm r=>some (.ok (.mk 10 (hd ts).2.1 0 (hd ts).2.2.2 [m]) r)
  else if Az Kj ts then PV.bind (EP f [] ts.tail) λl r=>some (.ok (.mk 12 noB 0 (hd ts).2.2.2 l) r)
  else E1 f ts
def EP:Nat->List Tree->List Tk->Option (PV (List Tree))
 | 0,_,_=>none
 | f+1,acc,ts =>
  if Az G_ ts then some (.ok acc ts.tail)
  else PV.bind (Fr f ts) λx r =>
   if Az D0 r then EP f (acc++[x]) r.tail
   else if Az EN r then EP f (acc++[x]) r.tail
   else PV.bind (Fw G_ r) λ_ r=>some (.ok (acc++[x]) r)
def Fr:Nat->List Tk->Option (PV Tree)
 | 0,_=>none
 | f+1,ts =>
  if Az FQ ts then
   PV.bind (Dv f 0 ts.tail) λk r=>PV.bind (Fw kRb r) λ_ r=>PV.bind (Fw Cb r) λ_ r=>PV.bind (Dv f 0 r) λv r=>some (.ok (.mk 14 noB 0 (hd ts).2.2.2 [k,v]) r)
  else if (hd ts).1=1/\(hd ts.tail).1=5/\(hd ts.tail).2.1.toList=Cb.toList then
   PV.bind (Dv f 0 ts.tail.tail) λv r=>some (.ok (.mk 14 noB 0 (hd ts).2.2.2 [.mk 5 (hd ts).2.1 0 (hd ts).2.2.2 [],v]) r)
  else PV.bind (Dv f 0 ts) λv r=>some (.ok (.mk 13 noB 0 (hd ts).2.2.2 [v]) r)
def E1:Nat->List Tk->Option (PV Tree)
 | 0,_=>none
 | f+1,ts =>
  if Az DS ts then PV.bind (Dv f 0 ts.tail) λe r=>PV.bind (Fw CV r) λ_ r=>E0 f (hd ts).2.2.2 (.mk 9 noB 0 (hd ts).2.2.2 [e]) r
  else PV.bind (I8 6 ts) λn r=>E0 f (hd ts).2.2.2 n r
def E0:Nat->Int->Tree->List Tk->Option (PV Tree)
 | 0,_,_,_=>none
 | f+1,at_,n,ts =>
  if Az FQ ts then PV.bind (Dv f 0 ts.tail) λe r=>PV.bind (Fw kRb r) λ_ r=>E0 f at_ (.mk 7 noB 0 at_ [n,e]) r
  else if Az Aib ts then PV.bind (I8 5 ts.tail) λe r=>E0 f at_ (.mk 7 noB 0 at_ [n,e]) r
  else if Az DS ts then
   PV.bind (if Az CV ts.tail then some (.ok [] ts.tail) else Ez f ts.tail) λl r=>PV.bind (Fw CV r) λ_ r=>E0 f at_ (.mk 8 noB 0 at_ (n :: l)) r
  else some (.ok n ts)
def Ez:Nat->List Tk->Option (PV (List Tree))
 | 0,_=>none
 | f+1,ts=>PV.bind (Dv f 0 ts) λe r=>Fb f [e] r
def Fb:Nat->List Tree->List Tk->Option (PV (List Tree))
 | 0,_,_=>none
 | f+1,acc,ts=>if Az D0 ts then PV.bind (Dv f 0 ts.tail) λe r=>Fb f (acc++[e]) r else some (.ok acc ts)
end
mutual
def E6:Nat->Bool->List Tk->Option (PV Tree)
 | 0,_,_=>none
 | f+1,chunk,ts=>Ey f chunk (hd ts).2.2.2 [] ts
def Ey:Nat->Bool->Int->List Tree->List Tk->Option (PV Tree)
 | 0,_,_,_,_=>none
 | f+1,chunk,at_,acc,ts =>
  if Az EN ts then Ey f chunk at_ acc ts.tail
  else if Az Jw ts then
   PV.bind (if IQ ts.tail || Az EN ts.tail then some (.ok [] ts.tail) else Ez f ts.tail) λl r =>
    some (.ok (.mk 20 noB 0 at_ (acc++[.mk 30 noB 0 (hd ts).2.2.2 l])) (if Az EN r then r.tail else r))
  else if chunk && Az Gm ts then PV.bind (Ft f ts) λx r=>Ey f chunk at_ (acc++[x]) r
  else if IQ ts then some (.ok (.mk 20 noB 0 at_ acc) ts)
  else PV.bind (Fv f ts) λx r=>Ey f chunk at_ (acc++[x]) r
def Ft:Nat->List Tk->Option (PV Tree)
 | 0,_=>none
 | f+1,ts =>
  PV.bind (I8 6 ts.tail) λnm r=>PV.bind (Fw DS r) λ_ r =>
   PV.bind (if Az CV r then some (.ok [] r) else ML f r) λps r=>PV.bind (Fw CV r) λ_ r =>
    PV.bind (E6 f false r) λb r=>PV.bind (Fw BM r) λ_ r=>some (.ok (.mk 31 nm.text ps.length (hd ts).2.2.2 (ps++[b])) r)
/-- do, a block, end. -/
def E7:Nat->List Tk->Option (PV Tree)
 | 0,_=>none
 | f+1,ts=>PV.bind (Fw Dt ts) λ_ r=>PV.bind (E6 f false r) λb r=>PV.bind (Fw BM r) λ_ r=>some (.ok b r)
def Fv:Nat->List Tk->Option (PV Tree)
 | 0,_=>none
 | f+1,ts =>
  if Az Dt ts then PV.bind (E7 f ts) λb r=>some (.ok (.mk 28 noB 0 (hd ts).2.2.2 [b]) r)
  else if Az Km ts then PV.bind (Dv f 0 ts.tail) λe r=>PV.bind (E7 f r) λb r=>some (.ok (.mk 25 noB 0 (hd ts).2.2.2 [e,b]) r)
  else if Az kIf ts then PV.bind (Fa f [] ts.tail) λl r=>some (.ok (.mk 24 noB 0 (hd ts).2.2.2 l) r)
  else if Az F6 ts then Fs f (hd ts).2.2.2 ts.tail
  else if Az I4 ts then
   PV.bind (ML f ts.tail) λl r=>PV.bind (if Az Cb r then Ez f r.tail else some (.ok [] r)) λes r=>some (.ok (.mk 21 noB l.length (hd ts).2.2.2 (l++es)) r)
  else if Az Kh ts then some (.ok (.mk 29 noB 0 (hd ts).2.2.2 []) ts.tail)
  else Fu f ts
def Fa:Nat->List Tree->List Tk->Option (PV (List Tree))
 | 0,_,_=>none
 | f+1,acc,ts =>
  PV.bind (Dv f 0 ts) λe r=>PV.bind (Fw Jx r) λ_ r=>PV.bind (E6 f false r) λb r =>
   if Az FP r then Fa f (acc++[e]++[b]) r.tail
   else if Az Ik r then PV.bind (E6 f false r.tail) λc r=>PV.bind (Fw BM r) λ_ r=>some (.ok (acc++[e]++[b]++[c]) r)
   else PV.bind (Fw BM r) λ_ r=>some (.ok (acc++[e]++[b]) r)
def Fs:Nat->Int->List Tk->Option (PV Tree)
 | 0,_,_=>none
 | f+1,at_,ts =>
  PV.bind (I8 6 ts) λn r =>
   if Az Cb r then
    PV.bind (Dv f 0 r.tail) λa r=>PV.bind (Fw D0 r) λ_ r=>PV.bind (Dv f 0 r) λb r =>
     PV.bind (if Az D0 r then PV.bind (Dv f 0 r.tail) λc r=>some (.ok [c] r) else some (.ok [] r)) λcs r=>PV.bind (E7 f r) λbd r =>
      some (.ok (.mk 26 noB 0 at_ ([n]++[a]++[b]++cs++[bd])) r)
   else
    PV.bind (Gp f [n] r) λl r=>PV.bind (Fw Il r) λ_ r=>PV.bind (Ez f r) λes r=>PV.bind (E7 f r) λbd r =>
     some (.ok (.mk 27 noB l.length at_ (l++es++[bd])) r)
def Fu:Nat->List Tk->Option (PV Tree)
 | 0,_=>none
 | f+1,ts =>
  PV.bind (E1 f ts) λe r =>
   if Az Cb r || Az D0 r then
    PV.bind (Fe f [] e r) λl r=>PV.bind (Fw Cb r) λ_ r=>PV.bind (Ez f r) λes r=>some (.ok (.mk 22 noB l.length e.at_ (l++es)) r)
   else if e.kind=8 then some (.ok (.mk 23 noB 0 e.at_ [e]) r) else some (.bad (hd r).2.2.2)
/-- The targets of an assignment, from e on. -/
def Fe:Nat->List Tree->Tree->List Tk->Option (PV (List Tree))
 | 0,_,_,_=>none
 | f+1,acc,e,ts =>
  if e.kind=6\/e.kind=7 then
   if Az D0 ts then PV.bind (E1 f ts.tail) λe' r=>Fe f (acc++[e]) e' r else some (.ok (acc++[e]) ts)
  else some (.bad e.at_)
end
def Good:List Tk->Prop
 | []=>False
 | [t]=>t.1=6
 | t :: u :: ts=>t.1≠6/\Good (u :: ts)
theorem Good.tail {ts:List Tk} (h:Good ts) (h6:(hd ts).1≠6):Good ts.tail/\ts.tail.length+1=ts.length/\ts.tail <:+ ts:=by
 cases ts with
 | nil=>exact h.elim
 | cons t ts =>
  cases ts with
  | nil=>exact absurd h h6
  | cons u ts=>exact ⟨h.2,rfl,List.suffix_cons t _⟩
theorem AQ {w:Ah} {ts:List Tk} (h:Az w ts=true):(hd ts).1≠6:=by
 unfold Az isT at h;intro h6;rw [h6] at h;simp at h
def Fwd {α:Type} (n:Nat) (ts:List Tk):PV α->Prop
 | .ok _ r=>Good r/\r.length+n<=ts.length/\r <:+ ts
 | .bad _=>True
def Step {α:Type} (n:Nat) (ts:List Tk) (x:Option (PV α)):Prop:=Good ts->∀ v,x=some v->Fwd n ts v
section
variable {α β:Type} {n m:Nat} {ts:List Tk} {x:Option (PV α)} {f:α->List Tk->Option (PV β)}
theorem bind_some {v:PV β} (h:PV.bind x f=some v):(∃ i,x=some (.bad i)/\v=.bad i)\/∃ a r,x=some (.ok a r)/\f a r=some v:=by
 unfold PV.bind at h;split at h;cases h;exact .inr ⟨_,_,rfl,h⟩;exact .inl ⟨_,rfl,(Ap h).symm⟩
theorem Cc (h1:Step n ts x) (h2:∀ a r,Step m r (f a r)):Step (n+m) ts (PV.bind x f):=λhg v hv=>by
 rcases bind_some hv with ⟨i,_,rfl⟩ | ⟨a,r,hx,hf⟩;trivial;obtain ⟨g1,g2,g3⟩:=h1 hg _ hx;have:=h2 a r g1 v hf;cases v with
 | bad=>trivial
 | ok b s =>
  obtain ⟨g4,g5,g6⟩:=this;exact ⟨g4,by omega,g6.trans g3⟩
theorem CT (h:Step n ts x) (hm:m<=n):Step m ts x:=λhg v hv=>by
 have:=h hg v hv;cases v with
 | bad=>trivial
 | ok b s=>exact ⟨this.1,by have:=this.2.1;omega,this.2.2⟩
theorem step_none:Step n ts (none:Option (PV α)):=λ_ _ h=>by cases h
theorem step_bad {i:Int}:Step n ts (some (.bad i):Option (PV α)):=λ_ _ h=>by cases h;trivial
theorem step_ok {a:α}:Step 0 ts (some (.ok a ts)):=λhg _ h=>by cases h;exact ⟨hg,Nat.le_refl _,List.suffix_refl _⟩
theorem Dx (h6:(hd ts).1≠6) (h:Step m ts.tail x):Step (m+1) ts x:=λhg v hv=>by
 obtain ⟨g1,g2,g3⟩:=hg.tail h6;have:=h g1 v hv;cases v with
 | bad=>trivial
 | ok b s=>exact ⟨this.1,by have:=this.2.1;omega,this.2.2.trans g3⟩
theorem CR {c:Prop} [Decidable c] {y z:Option (PV α)} (h1:c->Step n ts y) (h2:¬ c->Step n ts z):Step n ts (if c then y else z):=by
 by_cases h:c;rw [if_pos h];exact h1 h;rw [if_neg h];exact h2 h
theorem DL (w:Ah) (ts:List Tk):Step 1 ts (Fw w ts):=CR (λh=>Dx (AQ h) step_ok) λ_=>step_bad
theorem IC (k:Int) (ts:List Tk):Step 1 ts (I8 k ts):=CR (λh=>Dx (by omega) step_ok) λ_=>step_bad
theorem S5:∀ (f:Nat) (acc:List Tree) (ts:List Tk),Step 0 ts (Gp f acc ts)
 | 0,_,_=>step_none
 | f+1,acc,ts=>by
  unfold Gp;exact CR (λh=>CT (Dx (AQ h) (Cc (IC 6 _) λ_ _=>S5 f _ _)) (Nat.zero_le _)) λ_=>step_ok
theorem UI (f:Nat) (ts:List Tk):Step 1 ts (ML f ts):=Cc (IC 6 ts) λ_ _=>S5 f _ _
end
structure Avj (f:Nat):Prop where
 exp:∀ least ts,Step 1 ts (Dv f least ts)
 loop:∀ least n ts,Step 0 ts (Fc f least n ts)
 operand:∀ ts,Step 1 ts (EQ f ts)
 fields:∀ acc ts,Step 1 ts (EP f acc ts)
 field:∀ ts,Step 1 ts (Fr f ts)
 DY:∀ ts,Step 1 ts (E1 f ts)
 DP:∀ at_ n ts,Step 0 ts (E0 f at_ n ts)
 Di:∀ ts,Step 1 ts (Ez f ts)
 Gh:∀ acc ts,Step 0 ts (Fb f acc ts)
theorem KY {ts:List Tk} (h:Cv ts≠0):(hd ts).1≠6:=by
 intro h6;have hf:∀ w,Az w ts=false:=λw=>by
  cases hw:Az w ts with
  | false=>rfl
  | true=>exact absurd h6 (AQ hw)
 exact h (by simp [Cv,hf])
theorem Vu (ts:List Tk):0<=Cv ts/\Cv ts<=6:=by
 unfold Cv
 repeat' split
 all_goals omega
theorem Lu:∀ f,Avj f
 | 0=>by constructor <;> intros <;> (first | unfold Dv | unfold Fc | unfold EQ | unfold EP | unfold Fr | unfold E1 | unfold E0 | unfold Ez | unfold Fb) <;> exact step_none
 | f+1=>by
  have ih:=Lu f;constructor;intro least ts;unfold Dv;exact Cc (ih.operand ts) λ_ _=>ih.loop _ _ _;intro least n ts;unfold Fc;refine CR (λ_=>step_ok) λh=>?_;by_cases h0:Cv ts=0
  -- a least below 0 is never asked for; then nothing is eaten
  intro hg v hv;by_cases h6:(hd ts).1=6;rcases bind_some hv with ⟨i,_,rfl⟩ | ⟨a,r,hx,hf⟩;trivial;exfalso;cases ts with
  | nil=>exact hg
  | cons t ts =>
   cases ts with
   | nil =>
    have hx':Dv f (if Cv [t]=4 then 3 else Cv [t]) []=some (.ok a r):=hx;clear hx hf hv;cases f with
    | zero=>unfold Dv at hx';cases hx'
    | succ f =>
     unfold Dv at hx';rcases bind_some hx' with ⟨i,_,he⟩ | ⟨a',r',hx,hf⟩;cases he;cases f with
     | zero=>unfold EQ at hx;cases hx
     | succ f =>
      unfold EQ at hx;simp only [hd,List.headD_nil,Az,isT] at hx;cases f with
      | zero=>unfold E1 at hx;simp at hx
      | succ f=>unfold E1 at hx;simp [Az,isT,hd,I8,PV.bind] at hx
   | cons u ts=>exact hg.1 h6
  exact (CT (Dx h6 (Cc (ih.exp _ _) λ_ _=>ih.loop _ _ _)) (Nat.zero_le _)) hg v hv;exact CT (Dx (KY h0) (Cc (ih.exp _ _) λ_ _=>ih.loop _ _ _)) (Nat.zero_le _);intro ts;unfold EQ;refine CR (λh=>Dx (by omega) step_ok) λ_=>?_;refine CR (λh=>Dx (by omega) step_ok) λ_=>?_;refine CR (λh=>Dx (AQ h) step_ok) λ_=>?_;refine CR (λh=>Dx (AQ h) step_ok) λ_=>?_;refine CR (λh=>Dx (AQ h) step_ok) λ_=>?_;refine CR (λh=>?_) λ_=>?_;have h6:(hd ts).1≠6:=by
   simp only [Bool.or_eq_true] at h;rcases h with (h | h) | h <;> exact AQ h
  exact CT (Dx h6 (Cc (ih.exp _ _) λ_ _=>step_ok)) (by omega);refine CR (λh=>?_) λ_=>?_;exact CT (Dx (AQ h) (Cc (ih.fields _ _) λ_ _=>step_ok)) (by omega);exact ih.DY ts;intro acc ts;unfold EP;refine CR (λh=>Dx (AQ h) step_ok) λ_=>?_;refine CT (Cc (m:=0) (ih.field ts) λx r=>?_) (by omega);refine CR (λh=>CT (Dx (AQ h) (ih.fields _ _)) (by omega)) λ_=>?_;refine CR (λh=>CT (Dx (AQ h) (ih.fields _ _)) (by omega)) λ_=>?_;exact CT (Cc (DL _ _) λ_ _=>step_ok) (by omega);intro ts;unfold Fr;refine CR (λh=>?_) λ_=>?_;exact CT (Dx (AQ h) (Cc (ih.exp _ _) λ_ _=>Cc (DL _ _) λ_ _=>Cc (DL _ _) λ_ _=>Cc (ih.exp _ _) λ_ _=>step_ok)) (by omega);refine CR (λh=>?_) λ_=>?_;obtain ⟨h1,h2,_⟩:=h;exact CT (Dx (by omega) (Dx (by omega) (Cc (ih.exp _ _) λ_ _=>step_ok))) (by omega);exact Cc (ih.exp _ _) λ_ _=>step_ok;intro ts;unfold E1;refine CR (λh=>?_) λ_=>?_;exact CT (Dx (AQ h) (Cc (ih.exp _ _) λ_ _=>Cc (DL _ _) λ_ _=>ih.DP _ _ _)) (by omega);exact Cc (IC _ _) λ_ _=>ih.DP _ _ _;intro at_ n ts;unfold E0;refine CR (λh=>?_) λ_=>?_;exact CT (Dx (AQ h) (Cc (ih.exp _ _) λ_ _=>Cc (DL _ _) λ_ _=>ih.DP _ _ _)) (by omega);refine CR (λh=>?_) λ_=>?_;exact CT (Dx (AQ h) (Cc (IC _ _) λ_ _=>ih.DP _ _ _)) (by omega);refine CR (λh=>?_) λ_=>step_ok;refine CT (Dx (AQ h) (Cc (n:=0) ?_ λ_ _=>Cc (DL _ _) λ_ _=>ih.DP _ _ _)) (by omega);exact CR (λ_=>step_ok) λ_=>CT (ih.Di _) (by omega);intro ts;unfold Ez;exact Cc (ih.exp _ _) λ_ _=>ih.Gh _ _;intro acc ts;unfold Fb;exact CR (λh=>CT (Dx (AQ h) (Cc (ih.exp _ _) λ_ _=>ih.Gh _ _)) (by omega)) λ_=>step_ok
structure Avl (f:Nat):Prop where
 block:∀ c ts,Step 0 ts (E6 f c ts)
 Ep:∀ c at_ acc ts,Step 0 ts (Ey f c at_ acc ts)
 function:∀ ts,(hd ts).1≠6->Step 1 ts (Ft f ts)
 body:∀ ts,Step 1 ts (E7 f ts)
 stat:∀ ts,Step 1 ts (Fv f ts)
 branches:∀ acc ts,Step 1 ts (Fa f acc ts)
 for_:∀ at_ ts,Step 1 ts (Fs f at_ ts)
 plain:∀ ts,Step 1 ts (Fu f ts)
 targets:∀ acc e ts,Step 0 ts (Fe f acc e ts)
theorem stepS:∀ f,Avl f
 | 0=>by constructor <;> intros <;> (first | unfold E6 | unfold Ey | unfold Ft | unfold E7 | unfold Fv | unfold Fa | unfold Fs | unfold Fu | unfold Fe) <;> exact step_none
 | f+1=>by
  have ih:=stepS f;have ie:=Lu f;constructor;intro c ts;unfold E6;exact ih.Ep _ _ _ _;intro c at_ acc ts;unfold Ey;refine CR (λh=>CT (Dx (AQ h) (ih.Ep _ _ _ _)) (by omega)) λ_=>?_;refine CR (λh=>?_) λ_=>?_;refine CT (Dx (AQ h) (Cc (n:=0) (m:=0) ?_ λl r=>?_)) (by omega);exact CR (λ_=>step_ok) λ_=>CT (ie.Di _) (by omega);by_cases h:Az EN r=true;rw [if_pos h];exact CT (Dx (AQ h) step_ok) (by omega);rw [if_neg h];exact step_ok;refine CR (λh=>?_) λ_=>?_;simp only [Bool.and_eq_true] at h;exact CT (Cc (ih.function _ (AQ h.2)) λ_ _=>ih.Ep _ _ _ _) (by omega);refine CR (λ_=>step_ok) λ_=>?_;exact CT (Cc (ih.stat _) λ_ _=>ih.Ep _ _ _ _) (by omega);intro ts h6;unfold Ft;refine CT (Dx h6 (Cc (IC _ _) λ_ _=>Cc (DL _ _) λ_ r=>Cc (n:=0) ?_ λ_ _=>Cc (DL _ _) λ_ _=>Cc (ih.block _ _) λ_ _=>Cc (DL _ _) λ_ _=>step_ok)) (by omega);exact CR (λ_=>step_ok) λ_=>CT (UI f r) (by omega);intro ts;unfold E7;exact CT (Cc (DL _ _) λ_ _=>Cc (ih.block _ _) λ_ _=>Cc (DL _ _) λ_ _=>step_ok) (by omega);intro ts;unfold Fv;refine CR (λh=>Cc (ih.body _) λ_ _=>step_ok) λ_=>?_;refine CR (λh=>CT (Dx (AQ h) (Cc (ie.exp _ _) λ_ _=>Cc (ih.body _) λ_ _=>step_ok)) (by omega)) λ_=>?_;refine CR (λh=>CT (Dx (AQ h) (Cc (ih.branches _ _) λ_ _=>step_ok)) (by omega)) λ_=>?_;refine CR (λh=>CT (Dx (AQ h) (ih.for_ _ _)) (by omega)) λ_=>?_;refine CR (λh=>?_) λ_=>?_;refine CT (Dx (AQ h) (Cc (UI f _) λ_ r=>Cc (n:=0) ?_ λ_ _=>step_ok)) (by omega);exact CR (λh=>CT (Dx (AQ h) (ie.Di _)) (by omega)) λ_=>step_ok;refine CR (λh=>Dx (AQ h) step_ok) λ_=>ih.plain _;intro acc ts;unfold Fa;refine CT (Cc (ie.exp _ _) λ_ _=>Cc (DL _ _) λ_ _=>Cc (m:=0) (ih.block _ _) λ_ r=>?_) (by omega);refine CR (λh=>CT (Dx (AQ h) (ih.branches _ _)) (by omega)) λ_=>?_;refine CR (λh=>CT (Dx (AQ h) (Cc (ih.block _ _) λ_ _=>Cc (DL _ _) λ_ _=>step_ok)) (by omega)) λ_=>?_;exact CT (Cc (DL _ _) λ_ _=>step_ok) (by omega);intro at_ ts;unfold Fs;refine CT (Cc (m:=0) (IC _ _) λn r=>?_) (by omega);refine CR (λh=>?_) λ_=>?_;refine CT (Dx (AQ h) (Cc (ie.exp _ _) λ_ _=>Cc (DL _ _) λ_ _=>Cc (ie.exp _ _) λ_ r=>Cc (n:=0) ?_ λ_ _=>Cc (ih.body _) λ_ _=>step_ok)) (by omega);exact CR (λh=>CT (Dx (AQ h) (Cc (ie.exp _ _) λ_ _=>step_ok)) (by omega)) λ_=>step_ok;exact CT (Cc (S5 _ _ _) λ_ _=>Cc (DL _ _) λ_ _=>Cc (ie.Di _) λ_ _=>Cc (ih.body _) λ_ _=>step_ok) (by omega);intro ts;unfold Fu;refine CT (Cc (m:=0) (ie.DY _) λe r=>?_) (by omega);refine CR (λh=>?_) λ_=>?_;exact CT (Cc (ih.targets _ _ _) λ_ _=>Cc (DL _ _) λ_ _=>Cc (ie.Di _) λ_ _=>step_ok) (by omega);exact CR (λ_=>step_ok) λ_=>step_bad;intro acc e ts;unfold Fe;refine CR (λ_=>?_) λ_=>step_bad;exact CR (λh=>CT (Dx (AQ h) (Cc (ie.DY _) λ_ _=>ih.targets _ _ _)) (by omega)) λ_=>step_ok
theorem Cd {α β:Type} {n:Nat} {ts:List Tk} {x:Option (PV α)} {f:α->List Tk->Option (PV β)} (hg:Good ts) (h1:∃ v,x=some v) (hs:Step n ts x) (h2:∀ a r,Good r->r.length+n<=ts.length->∃ v,f a r=some v):∃ v,PV.bind x f=some v:=by
 obtain ⟨v,rfl⟩:=h1;cases v with
 | bad i=>exact ⟨_,rfl⟩
 | ok a r =>
  obtain ⟨g1,g2,_⟩:=hs hg _ rfl;exact h2 a r g1 g2
theorem Dg {α:Type} {c:Prop} [Decidable c] {y z:Option (PV α)} (h1:c->∃ v,y=some v) (h2:¬ c->∃ v,z=some v):∃ v,(if c then y else z)=some v:=by
 by_cases h:c;rw [if_pos h];exact h1 h;rw [if_neg h];exact h2 h
theorem Hr (w:Ah) (ts:List Tk):∃ v,Fw w ts=some v:=Dg (λ_=>⟨_,rfl⟩) λ_=>⟨_,rfl⟩
theorem O4 (k:Int) (ts:List Tk):∃ v,I8 k ts=some v:=Dg (λ_=>⟨_,rfl⟩) λ_=>⟨_,rfl⟩
theorem PZ:∀ (f:Nat) (acc:List Tree) (ts:List Tk),Good ts->16 * ts.length+1<=f->∃ v,Gp f acc ts=some v
 | 0,_,_,_,h=>by omega
 | f+1,acc,ts,hg,h=>by
  unfold Gp;refine Dg (λhc=>?_) λ_=>⟨_,rfl⟩;obtain ⟨g1,g2,_⟩:=hg.tail (AQ hc);exact Cd g1 (O4 _ _) (IC _ _) λa r hr hl=>PZ f _ r hr (by omega)
structure Avq (f:Nat):Prop where
 exp:∀ least ts,0<=least->Good ts->16 * ts.length+5<=f->∃ v,Dv f least ts=some v
 loop:∀ least n ts,0<=least->Good ts->16 * ts.length+1<=f->∃ v,Fc f least n ts=some v
 operand:∀ ts,Good ts->16 * ts.length+4<=f->∃ v,EQ f ts=some v
 fields:∀ acc ts,Good ts->16 * ts.length+7<=f->∃ v,EP f acc ts=some v
 field:∀ ts,Good ts->16 * ts.length+6<=f->∃ v,Fr f ts=some v
 DY:∀ ts,Good ts->16 * ts.length+3<=f->∃ v,E1 f ts=some v
 DP:∀ at_ n ts,Good ts->16 * ts.length+1<=f->∃ v,E0 f at_ n ts=some v
 Di:∀ ts,Good ts->16 * ts.length+6<=f->∃ v,Ez f ts=some v
 Gh:∀ acc ts,Good ts->16 * ts.length+1<=f->∃ v,Fb f acc ts=some v
theorem FY:∀ f,Avq f
 | 0=>by constructor <;> intros <;> omega
 | f+1=>by
  have ih:=FY f;have st:=Lu f;constructor;intro least ts hl hg h;unfold Dv;exact Cd hg (ih.operand _ hg (by omega)) (st.operand _) λa r hr hn=>ih.loop _ _ _ hl hr (by omega);intro least n ts hl hg h;unfold Fc;refine Dg (λ_=>⟨_,rfl⟩) λhb=>?_;obtain ⟨g1,g2,_⟩:=hg.tail (KY (by omega));exact Cd g1 (ih.exp _ _ (by split <;> omega) g1 (by omega)) (st.exp _ _) λa r hr hn=>ih.loop _ _ _ hl hr (by omega);intro ts hg h;unfold EQ;refine Dg (λ_=>⟨_,rfl⟩) λ_=>Dg (λ_=>⟨_,rfl⟩) λ_=>Dg (λ_=>⟨_,rfl⟩) λ_=>Dg (λ_=>⟨_,rfl⟩) λ_=>Dg (λ_=>⟨_,rfl⟩) λ_=>Dg (λhc=>?_) λ_=>Dg (λhc=>?_) λ_=>ih.DY _ hg (by omega);have h6:(hd ts).1≠6:=by
   simp only [Bool.or_eq_true] at hc;rcases hc with (h | h) | h <;> exact AQ h
  obtain ⟨g1,g2,_⟩:=hg.tail h6;exact Cd g1 (ih.exp _ _ (by omega) g1 (by omega)) (st.exp _ _) λa r _ _=>⟨_,rfl⟩;obtain ⟨g1,g2,_⟩:=hg.tail (AQ hc);exact Cd g1 (ih.fields _ _ g1 (by omega)) (st.fields _ _) λa r _ _=>⟨_,rfl⟩;intro acc ts hg h;unfold EP;refine Dg (λ_=>⟨_,rfl⟩) λ_=>Cd hg (ih.field _ hg (by omega)) (st.field _) λx r hr hn=>?_;refine Dg (λhc=>?_) λ_=>Dg (λhc=>?_) λ_=>Cd hr (Hr _ _) (DL _ _) λ_ _ _ _=>⟨_,rfl⟩;obtain ⟨g1,g2,_⟩:=hr.tail (AQ hc);exact ih.fields _ _ g1 (by omega);obtain ⟨g1,g2,_⟩:=hr.tail (AQ hc);exact ih.fields _ _ g1 (by omega);intro ts hg h;unfold Fr;refine Dg (λhc=>?_) λ_=>Dg (λhc=>?_) λ_=>Cd hg (ih.exp _ _ (by omega) hg (by omega)) (st.exp _ _) λ_ _ _ _=>⟨_,rfl⟩;obtain ⟨g1,g2,_⟩:=hg.tail (AQ hc);exact Cd g1 (ih.exp _ _ (by omega) g1 (by omega)) (st.exp _ _) λ_ r hr hn=>Cd hr (Hr _ _) (DL _ _) λ_ r2 hr2 hn2=>Cd hr2 (Hr _ _) (DL _ _) λ_ r3 hr3 hn3=>Cd hr3 (ih.exp _ _ (by omega) hr3 (by omega)) (st.exp _ _) λ_ _ _ _=>⟨_,rfl⟩;obtain ⟨h1,h2,_⟩:=hc;obtain ⟨g1,g2,_⟩:=hg.tail (by omega);obtain ⟨g3,g4,_⟩:=g1.tail (by omega);exact Cd g3 (ih.exp _ _ (by omega) g3 (by omega)) (st.exp _ _) λ_ _ _ _=>⟨_,rfl⟩;intro ts hg h;unfold E1;refine Dg (λhc=>?_) λ_=>Cd hg (O4 _ _) (IC _ _) λ_ r hr hn=>ih.DP _ _ _ hr (by omega);obtain ⟨g1,g2,_⟩:=hg.tail (AQ hc);exact Cd g1 (ih.exp _ _ (by omega) g1 (by omega)) (st.exp _ _) λ_ r hr hn=>Cd hr (Hr _ _) (DL _ _) λ_ r2 hr2 hn2=>ih.DP _ _ _ hr2 (by omega);intro at_ n ts hg h;unfold E0;refine Dg (λhc=>?_) λ_=>Dg (λhc=>?_) λ_=>Dg (λhc=>?_) λ_=>⟨_,rfl⟩;obtain ⟨g1,g2,_⟩:=hg.tail (AQ hc);exact Cd g1 (ih.exp _ _ (by omega) g1 (by omega)) (st.exp _ _) λ_ r hr hn=>Cd hr (Hr _ _) (DL _ _) λ_ r2 hr2 hn2=>ih.DP _ _ _ hr2 (by omega);obtain ⟨g1,g2,_⟩:=hg.tail (AQ hc);exact Cd g1 (O4 _ _) (IC _ _) λ_ r hr hn=>ih.DP _ _ _ hr (by omega);obtain ⟨g1,g2,_⟩:=hg.tail (AQ hc);exact Cd (n:=0) g1 (Dg (λ_=>⟨_,rfl⟩) λ_=>ih.Di _ g1 (by omega)) (CR (λ_=>step_ok) λ_=>CT (st.Di _) (by omega)) λ_ r hr hn=>Cd hr (Hr _ _) (DL _ _) λ_ r2 hr2 hn2=>ih.DP _ _ _ hr2 (by omega);intro ts hg h;unfold Ez;exact Cd hg (ih.exp _ _ (by omega) hg (by omega)) (st.exp _ _) λ_ r hr hn=>ih.Gh _ _ hr (by omega);intro acc ts hg h;unfold Fb;refine Dg (λhc=>?_) λ_=>⟨_,rfl⟩;obtain ⟨g1,g2,_⟩:=hg.tail (AQ hc);exact Cd g1 (ih.exp _ _ (by omega) g1 (by omega)) (st.exp _ _) λ_ r hr hn=>ih.Gh _ _ hr (by omega)
structure Avr (f:Nat):Prop where
 block:∀ c ts,Good ts->16 * ts.length+9<=f->∃ v,E6 f c ts=some v
 Ep:∀ c at_ acc ts,Good ts->16 * ts.length+8<=f->∃ v,Ey f c at_ acc ts=some v
 function:∀ ts,(hd ts).1≠6->Good ts->16 * ts.length+7<=f->∃ v,Ft f ts=some v
 body:∀ ts,Good ts->16 * ts.length+6<=f->∃ v,E7 f ts=some v
 stat:∀ ts,Good ts->16 * ts.length+7<=f->∃ v,Fv f ts=some v
 branches:∀ acc ts,Good ts->16 * ts.length+6<=f->∃ v,Fa f acc ts=some v
 for_:∀ at_ ts,Good ts->16 * ts.length+1<=f->∃ v,Fs f at_ ts=some v
 plain:∀ ts,Good ts->16 * ts.length+6<=f->∃ v,Fu f ts=some v
 targets:∀ acc e ts,Good ts->16 * ts.length+1<=f->∃ v,Fe f acc e ts=some v
theorem Gx:∀ f,Avr f
 | 0=>by constructor <;> intros <;> omega
 | f+1=>by
  have ih:=Gx f;have ie:=FY f;have se:=Lu f;have ss:=stepS f;constructor;intro c ts hg h;unfold E6;exact ih.Ep _ _ _ _ hg (by omega);intro c at_ acc ts hg h;unfold Ey;refine Dg (λhc=>?_) λ_=>Dg (λhc=>?_) λ_=>Dg (λhc=>?_) λ_=>Dg (λ_=>⟨_,rfl⟩) λ_=>?_;obtain ⟨g1,g2,_⟩:=hg.tail (AQ hc);exact ih.Ep _ _ _ _ g1 (by omega);obtain ⟨g1,g2,_⟩:=hg.tail (AQ hc);exact Cd (n:=0) g1 (Dg (λ_=>⟨_,rfl⟩) λ_=>ie.Di _ g1 (by omega)) (CR (λ_=>step_ok) λ_=>CT (se.Di _) (by omega)) λ_ r hr hn=>⟨_,rfl⟩;simp only [Bool.and_eq_true] at hc;exact Cd hg (ih.function _ (AQ hc.2) hg (by omega)) (ss.function _ (AQ hc.2)) λ_ r hr hn=>ih.Ep _ _ _ _ hr (by omega);exact Cd hg (ih.stat _ hg (by omega)) (ss.stat _) λ_ r hr hn=>ih.Ep _ _ _ _ hr (by omega);intro ts h6 hg h;unfold Ft;obtain ⟨g1,g2,_⟩:=hg.tail h6;exact Cd g1 (O4 _ _) (IC _ _) λ_ r hr hn=>Cd hr (Hr _ _) (DL _ _) λ_ r2 hr2 hn2 =>
   Cd (n:=0) hr2 (Dg (λ_=>⟨_,rfl⟩) λ_=>Cd hr2 (O4 _ _) (IC _ _) λ_ r hr hn=>PZ _ _ _ hr (by omega)) (CR (λ_=>step_ok) λ_=>CT (UI f r2) (by omega)) λ_ r3 hr3 hn3 =>
    Cd hr3 (Hr _ _) (DL _ _) λ_ r4 hr4 hn4=>Cd hr4 (ih.block _ _ hr4 (by omega)) (ss.block _ _) λ_ r5 hr5 hn5=>Cd hr5 (Hr _ _) (DL _ _) λ_ _ _ _=>⟨_,rfl⟩
  intro ts hg h;unfold E7;exact Cd hg (Hr _ _) (DL _ _) λ_ r hr hn=>Cd hr (ih.block _ _ hr (by omega)) (ss.block _ _) λ_ r5 hr5 hn5=>Cd hr5 (Hr _ _) (DL _ _) λ_ _ _ _=>⟨_,rfl⟩;intro ts hg h;unfold Fv;refine Dg (λhc=>?_) λ_=>Dg (λhc=>?_) λ_=>Dg (λhc=>?_) λ_=>Dg (λhc=>?_) λ_=>Dg (λhc=>?_) λ_=>Dg (λhc=>⟨_,rfl⟩) λ_=>ih.plain _ hg (by omega);exact Cd hg (ih.body _ hg (by omega)) (ss.body _) λ_ _ _ _=>⟨_,rfl⟩;obtain ⟨g1,g2,_⟩:=hg.tail (AQ hc);exact Cd g1 (ie.exp _ _ (by omega) g1 (by omega)) (se.exp _ _) λ_ r hr hn=>Cd hr (ih.body _ hr (by omega)) (ss.body _) λ_ _ _ _=>⟨_,rfl⟩;obtain ⟨g1,g2,_⟩:=hg.tail (AQ hc);exact Cd g1 (ih.branches _ _ g1 (by omega)) (ss.branches _ _) λ_ _ _ _=>⟨_,rfl⟩;obtain ⟨g1,g2,_⟩:=hg.tail (AQ hc);exact ih.for_ _ _ g1 (by omega);obtain ⟨g1,g2,_⟩:=hg.tail (AQ hc);refine Cd g1 (Cd g1 (O4 _ _) (IC _ _) λ_ r hr hn=>PZ _ _ _ hr (by omega)) (UI f _) λ_ r hr hn=>?_;refine Cd (n:=0) hr (Dg (λhc=>?_) λ_=>⟨_,rfl⟩) (CR (λh=>CT (Dx (AQ h) (se.Di _)) (by omega)) λ_=>step_ok) λ_ _ _ _=>⟨_,rfl⟩;obtain ⟨g3,g4,_⟩:=hr.tail (AQ hc);exact ie.Di _ g3 (by omega);intro acc ts hg h;unfold Fa;refine Cd hg (ie.exp _ _ (by omega) hg (by omega)) (se.exp _ _) λ_ r hr hn=>Cd hr (Hr _ _) (DL _ _) λ_ r2 hr2 hn2=>Cd hr2 (ih.block _ _ hr2 (by omega)) (ss.block _ _) λ_ r3 hr3 hn3=>?_;refine Dg (λhc=>?_) λ_=>Dg (λhc=>?_) λ_=>Cd hr3 (Hr _ _) (DL _ _) λ_ _ _ _=>⟨_,rfl⟩;obtain ⟨g1,g2,_⟩:=hr3.tail (AQ hc);exact ih.branches _ _ g1 (by omega);obtain ⟨g1,g2,_⟩:=hr3.tail (AQ hc);exact Cd g1 (ih.block _ _ g1 (by omega)) (ss.block _ _) λ_ r4 hr4 hn4=>Cd hr4 (Hr _ _) (DL _ _) λ_ _ _ _=>⟨_,rfl⟩;intro at_ ts hg h;unfold Fs;refine Cd hg (O4 _ _) (IC _ _) λn r hr hn=>Dg (λhc=>?_) λ_=>?_;obtain ⟨g1,g2,_⟩:=hr.tail (AQ hc);refine Cd g1 (ie.exp _ _ (by omega) g1 (by omega)) (se.exp _ _) λ_ r2 hr2 hn2=>Cd hr2 (Hr _ _) (DL _ _) λ_ r3 hr3 hn3=>Cd hr3 (ie.exp _ _ (by omega) hr3 (by omega)) (se.exp _ _) λ_ r4 hr4 hn4=>?_;refine Cd (n:=0) hr4 (Dg (λhc=>?_) λ_=>⟨_,rfl⟩) (CR (λh=>CT (Dx (AQ h) (Cc (se.exp _ _) λ_ _=>step_ok)) (by omega)) λ_=>step_ok) λ_ r5 hr5 hn5=>Cd hr5 (ih.body _ hr5 (by omega)) (ss.body _) λ_ _ _ _=>⟨_,rfl⟩;obtain ⟨g3,g4,_⟩:=hr4.tail (AQ hc);exact Cd g3 (ie.exp _ _ (by omega) g3 (by omega)) (se.exp _ _) λ_ _ _ _=>⟨_,rfl⟩;exact Cd hr (PZ _ _ _ hr (by omega)) (S5 _ _ _) λ_ r2 hr2 hn2=>Cd hr2 (Hr _ _) (DL _ _) λ_ r3 hr3 hn3=>Cd hr3 (ie.Di _ hr3 (by omega)) (se.Di _) λ_ r4 hr4 hn4=>Cd hr4 (ih.body _ hr4 (by omega)) (ss.body _) λ_ _ _ _=>⟨_,rfl⟩;intro ts hg h;unfold Fu;refine Cd hg (ie.DY _ hg (by omega)) (se.DY _) λe r hr hn=>Dg (λhc=>?_) λ_=>Dg (λ_=>⟨_,rfl⟩) λ_=>⟨_,rfl⟩;exact Cd hr (ih.targets _ _ _ hr (by omega)) (ss.targets _ _ _) λ_ r2 hr2 hn2=>Cd hr2 (Hr _ _) (DL _ _) λ_ r3 hr3 hn3=>Cd hr3 (ie.Di _ hr3 (by omega)) (se.Di _) λ_ _ _ _=>⟨_,rfl⟩;intro acc e ts hg h;unfold Fe;refine Dg (λ_=>Dg (λhc=>?_) λ_=>⟨_,rfl⟩) λ_=>⟨_,rfl⟩;obtain ⟨g1,g2,_⟩:=hg.tail (AQ hc);exact Cd g1 (ie.DY _ g1 (by omega)) (se.DY _) λ_ r hr hn=>ih.targets _ _ _ hr (by omega)
def Le {α:Type} (x y:Option α):Prop:=∀ v,x=some v->y=some v
section
variable {α β:Type}
theorem Le.refl (x:Option α):Le x x:=λ_ h=>h
theorem Le.none (x:Option α):Le none x:=λ_ h=>by cases h
theorem Le.trans {x y z:Option α} (h1:Le x y) (h2:Le y z):Le x z:=λv h=>h2 v (h1 v h)
theorem Le.bind {x y:Option (PV α)} {f g:α->List Tk->Option (PV β)} (h:Le x y) (hf:∀ a r,Le (f a r) (g a r)):Le (PV.bind x f) (PV.bind y g):=λv hv=>by
 rcases bind_some hv with ⟨i,hx,rfl⟩ | ⟨a,r,hx,h2⟩;rw [h _ hx];rfl;rw [h _ hx];exact hf a r _ h2
theorem Le.ite {c:Prop} [Decidable c] {x y x' y':Option α} (h1:Le x x') (h2:Le y y'):Le (if c then x else y) (if c then x' else y'):=by
 by_cases h:c;rw [if_pos h,if_pos h];exact h1;rw [if_neg h,if_neg h];exact h2
end
theorem Us:∀ (f:Nat) (acc:List Tree) (ts:List Tk),Le (Gp f acc ts) (Gp (f+1) acc ts)
 | 0,_,_=>Le.none _
 | f+1,acc,ts=>by
  rw [Gp,Gp];exact Le.ite (Le.bind (Le.refl _) λ_ _=>Us f _ _) (Le.refl _)
theorem Akb (f:Nat) (ts:List Tk):Le (ML f ts) (ML (f+1) ts):=Le.bind (Le.refl _) λ_ _=>Us f _ _
structure LeE (f:Nat):Prop where
 exp:∀ least ts,Le (Dv f least ts) (Dv (f+1) least ts)
 loop:∀ least n ts,Le (Fc f least n ts) (Fc (f+1) least n ts)
 operand:∀ ts,Le (EQ f ts) (EQ (f+1) ts)
 fields:∀ acc ts,Le (EP f acc ts) (EP (f+1) acc ts)
 field:∀ ts,Le (Fr f ts) (Fr (f+1) ts)
 DY:∀ ts,Le (E1 f ts) (E1 (f+1) ts)
 DP:∀ at_ n ts,Le (E0 f at_ n ts) (E0 (f+1) at_ n ts)
 Di:∀ ts,Le (Ez f ts) (Ez (f+1) ts)
 Gh:∀ acc ts,Le (Fb f acc ts) (Fb (f+1) acc ts)
theorem Kq:∀ f,LeE f
 | 0=>by constructor <;> intros <;> (first | rw [Dv] | rw [Fc] | rw [EQ] | rw [EP] | rw [Fr] | rw [E1] | rw [E0] | rw [Ez] | rw [Fb]) <;> exact Le.none _
 | f+1=>by
  have ih:=Kq f;constructor;intro least ts;rw [Dv,Dv];exact Le.bind (ih.operand _) λ_ _=>ih.loop _ _ _;intro least n ts;rw [Fc,Fc];exact Le.ite (Le.refl _) (Le.bind (ih.exp _ _) λ_ _=>ih.loop _ _ _);intro ts;rw [EQ,EQ];exact Le.ite (Le.refl _) (Le.ite (Le.refl _) (Le.ite (Le.refl _) (Le.ite (Le.refl _) (Le.ite (Le.refl _) (Le.ite (Le.bind (ih.exp _ _) λ_ _=>Le.refl _) (Le.ite (Le.bind (ih.fields _ _) λ_ _=>Le.refl _) (ih.DY _)))))));intro acc ts;rw [EP,EP];exact Le.ite (Le.refl _) (Le.bind (ih.field _) λ_ _=>Le.ite (ih.fields _ _) (Le.ite (ih.fields _ _) (Le.refl _)));intro ts;rw [Fr,Fr];exact Le.ite (Le.bind (ih.exp _ _) λ_ _=>Le.bind (Le.refl _) λ_ _=>Le.bind (Le.refl _) λ_ _=>Le.bind (ih.exp _ _) λ_ _=>Le.refl _) (Le.ite (Le.bind (ih.exp _ _) λ_ _=>Le.refl _) (Le.bind (ih.exp _ _) λ_ _=>Le.refl _));intro ts;rw [E1,E1];exact Le.ite (Le.bind (ih.exp _ _) λ_ _=>Le.bind (Le.refl _) λ_ _=>ih.DP _ _ _) (Le.bind (Le.refl _) λ_ _=>ih.DP _ _ _);intro at_ n ts;rw [E0,E0];exact Le.ite (Le.bind (ih.exp _ _) λ_ _=>Le.bind (Le.refl _) λ_ _=>ih.DP _ _ _) (Le.ite (Le.bind (Le.refl _) λ_ _=>ih.DP _ _ _) (Le.ite (Le.bind (Le.ite (Le.refl _) (ih.Di _)) λ_ _=>Le.bind (Le.refl _) λ_ _=>ih.DP _ _ _) (Le.refl _)));intro ts;rw [Ez,Ez];exact Le.bind (ih.exp _ _) λ_ _=>ih.Gh _ _;intro acc ts;rw [Fb,Fb];exact Le.ite (Le.bind (ih.exp _ _) λ_ _=>ih.Gh _ _) (Le.refl _)
structure LeS (f:Nat):Prop where
 block:∀ c ts,Le (E6 f c ts) (E6 (f+1) c ts)
 Ep:∀ c at_ acc ts,Le (Ey f c at_ acc ts) (Ey (f+1) c at_ acc ts)
 function:∀ ts,Le (Ft f ts) (Ft (f+1) ts)
 body:∀ ts,Le (E7 f ts) (E7 (f+1) ts)
 stat:∀ ts,Le (Fv f ts) (Fv (f+1) ts)
 branches:∀ acc ts,Le (Fa f acc ts) (Fa (f+1) acc ts)
 for_:∀ at_ ts,Le (Fs f at_ ts) (Fs (f+1) at_ ts)
 plain:∀ ts,Le (Fu f ts) (Fu (f+1) ts)
 targets:∀ acc e ts,Le (Fe f acc e ts) (Fe (f+1) acc e ts)
theorem leS:∀ f,LeS f
 | 0=>by constructor <;> intros <;> (first | rw [E6] | rw [Ey] | rw [Ft] | rw [E7] | rw [Fv] | rw [Fa] | rw [Fs] | rw [Fu] | rw [Fe]) <;> exact Le.none _
 | f+1=>by
  have ih:=leS f;have ie:=Kq f;constructor;intro c ts;rw [E6,E6];exact ih.Ep _ _ _ _;intro c at_ acc ts;rw [Ey,Ey];exact Le.ite (ih.Ep _ _ _ _) (Le.ite (Le.bind (Le.ite (Le.refl _) (ie.Di _)) λ_ _=>Le.refl _) (Le.ite (Le.bind (ih.function _) λ_ _=>ih.Ep _ _ _ _) (Le.ite (Le.refl _) (Le.bind (ih.stat _) λ_ _=>ih.Ep _ _ _ _))));intro ts;rw [Ft,Ft];exact Le.bind (Le.refl _) λ_ _=>Le.bind (Le.refl _) λ_ _=>Le.bind (Le.ite (Le.refl _) (Akb _ _)) λ_ _=>Le.bind (Le.refl _) λ_ _=>Le.bind (ih.block _ _) λ_ _=>Le.refl _;intro ts;rw [E7,E7];exact Le.bind (Le.refl _) λ_ _=>Le.bind (ih.block _ _) λ_ _=>Le.refl _;intro ts;rw [Fv,Fv];exact Le.ite (Le.bind (ih.body _) λ_ _=>Le.refl _) (Le.ite (Le.bind (ie.exp _ _) λ_ _=>Le.bind (ih.body _) λ_ _=>Le.refl _) (Le.ite (Le.bind (ih.branches _ _) λ_ _=>Le.refl _) (Le.ite (ih.for_ _ _) (Le.ite (Le.bind (Akb _ _) λ_ _=>Le.bind (Le.ite (ie.Di _) (Le.refl _)) λ_ _=>Le.refl _) (Le.ite (Le.refl _) (ih.plain _))))));intro acc ts;rw [Fa,Fa];exact Le.bind (ie.exp _ _) λ_ _=>Le.bind (Le.refl _) λ_ _=>Le.bind (ih.block _ _) λ_ _=>Le.ite (ih.branches _ _) (Le.ite (Le.bind (ih.block _ _) λ_ _=>Le.refl _) (Le.refl _));intro at_ ts;rw [Fs,Fs];exact Le.bind (Le.refl _) λ_ _=>Le.ite (Le.bind (ie.exp _ _) λ_ _=>Le.bind (Le.refl _) λ_ _=>Le.bind (ie.exp _ _) λ_ _=>Le.bind (Le.ite (Le.bind (ie.exp _ _) λ_ _=>Le.refl _) (Le.refl _)) λ_ _=>Le.bind (ih.body _) λ_ _=>Le.refl _) (Le.bind (Us _ _ _) λ_ _=>Le.bind (Le.refl _) λ_ _=>Le.bind (ie.Di _) λ_ _=>Le.bind (ih.body _) λ_ _=>Le.refl _);intro ts;rw [Fu,Fu];exact Le.bind (ie.DY _) λ_ _=>Le.ite (Le.bind (ih.targets _ _ _) λ_ _=>Le.bind (Le.refl _) λ_ _=>Le.bind (ie.Di _) λ_ _=>Le.refl _) (Le.refl _);intro acc e ts;rw [Fe,Fe];exact Le.ite (Le.ite (Le.bind (ie.DY _) λ_ _=>ih.targets _ _ _) (Le.refl _)) (Le.refl _)
theorem Akc {α:Type} {p:Nat->Option α} (h:∀ f,Le (p f) (p (f+1))) {f f':Nat} (h0:f<=f'):Le (p f) (p f'):=by
 induction f' with
 | zero=>rw [Nat.le_zero.1 h0];exact Le.refl _
 | succ f' ih =>
  rcases Nat.lt_or_ge f (f'+1) with h1 | h1;exact (ih (by omega)).trans (h f');rw [show f=f'+1 by omega];exact Le.refl _
def val {α:Type} (x:Option (PV α)):PV α:=x.getD (.bad 0)
def fu (ts:List Tk):Nat:=16 * ts.length+16
theorem Gy {α:Type} {p:Nat->Option (PV α)} (h:∀ f,Le (p f) (p (f+1))) {f f0:Nat} (h1:∃ v,p f=some v) (h2:∃ v,p f0=some v):p f=some (val (p f0)):=by
 obtain ⟨v,hv⟩:=h1;obtain ⟨v0,hv0⟩:=h2;rcases Nat.le_total f f0 with h' | h';have:=Akc h h' v hv;rw [hv,this];rfl;have:=Akc h h' v0 hv0;rw [this,hv0];rfl
def Jj (acc:List Tree) (ts:List Tk):PV (List Tree):=val (Gp (fu ts) acc ts)
def DM (least:Int) (ts:List Tk):PV Tree:=val (Dv (fu ts) least ts)
def ID (least:Int) (n:Tree) (ts:List Tk):PV Tree:=val (Fc (fu ts) least n ts)
def Jk (ts:List Tk):PV Tree:=val (EQ (fu ts) ts)
def JL (acc:List Tree) (ts:List Tk):PV (List Tree):=val (EP (fu ts) acc ts)
def MY (ts:List Tk):PV Tree:=val (Fr (fu ts) ts)
def Iw (ts:List Tk):PV Tree:=val (E1 (fu ts) ts)
def Jl (at_:Int) (n:Tree) (ts:List Tk):PV Tree:=val (E0 (fu ts) at_ n ts)
def Fz (ts:List Tk):PV (List Tree):=val (Ez (fu ts) ts)
def O6 (acc:List Tree) (ts:List Tk):PV (List Tree):=val (Fb (fu ts) acc ts)
def Fi (c:Bool) (ts:List Tk):PV Tree:=val (E6 (fu ts) c ts)
def Ji (c:Bool) (at_:Int) (acc:List Tree) (ts:List Tk):PV Tree:=val (Ey (fu ts) c at_ acc ts)
def P_ (ts:List Tk):PV Tree:=val (Ft (fu ts) ts)
def Iv (ts:List Tk):PV Tree:=val (E7 (fu ts) ts)
def Mk (ts:List Tk):PV Tree:=val (Fv (fu ts) ts)
def Mj (acc:List Tree) (ts:List Tk):PV (List Tree):=val (Fa (fu ts) acc ts)
def O7 (at_:Int) (ts:List Tk):PV Tree:=val (Fs (fu ts) at_ ts)
def O8 (ts:List Tk):PV Tree:=val (Fu (fu ts) ts)
def O9 (acc:List Tree) (e:Tree) (ts:List Tk):PV (List Tree):=val (Fe (fu ts) acc e ts)
def CK (w:Ah) (ts:List Tk):PV Unit:=if Az w ts then .ok () ts.tail else .bad (hd ts).2.2.2
def FZ (kind:Int) (ts:List Tk):PV Tree:=if (hd ts).1=1 then .ok (.mk kind (hd ts).2.1 0 (hd ts).2.2.2 []) ts.tail else .bad (hd ts).2.2.2
section
variable {ts:List Tk} {f:Nat}
theorem GA (w:Ah) (ts:List Tk):Fw w ts=some (CK w ts):=by unfold Fw CK;split <;> rfl
theorem Oo (k:Int) (ts:List Tk):I8 k ts=some (FZ k ts):=by unfold I8 FZ;split <;> rfl
theorem Sj (acc:List Tree) (hg:Good ts) (hf:16 * ts.length+1<=f):Gp f acc ts=some (Jj acc ts):=Gy (p:=λf=>Gp f acc ts) (λf=>Us f acc ts) (PZ _ _ _ hg hf) (PZ _ _ _ hg (by unfold fu;omega))
theorem Hc {least:Int} (hl:0<=least) (hg:Good ts) (hf:16 * ts.length+5<=f):Dv f least ts=some (DM least ts):=Gy (p:=λf=>Dv f least ts) (λf=>(Kq f).exp _ _) ((FY _).exp _ _ hl hg hf) ((FY _).exp _ _ hl hg (by unfold fu;omega))
theorem Y9 {least:Int} (n:Tree) (hl:0<=least) (hg:Good ts) (hf:16 * ts.length+1<=f):Fc f least n ts=some (ID least n ts):=Gy (p:=λf=>Fc f least n ts) (λf=>(Kq f).loop _ _ _) ((FY _).loop _ _ _ hl hg hf) ((FY _).loop _ _ _ hl hg (by unfold fu;omega))
theorem YA (hg:Good ts) (hf:16 * ts.length+4<=f):EQ f ts=some (Jk ts):=Gy (p:=λf=>EQ f ts) (λf=>(Kq f).operand _) ((FY _).operand _ hg hf) ((FY _).operand _ hg (by unfold fu;omega))
theorem Si (acc:List Tree) (hg:Good ts) (hf:16 * ts.length+7<=f):EP f acc ts=some (JL acc ts):=Gy (p:=λf=>EP f acc ts) (λf=>(Kq f).fields _ _) ((FY _).fields _ _ hg hf) ((FY _).fields _ _ hg (by unfold fu;omega))
theorem Y7 (hg:Good ts) (hf:16 * ts.length+6<=f):Fr f ts=some (MY ts):=Gy (p:=λf=>Fr f ts) (λf=>(Kq f).field _) ((FY _).field _ hg hf) ((FY _).field _ hg (by unfold fu;omega))
theorem Sk (hg:Good ts) (hf:16 * ts.length+3<=f):E1 f ts=some (Iw ts):=Gy (p:=λf=>E1 f ts) (λf=>(Kq f).DY _) ((FY _).DY _ hg hf) ((FY _).DY _ hg (by unfold fu;omega))
theorem P8 (at_:Int) (n:Tree) (hg:Good ts) (hf:16 * ts.length+1<=f):E0 f at_ n ts=some (Jl at_ n ts):=Gy (p:=λf=>E0 f at_ n ts) (λf=>(Kq f).DP _ _ _) ((FY _).DP _ _ _ hg hf) ((FY _).DP _ _ _ hg (by unfold fu;omega))
theorem Om (hg:Good ts) (hf:16 * ts.length+6<=f):Ez f ts=some (Fz ts):=Gy (p:=λf=>Ez f ts) (λf=>(Kq f).Di _) ((FY _).Di _ hg hf) ((FY _).Di _ hg (by unfold fu;omega))
theorem Y6 (acc:List Tree) (hg:Good ts) (hf:16 * ts.length+1<=f):Fb f acc ts=some (O6 acc ts):=Gy (p:=λf=>Fb f acc ts) (λf=>(Kq f).Gh _ _) ((FY _).Gh _ _ hg hf) ((FY _).Gh _ _ hg (by unfold fu;omega))
theorem Ol (c:Bool) (hg:Good ts) (hf:16 * ts.length+9<=f):E6 f c ts=some (Fi c ts):=Gy (p:=λf=>E6 f c ts) (λf=>(leS f).block _ _) ((Gx _).block _ _ hg hf) ((Gx _).block _ _ hg (by unfold fu;omega))
theorem Sh (c:Bool) (at_:Int) (acc:List Tree) (hg:Good ts) (hf:16 * ts.length+8<=f):Ey f c at_ acc ts=some (Ji c at_ acc ts):=Gy (p:=λf=>Ey f c at_ acc ts) (λf=>(leS f).Ep _ _ _ _) ((Gx _).Ep _ _ _ _ hg hf) ((Gx _).Ep _ _ _ _ hg (by unfold fu;omega))
theorem Y8 (h6:(hd ts).1≠6) (hg:Good ts) (hf:16 * ts.length+7<=f):Ft f ts=some (P_ ts):=Gy (p:=λf=>Ft f ts) (λf=>(leS f).function _) ((Gx _).function _ h6 hg hf) ((Gx _).function _ h6 hg (by unfold fu;omega))
theorem P7 (hg:Good ts) (hf:16 * ts.length+6<=f):E7 f ts=some (Iv ts):=Gy (p:=λf=>E7 f ts) (λf=>(leS f).body _) ((Gx _).body _ hg hf) ((Gx _).body _ hg (by unfold fu;omega))
theorem YB (hg:Good ts) (hf:16 * ts.length+7<=f):Fv f ts=some (Mk ts):=Gy (p:=λf=>Fv f ts) (λf=>(leS f).stat _) ((Gx _).stat _ hg hf) ((Gx _).stat _ hg (by unfold fu;omega))
theorem Ux (acc:List Tree) (hg:Good ts) (hf:16 * ts.length+6<=f):Fa f acc ts=some (Mj acc ts):=Gy (p:=λf=>Fa f acc ts) (λf=>(leS f).branches _ _) ((Gx _).branches _ _ hg hf) ((Gx _).branches _ _ hg (by unfold fu;omega))
theorem Alk (at_:Int) (hg:Good ts) (hf:16 * ts.length+1<=f):Fs f at_ ts=some (O7 at_ ts):=Gy (p:=λf=>Fs f at_ ts) (λf=>(leS f).for_ _ _) ((Gx _).for_ _ _ hg hf) ((Gx _).for_ _ _ hg (by unfold fu;omega))
theorem Alp (hg:Good ts) (hf:16 * ts.length+6<=f):Fu f ts=some (O8 ts):=Gy (p:=λf=>Fu f ts) (λf=>(leS f).plain _) ((Gx _).plain _ hg hf) ((Gx _).plain _ hg (by unfold fu;omega))
theorem Uy (acc:List Tree) (e:Tree) (hg:Good ts) (hf:16 * ts.length+1<=f):Fe f acc e ts=some (O9 acc e ts):=Gy (p:=λf=>Fe f acc e ts) (λf=>(leS f).targets _ _ _) ((Gx _).targets _ _ _ hg hf) ((Gx _).targets _ _ _ hg (by unfold fu;omega))
theorem C3 (w:Ah) (hg:Good ts):Fwd 1 ts (CK w ts):=DL w ts hg _ (GA w ts)
theorem fName (k:Int) (hg:Good ts):Fwd 1 ts (FZ k ts):=IC k ts hg _ (Oo k ts)
theorem Adu (acc:List Tree) (hg:Good ts):Fwd 0 ts (Jj acc ts):=S5 _ _ ts hg _ (Sj acc hg (by unfold fu;omega:_<=fu ts))
theorem CE {least:Int} (hl:0<=least) (hg:Good ts):Fwd 1 ts (DM least ts):=(Lu _).exp _ _ hg _ (Hc hl hg (by unfold fu;omega:_<=fu ts))
theorem QM (hg:Good ts):Fwd 1 ts (Jk ts):=(Lu _).operand _ hg _ (YA hg (by unfold fu;omega:_<=fu ts))
theorem Adq (acc:List Tree) (hg:Good ts):Fwd 1 ts (JL acc ts):=(Lu _).fields _ _ hg _ (Si acc hg (by unfold fu;omega:_<=fu ts))
theorem VG (hg:Good ts):Fwd 1 ts (MY ts):=(Lu _).field _ hg _ (Y7 hg (by unfold fu;omega:_<=fu ts))
theorem Nu (hg:Good ts):Fwd 1 ts (Iw ts):=(Lu _).DY _ hg _ (Sk hg (by unfold fu;omega:_<=fu ts))
theorem IR (hg:Good ts):Fwd 1 ts (Fz ts):=(Lu _).Di _ hg _ (Om hg (by unfold fu;omega:_<=fu ts))
theorem Ih (c:Bool) (hg:Good ts):Fwd 0 ts (Fi c ts):=(stepS _).block _ _ hg _ (Ol c hg (by unfold fu;omega:_<=fu ts))
theorem Ads (h6:(hd ts).1≠6) (hg:Good ts):Fwd 1 ts (P_ ts):=(stepS _).function _ h6 hg _ (Y8 h6 hg (by unfold fu;omega:_<=fu ts))
theorem Ns (hg:Good ts):Fwd 1 ts (Iv ts):=(stepS _).body _ hg _ (P7 hg (by unfold fu;omega:_<=fu ts))
theorem VH (hg:Good ts):Fwd 1 ts (Mk ts):=(stepS _).stat _ hg _ (YB hg (by unfold fu;omega:_<=fu ts))
theorem Adp (acc:List Tree) (hg:Good ts):Fwd 1 ts (Mj acc ts):=(stepS _).branches _ _ hg _ (Ux acc hg (by unfold fu;omega:_<=fu ts))
theorem A4t (acc:List Tree) (e:Tree) (hg:Good ts):Fwd 0 ts (O9 acc e ts):=(stepS _).targets _ _ _ hg _ (Uy acc e hg (by unfold fu;omega:_<=fu ts))
end
def PV.then {α β:Type}:PV α->(α->List Tk->PV β)->PV β
 | .ok a r,f=>f a r
 | .bad i,_=>.bad i
section
variable {α β:Type} {n:Nat} {ts:List Tk}
theorem Cf {x:Option (PV α)} {vx:PV α} {f:α->List Tk->Option (PV β)} {g:α->List Tk->PV β} (hx:x=some vx) (hw:Fwd n ts vx) (hf:∀ a r,Good r->r.length+n<=ts.length->f a r=some (g a r)):PV.bind x f=some (vx.then g):=by
 subst hx;cases vx with
 | bad i=>rfl
 | ok a r=>exact hf a r hw.1 hw.2.1
theorem Dm {c:Prop} [Decidable c] {y z:Option α} {y' z':α} (h1:c->y=some y') (h2:¬ c->z=some z'):(if c then y else z)=some (if c then y' else z'):=by
 by_cases h:c;rw [if_pos h,if_pos h];exact h1 h;rw [if_neg h,if_neg h];exact h2 h
theorem QP {c:Prop} [Decidable c] {y z:PV α} (h1:c->Fwd n ts y) (h2:¬ c->Fwd n ts z):Fwd n ts (if c then y else z):=by
 by_cases h:c;rw [if_pos h];exact h1 h;rw [if_neg h];exact h2 h
theorem QQ {m:Nat} {x:PV α} (h:Fwd n ts x) (hm:m<=n):Fwd m ts x:=by
 cases x with
 | bad=>trivial
 | ok a r=>exact ⟨h.1,by have:=h.2.1;omega,h.2.2⟩
theorem OV {a:α} (hg:Good ts):Fwd 0 ts (.ok a ts):=⟨hg,Nat.le_refl _,List.suffix_refl _⟩
theorem Aei {x:PV α} (hg:Good ts) (h6:(hd ts).1≠6) (h:Fwd n ts.tail x):Fwd (n+1) ts x:=by
 obtain ⟨g1,g2,g3⟩:=hg.tail h6;cases x with
 | bad=>trivial
 | ok a r=>exact ⟨h.1,by have:=h.2.1;omega,h.2.2.trans g3⟩
theorem Aek {m:Nat} {x:PV α} {f:α->List Tk->PV β} (h1:Fwd n ts x) (h2:∀ a r,Good r->r.length+n<=ts.length->Fwd m r (f a r)):Fwd (n+m) ts (x.then f):=by
 cases x with
 | bad=>trivial
 | ok a r =>
  obtain ⟨g1,g2,g3⟩:=h1;have:=h2 a r g1 g2;show Fwd (n+m) ts (f a r);cases hf:f a r with
  | bad=>trivial
  | ok b s =>
   rw [hf] at this;exact ⟨this.1,by have:=this.2.1;omega,this.2.2.trans g3⟩
end
section
variable {ts:List Tk}
theorem or3 {a b c:Bool} {ts:List Tk} {x y z:Ah} (ha:a=Az x ts) (hb:b=Az y ts) (hc:c=Az z ts) (h:(a || b || c)=true):(hd ts).1≠6:=by
 subst ha hb hc;simp only [Bool.or_eq_true] at h;rcases h with (h | h) | h <;> exact AQ h
theorem MZ (acc:List Tree) (hg:Good ts):Jj acc ts=if Az D0 ts then (FZ 6 ts.tail).then λn r=>Jj (acc++[n]) r else .ok acc ts:=by
 have h:=Sj acc hg (f:=fu ts+1) (by unfold fu;omega);rw [Gp] at h;refine Ap (h.symm.trans (Dm (λhc=>?_) λ_=>rfl));obtain ⟨g1,g2,_⟩:=hg.tail (AQ hc);exact Cf (Oo _ _) (fName 6 g1) λa r hr hn=>Sj _ hr (by unfold fu;omega)
def IE (ts:List Tk):PV (List Tree):=(FZ 6 ts).then λn r=>Jj [n] r
theorem Alm {f:Nat} (hg:Good ts) (hf:16 * ts.length+1<=f):ML f ts=some (IE ts):=Cf (Oo _ _) (fName 6 hg) λa r hr hn=>Sj _ hr (by omega)
theorem Nt (hg:Good ts):Fwd 1 ts (IE ts):=Aek (fName 6 hg) λ_ _ hr _=>Adu _ hr
theorem SC {least:Int} (hl:0<=least) (hg:Good ts):DM least ts=(Jk ts).then λn r=>ID least n r:=by
 have h:=Hc hl hg (f:=fu ts+1) (by unfold fu;omega);rw [Dv] at h;exact Ap (h.symm.trans (Cf (YA hg (by unfold fu;omega)) (QM hg) λa r hr hn=>Y9 _ hl hr (by unfold fu;omega)))
theorem Qa {least:Int} (n:Tree) (hl:0<=least) (hg:Good ts):ID least n ts=if Cv ts<=least then .ok n ts else (DM (if Cv ts=4 then 3 else Cv ts) ts.tail).then λm r=>ID least (.mk 11 (hd ts).2.1 0 n.at_ [n,m]) r:=by
 have h:=Y9 n hl hg (f:=fu ts+1) (by unfold fu;omega);rw [Fc] at h;refine Ap (h.symm.trans (Dm (λ_=>rfl) λhb=>?_));obtain ⟨g1,g2,_⟩:=hg.tail (KY (by omega));have hq:(0:Int)<=(if Cv ts=4 then 3 else Cv ts):=by split <;> omega
 exact Cf (Hc hq g1 (by unfold fu;omega)) (CE hq g1) λa r hr hn=>Y9 _ hl hr (by unfold fu;omega)
theorem Ase (hg:Good ts):Jk ts =
  if (hd ts).1=3 then .ok (.mk 4 noB (hd ts).2.2.1 (hd ts).2.2.2 []) ts.tail
  else if (hd ts).1=4 then .ok (.mk 5 (hd ts).2.1 0 (hd ts).2.2.2 []) ts.tail
  else if Az Kk ts then .ok (.mk 1 noB 0 (hd ts).2.2.2 []) ts.tail
  else if Az Kl ts then .ok (.mk 2 noB 0 (hd ts).2.2.2 []) ts.tail
  else if Az Ki ts then .ok (.mk 3 noB 0 (hd ts).2.2.2 []) ts.tail
  else if Az M6 ts || Az M5 ts || Az IX ts then (DM 7 ts.tail).then λm r=>.ok (.mk 10 (hd ts).2.1 0 (hd ts).2.2.2 [m]) r
  else if Az Kj ts then (JL [] ts.tail).then λl r=>.ok (.mk 12 noB 0 (hd ts).2.2.2 l) r
  else Iw ts:=by
 have h:=YA hg (f:=fu ts+1) (by unfold fu;omega);rw [EQ] at h;refine Ap (h.symm.trans (Dm (λ_=>rfl) λ_=>Dm (λ_=>rfl) λ_=>Dm (λ_=>rfl) λ_=>Dm (λ_=>rfl) λ_=>Dm (λ_=>rfl) λ_=>Dm (λhc=>?_) λ_=>Dm (λhc=>?_) λ_=>Sk hg (by unfold fu;omega)));obtain ⟨g1,g2,_⟩:=hg.tail (or3 rfl rfl rfl hc);exact Cf (Hc (by omega) g1 (by unfold fu;omega)) (CE (by omega) g1) λ_ _ _ _=>rfl;obtain ⟨g1,g2,_⟩:=hg.tail (AQ hc);exact Cf (Si _ g1 (by unfold fu;omega)) (Adq _ g1) λ_ _ _ _=>rfl
theorem Ar5 (acc:List Tree) (hg:Good ts):JL acc ts =
  if Az G_ ts then .ok acc ts.tail
  else (MY ts).then λx r =>
   if Az D0 r then JL (acc++[x]) r.tail
   else if Az EN r then JL (acc++[x]) r.tail
   else (CK G_ r).then λ_ r=>.ok (acc++[x]) r:=by
 have h:=Si acc hg (f:=fu ts+1) (by unfold fu;omega);rw [EP] at h;refine Ap (h.symm.trans (Dm (λ_=>rfl) λ_=>Cf (Y7 hg (by unfold fu;omega)) (VG hg) λx r hr hn=>Dm (λhc=>?_) λ_=>Dm (λhc=>?_) λ_=>Cf (GA _ _) (C3 _ hr) λ_ _ _ _=>rfl));obtain ⟨g1,g2,_⟩:=hr.tail (AQ hc);exact Si _ g1 (by unfold fu;omega);obtain ⟨g1,g2,_⟩:=hr.tail (AQ hc);exact Si _ g1 (by unfold fu;omega)
theorem Ar2 (hg:Good ts):MY ts =
  if Az FQ ts then
   (DM 0 ts.tail).then λk r=>(CK kRb r).then λ_ r=>(CK Cb r).then λ_ r=>(DM 0 r).then λv r=>.ok (.mk 14 noB 0 (hd ts).2.2.2 [k,v]) r
  else if (hd ts).1=1/\(hd ts.tail).1=5/\(hd ts.tail).2.1.toList=Cb.toList then
   (DM 0 ts.tail.tail).then λv r=>.ok (.mk 14 noB 0 (hd ts).2.2.2 [.mk 5 (hd ts).2.1 0 (hd ts).2.2.2 [],v]) r
  else (DM 0 ts).then λv r=>.ok (.mk 13 noB 0 (hd ts).2.2.2 [v]) r:=by
 have h:=Y7 hg (f:=fu ts+1) (by unfold fu;omega);rw [Fr] at h;refine Ap (h.symm.trans (Dm (λhc=>?_) λ_=>Dm (λhc=>?_) λ_=>Cf (Hc (by omega) hg (by unfold fu;omega)) (CE (by omega) hg) λ_ _ _ _=>rfl));obtain ⟨g1,g2,_⟩:=hg.tail (AQ hc);exact Cf (Hc (by omega) g1 (by unfold fu;omega)) (CE (by omega) g1) λ_ r hr hn=>Cf (GA _ _) (C3 _ hr) λ_ r2 hr2 hn2=>Cf (GA _ _) (C3 _ hr2) λ_ r3 hr3 hn3=>Cf (Hc (by omega) hr3 (by unfold fu;omega)) (CE (by omega) hr3) λ_ _ _ _=>rfl;obtain ⟨h1,h2,_⟩:=hc;obtain ⟨g1,g2,_⟩:=hg.tail (by omega);obtain ⟨g3,g4,_⟩:=g1.tail (by omega);exact Cf (Hc (by omega) g3 (by unfold fu;omega)) (CE (by omega) g3) λ_ _ _ _=>rfl
theorem ZK (hg:Good ts):Iw ts =
  if Az DS ts then (DM 0 ts.tail).then λe r=>(CK CV r).then λ_ r=>Jl (hd ts).2.2.2 (.mk 9 noB 0 (hd ts).2.2.2 [e]) r
  else (FZ 6 ts).then λn r=>Jl (hd ts).2.2.2 n r:=by
 have h:=Sk hg (f:=fu ts+1) (by unfold fu;omega);rw [E1] at h;refine Ap (h.symm.trans (Dm (λhc=>?_) λ_=>Cf (Oo _ _) (fName _ hg) λ_ r hr hn=>P8 _ _ hr (by unfold fu;omega)));obtain ⟨g1,g2,_⟩:=hg.tail (AQ hc);exact Cf (Hc (by omega) g1 (by unfold fu;omega)) (CE (by omega) g1) λ_ r hr hn=>Cf (GA _ _) (C3 _ hr) λ_ r2 hr2 hn2=>P8 _ _ hr2 (by unfold fu;omega)
def UM (ts:List Tk):PV (List Tree):=if Az CV ts then .ok [] ts else Fz ts
theorem fArgs (hg:Good ts):Fwd 0 ts (UM ts):=QP (λ_=>OV hg) λ_=>QQ (IR hg) (by omega)
theorem ZJ (at_:Int) (n:Tree) (hg:Good ts):Jl at_ n ts =
  if Az FQ ts then (DM 0 ts.tail).then λe r=>(CK kRb r).then λ_ r=>Jl at_ (.mk 7 noB 0 at_ [n,e]) r
  else if Az Aib ts then (FZ 5 ts.tail).then λe r=>Jl at_ (.mk 7 noB 0 at_ [n,e]) r
  else if Az DS ts then (UM ts.tail).then λl r=>(CK CV r).then λ_ r=>Jl at_ (.mk 8 noB 0 at_ (n :: l)) r
  else .ok n ts:=by
 have h:=P8 at_ n hg (f:=fu ts+1) (by unfold fu;omega);rw [E0] at h;refine Ap (h.symm.trans (Dm (λhc=>?_) λ_=>Dm (λhc=>?_) λ_=>Dm (λhc=>?_) λ_=>rfl));obtain ⟨g1,g2,_⟩:=hg.tail (AQ hc);exact Cf (Hc (by omega) g1 (by unfold fu;omega)) (CE (by omega) g1) λ_ r hr hn=>Cf (GA _ _) (C3 _ hr) λ_ r2 hr2 hn2=>P8 _ _ hr2 (by unfold fu;omega);obtain ⟨g1,g2,_⟩:=hg.tail (AQ hc);exact Cf (Oo _ _) (fName _ g1) λ_ r hr hn=>P8 _ _ hr (by unfold fu;omega);obtain ⟨g1,g2,_⟩:=hg.tail (AQ hc);exact Cf (Dm (λ_=>rfl) λ_=>Om g1 (by unfold fu;omega)) (fArgs g1) λ_ r hr hn=>Cf (GA _ _) (C3 _ hr) λ_ r2 hr2 hn2=>P8 _ _ hr2 (by unfold fu;omega)
theorem ZI (hg:Good ts):Fz ts=(DM 0 ts).then λe r=>O6 [e] r:=by
 have h:=Om hg (f:=fu ts+1) (by unfold fu;omega);rw [Ez] at h;exact Ap (h.symm.trans (Cf (Hc (by omega) hg (by unfold fu;omega)) (CE (by omega) hg) λa r hr hn=>Y6 _ hr (by unfold fu;omega)))
theorem ZH (acc:List Tree) (hg:Good ts):O6 acc ts=if Az D0 ts then (DM 0 ts.tail).then λe r=>O6 (acc++[e]) r else .ok acc ts:=by
 have h:=Y6 acc hg (f:=fu ts+1) (by unfold fu;omega);rw [Fb] at h;refine Ap (h.symm.trans (Dm (λhc=>?_) λ_=>rfl));obtain ⟨g1,g2,_⟩:=hg.tail (AQ hc);exact Cf (Hc (by omega) g1 (by unfold fu;omega)) (CE (by omega) g1) λa r hr hn=>Y6 _ hr (by unfold fu;omega)
theorem Arz (c:Bool) (hg:Good ts):Fi c ts=Ji c (hd ts).2.2.2 [] ts:=by
 have h:=Ol c hg (f:=fu ts+1) (by unfold fu;omega);rw [E6] at h;exact Ap (h.symm.trans (Sh _ _ _ hg (by unfold fu;omega)))
def UN (ts:List Tk):PV (List Tree):=if IQ ts || Az EN ts then .ok [] ts else Fz ts
theorem A4p (hg:Good ts):Fwd 0 ts (UN ts):=QP (λ_=>OV hg) λ_=>QQ (IR hg) (by omega)
theorem Ary (c:Bool) (at_:Int) (acc:List Tree) (hg:Good ts):Ji c at_ acc ts =
  if Az EN ts then Ji c at_ acc ts.tail
  else if Az Jw ts then (UN ts.tail).then λl r=>.ok (.mk 20 noB 0 at_ (acc++[.mk 30 noB 0 (hd ts).2.2.2 l])) (if Az EN r then r.tail else r)
  else if c && Az Gm ts then (P_ ts).then λx r=>Ji c at_ (acc++[x]) r
  else if IQ ts then .ok (.mk 20 noB 0 at_ acc) ts
  else (Mk ts).then λx r=>Ji c at_ (acc++[x]) r:=by
 have h:=Sh c at_ acc hg (f:=fu ts+1) (by unfold fu;omega);rw [Ey] at h;refine Ap (h.symm.trans (Dm (λhc=>?_) λ_=>Dm (λhc=>?_) λ_=>Dm (λhc=>?_) λ_=>Dm (λ_=>rfl) λ_=>?_));obtain ⟨g1,g2,_⟩:=hg.tail (AQ hc);exact Sh _ _ _ g1 (by unfold fu;omega);obtain ⟨g1,g2,_⟩:=hg.tail (AQ hc);exact Cf (Dm (λ_=>rfl) λ_=>Om g1 (by unfold fu;omega)) (A4p g1) λ_ r hr hn=>rfl;simp only [Bool.and_eq_true] at hc;exact Cf (Y8 (AQ hc.2) hg (by unfold fu;omega)) (Ads (AQ hc.2) hg) λ_ r hr hn=>Sh _ _ _ hr (by unfold fu;omega);exact Cf (YB hg (by unfold fu;omega)) (VH hg) λ_ r hr hn=>Sh _ _ _ hr (by unfold fu;omega)
def SE (ts:List Tk):PV (List Tree):=if Az CV ts then .ok [] ts else IE ts
theorem A4o (hg:Good ts):Fwd 0 ts (SE ts):=QP (λ_=>OV hg) λ_=>QQ (Nt hg) (by omega)
theorem Ar8 (h6:(hd ts).1≠6) (hg:Good ts):P_ ts =
  (FZ 6 ts.tail).then λnm r=>(CK DS r).then λ_ r=>(SE r).then λps r=>(CK CV r).then λ_ r=>(Fi false r).then λb r=>(CK BM r).then λ_ r=>.ok (.mk 31 nm.text ps.length (hd ts).2.2.2 (ps++[b])) r:=by
 have h:=Y8 h6 hg (f:=fu ts+1) (by unfold fu;omega);rw [Ft] at h;obtain ⟨g1,g2,_⟩:=hg.tail h6;exact Ap (h.symm.trans (Cf (Oo _ _) (fName _ g1) λ_ r hr hn=>Cf (GA _ _) (C3 _ hr) λ_ r2 hr2 hn2=>Cf (Dm (λ_=>rfl) λ_=>Alm hr2 (by unfold fu;omega)) (A4o hr2) λ_ r3 hr3 hn3=>Cf (GA _ _) (C3 _ hr3) λ_ r4 hr4 hn4=>Cf (Ol _ hr4 (by unfold fu;omega)) (Ih _ hr4) λ_ r5 hr5 hn5=>Cf (GA _ _) (C3 _ hr5) λ_ _ _ _=>rfl))
theorem ZF (hg:Good ts):Iv ts=(CK Dt ts).then λ_ r=>(Fi false r).then λb r=>(CK BM r).then λ_ r=>.ok b r:=by
 have h:=P7 hg (f:=fu ts+1) (by unfold fu;omega);rw [E7] at h;exact Ap (h.symm.trans (Cf (GA _ _) (C3 _ hg) λ_ r2 hr2 hn2=>Cf (Ol _ hr2 (by unfold fu;omega)) (Ih _ hr2) λ_ r5 hr5 hn5=>Cf (GA _ _) (C3 _ hr5) λ_ _ _ _=>rfl))
def SD (ts:List Tk):PV (List Tree):=if Az Cb ts then Fz ts.tail else .ok [] ts
theorem A4l (hg:Good ts):Fwd 0 ts (SD ts):=QP (λhc=>QQ (Aei hg (AQ hc) (IR (hg.tail (AQ hc)).1)) (by omega)) λ_=>OV hg
theorem Asl (hg:Good ts):Mk ts =
  if Az Dt ts then (Iv ts).then λb r=>.ok (.mk 28 noB 0 (hd ts).2.2.2 [b]) r
  else if Az Km ts then (DM 0 ts.tail).then λe r=>(Iv r).then λb r=>.ok (.mk 25 noB 0 (hd ts).2.2.2 [e,b]) r
  else if Az kIf ts then (Mj [] ts.tail).then λl r=>.ok (.mk 24 noB 0 (hd ts).2.2.2 l) r
  else if Az F6 ts then O7 (hd ts).2.2.2 ts.tail
  else if Az I4 ts then (IE ts.tail).then λl r=>(SD r).then λes r=>.ok (.mk 21 noB l.length (hd ts).2.2.2 (l++es)) r
  else if Az Kh ts then .ok (.mk 29 noB 0 (hd ts).2.2.2 []) ts.tail
  else O8 ts:=by
 have h:=YB hg (f:=fu ts+1) (by unfold fu;omega);rw [Fv] at h;refine Ap (h.symm.trans (Dm (λhc=>?_) λ_=>Dm (λhc=>?_) λ_=>Dm (λhc=>?_) λ_=>Dm (λhc=>?_) λ_=>Dm (λhc=>?_) λ_=>Dm (λhc=>rfl) λ_=>Alp hg (by unfold fu;omega)));exact Cf (P7 hg (by unfold fu;omega)) (Ns hg) λ_ _ _ _=>rfl;obtain ⟨g1,g2,_⟩:=hg.tail (AQ hc);exact Cf (Hc (by omega) g1 (by unfold fu;omega)) (CE (by omega) g1) λ_ r hr hn=>Cf (P7 hr (by unfold fu;omega)) (Ns hr) λ_ _ _ _=>rfl;obtain ⟨g1,g2,_⟩:=hg.tail (AQ hc);exact Cf (Ux _ g1 (by unfold fu;omega)) (Adp _ g1) λ_ _ _ _=>rfl;obtain ⟨g1,g2,_⟩:=hg.tail (AQ hc);exact Alk _ g1 (by unfold fu;omega);obtain ⟨g1,g2,_⟩:=hg.tail (AQ hc);refine Cf (Alm g1 (by unfold fu;omega)) (Nt g1) λ_ r hr hn=>Cf (Dm (λhc=>?_) λ_=>rfl) (A4l hr) λ_ _ _ _=>rfl;obtain ⟨g3,g4,_⟩:=hr.tail (AQ hc);exact Om g3 (by unfold fu;omega)
theorem Ar0 (acc:List Tree) (hg:Good ts):Mj acc ts =
  (DM 0 ts).then λe r=>(CK Jx r).then λ_ r=>(Fi false r).then λb r =>
   if Az FP r then Mj (acc++[e]++[b]) r.tail
   else if Az Ik r then (Fi false r.tail).then λc r=>(CK BM r).then λ_ r=>.ok (acc++[e]++[b]++[c]) r
   else (CK BM r).then λ_ r=>.ok (acc++[e]++[b]) r:=by
 have h:=Ux acc hg (f:=fu ts+1) (by unfold fu;omega);rw [Fa] at h;refine Ap (h.symm.trans (Cf (Hc (by omega) hg (by unfold fu;omega)) (CE (by omega) hg) λ_ r hr hn=>Cf (GA _ _) (C3 _ hr) λ_ r2 hr2 hn2=>Cf (Ol _ hr2 (by unfold fu;omega)) (Ih _ hr2) λ_ r3 hr3 hn3=>Dm (λhc=>?_) λ_=>Dm (λhc=>?_) λ_=>Cf (GA _ _) (C3 _ hr3) λ_ _ _ _=>rfl));obtain ⟨g1,g2,_⟩:=hr3.tail (AQ hc);exact Ux _ g1 (by unfold fu;omega);obtain ⟨g1,g2,_⟩:=hr3.tail (AQ hc);exact Cf (Ol _ g1 (by unfold fu;omega)) (Ih _ g1) λ_ r4 hr4 hn4=>Cf (GA _ _) (C3 _ hr4) λ_ _ _ _=>rfl
def SF (ts:List Tk):PV (List Tree):=if Az D0 ts then (DM 0 ts.tail).then λc r=>.ok [c] r else .ok [] ts
theorem A4s (hg:Good ts):Fwd 0 ts (SF ts):=QP (λhc=>QQ (Aei hg (AQ hc) (Aek (CE (by omega) (hg.tail (AQ hc)).1) λ_ _ hr _=>OV hr)) (by omega)) λ_=>OV hg
theorem Ar7 (at_:Int) (hg:Good ts):O7 at_ ts =
  (FZ 6 ts).then λn r =>
   if Az Cb r then
    (DM 0 r.tail).then λa r=>(CK D0 r).then λ_ r=>(DM 0 r).then λb r=>(SF r).then λcs r=>(Iv r).then λbd r=>.ok (.mk 26 noB 0 at_ ([n]++[a]++[b]++cs++[bd])) r
   else
    (Jj [n] r).then λl r=>(CK Il r).then λ_ r=>(Fz r).then λes r=>(Iv r).then λbd r=>.ok (.mk 27 noB l.length at_ (l++es++[bd])) r:=by
 have h:=Alk at_ hg (f:=fu ts+1) (by unfold fu;omega);rw [Fs] at h;refine Ap (h.symm.trans (Cf (Oo _ _) (fName _ hg) λn r hr hn=>Dm (λhc=>?_) λ_=>?_));obtain ⟨g1,g2,_⟩:=hr.tail (AQ hc);refine Cf (Hc (by omega) g1 (by unfold fu;omega)) (CE (by omega) g1) λ_ r2 hr2 hn2=>Cf (GA _ _) (C3 _ hr2) λ_ r3 hr3 hn3=>Cf (Hc (by omega) hr3 (by unfold fu;omega)) (CE (by omega) hr3) λ_ r4 hr4 hn4=>Cf (vx:=SF r4) (Dm (λhc=>?_) λ_=>rfl) (A4s hr4) λ_ r5 hr5 hn5=>Cf (P7 hr5 (by unfold fu;omega)) (Ns hr5) λ_ _ _ _=>rfl;obtain ⟨g3,g4,_⟩:=hr4.tail (AQ hc);exact Cf (Hc (by omega) g3 (by unfold fu;omega)) (CE (by omega) g3) λ_ _ _ _=>rfl;exact Cf (Sj _ hr (by unfold fu;omega)) (Adu _ hr) λ_ r2 hr2 hn2=>Cf (GA _ _) (C3 _ hr2) λ_ r3 hr3 hn3=>Cf (Om hr3 (by unfold fu;omega)) (IR hr3) λ_ r4 hr4 hn4=>Cf (P7 hr4 (by unfold fu;omega)) (Ns hr4) λ_ _ _ _=>rfl
theorem Asj (hg:Good ts):O8 ts =
  (Iw ts).then λe r =>
   if Az Cb r || Az D0 r then (O9 [] e r).then λl r=>(CK Cb r).then λ_ r=>(Fz r).then λes r=>.ok (.mk 22 noB l.length e.at_ (l++es)) r
   else if e.kind=8 then .ok (.mk 23 noB 0 e.at_ [e]) r else .bad (hd r).2.2.2:=by
 have h:=Alp hg (f:=fu ts+1) (by unfold fu;omega);rw [Fu] at h;refine Ap (h.symm.trans (Cf (Sk hg (by unfold fu;omega)) (Nu hg) λe r hr hn=>Dm (λhc=>?_) λ_=>Dm (λ_=>rfl) λ_=>rfl));exact Cf (Uy _ _ hr (by unfold fu;omega)) (A4t _ _ hr) λ_ r2 hr2 hn2=>Cf (GA _ _) (C3 _ hr2) λ_ r3 hr3 hn3=>Cf (Om hr3 (by unfold fu;omega)) (IR hr3) λ_ _ _ _=>rfl
theorem Asm (acc:List Tree) (e:Tree) (hg:Good ts):O9 acc e ts =
  if e.kind=6\/e.kind=7 then
   if Az D0 ts then (Iw ts.tail).then λe' r=>O9 (acc++[e]) e' r else .ok (acc++[e]) ts
  else .bad e.at_:=by
 have h:=Uy acc e hg (f:=fu ts+1) (by unfold fu;omega);rw [Fe] at h;refine Ap (h.symm.trans (Dm (λ_=>Dm (λhc=>?_) λ_=>rfl) λ_=>rfl));obtain ⟨g1,g2,_⟩:=hg.tail (AQ hc);exact Cf (Sk g1 (by unfold fu;omega)) (Nu g1) λ_ r hr hn=>Uy _ _ hr (by unfold fu;omega)
end
def O5 (ts:List Tk):PV Tree:=(Fi true ts).then λb r=>if (hd r).1=6 then .ok b r else .bad (hd r).2.2.2
theorem then_assoc {α β γ:Type} (x:PV α) (f:α->List Tk->PV β) (g:β->List Tk->PV γ):(x.then f).then g=x.then λa r=>(f a r).then g:=by cases x <;> rfl
theorem SA {α β:Type} {n:Nat} {ts:List Tk} {x:PV α} (hw:Fwd n ts x) {f g:α->List Tk->PV β} (h:∀ a r,Good r->r.length+n<=ts.length->f a r=g a r):x.then f=x.then g:=by
 cases x with
 | bad=>rfl
 | ok a r=>exact h a r hw.1 hw.2.1
theorem then_ok {α β:Type} {x:PV α} {f:α->List Tk->PV β} {b:β} {r:List Tk} (h:x.then f=.ok b r):∃ a s,x=.ok a s/\f a s=.ok b r:=by
 cases x with
 | bad=>cases h
 | ok a s=>exact ⟨a,s,rfl,h⟩
theorem Ar9:∀ (n:Nat) (least:Int) (x:Tree) (ts:List Tk),ts.length<=n->0<=least->Good ts->ID least x ts=(ID (least+1) x ts).then λy r=>ID least y r
 | 0,_,_,[],_,_,hg=>hg.elim
 | n+1,least,x,ts,hn,hl,hg=>by
  rw [Qa (least:=least+1) x (by omega) hg];by_cases h1:Cv ts<=least+1;rw [if_pos h1];rfl;rw [if_neg h1,Qa x hl hg,if_neg (by omega),then_assoc];obtain ⟨g1,g2,_⟩:=hg.tail (KY (by omega));have hq:(0:Int)<=(if Cv ts=4 then 3 else Cv ts):=by split <;> omega
  exact SA (CE hq g1) λa r hr hl2=>Ar9 n least _ r (by omega) hl hr
theorem B3c {least:Int} {ts:List Tk} (hl:0<=least) (hg:Good ts):DM least ts=(DM (least+1) ts).then λy r=>ID least y r:=by
 rw [SC hl hg,SC (least:=least+1) (by omega) hg,then_assoc];exact SA (QM hg) λa r hr _=>Ar9 _ _ _ _ (Nat.le_refl _) hl hr
theorem Asa:∀ (n:Nat) (least:Int) (x y:Tree) (ts r:List Tk),ts.length<=n->0<=least->Good ts->ID least x ts=.ok y r->Cv r<=least
 | 0,_,_,_,[],_,_,_,hg,_=>hg.elim
 | n+1,least,x,y,ts,r,hn,hl,hg,h=>by
  rw [Qa x hl hg] at h;split at h;cases h;assumption;rename_i hb;obtain ⟨a,s,h1,h2⟩:=then_ok h;obtain ⟨g1,g2,_⟩:=hg.tail (KY (by omega));have hq:(0:Int)<=(if Cv ts=4 then 3 else Cv ts):=by split <;> omega
  have hf:=CE hq g1;rw [h1] at hf;exact Asa n least _ y s r (by have:=hf.2.1;omega) hl hf.1 h2
theorem Ar1 {least:Int} {ts r:List Tk} {y:Tree} (hl:0<=least) (hg:Good ts) (h:DM least ts=.ok y r):Cv r<=least:=by
 rw [SC hl hg] at h;obtain ⟨a,s,h1,h2⟩:=then_ok h;have hf:=QM hg;rw [h1] at hf;exact Asa _ least a y s r (Nat.le_refl _) hl hf.1 h2
theorem ZG {least:Int} {ts:List Tk} (hl:6<=least) (hg:Good ts):DM least ts=Jk ts:=by
 rw [SC (by omega) hg];have:(Jk ts).then (λn r=>ID least n r)=(Jk ts).then (λn r=>.ok n r):=SA (QM hg) λa r hr _=>by
  rw [Qa a (by omega) hr,if_pos (by have:=(Vu r).2;omega)]
 rw [this];cases Jk ts <;> rfl
theorem Akj:∀ (n:Nat) (acc:List Tree) (ts:List Tk),ts.length<=n->Good ts->∀ l r,Jj acc ts=.ok l r->l.length+r.length<=acc.length+ts.length
 | 0,_,[],_,hg,_,_,_=>hg.elim
 | n+1,acc,ts,hn,hg,l,r,h=>by
  rw [MZ acc hg] at h;split at h;rename_i hc;obtain ⟨g1,g2,_⟩:=hg.tail (AQ hc);obtain ⟨a,s,h1,h2⟩:=then_ok h;have hf:=fName 6 g1;rw [h1] at hf;have:=Akj n (acc++[a]) s (by have:=hf.2.1;omega) hf.1 l r h2;have:=hf.2.1;simp only [Bv,AH,AX] at *;omega;cases h;omega
theorem RJ {ts:List Tk} (hg:Good ts) {l:List Tree} {r:List Tk} (h:IE ts=.ok l r):l.length+r.length<=ts.length:=by
 obtain ⟨a,s,h1,h2⟩:=then_ok h;have hf:=fName 6 hg;rw [h1] at hf;have:=Akj _ [a] s (Nat.le_refl _) hf.1 l r h2;have:=hf.2.1;simp only [AH,AX] at *;omega
theorem Akh:∀ (n:Nat) (acc:List Tree) (ts:List Tk),ts.length<=n->Good ts->∀ l r,O6 acc ts=.ok l r->l.length+r.length<=acc.length+ts.length
 | 0,_,[],_,hg,_,_,_=>hg.elim
 | n+1,acc,ts,hn,hg,l,r,h=>by
  rw [ZH acc hg] at h;split at h;rename_i hc;obtain ⟨g1,g2,_⟩:=hg.tail (AQ hc);obtain ⟨a,s,h1,h2⟩:=then_ok h;have hf:=CE (least:=0) (by omega) g1;rw [h1] at hf;have:=Akh n (acc++[a]) s (by have:=hf.2.1;omega) hf.1 l r h2;have:=hf.2.1;simp only [Bv,AH,AX] at *;omega;cases h;omega
theorem ME {ts:List Tk} (hg:Good ts) {l:List Tree} {r:List Tk} (h:Fz ts=.ok l r):l.length+r.length<=ts.length:=by
 rw [ZI hg] at h;obtain ⟨a,s,h1,h2⟩:=then_ok h;have hf:=CE (least:=0) (by omega) hg;rw [h1] at hf;have:=Akh _ [a] s (Nat.le_refl _) hf.1 l r h2;have:=hf.2.1;simp only [AH,AX] at *;omega
def ix (l ts:List Tk):Int:=(l.length:Int) - (ts.length:Int)
theorem wrapM (x:Int) (h1:-9223372036854775808<=x) (h2:x<=9223372036854775807):Ar x=x:=by unfold Ar IntKind.wrap;simp [IntKind.bits,IntKind.signed];omega
section
variable {l ts:List Tk}
theorem A1v (hs:ts <:+ l):l.drop (l.length - ts.length)=ts:=by
 obtain ⟨p,rfl⟩:=hs;simp
theorem Kd (hg:Good ts) (hs:ts <:+ l):Bm l (ix l ts)=some (hd ts):=by
 have hle:=hs.length_le;unfold Bm ix;rw [if_pos (by omega),show ((l.length:Int) - (ts.length:Int)).toNat=l.length - ts.length by omega];have:=A1v hs;rw [<- List.head?_drop,this];cases ts with
 | nil=>exact hg.elim
 | cons t ts=>rfl
theorem H3 (hl:l.length<=1000000) (hg:Good ts) (hs:ts <:+ l) (h6:(hd ts).1≠6):Ar (ix l ts+1)=ix l ts.tail:=by
 obtain ⟨_,g2,_⟩:=hg.tail h6;have hle:=hs.length_le;unfold ix;rw [wrapM _ (by omega) (by omega)];omega
def conv {α β:Type} (l:List Tk) (e:α->Int->β):PV α->PR β
 | .ok a r=>.ok (e a (ix l r))
 | .bad i=>.bad i
def eT (n:Tree) (i:Int):Int×Ah×Int×Int×List Tree×Int:=(n.kind,n.text,n.n,n.at_,n.kids,i)
def eL (n:List Tree) (i:Int):List Tree×Int:=(n,i)
def eU (_:Unit) (i:Int):Int:=i
theorem BG (n:Tree):Tree.mk n.kind n.text n.n n.at_ n.kids=n:=by cases n;rfl
theorem C4 {α β α' β':Type} {e:α->Int->α'} {e':β->Int->β'} {x:PV α} {F:α'->Option (PR β')} {g:α->List Tk->PV β} {n:Nat} (hw:Fwd n ts x) (h:∀ a r,Good r->r <:+ ts->r.length+n<=ts.length->F (e a (ix l r))=some (conv l e' (g a r))) :
  PR.bind (some (conv l e x)) F=some (conv l e' (x.then g)):=by
 cases x with
 | bad i=>rfl
 | ok a r=>exact h a r hw.1 hw.2.2 hw.2.1
theorem Eu {β β':Type} {e':β->Int->β'} {c:Prop} [Decidable c] {b:Bool} {x y:Option (PR β')} {x' y':PV β} (hb:b=decide c) (h1:c->x=some (conv l e' x')) (h2:¬ c->y=some (conv l e' y')):cond b x y=some (conv l e' (if c then x' else y')):=by
 subst hb;by_cases h:c;rw [if_pos h,decide_eq_true h];exact h1 h;rw [if_neg h,decide_eq_false h];exact h2 h
theorem Mz (a b:Int):(a == b)=decide (a=b):=by
 by_cases h:a=b;rw [decide_eq_true h,beq_iff_eq];exact h;rw [decide_eq_false h,beq_eq_false_iff_ne];exact h
theorem Dc (b:Bool):b=decide (b=true):=by cases b <;> rfl
variable (k:Nat) (hl:l.length<=1000000) (hg:Good ts) (hs:ts <:+ l)
include hg hs
theorem Ja:DC.f k l (ix l ts)=some (hd ts):=by
 unfold DC.f;rw [Kd hg hs];rfl
theorem LN (w:Ah):DQ.f k l (ix l ts) w=some (Az w ts):=by
 unfold DQ.f;rw [Ja k hg hs];simp only [Al,Az,isT];cases (hd ts).1 == (2:Int) <;> cases (hd ts).1 == (5:Int) <;> rfl
include hl
theorem got_eq (w:Ah):Ca.f k l (ix l ts) w=some (Az w ts,ix l (if Az w ts then ts.tail else ts)):=by
 unfold Ca.f;rw [LN k hg hs];simp only [Al];cases h:Az w ts with
 | true=>simp only [cond_true,if_true,H3 hl hg hs (AQ h)]
 | false=>rfl
theorem Ga (w:Ah):Cy.f k l (ix l ts) w=some (conv l eU (CK w ts)):=by
 unfold Cy.f CK;rw [got_eq k hl hg hs];simp only [Al];cases h:Az w ts with
 | true=>rfl
 | false =>
  simp only [Bool.not_false,cond_true,Bool.false_eq_true,if_false];rw [Ja k hg hs];rfl
theorem name_eq:FU.f k l (ix l ts)=some (conv l eT (FZ 6 ts)):=by
 unfold FU.f FZ;rw [Ja k hg hs];simp only [Al,A2];by_cases h:(hd ts).1=1;rw [if_pos h,h,H3 hl hg hs (by omega)];rfl;rw [if_neg h,show ((hd ts).1 != 1)=true by rw [bne_iff_ne];exact h];rfl
omit hl
theorem Adf:LZ.f k l (ix l ts)=some (IQ ts):=by
 unfold LZ.f IQ;simp only [Ja k hg hs,LN k hg hs,Al,BM,Ik,FP];generalize ((hd ts).1 == (6:Int))=b1;generalize Az (⟨#[101,110,100]⟩:Ah) ts=b2;generalize Az (⟨#[101,108,115,101]⟩:Ah) ts=b3;generalize Az (⟨#[101,108,115,101,105,102]⟩:Ah) ts=b4;cases b1 <;> cases b2 <;> cases b3 <;> cases b4 <;> rfl
end
theorem Azu (k:Nat) (ts:List Tk):Oq.f k (hd ts).1 (hd ts).2.1 (hd ts).2.2.1 (hd ts).2.2.2=some (Cv ts):=by
 unfold Oq.f Cv Az isT;simp only [A2,kOr,Pe,Ph,kGt,kLe,kGe,Pi,Pg,Pf,Pk,IX,Pm,Pl,Pj];generalize (hd ts).1=kd;generalize (hd ts).2.1.toList=tx;have hsw:(cond (kd != (5:Int)) (some (kd != (2:Int))) (some false):Option Bool)=some (!(kd == 2 || kd == 5)):=by
  rw [bne,bne];cases kd == (5:Int) <;> cases kd == (2:Int) <;> rfl
 rw [hsw];simp only [Al];cases (kd == 2 || kd == 5) with
 | false=>simp
 | true =>
  simp only [Bool.not_true,cond_false,Bool.true_and];generalize (tx == (⟨#[111,114]⟩:Ah).toList)=b;cases b with
  | true=>rfl
  | false =>
  generalize (tx == (⟨#[97,110,100]⟩:Ah).toList)=b;cases b with
  | true=>rfl
  | false =>
  generalize (tx == (⟨#[60]⟩:Ah).toList)=b1;generalize (tx == (⟨#[62]⟩:Ah).toList)=b2;generalize (tx == (⟨#[60,61]⟩:Ah).toList)=b3;generalize (tx == (⟨#[62,61]⟩:Ah).toList)=b4;generalize (tx == (⟨#[126,61]⟩:Ah).toList)=b5;generalize (tx == (⟨#[61,61]⟩:Ah).toList)=b6;generalize (tx == (⟨#[46,46]⟩:Ah).toList)=b7;generalize (tx == (⟨#[43]⟩:Ah).toList)=b8;generalize (tx == (⟨#[45]⟩:Ah).toList)=b9;generalize (tx == (⟨#[42]⟩:Ah).toList)=c1;generalize (tx == (⟨#[47,47]⟩:Ah).toList)=c2;generalize (tx == (⟨#[37]⟩:Ah).toList)=c3;cases b1 with
  | true=>rfl
  | false =>
  cases b2 with
  | true=>rfl
  | false =>
  cases b3 with
  | true=>rfl
  | false =>
  cases b4 with
  | true=>rfl
  | false =>
  cases b5 with
  | true=>rfl
  | false =>
  cases b6 with
  | true=>rfl
  | false =>
  cases b7 with
  | true=>rfl
  | false =>
  cases b8 <;> cases b9 <;> cases c1 <;> cases c2 <;> cases c3 <;> rfl
end
end Go.Proofs.YtaifddambjmiiaaGreatDoor
