/- Texts of mine for parseTexts_card, part 3. -/
import GoSem.Core.Utf8
import Derived.Test.YtaifddambjmiiaaGreatDoorProg
import Derived.Test.YtaifddambjmiiaaGreatDoorTxB
set_option linter.unusedSimpArgs false
set_option linter.unusedVariables false
set_option linter.unusedSectionVars false
namespace Go.Proofs.YtaifddambjmiiaaGreatDoor
set_option maxRecDepth 100000
section
open Go Go.RowKit
structure RS where
 Cm:List (Int×Ah×Int×Int)->Int->Int->Bool->Option (Int×Ah×Int×Int×List Tree×Int×Int)
 Ej:List (Int×Ah×Int×Int)->Int->Int->Int->Option (Int×Ah×Int×Int×List Tree×Int×Int)
 E3:List (Int×Ah×Int×Int)->Int->Int->Int->Option (Int×Ah×Int×Int×List Tree×Int×Int)
 E4:List (Int×Ah×Int×Int)->Int->Int->Int->Option (Int×Ah×Int×Int×List Tree×Int×Int)
 DU:List (Int×Ah×Int×Int)->Int->Int->Option (Int×Ah×Int×Int×List Tree×Int×Int)
def Cm.C (fC:List (Int×Ah×Int×Int)->Int->Int->Bool->Option (Int×Ah×Int×Int×List Tree×Int×Int)):Prop:=∀ {Ai:List (Int×Ah×Int×Int)} {An AD:Int} {a1:Bool} {b0 Ax:Nat} {Be:Am} {Aw:AG} {r:Int×Ah×Int×Int×List Tree×Int×Int} (h:fC Ai An AD a1=some r) (Au:Ce e70 4 Be (W Aw Ai Ax) Ai),Ct Tryz.prog 20 #[pt b0,bv a1] [bk b0 #[W Aw Ai Ax,V An,V AD] 68] [Be] (λe l1=>∃ (H0_:Am) (A0_:AG) (c0_:Nat),Bi (AM 34) 34 H0_ (W A0_ r.2.2.2.2.1 c0_) r.2.2.2.2.1/\e=.returned (.agg #[V r.1,D r.2.1,V r.2.2.1,V r.2.2.2.1,W A0_ r.2.2.2.2.1 c0_])/\l1=[H0_,bk b0 #[W Aw Ai Ax,V r.2.2.2.2.2.1,V r.2.2.2.2.2.2] 68])
def Ej.C (fC:List (Int×Ah×Int×Int)->Int->Int->Int->Option (Int×Ah×Int×Int×List Tree×Int×Int)):Prop:=∀ {Ai:List (Int×Ah×Int×Int)} {An AD a1:Int} {b0 Ax:Nat} {Be:Am} {Aw:AG} {r:Int×Ah×Int×Int×List Tree×Int×Int} (h:fC Ai An AD a1=some r) (Au:Ce e70 4 Be (W Aw Ai Ax) Ai),Ct Tryz.prog 53 #[pt b0,V a1] [bk b0 #[W Aw Ai Ax,V An,V AD] 68] [Be] (λe l1=>∃ (H0_:Am) (A0_:AG) (c0_:Nat),Bi (AM 34) 34 H0_ (W A0_ r.2.2.2.2.1 c0_) r.2.2.2.2.1/\e=.returned (.agg #[V r.1,D r.2.1,V r.2.2.1,V r.2.2.2.1,W A0_ r.2.2.2.2.1 c0_])/\l1=[H0_,bk b0 #[W Aw Ai Ax,V r.2.2.2.2.2.1,V r.2.2.2.2.2.2] 68])
def E3.C (fC:List (Int×Ah×Int×Int)->Int->Int->Int->Option (Int×Ah×Int×Int×List Tree×Int×Int)):Prop:=∀ {Ai:List (Int×Ah×Int×Int)} {An AD a1:Int} {b0 Ax:Nat} {Be:Am} {Aw:AG} {r:Int×Ah×Int×Int×List Tree×Int×Int} (h:fC Ai An AD a1=some r) (Au:Ce e70 4 Be (W Aw Ai Ax) Ai),Ct Tryz.prog 88 #[pt b0,V a1] [bk b0 #[W Aw Ai Ax,V An,V AD] 68] [Be] (λe l1=>∃ (H0_:Am) (A0_:AG) (c0_:Nat),Bi (AM 34) 34 H0_ (W A0_ r.2.2.2.2.1 c0_) r.2.2.2.2.1/\e=.returned (.agg #[V r.1,D r.2.1,V r.2.2.1,V r.2.2.2.1,W A0_ r.2.2.2.2.1 c0_])/\l1=[H0_,bk b0 #[W Aw Ai Ax,V r.2.2.2.2.2.1,V r.2.2.2.2.2.2] 68])
def E4.C (fC:List (Int×Ah×Int×Int)->Int->Int->Int->Option (Int×Ah×Int×Int×List Tree×Int×Int)):Prop:=∀ {Ai:List (Int×Ah×Int×Int)} {An AD a1:Int} {b0 Ax:Nat} {Be:Am} {Aw:AG} {r:Int×Ah×Int×Int×List Tree×Int×Int} (h:fC Ai An AD a1=some r) (Au:Ce e70 4 Be (W Aw Ai Ax) Ai),Ct Tryz.prog 89 #[pt b0,V a1] [bk b0 #[W Aw Ai Ax,V An,V AD] 68] [Be] (λe l1=>∃ (H0_:Am) (A0_:AG) (c0_:Nat),Bi (AM 34) 34 H0_ (W A0_ r.2.2.2.2.1 c0_) r.2.2.2.2.1/\e=.returned (.agg #[V r.1,D r.2.1,V r.2.2.1,V r.2.2.2.1,W A0_ r.2.2.2.2.1 c0_])/\l1=[H0_,bk b0 #[W Aw Ai Ax,V r.2.2.2.2.2.1,V r.2.2.2.2.2.2] 68])
def DU.C (fC:List (Int×Ah×Int×Int)->Int->Int->Option (Int×Ah×Int×Int×List Tree×Int×Int)):Prop:=∀ {Ai:List (Int×Ah×Int×Int)} {An AD:Int} {b0 Ax:Nat} {Be:Am} {Aw:AG} {r:Int×Ah×Int×Int×List Tree×Int×Int} (h:fC Ai An AD=some r) (Au:Ce e70 4 Be (W Aw Ai Ax) Ai),Ct Tryz.prog 87 #[pt b0] [bk b0 #[W Aw Ai Ax,V An,V AD] 68] [Be] (λe l1=>∃ (H0_:Am) (A0_:AG) (c0_:Nat),Bi (AM 34) 34 H0_ (W A0_ r.2.2.2.2.1 c0_) r.2.2.2.2.1/\e=.returned (.agg #[V r.1,D r.2.1,V r.2.2.1,V r.2.2.2.1,W A0_ r.2.2.2.2.1 c0_])/\l1=[H0_,bk b0 #[W Aw Ai Ax,V r.2.2.2.2.2.1,V r.2.2.2.2.2.2] 68])
structure RS.Good (R:RS):Prop where
 Cm:Cm.C R.Cm
 Ej:Ej.C R.Ej
 E3:E3.C R.E3
 E4:E4.C R.E4
 DU:DU.C R.DU
def Cm.l0:Nat->(Rc:RS)->(Ai:List (Int×Ah×Int×Int))->(a1:Bool)->(r2:Int)->(J11:(List Tree)->Int->Int->Option (Int×Ah×Int×Int×List Tree×Int×Int))->(l12:List Tree)->(x17:Int)->(x18:Int)->Option (Int×Ah×Int×Int×List Tree×Int×Int)
 | 0,_,_,_,_,_,_,_,_=>none
 | m19+1,Rc,Ai,a1,r2,J11,l12,x17,x18=>(K4.f m19 Ai x17 x18).bind λr20=>cond (!r20) ((FL.f m19 Ai x17 x18).bind λr22=>(BV.f m19 Ai x17 x18 (⟨#[59]⟩:Ah)).bind λBY=>cond BY.1 (Cm.l0 m19 Rc Ai a1 r2 J11 l12 BY.2 x18) ((BV.f m19 Ai BY.2 x18 (⟨#[114,101,116,117,114,110]⟩:Ah)).bind λr25=>cond r25.1 (A2 (λ(l28:List Tree) (x33:Int) (x34:Int)=>(BV.f m19 Ai x33 x34 (⟨#[59]⟩:Ah)).bind λr36=>(apd 64 l12 [(Tree.mk 30 (⟨#[]⟩:Ah) 0 r22 l28)]).bind λJz=>some (20,(⟨#[]⟩:Ah),0,r2,Jz,r36.2,x34)) (λJ35=>((K4.f m19 Ai r25.2 x18).bind λr52=>cond (!r52) ((D4.f m19 Ai r25.2 x18 (⟨#[59]⟩:Ah)).bind λGs=>some (!Gs)) (some false):Option Bool).bind λOv=>cond Ov ((CM.f m19 Ai r25.2 x18).bind λr47=>J35 r47.1 r47.2.1 r47.2.2) (J35 ([]) r25.2 x18))) (A2 (λ(x55:Bool) (x56:Int)=>cond x55 ((Ff.f m19 Ai x56 x18 6).bind λr60=>(C6.f m19 Ai r60.2.2.2.2.2.1 r60.2.2.2.2.2.2 (⟨#[40]⟩:Ah)).bind λr65=>A2 (λ(x66:Int) (x67:Int) (LS:List Tree)=>(C6.f m19 Ai x66 x67 (⟨#[41]⟩:Ah)).bind λDK=>(Rc.Cm Ai DK.1 DK.2 false).bind λC7=>(apd 64 LS [(Tree.mk C7.1 C7.2.1 C7.2.2.1 C7.2.2.2.1 C7.2.2.2.2.1)]).bind λIZ=>(C6.f m19 Ai C7.2.2.2.2.2.1 C7.2.2.2.2.2.2 (⟨#[101,110,100]⟩:Ah)).bind λE5=>(apd 64 l12 [(Tree.mk 31 r60.2.1 ((LS.length:Nat):Int) r22 IZ)]).bind λl92=>Cm.l0 m19 Rc Ai a1 r2 J11 l92 E5.1 E5.2) (λTi=>(D4.f m19 Ai r65.1 r65.2 (⟨#[41]⟩:Ah)).bind λUA=>cond (!UA) ((FD.f m19 Ai r65.1 r65.2).bind λJg=>Ti Jg.2.1 Jg.2.2 Jg.1) (Ti r65.1 r65.2 ([])))) ((Rc.Ej Ai x56 x18 r22).bind λDT=>(apd 64 l12 [(Tree.mk DT.1 DT.2.1 DT.2.2.1 DT.2.2.2.1 DT.2.2.2.2.1)]).bind λPp=>Cm.l0 m19 Rc Ai a1 r2 J11 Pp DT.2.2.2.2.2.1 DT.2.2.2.2.2.2)) (λJ57=>cond a1 ((BV.f m19 Ai r25.2 x18 (⟨#[102,117,110,99,116,105,111,110]⟩:Ah)).bind λK3=>J57 K3.1 K3.2) (J57 false r25.2))))) (J11 l12 x17 x18)
def Cm.g (Rc:RS) (k:Nat) (Ai:List (Int×Ah×Int×Int)) (An:Int) (AD:Int) (a1:Bool):Option (Int×Ah×Int×Int×List Tree×Int×Int):=(FL.f k Ai An AD).bind λr2=>A2 (λ(l4:List Tree) (x9:Int) (x10:Int)=>some (20,(⟨#[]⟩:Ah),0,r2,l4,x9,x10)) (λJ11=>Cm.l0 k Rc Ai a1 r2 J11 ([]) An AD)
theorem Cm.BN {Rc:RS} (hR:Rc.Good) {k:Nat}:Cm.C (Cm.g Rc k):=by
 intro Ai An AD a1 b0 Ax Be Aw r h Au;refine BC Tryz.func20 I (AY I) ?_;intro A X hh_;obtain ⟨Ay,_⟩:=hh_;unfold Cm.g at h;refine ksr (knp #[V 0,D noS,V 0,V 0,nS] 34 λb1=>(AP (M 1 (Ak (N h λr2 hr2 h=>(Bf (FL.ok hr2 Au) I ⟨(.tail _ Ay),Aj⟩ (M 1 (knp #[V 0,D noS,V 0,V 0,nS] 34 λb3=>(AB 0 5 #[V 20,D noS,V 0,V r2,nS] (G ?_))))))))));obtain ⟨J11,Ny,h⟩:=By h;refine Bz (τ:=(List Tree)×Int×Int×Am×AG×Nat) (λt=>[(4,pt b1),(5,pt b3)]) (c6 λa b c d e f=>bk b3 #[V 20,D noS,V 0,V r2,W e a f] 34 :: bk b0 #[W Aw Ai Ax,V b,V c] 68 :: bk b1 #[V 0,D noS,V 0,V 0,nS] 34 :: d :: X) (c6 λa b c d e f=>J11 a b c=some r/\Bi (AM 34) 34 d (W e a f) a) ?_ ?_;rintro ⟨l4,x9,x10,h5,A6,k7⟩ ⟨h,o8⟩;subst Ny;refine ksr (C0 0 0 5 I (Ao (Ak (AB 0 5 #[V 20,D noS,V 0,V r2,W A6 l4 k7] (G (AT ?_))))));obtain rfl:=Ap h;exact Do 0 5 I [h5,bk b0 #[W Aw Ai Ax,V x9,V x10] 68] (Ao (Ak (Bb ⟨h5,A6,k7,o8,I,I⟩)));refine Bq (CX (Av (Av (Av (CW (τ:=(List Tree)×Int×Int×Am×AG×Nat) (λt=>[(0,pt b0),(1,bv a1),(4,pt b1),(5,pt b3)]) (c6 λa b c d e f=>bk b3 #[V 20,D noS,V 0,V r2,W e a f] 34 :: bk b0 #[W Aw Ai Ax,V b,V c] 68 :: bk b1 #[V 0,D noS,V 0,V 0,nS] 34 :: d :: X) (λm=>c6 λa b c d e f=>Cm.l0 m Rc Ai a1 r2 J11 a b c=some r/\Bi (AM 34) 34 d (W e a f) a) k ([],An,AD,none_,none,0) ⟨h,(Bi.nil (AM 34) 34 none_)⟩ sb I ?_)))));clear h;rintro m19 ⟨l12,x17,x18,h13,EV,k15⟩ ⟨h,o16⟩;rcases m19 with _ | m19;simp [Cm.l0] at h;simp only [Cm.l0] at h;refine AU (ksr (M 1 (Ak (N h λr20 LH h=>(Bf (K4.ok LH Au) I ⟨(t3 Ay),Aj⟩ (M 1 (G (At h (λh=>?_) λh=>?_))))))));refine AF (As (Bq (ksr (M 1 (N h λr22 QY h=>(Bf (FL.ok QY Au) I ⟨(t3 Ay),Aj⟩ (M 1 (G (AU (ksr (M 1 (N h λBY Gi h=>(Bf (BV.ok Gi Au) I ⟨(t3 Ay),Aj⟩ (G (At h (λh=>?_) λh=>?_)))))))))))))));exact CH (B6 (CI (As (Av (Av (Aq (Av (Cw m19 (l12,BY.2,x18,h13,EV,k15) (Nat.lt_succ_self _) ⟨h,o16⟩ sb I))))))));refine AF (As (AU (ksr (M 1 (N h λr25 Gj h=>(Bf (BV.ok Gj Au) I ⟨(t3 Ay),Aj⟩ (G (At h (λh=>?_) λh=>?_))))))));refine ksr (M 2 (knp #[V 0,D noS,V 0,V 0,nS] 34 λb27=>(AB 0 5 #[V 30,D noS,V 0,V r22,nS] (G ?_))));obtain ⟨J35,Wb,h⟩:=By h;refine Bz (τ:=(List Tree)×Int×Int×Am×AG×Nat) (λt=>[(0,pt b0),(4,pt b1),(5,pt b3),(7,pt b27)]) (c6 λa b c d e f=>bk b27 #[V 30,D noS,V 0,V r22,W e a f] 34 :: bk b0 #[W Aw Ai Ax,V b,V c] 68 :: bk b3 #[V 20,D noS,V 0,V r2,W EV l12 k15] 34 :: bk b1 #[V 0,D noS,V 0,V 0,nS] 34 :: h13 :: d :: X) (c6 λa b c d e f=>J35 a b c=some r/\Bi (AM 34) 34 d (W e a f) a) ?_ ?_;rintro ⟨l28,x33,x34,h29,Ix,k31⟩ ⟨h,o32⟩;subst Wb;refine ksr (M 1 (Ak (N h λr36 Kb h=>(Bf (BV.ok Kb Au) I ⟨(t5 Ay),Aj⟩ (AP (M 1 (kld 2 4 I (C0 1 0 5 I (Ak (Ao (Bl #[V 30,D noS,V 0,V r22,W Ix l28 k31] 34 1 λOO=>(BI (Ak (BZ (T:=34) (n:=1) (xs:=[(Tree.mk 30 (⟨#[]⟩:Ah) 0 r22 l28)]) (B2.one (BO (k:=30) (t:=(⟨#[]⟩:Ah)) (n:=0) (a:=r22) 34 o32)) I I (AY I) λh38 o39=>(Cu (N h λJz TP h=>(Df I FI I TP o16 o39 λh41 A42 LO Od=>(M 1 (Aq (AB 4 1 #[V 20,D noS,V 0,V r2,W A42 Jz LO] (AP (C0 0 0 5 I (Ao (Aq (AB 0 5 #[V 20,D noS,V 0,V r2,W A42 Jz LO] (G (AT (Bh (B3 (Bh (B3 (Bh ?_))))))))))))))))))))))))))))))));obtain rfl:=Ap h;exact Do 0 5 I [h41,bk b0 #[W Aw Ai Ax,V r36.2,V x34] 68] (Ao (Bb ⟨h41,A42,LO,Od,I,I⟩));refine N h λOv N7 h=>?_;refine C5 [(0,pt b0),(4,pt b1),(5,pt b3),(7,pt b27),(30,bv Ov)] (bk b27 #[V 30,D noS,V 0,V r22,nS] 34 :: bk b0 #[W Aw Ai Ax,V r25.2,V x18] 68 :: bk b3 #[V 20,D noS,V 0,V r2,W EV l12 k15] 34 :: bk b1 #[V 0,D noS,V 0,V 0,nS] 34 :: h13 :: X) ?_ ?_;clear N7;refine At h (λh=>?_) λh=>?_;refine AK (M 1 (Ak (N h λr47 hr47 h=>(AZ (CM.ok hr47 Au) I ⟨(t4 Ay),Aj⟩ ?_))));rintro _ _ ⟨h48,A49,Pd,Oe,rfl,rfl⟩;exact AR (M 1 (Aq (AB 4 1 #[V 30,D noS,V 0,V r22,W A49 r47.1 Pd] (G (Ak (BI (BI (BI (BI (BI (AA (r47.1,r47.2.1,r47.2.2,h48,A49,Pd) ⟨h,Oe⟩ sb I)))))))))));exact AF (As (CX (BI (BI (BI (BI (BI (AA ([],r25.2,x18,none_,none,0) ⟨h,(Bi.nil (AM 34) 34 none_)⟩ sb I))))))));have h:=N7;clear N7;refine AK (M 1 (Ak (N h λr52 NE h=>(Bf (K4.ok NE Au) I ⟨(t4 Ay),Aj⟩ (M 2 (Bt 26 h (λh=>?_) λh=>?_))))));exact M 1 (N h λGs NF h=>(Bf (D4.ok NF Au) I ⟨(t4 Ay),Aj⟩ (M 2 (G (Cu (Cu (Cu (Av (Cu (AW ⟨gr,gr,gr,gr,gb (Ap h),Aj⟩))))))))));exact M 4 (G (Cu (Cu (Cu (Av (Cu (AW ⟨gr,gr,gr,gr,gb (Ap h),Aj⟩)))))));refine AF (As (AU ?_));obtain ⟨J57,Wd,h⟩:=By h;refine Bz (τ:=Bool×Int) (λt=>[(0,pt b0),(1,bv a1),(4,pt b1),(5,pt b3),(6,V r22),(47,bv t.1)]) (λt=>bk b0 #[W Aw Ai Ax,V t.2,V x18] 68 :: bk b3 #[V 20,D noS,V 0,V r2,W EV l12 k15] 34 :: bk b1 #[V 0,D noS,V 0,V 0,nS] 34 :: h13 :: X) (λt=>J57 t.1 t.2=some r) ?_ ?_;rintro ⟨x55,x56⟩ h;subst Wd;refine At h (λh=>?_) λh=>?_;refine ksr (M 2 (knp #[V 0,D noS,V 0,V 0,nS] 34 λb59=>(AB 0 5 #[V 31,D noS,V 0,V r22,nS] (AP (M 1 (Ak (N h λr60 Rh h=>(AZ (Ff.ok Rh Au) I ⟨(t4 Ay),Aj⟩ ?_))))))));rintro _ _ ⟨h61,A62,k63,o64,rfl,rfl⟩;refine AR (M 2 (Aq (AB 1 1 #[V 31,D r60.2.1,V 0,V r22,nS] (Ak (Ao (AP (M 1 (Ak (N h λr65 WR h=>(Bf (C6.ok WR Au) I ⟨(t4 Ay),Aj⟩ (G ?_)))))))))));obtain ⟨Ti,A7z,h⟩:=By h;refine Bz (τ:=Int×Int×(List Tree)×Am×AG×Nat) (λt=>[(0,pt b0),(1,bv a1),(4,pt b1),(5,pt b3),(8,pt b59)]) (c6 λa b c d e f=>bk b0 #[W Aw Ai Ax,V a,V b] 68 :: bk b59 #[V 31,D r60.2.1,V 0,V r22,W e c f] 34 :: bk b3 #[V 20,D noS,V 0,V r2,W EV l12 k15] 34 :: bk b1 #[V 0,D noS,V 0,V 0,nS] 34 :: h13 :: d :: X) (c6 λa b c d e f=>Ti a b c=some r/\Bi (AM 34) 34 d (W e c f) c) ?_ ?_;rintro ⟨x66,x67,LS,h69,A70,k71⟩ ⟨h,o72⟩;subst A7z;refine ksr (M 1 (kld 1 4 I (M 2 (Ak (AB 2 1 #[V 31,D r60.2.1,V ((LS.length:Nat):Int),V r22,W A70 LS k71] (AP (M 1 (Ak (N h λDK Rk h=>(Bf (C6.ok Rk Au) I ⟨(t5 Ay),Aj⟩ (G (AU (kpr [(0,0),(1,3),(2,0),(3,1),(4,1)] [1] (AJ 1 (B7 0 4 I (AJ 1 (kpt (N h λC7 Bih h=>(Ex (hR.Cm Bih Au) I ⟨(t5 Ay),Aj⟩ ?_)))))))))))))))))));rintro _ _ ⟨h76,Nd,NS,o79,rfl,rfl⟩;exact AR (B_ [2] I (kpt (E_ #[V C7.1,D C7.2.1,V C7.2.2.1,V C7.2.2.2.1,W Nd C7.2.2.2.2.1 NS] 34 1 λb80=>(B_ [3] I (BF (Ak (Ak (BZ (T:=34) (n:=1) (xs:=[(Tree.mk C7.1 C7.2.1 C7.2.2.1 C7.2.2.2.1 C7.2.2.2.2.1)]) (B2.one (BO (k:=C7.1) (t:=C7.2.1) (n:=C7.2.2.1) (a:=C7.2.2.2.1) 34 o79)) I I (AY I) λh81 Oh=>(Aa8 (N h λIZ Bek h=>(Df I FI I Bek o72 Oh λh84 A85 k86 o87=>(M 1 (Aq (AB 4 1 #[V 31,D r60.2.1,V ((LS.length:Nat):Int),V r22,W A85 IZ k86] (AP (M 1 (Aq (N h λE5 Ro h=>(Bf (C6.ok Ro Au) I ⟨(t5 Ay),Aj⟩ (AP (M 1 (kld 3 4 I (C0 1 0 5 I (Ak (Ao (Bl #[V 31,D r60.2.1,V ((LS.length:Nat):Int),V r22,W A85 IZ k86] 34 1 λb89=>(Aq (Ak (BZ (T:=34) (n:=1) (xs:=[(Tree.mk 31 r60.2.1 ((LS.length:Nat):Int) r22 IZ)]) (B2.one (BO (k:=31) (t:=r60.2.1) (n:=((LS.length:Nat):Int)) (a:=r22) 34 o87)) I I (AY I) λh90 o91=>(Cu (N h λl92 Beo h=>(Df I FI I Beo o16 o91 λh93 A94 k95 o96=>(M 1 (Aq (AB 4 1 #[V 20,D noS,V 0,V r2,W A94 l92 k95] (G (CH (B6 (CI (As (Ak (Av (Av (Av (Cw m19 (l92,E5.1,E5.2,h93,A94,k95) (Nat.lt_succ_self _) ⟨h,o96⟩ sb I)))))))))))))))))))))))))))))))))))))))))))));refine ksr (M 1 (N h λUA Biv h=>(Bf (D4.ok Biv Au) I ⟨(t4 Ay),Aj⟩ (M 1 (G (At h (λh=>?_) λh=>?_))))));refine AK (M 1 (N h λJg Biw h=>(AZ (FD.ok Biw Au) I ⟨(t4 Ay),Aj⟩ ?_)));rintro _ _ ⟨Aem,UP,Xl,XY,rfl,rfl⟩;exact AR (M 1 (Aq (AB 4 1 #[V 31,D r60.2.1,V 0,V r22,W UP Jg.1 Xl] (G (Ak (BI (BI (BI (Cu (BI (AA (Jg.2.1,Jg.2.2,Jg.1,Aem,UP,Xl) ⟨h,XY⟩ sb I)))))))))));exact AF (As (CX (BI (BI (BI (BI (BI (AA (r65.1,r65.2,[],none_,none,0) ⟨h,(Bi.nil (AM 34) 34 none_)⟩ sb I))))))));refine AF (As (kpr [(0,0),(1,3),(2,0),(3,0),(4,1),(5,1)] [1] (AJ 1 (B7 0 4 I (AJ 2 (kpt (N h λDT Bey h=>(Ex (hR.Ej Bey Au) I ⟨(t3 Ay),Aj⟩ ?_))))))));rintro _ _ ⟨Ca9,Atd,Bl9,Bq1,rfl,rfl⟩;exact AR (B_ [2] I (kpt (E_ #[V DT.1,D DT.2.1,V DT.2.2.1,V DT.2.2.2.1,W Atd DT.2.2.2.2.1 Bl9] 34 1 λCad=>(B_ [3] I (BF (Ak (Ak (BZ (T:=34) (n:=1) (xs:=[(Tree.mk DT.1 DT.2.1 DT.2.2.1 DT.2.2.2.1 DT.2.2.2.2.1)]) (B2.one (BO (k:=DT.1) (t:=DT.2.1) (n:=DT.2.2.1) (a:=DT.2.2.2.1) 34 Bq1)) I I (AY I) λA5p o111=>(Cu (N h λPp Bbc h=>(Df I FI I Bbc o16 o111 λA5r US Xn RW=>(M 1 (Aq (AB 4 1 #[V 20,D noS,V 0,V r2,W US Pp Xn] (knl (A_ (As (Ak (Av (Av (Av (Cw m19 (Pp,DT.2.2.2.2.2.1,DT.2.2.2.2.2.2,A5r,US,Xn) (Nat.lt_succ_self _) ⟨h,RW⟩ sb I))))))))))))))))))))));refine AK (M 2 (Bt 44 h (λh=>?_) λh=>?_));exact M 1 (N h λK3 WG h=>(Bf (BV.ok WG Au) I ⟨(t3 Ay),Aj⟩ (M 1 (G (AA (K3.1,K3.2) h sb I)))));exact M 3 (G (AA (false,r25.2) h sb I));exact CH (B6 (B6 (CI (As (Av (Av (Aq (Av (AA (l12,x17,x18,h13,EV,k15) ⟨h,o16⟩ sb I)))))))))
def Ej.l0:Nat->(Rc:RS)->(Ai:List (Int×Ah×Int×Int))->(J49:(List Tree)->Int->Int->Option (Int×Ah×Int×Int×List Tree×Int×Int))->(x74:Bool)->(Ha:List Tree)->(x80:Int)->(x81:Int)->Option (Int×Ah×Int×Int×List Tree×Int×Int)
 | 0,_,_,_,_,_,_,_=>none
 | MG+1,Rc,Ai,J49,x74,Ha,x80,x81=>cond x74 ((BR.f MG Ai x80 x81 1).bind λCg=>(C6.f MG Ai Cg.2.2.2.2.2.1 Cg.2.2.2.2.2.2 (⟨#[116,104,101,110]⟩:Ah)).bind λZn=>(Rc.Cm Ai Zn.1 Zn.2 false).bind λr91=>(apd 64 Ha [(Tree.mk Cg.1 Cg.2.1 Cg.2.2.1 Cg.2.2.2.1 Cg.2.2.2.2.1),(Tree.mk r91.1 r91.2.1 r91.2.2.1 r91.2.2.2.1 r91.2.2.2.2.1)]).bind λPn=>(BV.f MG Ai r91.2.2.2.2.2.1 r91.2.2.2.2.2.2 (⟨#[101,108,115,101,105,102]⟩:Ah)).bind λJF=>Ej.l0 MG Rc Ai J49 JF.1 Pn JF.2 r91.2.2.2.2.2.2) (J49 Ha x80 x81)
def Ej.g (Rc:RS) (k:Nat) (Ai:List (Int×Ah×Int×Int)) (An:Int) (AD:Int) (a1:Int):Option (Int×Ah×Int×Int×List Tree×Int×Int):=A2 (λ(x3:Int) (x4:Int) (l5:List Tree) (x10:Int) (x11:Int)=>some (x3,(⟨#[]⟩:Ah),x4,a1,l5,x10,x11)) (λJ12=>(D4.f k Ai An AD (⟨#[100,111]⟩:Ah)).bind λr13=>cond r13 ((Rc.DU Ai An AD).bind λCs=>J12 28 0 ([(Tree.mk Cs.1 Cs.2.1 Cs.2.2.1 Cs.2.2.2.1 Cs.2.2.2.2.1)]) Cs.2.2.2.2.2.1 Cs.2.2.2.2.2.2) ((BV.f k Ai An AD (⟨#[119,104,105,108,101]⟩:Ah)).bind λBY=>cond BY.1 ((BR.f k Ai BY.2 AD 1).bind λr25=>(Rc.DU Ai r25.2.2.2.2.2.1 r25.2.2.2.2.2.2).bind λr31=>J12 25 0 ([(Tree.mk r25.1 r25.2.1 r25.2.2.1 r25.2.2.2.1 r25.2.2.2.2.1),(Tree.mk r31.1 r31.2.1 r31.2.2.1 r31.2.2.2.1 r31.2.2.2.2.1)]) r31.2.2.2.2.2.1 r31.2.2.2.2.2.2) ((BV.f k Ai BY.2 AD (⟨#[105,102]⟩:Ah)).bind λr40=>cond r40.1 (A2 (λ(Li:List Tree) (x47:Int) (x48:Int)=>A2 (λ(NX:List Tree) (x55:Int) (x56:Int)=>(C6.f k Ai x55 x56 (⟨#[101,110,100]⟩:Ah)).bind λJG=>J12 24 0 NX JG.1 JG.2) (λJ57=>(BV.f k Ai x47 x48 (⟨#[101,108,115,101]⟩:Ah)).bind λr59=>cond r59.1 ((Rc.Cm Ai r59.2 x48 false).bind λDd=>(apd 64 Li [(Tree.mk Dd.1 Dd.2.1 Dd.2.2.1 Dd.2.2.2.1 Dd.2.2.2.2.1)]).bind λl69=>J57 l69 Dd.2.2.2.2.2.1 Dd.2.2.2.2.2.2) (J57 Li r59.2 x48))) (λJ49=>Ej.l0 k Rc Ai J49 true ([]) r40.2 AD)) ((BV.f k Ai r40.2 AD (⟨#[102,111,114]⟩:Ah)).bind λU7=>cond U7.1 ((Rc.E3 Ai U7.2 AD a1).bind λDX=>some (DX.1,DX.2.1,DX.2.2.1,DX.2.2.2.1,DX.2.2.2.2.1,DX.2.2.2.2.2.1,DX.2.2.2.2.2.2)) ((BV.f k Ai U7.2 AD (⟨#[108,111,99,97,108]⟩:Ah)).bind λK0=>cond K0.1 ((FD.f k Ai K0.2 AD).bind λHj=>(BV.f k Ai Hj.2.1 Hj.2.2 (⟨#[61]⟩:Ah)).bind λEd=>cond Ed.1 ((CM.f k Ai Ed.2 Hj.2.2).bind λPC=>(apd 64 Hj.1 PC.1).bind λUm=>J12 21 ((Hj.1.length:Nat):Int) Um PC.2.1 PC.2.2) (J12 21 ((Hj.1.length:Nat):Int) Hj.1 Ed.2 Hj.2.2)) ((BV.f k Ai K0.2 AD (⟨#[98,114,101,97,107]⟩:Ah)).bind λSq=>cond Sq.1 (J12 29 0 ([]) Sq.2 AD) ((Rc.E4 Ai Sq.2 AD a1).bind λGI=>some (GI.1,GI.2.1,GI.2.2.1,GI.2.2.2.1,GI.2.2.2.2.1,GI.2.2.2.2.2.1,GI.2.2.2.2.2.2))))))))
theorem Ej.BN {Rc:RS} (hR:Rc.Good) {k:Nat}:Ej.C (Ej.g Rc k):=by
 intro Ai An AD a1 b0 Ax Be Aw r h Au;refine BC Tryz.func53 I (AY I) ?_;intro A X hh_;obtain ⟨Ay,_⟩:=hh_;unfold Ej.g at h;refine ksr (knp #[V 0,D noS,V 0,V 0,nS] 34 λb1=>(AP (M 2 (knp #[V 0,D noS,V 0,V 0,nS] 34 λb2=>(AB 0 5 #[V 0,D noS,V 0,V a1,nS] (G ?_))))));obtain ⟨J12,LC,h⟩:=By h;refine Bz (τ:=Int×Int×(List Tree)×Int×Int×Am×AG×Nat) (λt=>[(4,pt b1),(5,pt b2)]) (c8 λa b c d e f g i=>bk b2 #[V a,D noS,V b,V a1,W g c i] 34 :: bk b1 #[V 0,D noS,V 0,V 0,nS] 34 :: bk b0 #[W Aw Ai Ax,V d,V e] 68 :: f :: X) (c8 λa b c d e f g i=>J12 a b c d e=some r/\Bi (AM 34) 34 f (W g c i) c) ?_ ?_;rintro ⟨x3,x4,l5,x10,x11,h6,A7,k8⟩ ⟨h,o9⟩;subst LC;refine ksr (C0 0 0 5 I (Ao (AB 0 5 #[V x3,D noS,V x4,V a1,W A7 l5 k8] (G (AT ?_)))));obtain rfl:=Ap h;exact Do 0 5 I [h6,bk b0 #[W Aw Ai Ax,V x10,V x11] 68] (Ao (Ak (Bb ⟨h6,A7,k8,o9,I,I⟩)));refine Bq (ksr (M 1 (Aq (N h λr13 GZ h=>(Bf (D4.ok GZ Au) I ⟨(t2 Ay),Aj⟩ (M 1 (G (At h (λh=>?_) λh=>?_))))))));refine ksr (M 1 (Ak (AB 0 1 #[V 28,D noS,V 0,V a1,nS] (CY (M 1 (Ak (N h λCs JZ h=>(AZ (hR.DU JZ Au) I ⟨(t2 Ay),Aj⟩ ?_))))))));rintro _ _ ⟨h16,D_,k18,o19,rfl,rfl⟩;exact AR (Bl #[V Cs.1,D Cs.2.1,V Cs.2.2.1,V Cs.2.2.2.1,W D_ Cs.2.2.2.2.1 k18] 34 1 λb20=>(M 1 (Av (AB 4 1 #[V 28,D noS,V 0,V a1,.slice (some ⟨b20,0,none⟩) 1 1] (knl (A_ (As (Aq (Aq (BZ (T:=34) (n:=1) (xs:=[(Tree.mk Cs.1 Cs.2.1 Cs.2.2.1 Cs.2.2.2.1 Cs.2.2.2.2.1)]) (B2.one (BO (k:=Cs.1) (t:=Cs.2.1) (n:=Cs.2.2.1) (a:=Cs.2.2.2.1) 34 o19)) I I (AY I) λh21 Yg=>(Aq (Av (Av (AA (28,0,[(Tree.mk Cs.1 Cs.2.1 Cs.2.2.1 Cs.2.2.2.1 Cs.2.2.2.2.1)],Cs.2.2.2.2.2.1,Cs.2.2.2.2.2.2,h21,(some ⟨b20,0,none⟩),1) ⟨h,Yg⟩ sb I))))))))))))));refine ksr (M 1 (N h λBY Gi h=>(Bf (BV.ok Gi Au) I ⟨(t2 Ay),Aj⟩ (M 1 (G (At h (λh=>?_) λh=>?_))))));refine ksr (M 1 (Ak (AB 0 1 #[V 25,D noS,V 0,V a1,nS] (AP (M 1 (Ak (N h λr25 Gj h=>(AZ (BR.ok Gj Au) I ⟨(t2 Ay),Aj⟩ ?_))))))));rintro _ _ ⟨h26,A27,k28,o29,rfl,rfl⟩;refine AR (knp #[V 0,D noS,V 0,V 0,nS] 34 λb30=>(AB 0 5 #[V r25.1,D r25.2.1,V r25.2.2.1,V r25.2.2.2.1,W A27 r25.2.2.2.2.1 k28] (G (kpr [(0,3),(1,0),(2,1)] [0] (H5 0 0 5 I (AJ 1 (kpt (Aq (N h λr31 WK h=>(Ex (hR.DU WK Au) I ⟨(t4 Ay),Aj⟩ ?_))))))))));rintro _ _ ⟨h32,A33,k34,Yq,rfl,rfl⟩;exact AR (B_ [2] I (BF (Bl #[V r25.1,D r25.2.1,V r25.2.2.1,V r25.2.2.2.1,W A27 r25.2.2.2.2.1 k28,V r31.1,D r31.2.1,V r31.2.2.1,V r31.2.2.2.1,W A33 r31.2.2.2.2.1 k34] 34 2 λVo=>(Av (Ao (M 1 (Cu (AB 4 1 #[V 25,D noS,V 0,V a1,.slice (some ⟨Vo,0,none⟩) 2 2] (knl (A_ (As (Aq (Cu (Ko λp37=>(Aq (BZ (T:=34) (n:=2) (xs:=[(Tree.mk r25.1 r25.2.1 r25.2.2.1 r25.2.2.2.1 r25.2.2.2.2.1),(Tree.mk r31.1 r31.2.1 r31.2.2.1 r31.2.2.2.1 r31.2.2.2.2.1)]) (B2.cons (BO (k:=r25.1) (t:=r25.2.1) (n:=r25.2.2.1) (a:=r25.2.2.2.1) 34 o29) p37 (B2.one (BO (k:=r31.1) (t:=r31.2.1) (n:=r31.2.2.1) (a:=r31.2.2.2.1) 34 Yq))) I I (AY I) λh38 o39=>(Aq (Av (Av (AA (25,0,[(Tree.mk r25.1 r25.2.1 r25.2.2.1 r25.2.2.2.1 r25.2.2.2.2.1),(Tree.mk r31.1 r31.2.1 r31.2.2.1 r31.2.2.2.1 r31.2.2.2.2.1)],r31.2.2.2.2.2.1,r31.2.2.2.2.2.2,h38,(some ⟨Vo,0,none⟩),2) ⟨h,o39⟩ sb I))))))))))))))))))));refine ksr (M 1 (N h λr40 LL h=>(Bf (BV.ok LL Au) I ⟨(t2 Ay),Aj⟩ (M 1 (G (At h (λh=>?_) λh=>?_))))));refine ksr (M 1 (Ak (AB 0 1 #[V 24,D noS,V 0,V a1,nS] (AP (M 1 (G ?_))))));obtain ⟨J49,hJ49,h⟩:=By h;refine Bz (τ:=(List Tree)×Int×Int×Am×AG×Nat) (λt=>[(0,pt b0),(4,pt b1),(5,pt b2)]) (c6 λa b c d e f=>bk b2 #[V 24,D noS,V 0,V a1,W e a f] 34 :: bk b0 #[W Aw Ai Ax,V b,V c] 68 :: bk b1 #[V 0,D noS,V 0,V 0,nS] 34 :: d :: X) (c6 λa b c d e f=>J49 a b c=some r/\Bi (AM 34) 34 d (W e a f) a) ?_ ?_;rintro ⟨Li,x47,x48,h43,A44,k45⟩ ⟨h,MI⟩;subst hJ49;obtain ⟨J57,Wd,h⟩:=By h;refine Bz (τ:=(List Tree)×Int×Int×Am×AG×Nat) (λt=>[(0,pt b0),(4,pt b1),(5,pt b2)]) (c6 λa b c d e f=>bk b2 #[V 24,D noS,V 0,V a1,W e a f] 34 :: bk b0 #[W Aw Ai Ax,V b,V c] 68 :: bk b1 #[V 0,D noS,V 0,V 0,nS] 34 :: d :: X) (c6 λa b c d e f=>J57 a b c=some r/\Bi (AM 34) 34 d (W e a f) a) ?_ ?_;rintro ⟨NX,x55,x56,h51,Mn,M4⟩ ⟨h,o54⟩;subst Wd;exact AK (M 1 (Ak (N h λJG WQ h=>(Bf (C6.ok WQ Au) I ⟨(t3 Ay),Aj⟩ (knl (A_ (As (Av (Ak (Av (Av (AA (24,0,NX,JG.1,JG.2,h51,Mn,M4) ⟨h,o54⟩ sb I))))))))))));refine ksr (M 1 (Ak (N h λr59 hr59 h=>(Bf (BV.ok hr59 Au) I ⟨(t3 Ay),Aj⟩ (G (At h (λh=>?_) λh=>?_))))));refine kpr [(0,0),(1,3),(2,0),(3,1),(4,1)] [1] (AJ 1 (B7 0 4 I (AJ 1 (kpt (N h λDd NH h=>(Ex (hR.Cm NH Au) I ⟨(t3 Ay),Aj⟩ ?_))))));rintro _ _ ⟨h62,A63,k64,Yv,rfl,rfl⟩;exact AR (B_ [2] I (kpt (E_ #[V Dd.1,D Dd.2.1,V Dd.2.2.1,V Dd.2.2.2.1,W A63 Dd.2.2.2.2.1 k64] 34 1 λb66=>(B_ [3] I (BF (Ak (Ak (BZ (T:=34) (n:=1) (xs:=[(Tree.mk Dd.1 Dd.2.1 Dd.2.2.1 Dd.2.2.2.1 Dd.2.2.2.2.1)]) (B2.one (BO (k:=Dd.1) (t:=Dd.2.1) (n:=Dd.2.2.1) (a:=Dd.2.2.2.1) 34 Yv)) I I (AY I) λM2 Yw=>(Cu (N h λl69 Bdq h=>(Df I FI I Bdq MI Yw λh70 A71 k72 o73=>(M 1 (Aq (AB 4 1 #[V 24,D noS,V 0,V a1,W A71 l69 k72] (G (Ak (Av (Av (Av (AA (l69,Dd.2.2.2.2.2.1,Dd.2.2.2.2.2.2,h70,A71,k72) ⟨h,o73⟩ sb I))))))))))))))))))));exact AF (As (Av (Av (Aq (Av (AA (Li,r59.2,x48,h43,A44,k45) ⟨h,MI⟩ sb I))))));refine Bq (CX (Av (Av (Av (CW (τ:=Bool×(List Tree)×Int×Int×Am×AG×Nat) (λt=>[(0,pt b0),(4,pt b1),(5,pt b2),(7,bv t.1)]) (c7 λ_ b c d e f g=>bk b2 #[V 24,D noS,V 0,V a1,W f b g] 34 :: bk b0 #[W Aw Ai Ax,V c,V d] 68 :: bk b1 #[V 0,D noS,V 0,V 0,nS] 34 :: e :: X) (λm=>c7 λa b c d e f g=>Ej.l0 m Rc Ai J49 a b c d=some r/\Bi (AM 34) 34 e (W f b g) b) k (true,[],r40.2,AD,none_,none,0) ⟨h,(Bi.nil (AM 34) 34 none_)⟩ sb I ?_)))));clear h;rintro MG ⟨x74,Ha,x80,x81,h76,Nd,NS⟩ ⟨h,o79⟩;rcases MG with _ | MG;simp [Ej.l0] at h;simp only [Ej.l0] at h;refine AU (ksr (M 1 (G (At h (λh=>?_) λh=>?_))));refine AF (As (Bq (ksr (M 1 (Ak (N h λCg Rn h=>(AZ (BR.ok Rn Au) I ⟨(t3 Ay),Aj⟩ ?_)))))));rintro _ _ ⟨h85,A86,Uf,o88,rfl,rfl⟩;refine AR (knp #[V 0,D noS,V 0,V 0,nS] 34 λb89=>(AB 0 5 #[V Cg.1,D Cg.2.1,V Cg.2.2.1,V Cg.2.2.2.1,W A86 Cg.2.2.2.2.1 Uf] (AP (M 1 (Aq (N h λZn Biq h=>(Bf (C6.ok Biq Au) I ⟨(t5 Ay),Aj⟩ (G (AU (kpr [(0,0),(1,3),(2,3),(3,0),(4,1),(5,1)] [1,3] (AJ 1 (B7 1 4 I (H5 0 0 5 I (AJ 1 (kpt (N h λr91 Rp h=>(Ex (hR.Cm Rp Au) I ⟨(t5 Ay),Aj⟩ ?_)))))))))))))))));rintro _ _ ⟨Nw,Q6,Rz,o95,rfl,rfl⟩;exact AR (B_ [2,4] I (kpt (E_ #[V Cg.1,D Cg.2.1,V Cg.2.2.1,V Cg.2.2.2.1,W A86 Cg.2.2.2.2.1 Uf,V r91.1,D r91.2.1,V r91.2.2.1,V r91.2.2.2.1,W Q6 r91.2.2.2.2.1 Rz] 34 2 λb96=>(B_ [3,5] I (BF (Ak (Cu (Ko λp97=>(Ak (BZ (T:=34) (n:=2) (xs:=[(Tree.mk Cg.1 Cg.2.1 Cg.2.2.1 Cg.2.2.2.1 Cg.2.2.2.2.1),(Tree.mk r91.1 r91.2.1 r91.2.2.1 r91.2.2.2.1 r91.2.2.2.2.1)]) (B2.cons (BO (k:=Cg.1) (t:=Cg.2.1) (n:=Cg.2.2.1) (a:=Cg.2.2.2.1) 34 o88) p97 (B2.one (BO (k:=r91.1) (t:=r91.2.1) (n:=r91.2.2.1) (a:=r91.2.2.2.1) 34 o95))) I I (AY I) λh98 Oi=>(BI (N h λPn Ba8 h=>(Df I FI I Ba8 o79 Oi λAeo ZS Ahc Bqw=>(Aq (Ao (M 1 (Aq (AB 4 1 #[V 24,D noS,V 0,V a1,W ZS Pn Ahc] (CY (M 1 (Aq (N h λJF WF h=>(Bf (BV.ok WF Au) I ⟨(t3 Ay),Aj⟩ (M 1 (knl (A_ (As (Aq (Av (Aq (Av (Cw MG (JF.1,Pn,JF.2,r91.2.2.2.2.2.2,Aeo,ZS,Ahc) (Nat.lt_succ_self _) ⟨h,Bqw⟩ sb I))))))))))))))))))))))))))))))));exact CH (B6 (B6 (CI (As (AA (Ha,x80,x81,h76,Nd,NS) ⟨h,o79⟩ sb I)))));refine ksr (M 1 (N h λU7 Bez h=>(Bf (BV.ok Bez Au) I ⟨(t2 Ay),Aj⟩ (M 1 (G (At h (λh=>?_) λh=>?_))))));refine ksr (M 2 (N h λDX Be1 h=>(AZ (hR.E3 Be1 Au) I ⟨(t2 Ay),Aj⟩ ?_)));rintro _ _ ⟨TK,Q0,Rv,P3,rfl,rfl⟩;refine AR (Aq (Ao (Aq (AB 0 5 #[V DX.1,D DX.2.1,V DX.2.2.1,V DX.2.2.2.1,W Q0 DX.2.2.2.2.1 Rv] (G (AT (B3 (Bh ?_))))))));obtain rfl:=Ap h;exact Do 0 5 I [TK,bk b0 #[W Aw Ai Ax,V DX.2.2.2.2.2.1,V DX.2.2.2.2.2.2] 68] (Ao (Bb ⟨TK,Q0,Rv,P3,I,I⟩));refine ksr (M 1 (N h λK0 QW h=>(Bf (BV.ok QW Au) I ⟨(t2 Ay),Aj⟩ (M 1 (G (At h (λh=>?_) λh=>?_))))));refine ksr (M 1 (Ak (AB 0 1 #[V 21,D noS,V 0,V a1,nS] (AP (M 1 (Ak (N h λHj Be8 h=>(AZ (FD.ok Be8 Au) I ⟨(t2 Ay),Aj⟩ ?_))))))));rintro _ _ ⟨h116,Q3,Rx,Ut,rfl,rfl⟩;refine AR (M 1 (Aq (AB 4 1 #[V 21,D noS,V 0,V a1,W Q3 Hj.1 Rx] (AP (M 1 (kld 0 4 I (M 2 (AB 2 1 #[V 21,D noS,V ((Hj.1.length:Nat):Int),V a1,W Q3 Hj.1 Rx] (AP (M 1 (Aq (N h λEd WH h=>(Bf (BV.ok WH Au) I ⟨(t3 Ay),Aj⟩ (G (At h (λh=>?_) λh=>?_)))))))))))))));refine kpr [(0,0),(1,3),(2,0),(3,1)] [1] (AJ 1 (B7 0 4 I (AJ 1 (kpt (N h λPC Bfd h=>(Ex (CM.ok Bfd Au) I ⟨(t3 Ay),Aj⟩ ?_))))));rintro _ _ ⟨Cbb,B3z,Cft,Brd,rfl,rfl⟩;exact AR (B_ [2] I (BF (Av (N h λUm Bbg h=>(Df I FI I Bbg Ut Brd λh128 UU Xp Yc=>(M 1 (Aq (AB 4 1 #[V 21,D noS,V ((Hj.1.length:Nat):Int),V a1,W UU Um Xp] (knl (A_ (As (Ak (Aq (Av (Av (AA (21,((Hj.1.length:Nat):Int),Um,PC.2.1,PC.2.2,h128,UU,Xp) ⟨h,Yc⟩ sb I))))))))))))))));exact AF (A_ (As (Aq (Ak (Av (Av (AA (21,((Hj.1.length:Nat):Int),Hj.1,Ed.2,Hj.2.2,h116,Q3,Rx) ⟨h,Ut⟩ sb I)))))));refine ksr (M 1 (N h λSq Bfg h=>(Bf (BV.ok Bfg Au) I ⟨(t2 Ay),Aj⟩ (M 1 (G (At h (λh=>?_) λh=>?_))))));exact AK (M 1 (Ak (AB 0 1 #[V 29,D noS,V 0,V a1,nS] (knl (A_ (As (CX (Aq (Av (Av (AA (29,0,[],Sq.2,AD,none_,none,0) ⟨h,(Bi.nil (AM 34) 34 none_)⟩ sb I)))))))))));refine ksr (M 2 (N h λGI WI h=>(AZ (hR.E4 WI Au) I ⟨(t2 Ay),Aj⟩ ?_)));rintro _ _ ⟨VO,UV,Xq,Yd,rfl,rfl⟩;refine AR (Aq (Ao (Aq (AB 0 5 #[V GI.1,D GI.2.1,V GI.2.2.1,V GI.2.2.2.1,W UV GI.2.2.2.2.1 Xq] (G (AT (B3 (Bh ?_))))))));obtain rfl:=Ap h;exact Do 0 5 I [VO,bk b0 #[W Aw Ai Ax,V GI.2.2.2.2.2.1,V GI.2.2.2.2.2.2] 68] (Ao (Bb ⟨VO,UV,Xq,Yd,I,I⟩))
def E3.l0:Nat->(Ai:List (Int×Ah×Int×Int))->(J82:(List Tree)->Int->Int->Option (Int×Ah×Int×Int×List Tree×Int×Int))->(R4:List Tree)->(x113:Int)->(x114:Int)->Option (Int×Ah×Int×Int×List Tree×Int×Int)
 | 0,_,_,_,_,_=>none
 | NZ+1,Ai,J82,R4,x113,x114=>(BV.f NZ Ai x113 x114 (⟨#[44]⟩:Ah)).bind λK3=>cond K3.1 ((Ff.f NZ Ai K3.2 x114 6).bind λEd=>(apd 64 R4 [(Tree.mk Ed.1 Ed.2.1 Ed.2.2.1 Ed.2.2.2.1 Ed.2.2.2.2.1)]).bind λX9=>E3.l0 NZ Ai J82 X9 Ed.2.2.2.2.2.1 Ed.2.2.2.2.2.2) (J82 R4 K3.2 x114)
def E3.g (Rc:RS) (k:Nat) (Ai:List (Int×Ah×Int×Int)) (An:Int) (AD:Int) (a1:Int):Option (Int×Ah×Int×Int×List Tree×Int×Int):=(Ff.f k Ai An AD 6).bind λr2=>(BV.f k Ai r2.2.2.2.2.2.1 r2.2.2.2.2.2.2 (⟨#[61]⟩:Ah)).bind λr8=>cond r8.1 ((BR.f k Ai r8.2 r2.2.2.2.2.2.2 1).bind λr10=>(apd 64 [(Tree.mk r2.1 r2.2.1 r2.2.2.1 r2.2.2.2.1 r2.2.2.2.2.1)] [(Tree.mk r10.1 r10.2.1 r10.2.2.1 r10.2.2.2.1 r10.2.2.2.2.1)]).bind λCk=>(C6.f k Ai r10.2.2.2.2.2.1 r10.2.2.2.2.2.2 (⟨#[44]⟩:Ah)).bind λr25=>(BR.f k Ai r25.1 r25.2 1).bind λB4=>(apd 64 Ck [(Tree.mk B4.1 B4.2.1 B4.2.2.1 B4.2.2.2.1 B4.2.2.2.2.1)]).bind λl34=>A2 (λ(l39:List Tree) (x44:Int) (x45:Int)=>(Rc.DU Ai x44 x45).bind λr47=>(apd 64 l39 [(Tree.mk r47.1 r47.2.1 r47.2.2.1 r47.2.2.2.1 r47.2.2.2.2.1)]).bind λl55=>some (26,(⟨#[]⟩:Ah),0,a1,l55,r47.2.2.2.2.2.1,r47.2.2.2.2.2.2)) (λJ46=>(BV.f k Ai B4.2.2.2.2.2.1 B4.2.2.2.2.2.2 (⟨#[44]⟩:Ah)).bind λr60=>cond r60.1 ((BR.f k Ai r60.2 B4.2.2.2.2.2.2 1).bind λr62=>(apd 64 l34 [(Tree.mk r62.1 r62.2.1 r62.2.2.1 r62.2.2.2.1 r62.2.2.2.2.1)]).bind λl70=>J46 l70 r62.2.2.2.2.2.1 r62.2.2.2.2.2.2) (J46 l34 r60.2 B4.2.2.2.2.2.2))) (A2 (λ(Ha:List Tree) (x80:Int) (x81:Int)=>(C6.f k Ai x80 x81 (⟨#[105,110]⟩:Ah)).bind λCg=>(CM.f k Ai Cg.1 Cg.2).bind λIs=>(apd 64 Ha Is.1).bind λPv=>(Rc.DU Ai Is.2.1 Is.2.2).bind λr95=>(apd 64 Pv [(Tree.mk r95.1 r95.2.1 r95.2.2.1 r95.2.2.2.1 r95.2.2.2.2.1)]).bind λMB=>some (27,(⟨#[]⟩:Ah),((Ha.length:Nat):Int),a1,MB,r95.2.2.2.2.2.1,r95.2.2.2.2.2.2)) (λJ82=>E3.l0 k Ai J82 ([(Tree.mk r2.1 r2.2.1 r2.2.2.1 r2.2.2.2.1 r2.2.2.2.2.1)]) r8.2 r2.2.2.2.2.2.2))
theorem E3.BN {Rc:RS} (hR:Rc.Good) {k:Nat}:E3.C (E3.g Rc k):=by
 intro Ai An AD a1 b0 Ax Be Aw r h Au;refine BC Tryz.func88 I (AY I) ?_;intro A X hh_;obtain ⟨Ay,_⟩:=hh_;unfold E3.g at h;refine ksr (knp #[V 0,D noS,V 0,V 0,nS] 34 λb1=>(AP (M 1 (Ak (N h λr2 hr2 h=>(AZ (Ff.ok hr2 Au) I ⟨(.tail _ Ay),Aj⟩ ?_))))));rintro _ _ ⟨h3,A4,k5,o6,rfl,rfl⟩;refine AR (Bl #[V r2.1,D r2.2.1,V r2.2.2.1,V r2.2.2.2.1,W A4 r2.2.2.2.2.1 k5] 34 1 λb7=>(M 1 (G (AU (ksr (M 1 (Aq (N h λr8 hr8 h=>(Bf (BV.ok hr8 Au) I ⟨(t3 Ay),Aj⟩ (G (At h (λh=>?_) λh=>?_)))))))))));refine ksr (M 2 (N h λr10 Ii h=>(AZ (BR.ok Ii Au) I ⟨(t3 Ay),Aj⟩ ?_)));rintro _ _ ⟨h11,A12,k13,Jc,rfl,rfl⟩;refine AR (Bl #[V r10.1,D r10.2.1,V r10.2.2.1,V r10.2.2.2.1,W A12 r10.2.2.2.2.1 k13] 34 1 λb15=>(Ak (Ak (BZ (T:=34) (n:=1) (xs:=[(Tree.mk r10.1 r10.2.1 r10.2.2.1 r10.2.2.2.1 r10.2.2.2.2.1)]) (B2.one (BO (k:=r10.1) (t:=r10.2.1) (n:=r10.2.2.1) (a:=r10.2.2.2.1) 34 Jc)) I I (AY I) λh16 o17=>(Av (Av (BZ (T:=34) (n:=1) (xs:=[(Tree.mk r2.1 r2.2.1 r2.2.2.1 r2.2.2.2.1 r2.2.2.2.2.1)]) (B2.one (BO (k:=r2.1) (t:=r2.2.1) (n:=r2.2.2.1) (a:=r2.2.2.2.1) 34 o6)) I I (AY I) λh18 o19=>(Ak (Ak (N h λCk Bbt h=>(Df I FI I Bbt o19 o17 λh21 F1 k23 Ew=>(M 1 (AP (M 1 (Ak (N h λr25 Gj h=>(Bf (C6.ok Gj Au) I ⟨(t2 Ay),Aj⟩ (AP (M 2 (N h λB4 IV h=>(AZ (BR.ok IV Au) I ⟨(t2 Ay),Aj⟩ ?_)))))))))))))))))))));rintro _ _ ⟨h27,A28,k29,Sa,rfl,rfl⟩;refine AR (Bl #[V B4.1,D B4.2.1,V B4.2.2.1,V B4.2.2.2.1,W A28 B4.2.2.2.2.1 k29] 34 1 λb31=>(Ak (Ak (BZ (T:=34) (n:=1) (xs:=[(Tree.mk B4.1 B4.2.1 B4.2.2.1 B4.2.2.2.1 B4.2.2.2.2.1)]) (B2.one (BO (k:=B4.1) (t:=B4.2.1) (n:=B4.2.2.1) (a:=B4.2.2.2.1) 34 Sa)) I I (AY I) λh32 Hb=>(Aq (N h λl34 QU h=>(Df I FI I QU Ew Hb λh35 A36 k37 I6=>(M 1 (G ?_)))))))));obtain ⟨J46,Wc,h⟩:=By h;refine Bz (τ:=(List Tree)×Int×Int×Am×AG×Nat) (c6 λa _ _ _ e f=>[(0,pt b0),(1,V a1),(4,pt b1),(5,W e a f)]) (c6 λ_ b c d _ _=>bk b0 #[W Aw Ai Ax,V b,V c] 68 :: bk b1 #[V 0,D noS,V 0,V 0,nS] 34 :: d :: X) (c6 λa b c d e f=>J46 a b c=some r/\Bi (AM 34) 34 d (W e a f) a) ?_ ?_;rintro ⟨l39,x44,x45,h40,Ic,k42⟩ ⟨h,I7⟩;subst Wc;refine ksr (M 3 (N h λr47 hr47 h=>(AZ (hR.DU hr47 Au) I ⟨(t2 Ay),Aj⟩ ?_)));rintro _ _ ⟨h48,A49,Pd,Oe,rfl,rfl⟩;refine AR (Bl #[V r47.1,D r47.2.1,V r47.2.2.1,V r47.2.2.2.1,W A49 r47.2.2.2.2.1 Pd] 34 1 λNm=>(Ak (Ak (BZ (T:=34) (n:=1) (xs:=[(Tree.mk r47.1 r47.2.1 r47.2.2.1 r47.2.2.2.1 r47.2.2.2.2.1)]) (B2.one (BO (k:=r47.1) (t:=r47.2.1) (n:=r47.2.2.1) (a:=r47.2.2.2.1) 34 Oe)) I I (AY I) λh53 o54=>(Av (N h λl55 Wm h=>(Df I FI I Wm I7 o54 λLB L0 k58 o59=>(M 1 (Aq (AB 0 5 #[V 26,D noS,V 0,V a1,W L0 l55 k58] (G (AT (Bh ?_)))))))))))));obtain rfl:=Ap h;exact Do 0 5 I [LB,bk b0 #[W Aw Ai Ax,V r47.2.2.2.2.2.1,V r47.2.2.2.2.2.2] 68] (Ao (Bb ⟨LB,L0,k58,o59,I,I⟩));refine ksr (M 1 (Ak (N h λr60 Rh h=>(Bf (BV.ok Rh Au) I ⟨(t2 Ay),Aj⟩ (G (At h (λh=>?_) λh=>?_))))));refine AK (M 2 (N h λr62 Bh4 h=>(AZ (BR.ok Bh4 Au) I ⟨(t2 Ay),Aj⟩ ?_)));rintro _ _ ⟨h63,A64,k65,o66,rfl,rfl⟩;exact AR (Bl #[V r62.1,D r62.2.1,V r62.2.2.1,V r62.2.2.2.1,W A64 r62.2.2.2.2.1 k65] 34 1 λb67=>(Ak (Ak (BZ (T:=34) (n:=1) (xs:=[(Tree.mk r62.1 r62.2.1 r62.2.2.1 r62.2.2.2.1 r62.2.2.2.2.1)]) (B2.one (BO (k:=r62.1) (t:=r62.2.1) (n:=r62.2.2.1) (a:=r62.2.2.2.1) 34 o66)) I I (AY I) λh68 o69=>(Aq (N h λl70 Wp h=>(Df I FI I Wp I6 o69 λh71 KR Ld Ku=>(M 1 (G (Aq (Aq (AA (l70,r62.2.2.2.2.2.1,r62.2.2.2.2.2.2,h71,KR,Ld) ⟨h,Ku⟩ sb I))))))))))));exact AF (As (Ak (Aq (Aq (AA (l34,r60.2,B4.2.2.2.2.2.2,h35,A36,k37) ⟨h,I6⟩ sb I)))));refine AF (As ?_);obtain ⟨J82,A79,h⟩:=By h;refine Bz (τ:=(List Tree)×Int×Int×Am×AG×Nat) (c6 λa _ _ _ e f=>[(0,pt b0),(1,V a1),(4,pt b1),(5,W e a f)]) (c6 λ_ b c d _ _=>bk b0 #[W Aw Ai Ax,V b,V c] 68 :: bk b1 #[V 0,D noS,V 0,V 0,nS] 34 :: d :: X) (c6 λa b c d e f=>J82 a b c=some r/\Bi (AM 34) 34 d (W e a f) a) ?_ ?_;rintro ⟨Ha,x80,x81,h76,Nd,NS⟩ ⟨h,o79⟩;subst A79;refine ksr (M 4 (knp #[V 0,D noS,V 0,V 0,nS] 34 λb83=>(AB 0 5 #[V 27,D noS,V ((Ha.length:Nat):Int),V a1,nS] (AP (M 1 (Ak (N h λCg Rn h=>(Bf (C6.ok Rn Au) I ⟨(t3 Ay),Aj⟩ (AP (M 2 (N h λIs WY h=>(AZ (CM.ok WY Au) I ⟨(t3 Ay),Aj⟩ ?_))))))))))));rintro _ _ ⟨h86,A87,k88,o89,rfl,rfl⟩;refine AR (Cu (N h λPv Bem h=>(Df I FI I Bem o79 o89 λh91 A92 k93 Yz=>(M 1 (AP (M 2 (Ak (N h λr95 NM h=>(AZ (hR.DU NM Au) I ⟨(t3 Ay),Aj⟩ ?_)))))))));rintro _ _ ⟨h96,Nf,NU,Oi,rfl,rfl⟩;refine AR (Bl #[V r95.1,D r95.2.1,V r95.2.2.1,V r95.2.2.2.1,W Nf r95.2.2.2.2.1 NU] 34 1 λB99=>(Ak (Ak (BZ (T:=34) (n:=1) (xs:=[(Tree.mk r95.1 r95.2.1 r95.2.2.1 r95.2.2.2.1 r95.2.2.2.2.1)]) (B2.one (BO (k:=r95.1) (t:=r95.2.1) (n:=r95.2.2.1) (a:=r95.2.2.2.1) 34 Oi)) I I (AY I) λAeo XX=>(Aq (N h λMB Bbb h=>(Df I FI I Bbb Yz XX λAep UQ Xm Bq0=>(M 1 (Aq (AB 4 1 #[V 27,D noS,V ((Ha.length:Nat):Int),V a1,W UQ MB Xm] (AP (C0 0 0 5 I (Ao (Aq (AB 0 5 #[V 27,D noS,V ((Ha.length:Nat):Int),V a1,W UQ MB Xm] (G (AT ?_)))))))))))))))));obtain rfl:=Ap h;exact Do 0 5 I [Aep,bk b0 #[W Aw Ai Ax,V r95.2.2.2.2.2.1,V r95.2.2.2.2.2.2] 68] (Ao (Bb ⟨Aep,UQ,Xm,Bq0,I,I⟩));refine Bq (Aq (Aq (BZ (T:=34) (n:=1) (xs:=[(Tree.mk r2.1 r2.2.1 r2.2.2.1 r2.2.2.2.1 r2.2.2.2.2.1)]) (B2.one (BO (k:=r2.1) (t:=r2.2.1) (n:=r2.2.2.1) (a:=r2.2.2.2.1) 34 o6)) I I (AY I) λh116 RX=>(Aq (Aq (CW (τ:=(List Tree)×Int×Int×Am×AG×Nat) (c6 λa _ _ _ e f=>[(0,pt b0),(1,V a1),(4,pt b1),(5,W e a f)]) (c6 λ_ b c d _ _=>bk b0 #[W Aw Ai Ax,V b,V c] 68 :: bk b1 #[V 0,D noS,V 0,V 0,nS] 34 :: d :: X) (λm=>c6 λa b c d e f=>E3.l0 m Ai J82 a b c=some r/\Bi (AM 34) 34 d (W e a f) a) k ([(Tree.mk r2.1 r2.2.1 r2.2.2.1 r2.2.2.2.1 r2.2.2.2.2.1)],r8.2,r2.2.2.2.2.2.2,h116,(some ⟨b7,0,none⟩),1) ⟨h,RX⟩ sb I ?_))))));clear h;rintro NZ ⟨R4,x113,x114,TK,Q0,Rv⟩ ⟨h,P3⟩;rcases NZ with _ | NZ;simp [E3.l0] at h;simp only [E3.l0] at h;refine AU (ksr (M 1 (N h λK3 WG h=>(Bf (BV.ok WG Au) I ⟨(t2 Ay),Aj⟩ (G (At h (λh=>?_) λh=>?_))))));refine AF (As (Bq (AK (M 2 (N h λEd WH h=>(AZ (Ff.ok WH Au) I ⟨(t2 Ay),Aj⟩ ?_))))));rintro _ _ ⟨Cba,Ath,Bmc,Brb,rfl,rfl⟩;exact AR (Bl #[V Ed.1,D Ed.2.1,V Ed.2.2.1,V Ed.2.2.2.1,W Ath Ed.2.2.2.2.1 Bmc] 34 1 λCag=>(Ak (Ak (BZ (T:=34) (n:=1) (xs:=[(Tree.mk Ed.1 Ed.2.1 Ed.2.2.1 Ed.2.2.2.1 Ed.2.2.2.2.1)]) (B2.one (BO (k:=Ed.1) (t:=Ed.2.1) (n:=Ed.2.2.1) (a:=Ed.2.2.2.1) 34 Brb)) I I (AY I) λCbe Ya=>(Av (N h λX9 Bbh h=>(Df I FI I Bbh P3 Ya λA5w Ati Bmd Brk=>(M 1 (knl (A_ (As (Aq (Aq (Cw NZ (X9,Ed.2.2.2.2.2.1,Ed.2.2.2.2.2.2,A5w,Ati,Bmd) (Nat.lt_succ_self _) ⟨h,Brk⟩ sb I))))))))))))));exact CH (B6 (B6 (CI (As (AA (R4,K3.2,x114,TK,Q0,Rv) ⟨h,P3⟩ sb I)))))
def E4.l0:Nat->(Ai:List (Int×Ah×Int×Int))->(L5:(List Tree)->Int->Int->Option (Int×Ah×Int×Int×List Tree×Int×Int))->(l39:List Tree)->(x44:Int)->(x45:Ah)->(x46:Int)->(x47:Int)->(l48:List Tree)->(x53:Int)->(x54:Int)->Option (Int×Ah×Int×Int×List Tree×Int×Int)
 | 0,_,_,_,_,_,_,_,_,_,_=>none
 | MF+1,Ai,L5,l39,x44,x45,x46,x47,l48,x53,x54=>cond (decide (x54 < 0)) (A2 (λ(x57:Int) (x58:Int)=>(apd 64 l39 [(Tree.mk x44 x45 x46 x47 l48)]).bind λH7=>(BV.f MF Ai x57 x58 (⟨#[44]⟩:Ah)).bind λMM=>cond (!MM.1) (L5 H7 MM.2 x58) ((Da.f MF Ai MM.2 x58).bind λCZ=>E4.l0 MF Ai L5 H7 CZ.1 CZ.2.1 CZ.2.2.1 CZ.2.2.2.1 CZ.2.2.2.2.1 CZ.2.2.2.2.2.1 CZ.2.2.2.2.2.2)) (λJ59=>(cond (x44 != 6) (some (x44 != 7)) (some false):Option Bool).bind λYN=>cond YN ((Hl.f MF Ai x53 x54 x47).bind λSu=>J59 Su.1 Su.2) (J59 x53 x54))) (L5 l39 x53 x54)
def E4.g (Rc:RS) (k:Nat) (Ai:List (Int×Ah×Int×Int)) (An:Int) (AD:Int) (a1:Int):Option (Int×Ah×Int×Int×List Tree×Int×Int):=(Da.f k Ai An AD).bind λr2=>((D4.f k Ai r2.2.2.2.2.2.1 r2.2.2.2.2.2.2 (⟨#[61]⟩:Ah)).bind λPG=>cond (!PG) ((D4.f k Ai r2.2.2.2.2.2.1 r2.2.2.2.2.2.2 (⟨#[44]⟩:Ah)).bind λr81=>some (!r81)) (some false):Option Bool).bind λq8=>cond q8 (A2 (λ(x10:Int) (x11:Int)=>some (23,(⟨#[]⟩:Ah),0,a1,[(Tree.mk r2.1 r2.2.1 r2.2.2.1 r2.2.2.2.1 r2.2.2.2.2.1)],x10,x11)) (λJ12=>cond (r2.1 != 8) ((FL.f k Ai r2.2.2.2.2.2.1 r2.2.2.2.2.2.2).bind λEe=>(Hl.f k Ai r2.2.2.2.2.2.1 r2.2.2.2.2.2.2 Ee).bind λr18=>J12 r18.1 r18.2) (J12 r2.2.2.2.2.2.1 r2.2.2.2.2.2.2))) (A2 (λ(Ck:List Tree) (x25:Int) (x26:Int)=>(C6.f k Ai x25 x26 (⟨#[61]⟩:Ah)).bind λr28=>(CM.f k Ai r28.1 r28.2).bind λr29=>(apd 64 Ck r29.1).bind λl34=>some (22,(⟨#[]⟩:Ah),((Ck.length:Nat):Int),a1,l34,r29.2.1,r29.2.2)) (λL5=>E4.l0 k Ai L5 ([]) r2.1 r2.2.1 r2.2.2.1 r2.2.2.2.1 r2.2.2.2.2.1 r2.2.2.2.2.2.1 r2.2.2.2.2.2.2))
theorem E4.BN {Rc:RS} (hR:Rc.Good) {k:Nat}:E4.C (E4.g Rc k):=by
 intro Ai An AD a1 b0 Ax Be Aw r h Au;refine BC Tryz.func89 I (AY I) ?_;intro A X hh_;obtain ⟨Ay,_⟩:=hh_;unfold E4.g at h;refine ksr (knp #[V 0,D noS,V 0,V 0,nS] 34 λb1=>(AP (M 1 (Ak (N h λr2 hr2 h=>(AZ (Da.ok hr2 Au) I ⟨(.tail _ Ay),Aj⟩ ?_))))));rintro _ _ ⟨h3,A4,k5,o6,rfl,rfl⟩;refine AR (knp #[V 0,D noS,V 0,V 0,nS] 34 λb7=>(AB 0 5 #[V r2.1,D r2.2.1,V r2.2.2.1,V r2.2.2.2.1,W A4 r2.2.2.2.2.1 k5] (G (AU (N h λq8 hq8 h=>?_)))));refine C5 [(0,pt b0),(1,V a1),(4,pt b1),(5,pt b7),(16,bv q8)] (bk b7 #[V r2.1,D r2.2.1,V r2.2.2.1,V r2.2.2.2.1,W A4 r2.2.2.2.2.1 k5] 34 :: h3 :: bk b0 #[W Aw Ai Ax,V r2.2.2.2.2.2.1,V r2.2.2.2.2.2.2] 68 :: bk b1 #[V 0,D noS,V 0,V 0,nS] 34 :: X) ?_ ?_;clear hq8;refine At h (λh=>?_) λh=>?_;obtain ⟨J12,LC,h⟩:=By h;refine Bz (τ:=Int×Int) (λt=>[(1,V a1),(4,pt b1),(5,pt b7)]) (λt=>bk b7 #[V r2.1,D r2.2.1,V r2.2.2.1,V r2.2.2.2.1,W A4 r2.2.2.2.2.1 k5] 34 :: h3 :: bk b0 #[W Aw Ai Ax,V t.1,V t.2] 68 :: bk b1 #[V 0,D noS,V 0,V 0,nS] 34 :: X) (λt=>J12 t.1 t.2=some r) ?_ ?_;rintro ⟨x10,x11⟩ h;subst LC;refine ksr (M 1 (C0 0 0 5 I (Ao (Bl #[V r2.1,D r2.2.1,V r2.2.2.1,V r2.2.2.2.1,W A4 r2.2.2.2.2.1 k5] 34 1 λb13=>(M 1 (Av (AB 0 5 #[V 23,D noS,V 0,V a1,.slice (some ⟨b13,0,none⟩) 1 1] (G (AT (Bh (Aq (Aq (BZ (T:=34) (n:=1) (xs:=[(Tree.mk r2.1 r2.2.1 r2.2.2.1 r2.2.2.2.1 r2.2.2.2.2.1)]) (B2.one (BO (k:=r2.1) (t:=r2.2.1) (n:=r2.2.2.1) (a:=r2.2.2.2.1) 34 o6)) I I (AY I) λh14 o15=>?_)))))))))))));obtain rfl:=Ap h;exact Do 1 5 I [h14,bk b0 #[W Aw Ai Ax,V x10,V x11] 68] (Ak (Ao (Bb ⟨h14,(some ⟨b13,0,none⟩),1,o15,I,I⟩)));refine ksr (M 1 (kld 0 0 I (M 1 (G (At h (λh=>?_) λh=>?_)))));exact AK (M 2 (Aq (N h λEe Ij h=>(Bf (FL.ok Ij Au) I ⟨(t3 Ay),Aj⟩ (N h λr18 N8 h=>(Bf (Hl.ok N8 Au) I ⟨(t3 Ay),Aj⟩ (G (Av (Ak (Av (Av (AA (r18.1,r18.2) h sb I))))))))))));exact AF (As (AA (r2.2.2.2.2.2.1,r2.2.2.2.2.2.2) h sb I));refine AF (As (ksr (M 2 (knp #[V 0,D noS,V 0,V 0,nS] 34 λb19=>(AB 0 5 #[V 22,D noS,V 0,V a1,nS] (G ?_))))));obtain ⟨L5,A7c,h⟩:=By h;refine Bz (τ:=(List Tree)×Int×Int×Am×AG×Nat) (λt=>[(0,pt b0),(4,pt b1),(6,pt b19)]) (c6 λa b c d e f=>bk b19 #[V 22,D noS,V 0,V a1,W e a f] 34 :: bk b0 #[W Aw Ai Ax,V b,V c] 68 :: bk b1 #[V 0,D noS,V 0,V 0,nS] 34 :: d :: X) (c6 λa b c d e f=>L5 a b c=some r/\Bi (AM 34) 34 d (W e a f) a) ?_ ?_;rintro ⟨Ck,x25,x26,h21,F1,k23⟩ ⟨h,Ew⟩;subst A7c;refine ksr (M 1 (kld 0 4 I (M 2 (AB 2 1 #[V 22,D noS,V ((Ck.length:Nat):Int),V a1,W F1 Ck k23] (AP (M 1 (Ak (N h λr28 NA h=>(Bf (C6.ok NA Au) I ⟨(t3 Ay),Aj⟩ (G (AU (kpr [(0,0),(1,3),(2,0),(3,1)] [1] (AJ 1 (B7 0 4 I (AJ 1 (kpt (N h λr29 Ka h=>(Ex (CM.ok Ka Au) I ⟨(t3 Ay),Aj⟩ ?_))))))))))))))))));rintro _ _ ⟨h30,II,k32,Hb,rfl,rfl⟩;refine AR (B_ [2] I (BF (Cu (N h λl34 QU h=>(Df I FI I QU Ew Hb λh35 A36 k37 I6=>(M 1 (Aq (AB 4 1 #[V 22,D noS,V ((Ck.length:Nat):Int),V a1,W A36 l34 k37] (AP (C0 0 0 5 I (Ao (Aq (AB 0 5 #[V 22,D noS,V ((Ck.length:Nat):Int),V a1,W A36 l34 k37] (G (AT ?_)))))))))))))));obtain rfl:=Ap h;exact Do 0 5 I [h35,bk b0 #[W Aw Ai Ax,V r29.2.1,V r29.2.2] 68] (Ao (Bb ⟨h35,A36,k37,I6,I,I⟩));refine Bq (CX (Av (Ak (BI (BI (BI (BI (CW (τ:=(List Tree)×Int×Ah×Int×Int×(List Tree)×Int×Int×Am×AG×Nat×Am×AG×Nat) (λt=>[(0,pt b0),(4,pt b1),(5,pt b7),(6,pt b19)]) (c14 λa b c d e f g i j l n o p q=>bk b19 #[V 22,D noS,V 0,V a1,W l a n] 34 :: bk b7 #[V b,D c,V d,V e,W p f q] 34 :: bk b0 #[W Aw Ai Ax,V g,V i] 68 :: bk b1 #[V 0,D noS,V 0,V 0,nS] 34 :: j :: o :: X) (λm=>c14 λa b c d e f g i j l n o p q=>E4.l0 m Ai L5 a b c d e f g i=some r/\Bi (AM 34) 34 j (W l a n) a/\Bi (AM 34) 34 o (W p f q) f) k ([],r2.1,r2.2.1,r2.2.2.1,r2.2.2.2.1,r2.2.2.2.2.1,r2.2.2.2.2.2.1,r2.2.2.2.2.2.2,none_,none,0,h3,A4,k5) ⟨h,(Bi.nil (AM 34) 34 none_),o6⟩ sb I ?_))))))));clear h;rintro MF ⟨l39,x44,x45,x46,x47,l48,x53,x54,h40,Ic,k42,h49,A50,Lc⟩ ⟨h,I7,LX⟩;rcases MF with _ | MF;simp [E4.l0] at h;simp only [E4.l0] at h;refine AU (ksr (M 3 (kld 2 2 I (M 1 (G (At h (λh=>?_) λh=>?_))))));refine AF (As (Bq ?_));obtain ⟨J59,A7w,h⟩:=By h;refine Bz (τ:=Int×Int) (λt=>[(0,pt b0),(4,pt b1),(5,pt b7),(6,pt b19)]) (λt=>bk b19 #[V 22,D noS,V 0,V a1,W Ic l39 k42] 34 :: bk b7 #[V x44,D x45,V x46,V x47,W A50 l48 Lc] 34 :: bk b0 #[W Aw Ai Ax,V t.1,V t.2] 68 :: bk b1 #[V 0,D noS,V 0,V 0,nS] 34 :: h40 :: h49 :: X) (λt=>J59 t.1 t.2=some r) ?_ ?_;rintro ⟨x57,x58⟩ h;subst A7w;refine ksr (M 1 (kld 0 4 I (C0 1 0 5 I (Bl #[V x44,D x45,V x46,V x47,W A50 l48 Lc] 34 1 λb60=>(Aa8 (Ak (BZ (T:=34) (n:=1) (xs:=[(Tree.mk x44 x45 x46 x47 l48)]) (B2.one (BO (k:=x44) (t:=x45) (n:=x46) (a:=x47) 34 LX)) I I (AY I) λh61 Og=>(BI (N h λH7 hl63 h=>(Df I FI I hl63 I7 Og λh64 JO Kg o67=>(M 1 (Ak (AB 4 1 #[V 22,D noS,V 0,V a1,W JO H7 Kg] (G (AU (ksr (M 1 (Av (N h λMM WV h=>(Bf (BV.ok WV Au) I ⟨(t4 Ay),Aj⟩ (M 1 (G (At h (λh=>?_) λh=>?_)))))))))))))))))))))));exact CH (B6 (R0 I (B6 (CI (As (Av (Ao (Aq (Av (Aq (Av (AA (H7,MM.2,x58,h64,JO,Kg) ⟨h,o67⟩ sb I))))))))))));refine AF (As (AK (M 1 (N h λCZ Rj h=>(AZ (Da.ok Rj Au) I ⟨(t4 Ay),Aj⟩ ?_)))));rintro _ _ ⟨h71,KR,Ld,Ku,rfl,rfl⟩;exact AR (Cu (AB 0 5 #[V CZ.1,D CZ.2.1,V CZ.2.2.1,V CZ.2.2.2.1,W KR CZ.2.2.2.2.1 Ld] (knl (A_ (As (Ak (Cu (BI (Cu (Cu (BI (Cw MF (H7,CZ.1,CZ.2.1,CZ.2.2.1,CZ.2.2.2.1,CZ.2.2.2.2.1,CZ.2.2.2.2.2.1,CZ.2.2.2.2.2.2,h64,JO,Kg,h71,KR,Ld) (Nat.lt_succ_self _) ⟨h,o67,Ku⟩ sb I))))))))))));refine N h λYN WB h=>?_;refine C5 [(0,pt b0),(4,pt b1),(5,pt b7),(6,pt b19),(42,bv YN)] (bk b19 #[V 22,D noS,V 0,V a1,W Ic l39 k42] 34 :: bk b7 #[V x44,D x45,V x46,V x47,W A50 l48 Lc] 34 :: bk b0 #[W Aw Ai Ax,V x53,V x54] 68 :: bk b1 #[V 0,D noS,V 0,V 0,nS] 34 :: h40 :: h49 :: X) ?_ ?_;clear WB;refine At h (λh=>?_) λh=>?_;exact AK (M 2 (kld 1 3 I (Aq (N h λSu Bij h=>(Bf (Hl.ok Bij Au) I ⟨(t5 Ay),Aj⟩ (G (BI (BI (BI (Av (BI (BI (AA (Su.1,Su.2) h sb I)))))))))))));exact AF (As (AA (x53,x54) h sb I));have h:=WB;clear WB;refine AK (M 1 (kld 1 0 I (M 2 (Bt 38 h (λh=>?_) λh=>?_))));exact M 1 (kld 1 0 I (M 2 (G (AW ⟨gr,gr,gr,gr,gb (Ap h),Aj⟩))));exact M 4 (G (AW ⟨gr,gr,gr,gr,gb (Ap h),Aj⟩));exact CH (B6 (B6 (CI (As (Ak (Ao (Cu (Ao (AA (l39,x53,x54,h40,Ic,k42) ⟨h,I7⟩ sb I)))))))));have h:=hq8;clear hq8;refine AK (M 1 (Aq (N h λPG WX h=>(Bf (D4.ok WX Au) I ⟨(t3 Ay),Aj⟩ (M 2 (Bt 12 h (λh=>?_) λh=>?_))))));exact M 1 (N h λr81 Bil h=>(Bf (D4.ok Bil Au) I ⟨(t3 Ay),Aj⟩ (M 2 (G (Av (Ak (Av (Av (AW ⟨gr,gr,gr,gr,gb (Ap h),Aj⟩)))))))));exact M 4 (G (Av (Ak (Av (Av (AW ⟨gr,gr,gr,gr,gb (Ap h),Aj⟩))))))
def DU.g (Rc:RS) (k:Nat) (Ai:List (Int×Ah×Int×Int)) (An:Int) (AD:Int):Option (Int×Ah×Int×Int×List Tree×Int×Int):=(C6.f k Ai An AD (⟨#[100,111]⟩:Ah)).bind λr2=>(Rc.Cm Ai r2.1 r2.2 false).bind λr3=>(C6.f k Ai r3.2.2.2.2.2.1 r3.2.2.2.2.2.2 (⟨#[101,110,100]⟩:Ah)).bind λr9=>some (r3.1,r3.2.1,r3.2.2.1,r3.2.2.2.1,r3.2.2.2.2.1,r9.1,r9.2)
theorem DU.BN {Rc:RS} (hR:Rc.Good) {k:Nat}:DU.C (DU.g Rc k):=by
 intro Ai An AD b0 Ax Be Aw r h Au;refine BC Tryz.func87 I (AY I) ?_;intro A X hh_;obtain ⟨Ay,_⟩:=hh_;unfold DU.g at h;refine ksr (knp #[V 0,D noS,V 0,V 0,nS] 34 λb1=>(AP (M 1 (Ak (N h λr2 hr2 h=>(Bf (C6.ok hr2 Au) I ⟨(.tail _ Ay),Aj⟩ (AP (M 1 (N h λr3 hr3 h=>(AZ (hR.Cm hr3 Au) I ⟨(.tail _ Ay),Aj⟩ ?_))))))))));rintro _ _ ⟨h4,A5,k6,o7,rfl,rfl⟩;refine AR (knp #[V 0,D noS,V 0,V 0,nS] 34 λb8=>(AB 0 5 #[V r3.1,D r3.2.1,V r3.2.2.1,V r3.2.2.2.1,W A5 r3.2.2.2.2.1 k6] (AP (M 1 (Aq (N h λr9 hr9 h=>(Bf (C6.ok hr9 Au) I ⟨(t3 Ay),Aj⟩ (AP (C0 1 0 5 I (Ak (Ao (Aq (AB 0 5 #[V r3.1,D r3.2.1,V r3.2.2.1,V r3.2.2.2.1,W A5 r3.2.2.2.2.1 k6] (G (AT ?_)))))))))))))));obtain rfl:=Ap h;exact Do 0 5 I [h4,bk b0 #[W Aw Ai Ax,V r9.1,V r9.2] 68] (Ao (Ak (Bb ⟨h4,A5,k6,o7,I,I⟩)))
def RS.at:Nat->RS
 | 0=>⟨λ_ _ _ _=>none,λ_ _ _ _=>none,λ_ _ _ _=>none,λ_ _ _ _=>none,λ_ _ _=>none⟩
 | k+1=>⟨Cm.g (RS.at k) k,Ej.g (RS.at k) k,E3.g (RS.at k) k,E4.g (RS.at k) k,DU.g (RS.at k) k⟩
theorem RS.good:∀ k,(RS.at k).Good
 | 0=>⟨(by unfold Cm.C;intros;rename_i h _;cases (show (none:Option _)=some _ from h)),(by unfold Ej.C;intros;rename_i h _;cases (show (none:Option _)=some _ from h)),(by unfold E3.C;intros;rename_i h _;cases (show (none:Option _)=some _ from h)),(by unfold E4.C;intros;rename_i h _;cases (show (none:Option _)=some _ from h)),(by unfold DU.C;intros;rename_i h _;cases (show (none:Option _)=some _ from h))⟩
 | k+1=>⟨Cm.BN (k:=k) (RS.good k),Ej.BN (k:=k) (RS.good k),E3.BN (k:=k) (RS.good k),E4.BN (k:=k) (RS.good k),DU.BN (k:=k) (RS.good k)⟩
def Cm.f (k:Nat):=Cm.g (RS.at k) k
theorem Cm.ok {k:Nat}:Cm.C (Cm.f k):=Cm.BN (k:=k) (RS.good k)
def Md.f (k:Nat) (a0:Ah):Option (Int×Ah×Int×Int×List Tree×Int×Int):=(EA.f k a0).bind λr3=>cond (r3.2.1 != 0) (some (0,(⟨#[]⟩:Ah),0,0,[],r3.2.1,r3.2.2)) ((Cm.f k r3.1 0 (-1:Int) true).bind λr11=>A2 (λ(x17:Int) (x18:Int)=>cond (decide (x18 >= 0)) (some (0,(⟨#[]⟩:Ah),0,0,[],4,x18)) (some (r11.1,r11.2.1,r11.2.2.1,r11.2.2.2.1,r11.2.2.2.2.1,0,0))) (λJ19=>(cond (decide (r11.2.2.2.2.2.2 < 0)) ((Bm r3.1 r11.2.2.2.2.2.1).bind λx26=>some (x26.1 != 6)) (some false):Option Bool).bind λKx=>cond Kx ((FL.f k r3.1 r11.2.2.2.2.2.1 r11.2.2.2.2.2.2).bind λBY=>(Hl.f k r3.1 r11.2.2.2.2.2.1 r11.2.2.2.2.2.2 BY).bind λFE=>J19 FE.1 FE.2) (J19 r11.2.2.2.2.2.1 r11.2.2.2.2.2.2)))
theorem Md.ok {k:Nat} {a0:Ah} {r:Int×Ah×Int×Int×List Tree×Int×Int} (h:Md.f k a0=some r): Ct Tryz.prog 7 #[D a0] [] [] (λe l1=>∃ (H0_:Am) (A0_:AG) (c0_:Nat),Bi (AM 34) 34 H0_ (W A0_ r.2.2.2.2.1 c0_) r.2.2.2.2.1/\e=.returned (.tuple #[.agg #[V r.1,D r.2.1,V r.2.2.1,V r.2.2.2.1,W A0_ r.2.2.2.2.1 c0_],.agg #[V r.2.2.2.2.2.1,V r.2.2.2.2.2.2]])/\l1=[H0_]):=by
 refine BC Tryz.func7 I (AY I) ?_;intro A X hh_;unfold Md.f at h;refine ksr (knp #[V 0,D noS,V 0,V 0,nS] 34 λb1=>(knp #[V 0,V 0] 24 λb2=>(AP (M 1 (N h λr3 hr3 h=>(AZ (EA.ok hr3) I trivial ?_))))));rintro _ _ ⟨h4,A5,k6,o7,rfl,rfl⟩;refine BU (M 3 (knp #[V 0,V 0] 24 λb8=>(M 1 (AB 0 2 #[V r3.2.1,V r3.2.2] (G (AU (ksr (M 1 (kld 0 0 I (M 1 (G (At h (λh=>?_) λh=>?_))))))))))));refine AU (kpr [(0,0),(1,3),(2,1)] [0] (AJ 1 (H5 0 0 2 I (kpt (Av (ost 0 5 #[V 0,D noS,V 0,V 0,nS] (B_ [1] I (BF (Av (AB 0 2 #[V r3.2.1,V r3.2.2] (Aq (Ao (Aq (Ao (G (AT (Bh ?_)))))))))))))))));obtain rfl:=Ap h;exact F7 (v:=.tuple #[.agg #[V 0,D noS,V 0,V 0,nS],.agg #[V r3.2.1,V r3.2.2]]) [.val (V 0),.val (D noS),.val (V 0),.val (V 0),.val (nS),.val (V r3.2.1),.val (V r3.2.2)] [.ld ⟨b1,0,none⟩ (V 0),.ld ⟨b1,1,none⟩ (D noS),.ld ⟨b1,2,none⟩ (V 0),.ld ⟨b1,3,none⟩ (V 0),.ld ⟨b1,4,none⟩ (nS),.ld ⟨b2,0,none⟩ (V r3.2.1),.ld ⟨b2,1,none⟩ (V r3.2.2)] [none_] (by kernel_rfl) (by kernel_rfl) ⟨⟨1,_,_,_,I,I,I⟩,⟨1,_,_,_,I,I,I⟩,⟨1,_,_,_,I,I,I⟩,⟨1,_,_,_,I,I,I⟩,⟨1,_,_,_,I,I,I⟩,⟨0,_,_,_,I,I,I⟩,⟨0,_,_,_,I,I,I⟩,Aj⟩ (CX (Ak (Ao (Ak (Ao (Bb ⟨none_,none,0,(Bi.nil (AM 34) 34 none_),I,I⟩))))));refine AF (As (ksr (M 2 (knp #[W A5 r3.1 k6,V 0,V (-1)] 68 λb10=>(Ak (Ao (M 1 (AP (M 1 (N h λr11 JY h=>(AZ (Cm.ok JY (AC.rd o7)) I ⟨(.head _),Aj⟩ ?_)))))))))));rintro _ _ ⟨h12,Ib,k14,o15,rfl,rfl⟩;refine AR (knp #[V 0,D noS,V 0,V 0,nS] 34 λb16=>(AB 0 5 #[V r11.1,D r11.2.1,V r11.2.2.1,V r11.2.2.2.1,W Ib r11.2.2.2.2.1 k14] (G ?_)));obtain ⟨J19,LD,h⟩:=By h;refine Bz (τ:=Int×Int) (λt=>[(2,pt b1),(3,pt b2),(6,pt b10),(7,pt b16)]) (λt=>bk b16 #[V r11.1,D r11.2.1,V r11.2.2.1,V r11.2.2.2.1,W Ib r11.2.2.2.2.1 k14] 34 :: h12 :: bk b10 #[W A5 r3.1 k6,V t.1,V t.2] 68 :: h4 :: bk b2 #[V 0,V 0] 24 :: bk b1 #[V 0,D noS,V 0,V 0,nS] 34 :: X) (λt=>J19 t.1 t.2=some r) ?_ ?_;rintro ⟨x17,x18⟩ h;subst LD;refine AU (ksr (M 3 (kld 2 2 I (M 1 (G (At h (λh=>?_) λh=>?_))))));refine AU (kpr [(0,0),(1,0),(2,0),(3,0),(4,3),(5,0),(6,1)] [2] (AJ 4 (B7 0 2 I (AJ 1 (kpt (BI (ost 0 5 #[V 0,D noS,V 0,V 0,nS] (B_ [3] I (BF (BI (AB 0 2 #[V 4,V x18] (Aq (Ao (Aq (Ao (Aq (Ao (Aq (Ao (G (AT (Bh ?_))))))))))))))))))))));obtain rfl:=Ap h;exact F7 (v:=.tuple #[.agg #[V 0,D noS,V 0,V 0,nS],.agg #[V 4,V x18]]) [.val (V 0),.val (D noS),.val (V 0),.val (V 0),.val (nS),.val (V 4),.val (V x18)] [.ld ⟨b1,0,none⟩ (V 0),.ld ⟨b1,1,none⟩ (D noS),.ld ⟨b1,2,none⟩ (V 0),.ld ⟨b1,3,none⟩ (V 0),.ld ⟨b1,4,none⟩ (nS),.ld ⟨b2,0,none⟩ (V 4),.ld ⟨b2,1,none⟩ (V x18)] [none_] (by kernel_rfl) (by kernel_rfl) ⟨⟨1,_,_,_,I,I,I⟩,⟨1,_,_,_,I,I,I⟩,⟨1,_,_,_,I,I,I⟩,⟨1,_,_,_,I,I,I⟩,⟨1,_,_,_,I,I,I⟩,⟨0,_,_,_,I,I,I⟩,⟨0,_,_,_,I,I,I⟩,Aj⟩ (CX (Ak (Ao (Ak (Ao (Bb ⟨none_,none,0,(Bi.nil (AM 34) 34 none_),I,I⟩))))));refine AF (As (ksr (C0 0 0 5 I (Ao (Ak (Ao (Ak (Ao (M 1 (Aq (AB 0 5 #[V r11.1,D r11.2.1,V r11.2.2.1,V r11.2.2.2.1,W Ib r11.2.2.2.2.1 k14] (Aq (AB 0 2 #[V 0,V 0] (G (AT ?_)))))))))))))));obtain rfl:=Ap h;exact F7 (v:=.tuple #[.agg #[V r11.1,D r11.2.1,V r11.2.2.1,V r11.2.2.2.1,W Ib r11.2.2.2.2.1 k14],.agg #[V 0,V 0]]) [.val (V r11.1),.val (D r11.2.1),.val (V r11.2.2.1),.val (V r11.2.2.2.1),.val (W Ib r11.2.2.2.2.1 k14),.val (V 0),.val (V 0)] [.ld ⟨b1,0,none⟩ (V r11.1),.ld ⟨b1,1,none⟩ (D r11.2.1),.ld ⟨b1,2,none⟩ (V r11.2.2.1),.ld ⟨b1,3,none⟩ (V r11.2.2.2.1),.ld ⟨b1,4,none⟩ (W Ib r11.2.2.2.2.1 k14),.ld ⟨b2,0,none⟩ (V 0),.ld ⟨b2,1,none⟩ (V 0)] [h12] (by kernel_rfl) (by kernel_rfl) ⟨⟨1,_,_,_,I,I,I⟩,⟨1,_,_,_,I,I,I⟩,⟨1,_,_,_,I,I,I⟩,⟨1,_,_,_,I,I,I⟩,⟨1,_,_,_,I,I,I⟩,⟨0,_,_,_,I,I,I⟩,⟨0,_,_,_,I,I,I⟩,Aj⟩ (Ao (Ao (Bb ⟨h12,Ib,k14,o15,I,I⟩)));refine N h λKx JX h=>?_;refine C5 [(2,pt b1),(3,pt b2),(6,pt b10),(7,pt b16),(41,bv Kx)] (bk b16 #[V r11.1,D r11.2.1,V r11.2.2.1,V r11.2.2.2.1,W Ib r11.2.2.2.2.1 k14] 34 :: h12 :: bk b10 #[W A5 r3.1 k6,V r11.2.2.2.2.2.1,V r11.2.2.2.2.2.2] 68 :: h4 :: bk b2 #[V 0,V 0] 24 :: bk b1 #[V 0,D noS,V 0,V 0,nS] 34 :: X) ?_ ?_;clear JX;refine At h (λh=>?_) λh=>?_;exact AK (M 2 (Aq (N h λBY Gi h=>(Bf (FL.ok Gi (AC.rd o7)) I ⟨(.tail _ (.tail _ (.head _))),Aj⟩ (N h λFE N9 h=>(Bf (Hl.ok N9 (AC.rd o7)) I ⟨(.tail _ (.tail _ (.head _))),Aj⟩ (G (BI (BI (BI (Av (BI (BI (AA (FE.1,FE.2) h sb I))))))))))))));exact AF (As (AA (r11.2.2.2.2.2.1,r11.2.2.2.2.2.2) h sb I));have h:=JX;clear JX;refine kpr [(0,0),(1,0),(2,0),(3,3),(4,0),(5,0),(6,0),(7,0),(8,0),(9,3),(10,0),(11,0),(12,0),(13,3)] [2] (AJ 3 (B7 0 2 I (AJ 2 (Bt 28 h (λh=>?_) λh=>?_))));refine AJ 3 (B7 0 0 I (AJ 3 (B7 0 1 I (BF (N h λx26 Bkj h=>(Im (T:=70) (kd:=.i64) IP I Bkj (AC.rd o7) λp27 e28 y29=>?_))))));have e28:Elem _ p27 [V x26.1,D x26.2.1,V x26.2.2.1,V x26.2.2.2]:=e28;refine M8 (off:=0) I e28 y29 λp30 e31 y32=>?_;have e31:Elem _ p30 [V x26.1,D x26.2.1,V x26.2.2.1,V x26.2.2.2]:=e31;exact Jy I (by kernel_rfl) (by kernel_rfl) (by kernel_rfl) (by kernel_rfl) e31 (.tail _ (.tail _ (.tail _ (.head _)))) (M 2 (G (AW ⟨gr,gr,gr,gr,gb (Ap h),Aj⟩)));exact AJ 3 (DB (by kernel_rfl) (by kernel_rfl) (AJ 3 (DB (by kernel_rfl) (by kernel_rfl) (BF (M 5 (G (AW ⟨gr,gr,gr,gr,gb (Ap h),Aj⟩)))))))
structure H1 where
 D2:Int->Ah->Int->Int->List Tree->Option (Int)
def D2.C (fC:Int->Ah->Int->Int->List Tree->Option (Int)):Prop:=∀ {Ai AD EW r:Int} {An:Ah} {Ds:List Tree} {KT:Am} {Hv:AG} {Hy:Nat} (h:fC Ai An AD EW Ds=some r) (OM:RdR (AM 29) KT (W Hv Ds Hy) Ds),Ct Tryz.prog 9 #[.agg #[V Ai,D An,V AD,V EW,W Hv Ds Hy]] [] [KT] (λe l1=>e=.returned (V r)/\l1=[])
structure H1.Good (R:H1):Prop where
 D2:D2.C R.D2
def D2.l0:Nat->(Rc:H1)->(Ds:List Tree)->(J3:Int->Option (Int))->(x4:Int)->(x5:Int)->Option (Int)
 | 0,_,_,_,_,_=>none
 | m6+1,Rc,Ds,J3,x4,x5=>cond (decide (x5 < ((Ds.length:Nat):Int))) ((Bm Ds x5).bind λx8=>(Rc.D2 x8.kind x8.text x8.n x8.at_ x8.kids).bind λr18=>D2.l0 m6 Rc Ds J3 (if r18 > x4 then r18 else x4) (Ar (x5+1))) (J3 x4)
def D2.g (Rc:H1) (k:Nat) (Ai:Int) (An:Ah) (AD:Int) (EW:Int) (Ds:List Tree):Option (Int):=A2 (λ(x2:Int)=>some (Ar (x2+1))) (λJ3=>D2.l0 k Rc Ds J3 0 0)
theorem D2.BN {Rc:H1} (hR:Rc.Good) {k:Nat}:D2.C (D2.g Rc k):=by
 intro Ai AD EW r An Ds KT Hv Hy h OM;refine BC Tryz.func9 I (AY I) ?_;intro A X hh_;obtain ⟨Pa,_⟩:=hh_;unfold D2.g at h;refine ksr (knp #[V Ai,D An,V AD,V EW,W Hv Ds Hy] 29 λb1=>(M 1 (AP (M 1 (G ?_)))));obtain ⟨J3,hJ3,h⟩:=By h;refine Bz (τ:=Int) (λt=>[(3,V t)]) (λt=>X) (λt=>J3 t=some r) ?_ ?_;rintro x2 h;subst hJ3;refine ksr (M 3 (G (AT ?_)));obtain rfl:=Ap h;exact kdn I;refine ksr (M 1 (kld 0 4 I (Ao (M 2 (G (Bq (CW (τ:=Int×Int) (λt=>[(3,V t.1),(7,W Hv Ds Hy),(8,V ((Ds.length:Nat):Int)),(9,V t.2)]) (λt=>X) (λm t=>D2.l0 m Rc Ds J3 t.1 t.2=some r) k (0,0) h sb I ?_)))))));clear h;rintro m6 ⟨x4,x5⟩ h;rcases m6 with _ | m6;simp [D2.l0] at h;simp only [D2.l0] at h;refine ksr (M 1 (G (AU (At h (λh=>?_) λh=>?_))));refine AF (As (AU (Bq (ksr (N h λx8 hx8 h=>(DA (T:=29) (kd:=.i64) (R:=(AM 29)) I hx8 OM λp9 u12 q13 e10 y11=>?_))))));obtain ⟨EV,k15,rfl,o16⟩:=CB 29 q13;exact DH I e10 Pa (knp #[V 0,D noS,V 0,V 0,nS] 29 λb17=>(AB 0 5 #[V x8.kind,D x8.text,V x8.n,V x8.at_,W EV x8.kids k15] (CY (M 1 (C0 0 0 5 I (Ao (N h λr18 N8 h=>(CQ (hR.D2 N8 o16) ⟨Pa,Aj⟩ (M 2 (knl (A_ (As (AK (M 2 (G (Cw m6 ((if r18 > x4 then r18 else x4),Ar (x5+1)) (Nat.lt_succ_self _) h sb I))))))))))))))));exact CH (B6 (B6 (CI (As (AA x4 h sb I)))))
def H1.at:Nat->H1
 | 0=>⟨λ_ _ _ _ _=>none⟩
 | k+1=>⟨D2.g (H1.at k) k⟩
theorem H1.good:∀ k,(H1.at k).Good
 | 0=>⟨(by unfold D2.C;intros;rename_i h _;cases (show (none:Option _)=some _ from h))⟩
 | k+1=>⟨D2.BN (k:=k) (H1.good k)⟩
def D2.f (k:Nat):=D2.g (H1.at k) k
theorem D2.ok {k:Nat}:D2.C (D2.f k):=D2.BN (k:=k) (H1.good k)
structure H2 where
 DE:Int->Ah->Int->Int->List Tree->Option (Int)
def DE.C (fC:Int->Ah->Int->Int->List Tree->Option (Int)):Prop:=∀ {Ai AD EW r:Int} {An:Ah} {Ds:List Tree} {KT:Am} {Hv:AG} {Hy:Nat} (h:fC Ai An AD EW Ds=some r) (OM:RdR (AM 34) KT (W Hv Ds Hy) Ds),Ct Tryz.prog 10 #[.agg #[V Ai,D An,V AD,V EW,W Hv Ds Hy]] [] [KT] (λe l1=>e=.returned (V r)/\l1=[])
structure H2.Good (R:H2):Prop where
 DE:DE.C R.DE
def DE.l0:Nat->(Rc:H2)->(Ds:List Tree)->(J3:Int->Option (Int))->(x4:Int)->(x5:Int)->Option (Int)
 | 0,_,_,_,_,_=>none
 | m6+1,Rc,Ds,J3,x4,x5=>cond (decide (x5 < ((Ds.length:Nat):Int))) (A2 (λ(x8:Int)=>DE.l0 m6 Rc Ds J3 x8 (Ar (x5+1))) (λJ9=>(Bm Ds x5).bind λx10=>(Rc.DE x10.kind x10.text x10.n x10.at_ x10.kids).bind λr19=>cond (decide (r19 > x4)) (J9 r19) (J9 x4))) (J3 x4)
def DE.g (Rc:H2) (k:Nat) (Ai:Int) (An:Ah) (AD:Int) (EW:Int) (Ds:List Tree):Option (Int):=A2 (λ(x2:Int)=>some (Ar (x2+1))) (λJ3=>DE.l0 k Rc Ds J3 0 0)
theorem DE.BN {Rc:H2} (hR:Rc.Good) {k:Nat}:DE.C (DE.g Rc k):=by
 intro Ai AD EW r An Ds KT Hv Hy h OM;refine BC Tryz.func10 I (AY I) ?_;intro A X hh_;obtain ⟨Pa,_⟩:=hh_;unfold DE.g at h;refine ksr (knp #[V Ai,D An,V AD,V EW,W Hv Ds Hy] 34 λb1=>(M 1 (AP (M 1 (G ?_)))));obtain ⟨J3,hJ3,h⟩:=By h;refine Bz (τ:=Int) (λt=>[(3,V t)]) (λt=>X) (λt=>J3 t=some r) ?_ ?_;rintro x2 h;subst hJ3;refine ksr (M 3 (G (AT ?_)));obtain rfl:=Ap h;exact kdn I;refine ksr (M 1 (G (Bq (CW (τ:=Int×Int) (λt=>[(1,pt b1),(3,V t.1),(4,V t.2)]) (λt=>bk b1 #[V Ai,D An,V AD,V EW,W Hv Ds Hy] 34 :: X) (λm t=>DE.l0 m Rc Ds J3 t.1 t.2=some r) k (0,0) h sb I ?_))));clear h;rintro m6 ⟨x4,x5⟩ h;rcases m6 with _ | m6;simp [DE.l0] at h;simp only [DE.l0] at h;refine AU (ksr (M 2 (kld 0 4 I (M 2 (G (At h (λh=>?_) λh=>?_))))));refine AF (As ?_);obtain ⟨J9,hJ9,h⟩:=By h;refine Bz (τ:=Int) (λt=>[(1,pt b1),(3,V t),(4,V x5)]) (λt=>bk b1 #[V Ai,D An,V AD,V EW,W Hv Ds Hy] 34 :: X) (λt=>J9 t=some r) ?_ ?_;rintro x8 h;subst hJ9;exact AK (M 3 (G (Cw m6 (x8,Ar (x5+1)) (Nat.lt_succ_self _) h sb I)));refine Bq (ksr (M 1 (kld 0 4 I (M 1 (N h λx10 Bjo h=>(DA (T:=34) (kd:=.i64) (R:=(AM 34)) I Bjo OM λp11 u14 q15 e12 y13=>?_))))));obtain ⟨JM,k17,rfl,G8⟩:=CB 34 q15;refine DH I e12 (.tail _ Pa) (N h λr19 hr19 h=>(CQ (hR.DE hr19 G8) ⟨(.tail _ Pa),Aj⟩ (M 1 (AP (M 3 (G (At h (λh=>?_) λh=>?_)))))));exact AK (M 2 (knl (A_ (As (AA r19 h sb I)))));exact AF (A_ (As (AA x4 h sb I)));exact CH (B6 (B6 (CI (As (Ao (AA x4 h sb I))))))
def H2.at:Nat->H2
 | 0=>⟨λ_ _ _ _ _=>none⟩
 | k+1=>⟨DE.g (H2.at k) k⟩
theorem H2.good:∀ k,(H2.at k).Good
 | 0=>⟨(by unfold DE.C;intros;rename_i h _;cases (show (none:Option _)=some _ from h))⟩
 | k+1=>⟨DE.BN (k:=k) (H2.good k)⟩
def DE.f (k:Nat):=DE.g (H2.at k) k
theorem DE.ok {k:Nat}:DE.C (DE.f k):=DE.BN (k:=k) (H2.good k)
end
section
namespace Lx
abbrev Bs:=List UInt8
def bs (s:Ah):Bs:=s.data.toList
def str (l:Bs):Ah:=⟨l.toArray⟩
theorem F3 (l:Bs):bs (str l)=l:=by simp [bs,str]
theorem S6 (s:Ah):str (bs s)=s:=by simp [bs,str]
theorem B0 (s:Ah):(bs s).length=s.size:=Array.length_toList
theorem Gv (l:Bs):(str l).size=l.length:=by simp [str,ByteArray.size]
theorem QI (s:Ah) (a e:Nat):bs (s.extract a e)=((bs s).drop a).take (e - a):=by
 simp [bs,ByteArray.data_extract,Array.toList_extract,List.extract_eq_take_drop]
theorem GQ (s:Ah) (a:Nat):bs (s.extract a s.size)=(bs s).drop a:=by
 rw [QI,List.take_of_length_le];simp [B0]
theorem Acn {s t:Ah} (h:bs s=bs t):s=t:=by rw [<- S6 s,h,S6]
def Ba (l:Bs):Nat×Nat :=
 let at' (k:Nat):Nat:=(l.getD k 0).toNat;let cont (k:Nat):Bool:=decide (k < l.length) && at' k / 64 == 2;let b0:=at' 0
 if b0 < 0x80 then (b0,1)
 else if b0 / 32 == 6 && cont 1 then
  let c:=(b0 % 32) * 64+at' 1 % 64
  if c >= 0x80 then (c,2) else (65533,1)
 else if b0 / 16 == 14 && cont 1 && cont 2 then
  let c:=(b0 % 16) * 4096+(at' 1 % 64) * 64+at' 2 % 64
  if c >= 0x800 && Utf8.valid c then (c,3) else (65533,1)
 else if b0 / 8 == 30 && cont 1 && cont 2 && cont 3 then
  let c:=(b0 % 8) * 262144+(at' 1 % 64) * 4096+(at' 2 % 64) * 64+at' 3 % 64
  if c >= 0x10000 && Utf8.valid c then (c,4) else (65533,1)
 else (65533,1)
theorem A5j (s:Ah) (i k:Nat):s.get! (i+k)=((bs s).drop i).getD k 0:=by
 show s.data[i+k]! = _;rw [List.getD_eq_getElem?_getD,List.getElem?_drop];simp only [bs,Array.getElem!_eq_getD];simp [Array.getD_eq_getD_getElem?];rfl
theorem decode_eq (s:Ah) (i:Nat):Utf8.decode s i=Ba ((bs s).drop i):=by
 have h1:∀ k,(s.get! (i+k)).toNat=(((bs s).drop i).getD k 0).toNat:=λk=>by rw [A5j]
 have h2:∀ k,decide (i+k < s.size)=decide (k < ((bs s).drop i).length):=λk=>by
  congr 1;rw [BA,B0];exact propext ⟨λh=>by omega,λh=>by omega⟩
 unfold Utf8.decode Ba;simp only [h1,h2,Utf8.runeError]
theorem Gf (l:Bs):1<=(Ba l).2/\(Ba l).2<=4/\(l≠[]->(Ba l).2<=l.length):=by
 have h0:l≠[]->1<=l.length:=λh=>by
  cases l with
  | nil=>exact absurd rfl h
  | cons a t=>simp
 unfold Ba;simp only []
 (repeat' split) <;> simp_all <;> omega
def G5 (r:Nat):Bool:=(97<=r && r<=122) || (65<=r && r<=90) || r == 95 || (128<=r && r<=1114111 && r != 65533 && Utf8.valid r)
def FO (r:Nat):Bool:=48<=r && r<=57
def BJ (r:Nat):Bool:=G5 r || FO r
def Cn (r:Nat):Bool:=r == 32 || r == 9 || r == 10 || r == 13
def Jv (r:Nat):Bool:=r != 10
def PM (p:Nat->Bool):Nat->Bs->Nat
 | 0,_=>0
 | _+1,[]=>0
 | f+1,b :: t=>if p (Ba (b :: t)).1 then (Ba (b :: t)).2+PM p f ((b :: t).drop (Ba (b :: t)).2) else 0
def Bp (p:Nat->Bool) (l:Bs):Nat:=PM p l.length l
theorem Apd (p:Nat->Bool):∀ (f g:Nat) (l:Bs),l.length<=f->l.length<=g->PM p f l=PM p g l
 | 0,0,_,_,_=>rfl
 | 0,g+1,l,h,_=>by
  have:l=[]:=List.eq_nil_of_length_eq_zero (by omega);subst this;rfl
 | f+1,0,l,_,h=>by
  have:l=[]:=List.eq_nil_of_length_eq_zero (by omega);subst this;rfl
 | f+1,g+1,[],_,_=>rfl
 | f+1,g+1,b :: t,h,h'=>by
  simp only [PM];have hw:=(Gf (b :: t)).1;rw [Apd p f g ((b :: t).drop (Ba (b :: t)).2) (by rw [BA];simp only [AH] at *;omega) (by rw [BA];simp only [AH] at *;omega)]
theorem Zq (p:Nat->Bool):Bp p []=0:=rfl
theorem Mf (p:Nat->Bool) (l:Bs) (h:l≠[]):Bp p l=if p (Ba l).1 then (Ba l).2+Bp p (l.drop (Ba l).2) else 0:=by
 cases l with
 | nil=>exact absurd rfl h
 | cons b t =>
  have hw:=(Gf (b :: t)).1;unfold Bp;simp only [AH,PM];rw [Apd p t.length ((b :: t).drop (Ba (b :: t)).2).length ((b :: t).drop (Ba (b :: t)).2) (by rw [BA];simp only [AH];omega) (Nat.le_refl _)]
theorem Aph (p:Nat->Bool):∀ (n:Nat) (l:Bs),l.length<=n->Bp p l<=l.length
 | 0,l,h=>by
  have:l=[]:=List.eq_nil_of_length_eq_zero (by omega);subst this;simp [Zq]
 | n+1,l,h=>by
  by_cases hl:l=[];subst hl;simp [Zq];rw [Mf p l hl];have hw:=Gf l;split;have:=Aph p n (l.drop (Ba l).2) (by rw [BA];omega);rw [BA] at this;have:=hw.2.2 hl;omega;omega
theorem Jh (p:Nat->Bool) (l:Bs):Bp p l<=l.length:=Aph p _ l (Nat.le_refl _)
def I1 (r:Nat):Option Nat:=if 48<=r/\r<=57 then some (r - 48) else if 97<=r/\r<=102 then some (r - 87) else if 65<=r/\r<=70 then some (r - 55) else none
def JJ (hex:Bool):Nat->Nat->Bs->Option Nat
 | 0,n,_=>some n
 | _+1,n,[]=>some n
 | f+1,n,b :: t =>
  match I1 (Ba (b :: t)).1 with
  | none=>none
  | some d=>if d > 9 && !hex then none else
    JJ hex f (if hex then (n * 16+d) % 18446744073709551616 else min (10 * n+d) 18446744073709551615) ((b :: t).drop (Ba (b :: t)).2)
def EU (hex:Bool) (n:Nat) (l:Bs):Option Nat:=JJ hex l.length n l
def Eb (l:Bs):Bool:=[48,120].isPrefixOf l || [48,88].isPrefixOf l
def sint (u:Nat):Int:=if u < 9223372036854775808 then u else (u:Int) - 18446744073709551616
def Es (l:Bs):Int×Int :=
 let rest:=if Eb l then l.drop 2 else l
 if rest=[] then (0,4) else
 match EU (Eb l) 0 rest with
 | none=>(0,4)
 | some u=>if !Eb l && u > 9223372036854775807 then (0,14) else (sint u,0)
def hexD (b:UInt8):Option Nat:=if 48<=b.toNat/\b.toNat<=57 then some (b.toNat - 48) else if 97<=b.toNat/\b.toNat<=102 then some (b.toNat - 87) else if 65<=b.toNat/\b.toNat<=70 then some (b.toNat - 55) else none
def BD:Nat->Bs->Nat->Nat->Nat×Nat
 | 0,_,n,k=>(n,k)
 | _+1,[],n,k=>(n,k)
 | m+1,b :: t,n,k=>match hexD b with | none=>(n,k) | some d=>BD m t (16 * n+d) (k+1)
def D6:Nat->Bs->Nat->Nat->Nat×Nat
 | 0,_,n,k=>(n,k)
 | _+1,[],n,k=>(n,k)
 | m+1,b :: t,n,k=>if 48<=b.toNat/\b.toNat<=57 then D6 m t (10 * n+(b.toNat - 48)) (k+1) else (n,k)
def Fy (c:UInt8):UInt8:=if c=110 then 10 else if c=116 then 9 else if c=114 then 13 else if c=92\/c=34\/c=39 then c else 0
inductive OD where
 | ended
 | Fh
 | ok (bytes:Bs) (len:Nat)
def Ig:Bs->OD
 | []=>.ended
 | c :: t =>
  if Fy c≠0 then .ok [Fy c] 2
  else if c=120 then
   if (BD 2 t 0 0).2 < 2 then .Fh else .ok [UInt8.ofNat (BD 2 t 0 0).1] 4
  else if c=117/\t.head? = some 123 then
   if (BD 8 t.tail 0 0).2=0\/Utf8.valid (BD 8 t.tail 0 0).1=false\/(t.tail.drop (BD 8 t.tail 0 0).2).head?≠some 125 then .Fh
   else .ok (bs (Utf8.encode (BD 8 t.tail 0 0).1)) (4+(BD 8 t.tail 0 0).2)
  else if (D6 3 (c :: t) 0 0).2=0\/(D6 3 (c :: t) 0 0).1 > 255 then .Fh
  else .ok [UInt8.ofNat (D6 3 (c :: t) 0 0).1] (1+(D6 3 (c :: t) 0 0).2)
inductive Vi where
 | bad (code:Int) (rel:Nat)
 | ok (val:Bs) (len:Nat)
def ED (q:UInt8):Nat->Bs->Bs->Nat->Vi
 | 0,_,_,_=>.bad 4 0
 | _+1,[],_,_=>.bad 4 0
 | f+1,b :: t,acc,i =>
  if b=10 then .bad 4 0
  else if b=q then (if acc.length > 10000 then .bad 14 0 else .ok acc (i+1))
  else if b=92 then
   match Ig t with
   | .ended=>.bad 4 0
   | .Fh=>.bad 4 i
   | .ok e n=>ED q f ((b :: t).drop n) (acc++e) (i+n)
  else ED q f t (acc++[b]) (i+1)
def UO:List Bs:=[[97,110,100],[98,114,101,97,107],[100,111],[101,108,115,101],[101,108,115,101,105,102],[101,110,100],[102,97,108,115,101],[102,111,114],[102,117,110,99,116,105,111,110],[105,102],[105,110],[108,111,99,97,108],[110,105,108],[110,111,116],[111,114],[114,101,116,117,114,110],[116,104,101,110],[116,114,117,101],[119,104,105,108,101]]
def Ke (l:Bs):Bool:=UO.contains l
def Gu:List Bs:=[[61,61],[126,61],[60,61],[62,61],[47,47],[46,46],[43],[45],[42],[37],[60],[62],[61],[35],[40],[41],[123],[125],[91],[93],[59],[44],[46]]
def Mg (l:Bs):Option Bs:=Gu.find? λs=>s.isPrefixOf l
inductive Step where
 | done
 | skip (n:Nat)
 | tok (kind:Int) (text:Bs) (n:Int) (len:Nat)
 | bad (code:Int) (rel:Nat)
def De (l:Bs):Step :=
 if l=[] then .done
 else if [45,45].isPrefixOf l then .skip (Bp Jv l)
 else if G5 (Ba l).1 then
  let n:=Bp BJ l
  if n > 40 then .bad 14 0 else .tok (if Ke (l.take n) then 2 else 1) (l.take n) 0 n
 else if FO (Ba l).1 then
  let n:=Bp BJ l
  if (Es (l.take n)).2≠0 then .bad (Es (l.take n)).2 0 else .tok 3 (l.take n) (Es (l.take n)).1 n
 else if (Ba l).1=34\/(Ba l).1=39 then
  match ED (UInt8.ofNat (Ba l).1) l.length l.tail [] 1 with
  | .bad c r=>.bad c r
  | .ok v k=>.tok 4 v 0 k
 else match Mg l with
  | none=>.bad 4 0
  | some s=>.tok 5 s 0 s.length
structure Tok where
 kind:Int
 text:Bs
 n:Int
 at_:Nat
deriving DecidableEq
def FN:Nat->Bs->Nat->List Tok->(Int×Int) ⊕ List Tok
 | 0,_,at_,acc=>.inr (acc++[⟨6,[],0,at_⟩])
 | f+1,l,at_,acc =>
  let k:=Bp Cn l
  match De (l.drop k) with
  | .done=>.inr (acc++[⟨6,[],0,at_+k⟩])
  | .skip n=>FN f ((l.drop k).drop n) (at_+k+n) acc
  | .tok kind text n len=>FN f ((l.drop k).drop len) (at_+k+len) (acc++[⟨kind,text,n,at_+k⟩])
  | .bad c r=>.inl (c,(at_+k+r:Nat))
def FF (l:Bs):(Int×Int) ⊕ List Tok:=if l.length > 20000 then .inl (14,-1) else FN (l.length+1) l 0 []
end Lx
end
section
open Go Go.RowKit Lx
section
variable {w w':World} {b i:Nat} {c:Array Value} {e:TypeId} {v:Value}
theorem Jr {o:Obj} (h:w.heap[b]? = some o):b < w.heap.size:=(Array.getElem?_eq_some_iff.1 h).1
theorem Fl {z:Nat×Nat} (h:w.heap[b]? = some (.cells c e z)) (i:Nat):w.cell? ⟨b,i,none⟩=c[i]?:=by simp [World.cell?,h]
theorem IN (h:w.heap[b]? = some (.cells c e (0,0))) (i:Nat):w.frozen? ⟨b,i,none⟩=false:=by simp [World.frozen?,h]
theorem OP {z:Nat×Nat} (h:w.heap[b]? = some (.cells c e z)) (i:Nat) (v:Value):(w.setCell ⟨b,i,none⟩ v).heap[b]? = some (.cells (c.setIfInBounds i v) e z):=by
 simp [World.setCell,Array.getElem?_modify,h]
theorem L9 {o:Obj} {a:Addr} (h:w.heap[b]? = some o) (hne:a.block≠b) (v:Value):(w.setCell a v).heap[b]? = some o:=by
 rw [Below.heap_setCell w a v b (λe=>hne e.symm)];exact h
theorem L8 {o o':Obj} (h:w.heap[b]? = some o):(w.alloc o').heap[b]? = some o:=by
 rw [Below.heap_alloc w o' b (Jr h)];exact h
theorem Az1 {o:Obj} (h:w.heap[b]? = some o):w.drew.heap[b]? = some o:=h
theorem JT (w:World) (o:Obj):(w.alloc o).heap[w.heap.size]? = some o:=heap_alloc_new w o
theorem JS {B:Nat} {o:Obj} (hb:Below B w w') (hlt:b < B) (h:w.heap[b]? = some o):w'.heap[b]? = some o:=by rw [hb.block b hlt];exact h
theorem Vx {o:Obj} {row:Option Nat} (hg:w.grownBy w' row) (hne:row≠some b) (h:w.heap[b]? = some o):w'.heap[b]? = some o:=by
 rw [hg.block b (Jr h) (λe=>hne e.symm)];exact h
theorem Bqb (w:World) (vs:List Value) (e:TypeId) (n:Nat) (h:w.heap.size=n):∀ j u,vs[j]? = some u->(w.alloc (.cells vs.toArray e)).drew.cell? ((⟨n,0,none⟩:Addr).add j)=some u:=by
 intro j u hu;subst h;have hadd:(⟨w.heap.size,0,none⟩:Addr).add j=⟨w.heap.size,j,none⟩:=by unfold Addr.add;split <;> simp_all
 rw [hadd];simp [hu]
theorem Bqc (w:World) (vs:List Value) (e:TypeId):∀ j u,vs[j]? = some u->(w.alloc (.cells vs.toArray e)).cell? ((⟨w.heap.size,0,none⟩:Addr).add j)=some u:=by
 intro j u hu;have hadd:(⟨w.heap.size,0,none⟩:Addr).add j=⟨w.heap.size,j,none⟩:=by unfold Addr.add;split <;> simp_all
 rw [hadd];simp [hu]
theorem Y5 {w:World} {B:Nat} {e e':TypeId} {size n sb:Nat} {v:Value} {xs:List Value} {c:Array Value} {z:Nat×Nat} (h:w.ownsRow B e size v (n+1) xs) (hs:w.heap[sb]? = some (.cells c e' z)) (hne:e≠e') :
  ∃ g cap,v=.slice (some ⟨g,0,none⟩) (n+1) cap/\B<=g/\g≠sb:=by
 rcases h.2 with ⟨_,h⟩ | ⟨g,cap,cur,hv,hg,hh,_⟩;omega;refine ⟨g,cap,hv,hg,λh=>hne ?_⟩;subst h;rw [hs] at hh;cases hh;rfl
end
def UL (t:Tok):List Value:=[.int .i64 t.kind,.string (str t.text),.int .i64 t.n,.int .i64 t.at_]
def KB (l:List Tok):List Value:=l.flatMap UL
theorem B2w (l:List Tok) (t:Tok):KB (l++[t])=KB l++UL t:=by simp [KB]
def Sc (B sb:Nat) (src:Ah) (at_:Nat) (l:List Tok) (w:World):Prop :=
 ∃ lv,w.heap[sb]? = some (.cells #[.string src,.int .i64 at_,lv] 81 (0,0))/\w.ownsRow B 60 4 lv l.length (KB l)/\lv.ownBlock≠some sb/\B<=sb
section
variable {B sb at_:Nat} {src:Ah} {l:List Tok} {w w':World}
theorem Sc.keep (h:Sc B sb src at_ l w) (hk:∀ k,B<=k->k < w.heap.size->w'.heap[k]? = w.heap[k]?):Sc B sb src at_ l w':=by
 obtain ⟨lv,h1,h2,h3,h4⟩:=h;refine ⟨lv,by rw [hk sb h4 (Jr h1)];exact h1,⟨h2.1,?_⟩,h3,h4⟩;rcases h2.2 with h | ⟨g,cap,cur,hv,hg,hh,r⟩;exact .inl h;exact .inr ⟨g,cap,cur,hv,hg,by rw [hk g hg (Jr hh)];exact hh,r⟩
theorem Sc.alloc (h:Sc B sb src at_ l w) (o:Obj):Sc B sb src at_ l (w.alloc o):=h.keep λk _ hk=>Below.heap_alloc w o k hk
theorem Sc.drew (h:Sc B sb src at_ l w):Sc B sb src at_ l w.drew:=h.keep λ_ _ _=>rfl
theorem Sc.below {C:Nat} (h:Sc B sb src at_ l w) (hC:∀ k,B<=k->k < w.heap.size->k < C) (hb:Below C w w'):Sc B sb src at_ l w':=h.keep λk h1 h2=>hb.block k (hC k h1 h2)
theorem Sc.later (h:Sc B sb src at_ l w) (hb:Below w.heap.size w w'):Sc B sb src at_ l w':=h.keep λk _ hk=>hb.block k hk
theorem Sc.lt (h:Sc B sb src at_ l w):sb < w.heap.size:=by
 obtain ⟨lv,h1,_⟩:=h;exact Jr h1
theorem Sc.base (h:Sc B sb src at_ l w):B<=sb:=by
 obtain ⟨lv,_,_,_,h4⟩:=h;exact h4
theorem Sc.reads (h:Sc B sb src at_ l w):sb < w.heap.size/\w.cell? ⟨sb,0,none⟩=some (.string src)/\w.cell? ⟨sb,1,none⟩=some (.int .i64 at_):=by
 obtain ⟨lv,h1,_⟩:=h;exact ⟨Jr h1,by rw [Fl h1];rfl,by rw [Fl h1];rfl⟩
theorem Sc.move (h:Sc B sb src at_ l w) (at':Nat):Sc B sb src at' l (w.setCell ⟨sb,1,none⟩ (.int .i64 at')):=by
 obtain ⟨lv,h1,h2,h3,h4⟩:=h;refine ⟨lv,by rw [OP h1];rfl,⟨h2.1,?_⟩,h3,h4⟩;rcases h2.2 with h | ⟨g,cap,cur,hv,hg,hh,r⟩;exact .inl h;refine .inr ⟨g,cap,cur,hv,hg,L9 hh (λe=>?_) _,r⟩;rw [hv] at h3;exact h3 (by simp only [Value.ownBlock];exact congrArg some e.symm)
theorem Sc.free (h:Sc B sb src at_ l w) (i:Nat):w.frozen? ⟨sb,i,none⟩=false:=by
 obtain ⟨lv,h1,_⟩:=h;exact IN h1 i
end
theorem Bl4:(Tryz.prog.info? 60).map (λi=>(i.zero,i.size,i.bytes))=some (some (.agg #[.int .i64 0,.string ByteArray.empty,.int .i64 0,.int .i64 0]),4,40):=by kernel_rfl
abbrev IS (c a:Int):Ending:=.panicked [{ v:=.iface 78 (.agg #[.int .i64 c,.int .i64 a]),recovered:=false }]
set_option maxHeartbeats 400000 in
theorem M1 (c n:Int) (w:World) :
  Calls Tryz.prog 98 #[.int .i64 c,.int .i64 n] w λe w'=>e=IS c n/\w=w':=by
 go_enter Tryz.func98,Tryz.ntmps98
 go_wp2
 exact ⟨rfl,rfl,rfl⟩
set_option maxHeartbeats 400000 in
theorem Ly (p:Value) (n:Int) (w:World) :
  Calls Tryz.prog 125 #[p,.int .i64 n] w λe w'=>e=IS 4 n/\w=w':=by
 go_enter Tryz.func125,Tryz.ntmps125
 go_wp2_with ((go_at_call 98;refine (M1 _ _ _).mono ?_;rintro e w' ⟨rfl,rfl⟩))
 exact ⟨rfl,rfl,rfl⟩
set_option maxHeartbeats 1000000 in
theorem add_any (B sb at_:Nat) (src:Ah) (l:List Tok) (n:Nat) (k x m:Int) (t:Ah) (w:World)
  (h:Sc B sb src at_ l w) (hB:B<=w.heap.size) (hl:l.length<=100000) (hat:at_+n<=1000000) :
  Calls Tryz.prog 31 #[.pointer (some ⟨sb,0,none⟩),.agg #[.int .i64 k,.string t,.int .i64 x,.int .i64 m],.int .i64 n] w
   λe w'=>e=.returned (.tuple #[])/\Sc B sb src (at_+n) (l++[⟨k,bs t,x,at_⟩]) w'/\Below B w w':=by
 obtain ⟨lv,hblk,hown,hne,hsb⟩:=h
 have hb:=Jr hblk
 have c0:w.cell? ⟨sb,0,none⟩=some (.string src):=by rw [Fl hblk];rfl
 have c1:w.cell? ⟨sb,1,none⟩=some (.int .i64 at_):=by rw [Fl hblk];rfl
 have c2:w.cell? ⟨sb,2,none⟩=some lv:=by rw [Fl hblk];rfl
 have HB:=Lib.hid hblk;clear hblk
 obtain ⟨i0,hi,hz0,hz1,hz2⟩:=info_parts Bl4
 go_enter Tryz.func31,Tryz.ntmps31
 go_wp2
 refine Jm [(0,0),(1,0),(2,0),(3,0),(4,3),(5,3),(6,1)] (λw'=>w'.cell? ⟨sb,2,none⟩=some lv/\w'.cell? ⟨w.heap.size,0,none⟩=some (.int .i64 k)/\w'.cell? ⟨w.heap.size,1,none⟩=some (.string t)/\w'.cell? ⟨w.heap.size,2,none⟩=some (.int .i64 x)/\w'.cell? ⟨w.heap.size,3,none⟩=some (.int .i64 at_)) (by kernel_rfl) (by kernel_rfl) (λ_ _ d _ _ h=>by cases d <;> exact h) (by refine ⟨?_,?_,?_,?_,?_⟩ <;> go_simp) ?_
 simp only [Dz,List.filterMap_cons,List.filterMap_nil,List.getElem?_toArray,List.getElem?_cons_zero,List.getElem?_cons_succ,Option.map_some,List.drop_succ_cons,List.drop_zero,AH,AX]
 iterate 4 (refine DJ (by rfl) (λwq=>by go_simp;with_reducible rfl) ?_;simp only [Act.put,List.setIfInBounds_toArray,List.set_cons_zero,List.set_cons_succ])
 iterate 2 (refine FA (by rfl) (λwq hq=>by obtain ⟨hq0,hq1,hq2,hq3,hq4⟩:=hq;go_simp;with_reducible rfl) ?_;simp only [Act.put,List.setIfInBounds_toArray,List.set_cons_zero,List.set_cons_succ])
 refine Ou ?_ ?_
 ·rfl
 intro K hK
 go_wp2
 refine ⟨by refine ⟨?_,?_,?_,?_,?_⟩ <;> go_simp,?_⟩
 refine JC ?_
 refine wpList_append_own _ rfl _ _ 51 rfl B 60 i0 _ 4 40 Tryz.underlying51 hi hz0 hz1 hz2 rfl (by decide) lv l.length (KB l) rfl ((hown.alloc _).alloc _) ⟨w.heap.size+1,0,none⟩ 1 1 [.int .i64 k,.string t,.int .i64 x,.int .i64 at_] rfl rfl ?_ ?_ ?_ ?_ ?_ ?_
 ·exact Bqb (w.alloc _) _ _ _ (by simp)
 ·simp [Value.oneCell']
 ·unfold maxLen;omega
 ·omega
 ·simp;omega
 intro v1 w1 hown1 Wg _
 have HB1:=Lib.hid (Vx Wg hne (Az1 (L8 (L8 HB.out))))
 have d1:w1.cell? ⟨sb,1,none⟩=some (.int .i64 at_):=by rw [Fl HB1.out];rfl
 have d2:w1.cell? ⟨sb,2,none⟩=some lv:=by rw [Fl HB1.out];rfl
 have e1:=IN HB1.out 1
 have e2:=IN HB1.out 2
 obtain ⟨g1,cap1,hv1,hg1,hne1⟩:=Y5 hown1 HB1.out (by decide)
 have hown1:w1.ownsRow B 60 4 (.slice (some ⟨g1,0,none⟩) (l.length+1) cap1) (l.length+1) (KB l++[.int .i64 k,.string t,.int .i64 x,.int .i64 at_]):=by rw [<- hv1];exact hown1
 rw [hv1]
 have HO:=Lib.hid hown1
 have HG:=Lib.hid Wg
 have HV:=Lib.hid hv1
 clear hown1 Wg c0 c1 c2 hi hz0 hz1 hz2 hv1
 go_wp2
 go_end0
 have hb2:Below B w w1:=((((Below.refl B w).alloc hB _).alloc (by simp;omega) _).drew).grown HG.out (by simp;omega) (λk hk=>(hown.lt k hk).1)
 refine ⟨rfl,?_,?_⟩
 ·refine ⟨.slice (some ⟨g1,0,none⟩) (l.length+1) cap1,?_,?_,by simp only [Value.ownBlock];exact λh=>hne1 (Ap h),hsb⟩
  ·rw [OP (OP HB1.out 2 _) 1 _];simp
  ·rw [Bv,List.length_singleton,B2w]
   have e:UL ⟨k,bs t,x,at_⟩=[.int .i64 k,.string t,.int .i64 x,.int .i64 at_]:=by simp [UL,S6]
   rw [e]
   refine ⟨HO.out.1,?_⟩
   rcases HO.out.2 with ⟨h,_⟩ | ⟨g,cap,cur,hv,hg,hh,r⟩
   ·cases h
   ·cases hv
    exact .inr ⟨g1,cap1,cur,rfl,hg,L9 (L9 hh (λh=>hne1 h.symm) _) (λh=>hne1 h.symm) _,r⟩
 ·exact (hb2.setCell hsb _).setCell hsb _
theorem Lr {k:IntKind} {a b:Int} (h:a=b):Ending.returned (.int k a)=.returned (.int k b):=by rw [h]
def OJ (f:FuncId) (p:Nat->Bool):Prop :=
 (∀ args w,(callFunc f args).run Tryz.prog w=.ok (.enter f args) w) /\
 ∀ (r:Nat) (w:World),r<=1114111->Calls Tryz.prog f #[.int .i32 r] w λe w'=>e=.returned (.bool (p r))/\w=w'
theorem M0 (l:Bs):(Ba l).1<=1114111:=by
 have hb:∀ k,(l.getD k 0).toNat < 256:=λk=>(l.getD k 0).toNat_lt;have h0:=hb 0;have h1:=hb 1;have h2:=hb 2;have h3:=hb 3;unfold Ba;simp only []
 (repeat' split) <;> simp_all [Utf8.valid] <;> omega
set_option maxHeartbeats 1000000 in
theorem run_any (f:FuncId) (p:Nat->Bool) (sb at_:Nat) (src:Ah) (w:World) (hf:OJ f p)
  (hb:sb < w.heap.size) (c0:w.cell? ⟨sb,0,none⟩=some (.string src)) (c1:w.cell? ⟨sb,1,none⟩=some (.int .i64 at_)) (hat:at_<=src.size) (hsz:src.size<=1000000) :
  Calls Tryz.prog 64 #[.pointer (some ⟨sb,0,none⟩),.func (.func f) #[] #[]] w
   λe w'=>e=.returned (.int .i64 (Bp p ((bs src).drop at_)))/\Below w.heap.size w w':=by
 have h1:=hf.1
 have H2:=Lib.hid hf.2
 clear hf
 have hat':(at_:Int)<=src.size:=by omega
 go_enter Tryz.func64,Tryz.ntmps64
 go_wp2
 refine Jm [(0,0),(1,0),(2,0),(3,3),(4,0),(5,0),(6,0),(7,3)] (λw'=>w'.cell? ⟨sb,0,none⟩=some (.string src)/\w'.cell? ⟨sb,1,none⟩=some (.int .i64 at_)) (by kernel_rfl) (by kernel_rfl) (λ_ _ d _ _ h=>by cases d <;> exact h) (by refine ⟨?_,?_⟩ <;> go_simp) ?_
 simp only [Dz,List.filterMap_cons,List.filterMap_nil,List.getElem?_toArray,List.getElem?_cons_zero,List.getElem?_cons_succ,Option.map_some,List.drop_succ_cons,List.drop_zero,AH,AX]
 iterate 3 (refine DJ (by rfl) (λwq=>by go_simp;with_reducible rfl) ?_;simp only [Act.put,List.setIfInBounds_toArray,List.set_cons_zero,List.set_cons_succ])
 iterate 1 (refine FA (by rfl) (λwq hq=>by obtain ⟨hq0,hq1⟩:=hq;go_simp;with_reducible rfl) ?_;simp only [Act.put,List.setIfInBounds_toArray,List.set_cons_zero,List.set_cons_succ])
 iterate 3 (refine DJ (by rfl) (λwq=>by go_simp;with_reducible rfl) ?_;simp only [Act.put,List.setIfInBounds_toArray,List.set_cons_zero,List.set_cons_succ])
 iterate 1 (refine FA (by rfl) (λwq hq=>by obtain ⟨hq0,hq1⟩:=hq;go_simp;with_reducible rfl) ?_;simp only [Act.put,List.setIfInBounds_toArray,List.set_cons_zero,List.set_cons_succ])
 refine JC ?_
 go_wp2
 have HL:=Lib.hid (Jh p (bs (src.extract at_ src.size)))
 have hss:(src.extract at_ src.size).size<=1000000:=by rw [<- B0,GQ,BA,B0];omega
 have Hss:=Lib.hid (show bs (src.extract at_ src.size)=(bs src).drop at_ from GQ src at_)
 have Hlen:=Lib.hid (show (src.extract at_ src.size).size=src.size - at_ by rw [<- B0,GQ,BA,B0])
 generalize src.extract at_ src.size=suf at *
 go_loopw [17] (λ_ wr=>∃ pos,pos<=suf.size/\Hid (Bp p (bs suf)=pos+Bp p ((bs suf).drop pos))/\wr=w.drew.iter suf pos) (λ_ wr=>suf.size - wr.iterPos w.heap.size)
 case atStart=>exact ⟨0,Nat.zero_le _,by unfold Hid;simp,rfl⟩
 case round =>
  obtain ⟨pos,hpos,hrun,rfl⟩:=hrel
  by_cases hlt:pos < suf.size
  ·have hnext:=run_next_any (P:=Tryz.prog) w.drew suf pos
   have hd:=M0 ((bs suf).drop pos)
   have HD:=Lib.hid (decode_eq suf pos)
   have hnx:∀ ty,(Instr.next (.pointer (some ⟨w.heap.size,0,none⟩)) true ty).run Tryz.prog (w.drew.iter suf pos)=.ok (.tuple #[.bool true,.int .i64 pos,.int .i32 (Ba ((bs suf).drop pos)).1]) (w.drew.iter suf (pos+(Ba ((bs suf).drop pos)).2)):=λty=>by
    have:=hnext ty hlt
    rw [HD.out] at this
    exact this
   clear hnext
   have hne:(bs suf).drop pos≠[]:=λh=>by
    have:=congrArg List.length h
    rw [BA,B0] at this
    simp at this;omega
   have HS:=Lib.hid (Mf p ((bs suf).drop pos) hne)
   have HW:=Lib.hid (Gf ((bs suf).drop pos))
   have hlen:((bs suf).drop pos).length=suf.size - pos:=by rw [BA,B0]
   have HLL:=Lib.hid hlen
   clear hlen
   have hne':=Lib.hid hne
   clear hne
   generalize hr:(Ba ((bs suf).drop pos)).1=r at *
   generalize hk:(Ba ((bs suf).drop pos)).2=k at *
   have hcase:p r=true\/p r=false:=by cases p r <;> simp
   have HR:=Lib.hid hr
   have HK:=Lib.hid hk
   clear hr hk
   rcases hcase with hp | hp
   ·have HP:=Lib.hid hp
    clear hp
    go_wp2_with fail
    refine (H2.out r _ hd).mono ?_
    rintro e w' ⟨rfl,rfl⟩
    rw [HP.out]
    go_wp2_with fail
    go_roundw
    case rel =>
     refine ⟨pos+k,?_,?_,rfl⟩
     ·have:=(HW.out.2.2 hne'.out);rw [HLL.out] at this;omega
     ·unfold Hid at *
      rw [hrun,HS,if_pos HP,List.drop_drop];omega
    case measure =>
     have hk1:=HW.out.1
     have e:∀ q,(w.drew.iter suf q).iterPos w.heap.size=q:=λq=>World.iterPos_iter w.drew suf q
     simp only [e]
     omega
   ·have HP:=Lib.hid hp
    clear hp
    go_wp2_with fail
    refine (H2.out r _ hd).mono ?_
    rintro e w' ⟨rfl,rfl⟩
    rw [HP.out]
    go_wp2_with fail
    go_ret
    have hp':=HP.out
    refine ⟨Lr ?_,?_⟩
    ·have h:=hrun
     unfold Hid at *
     rw [HS,hp',Hss] at h
     simp only [Bool.false_eq_true,if_false,Nat.add_zero] at h
     rw [h]
    ·exact ((Below.refl _ w).drew).alloc (Nat.le_refl _) _
  ·have hnx:=λty=>run_next_end (P:=Tryz.prog) w.drew suf pos ty hlt
   have Ws:∀ ty,(Instr.next (.pointer (some ⟨w.heap.size,0,none⟩)) true ty).run Tryz.prog (w.drew.iter suf pos)=.ok (.tuple #[.bool false]) (w.drew.iter suf pos):=hnx
   clear hnx
   have d0:(w.drew.iter suf pos).cell? ⟨sb,0,none⟩=some (.string src):=(World.cell?_alloc_lt w.drew _ ⟨sb,0,none⟩ hb).trans c0
   have d1:(w.drew.iter suf pos).cell? ⟨sb,1,none⟩=some (.int .i64 at_):=(World.cell?_alloc_lt w.drew _ ⟨sb,1,none⟩ hb).trans c1
   have HBW:=Lib.hid (((Below.refl w.heap.size w).drew).alloc (Nat.le_refl _) (.stringIter suf pos))
   clear c0 c1
   go_wp2
   refine Jm [(0,0),(1,0),(2,0),(3,3),(4,0),(5,0),(6,0),(7,0),(8,3)] (λw'=>w'.cell? ⟨sb,0,none⟩=some (.string src)/\w'.cell? ⟨sb,1,none⟩=some (.int .i64 at_)) (by kernel_rfl) (by kernel_rfl) (λ_ _ d _ _ h=>by cases d <;> exact h) (by refine ⟨?_,?_⟩ <;> go_simp) ?_
   simp only [Dz,List.filterMap_cons,List.filterMap_nil,List.getElem?_toArray,List.getElem?_cons_zero,List.getElem?_cons_succ,Option.map_some,List.drop_succ_cons,List.drop_zero,AH,AX]
   iterate 3 (refine DJ (by rfl) (λwq=>by go_simp;with_reducible rfl) ?_;simp only [Act.put,List.setIfInBounds_toArray,List.set_cons_zero,List.set_cons_succ])
   iterate 1 (refine FA (by rfl) (λwq hq=>by obtain ⟨hq0,hq1⟩:=hq;go_simp;with_reducible rfl) ?_;simp only [Act.put,List.setIfInBounds_toArray,List.set_cons_zero,List.set_cons_succ])
   iterate 4 (refine DJ (by rfl) (λwq=>by go_simp;with_reducible rfl) ?_;simp only [Act.put,List.setIfInBounds_toArray,List.set_cons_zero,List.set_cons_succ])
   iterate 1 (refine FA (by rfl) (λwq hq=>by obtain ⟨hq0,hq1⟩:=hq;go_simp;with_reducible rfl) ?_;simp only [Act.put,List.setIfInBounds_toArray,List.set_cons_zero,List.set_cons_succ])
   refine JC ?_
   go_wp2
   go_ret
   refine ⟨Lr ?_,HBW.out.drew⟩
   have h:=hrun
   have hp:pos=suf.size:=by omega
   unfold Hid at h Hss Hlen
   rw [List.drop_of_length_le (by rw [B0];omega),Zq,Hss] at h
   rw [h]
   omega
end
end Go.Proofs.YtaifddambjmiiaaGreatDoor
